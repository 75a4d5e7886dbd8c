/- What matters, plainly: rows of truths, what an instruction makes of one, closed tables, the least one. No condition. -/
import Derived.Test.YtkbhfokbhkmfgaaQa3
import Derived.Test.YtkbhfokbhkmfgaaQzCode
import Derived.Test.YtkbhfokbhkmfgaaUH
set_option linter.unusedVariables false
set_option linter.unusedSimpArgs false
namespace Go.Proofs.Ytkbhfokbhkmfgaa
set_option linter.unusedSimpArgs false
set_option linter.unusedVariables false
open Go.V
theorem gB_le {l:List Bool} {v:Nat} (h:gB l v=true):v<l.length:=by
 unfold gB at h
 rcases Nat.lt_or_ge v l.length with h1 | h1
 ·exact h1
 ·rw[List.getD,List.getElem?_eq_none h1]at h;simp at h
def passR (f:BF) (I O:List (List Bool)):Nat→PV
 | 0=>⟨I,O,false⟩
 | c+1=>stepR f (passR f I O c) (f.n-1-c)
section
variable {f:BF}
theorem RInv.alen (hf:Fine f) {I O:List (List Bool)} (h:RInv f I O) {b:Nat} (hb:b<f.n):(inOf f I O b).length=f.r:=by unfold inOf;rw[aheadL_len,h.olen hf hb]
theorem RInv.pass (hf:Fine f) {I O:List (List Bool)} (h:RInv f I O):∀ c,c≤f.n→RInv f (passR f I O c).I (passR f I O c).O
 | 0,_=>h
 | c+1,hc=>RInv.step hf (RInv.pass hf h c (by omega)) (by omega)
theorem or_self_ge {a b:List Bool} {v:Nat} (hv:v<a.length) (e:orL a b=a) (h:gB b v=true):gB a v=true:=by
 rw[← e,gB_or _ _ hv,h,Bool.or_true]
theorem pass_mono (hf:Fine f) {I O:List (List Bool)} (h:RInv f I O):∀ c,c≤f.n→unset (passR f I O c).I≤unset I∧((passR f I O c).m=true→unset (passR f I O c).I<unset I)
 | 0,_=>⟨Nat.le_refl _,fun e=>by simp[passR]at e⟩
 | c+1,hc=>by
  obtain ⟨h1,h2⟩:=pass_mono hf h c (by omega)
  have hI:=h.pass hf c (by omega)
  have hb:f.n-1-c<f.n:=by omega
  have hu:=unset_set (m:=(passR f I O c).I) (b:=f.n-1-c) (l:=orL ((passR f I O c).I.getD (f.n-1-c) []) (inOf f (passR f I O c).I (passR f I O c).O (f.n-1-c)))
   (by rw[show (passR f I O c).I.length=f.n from hI.sz.i];exact hb) (by rw[orL_len]) fun v e=>by rw[gB_or _ _ (gB_le e),e];rfl
  refine ⟨Nat.le_trans hu.1 h1,fun e=>?_⟩
  have e':((passR f I O c).m || decide (orL ((passR f I O c).I.getD (f.n-1-c) []) (inOf f (passR f I O c).I (passR f I O c).O (f.n-1-c))≠(passR f I O c).I.getD (f.n-1-c) []))=true:=e
  rw[Bool.or_eq_true,decide_eq_true_eq]at e'
  rcases e' with e' | e'
  ·exact Nat.lt_of_le_of_lt hu.1 (h2 e')
  ·exact Nat.lt_of_lt_of_le (hu.2 (fun g=>e' g.symm)) h1
theorem pass_still (hf:Fine f) {I O:List (List Bool)} (h:RInv f I O):∀ c,c≤f.n→(passR f I O c).m=false→(passR f I O c).I=I ∧
 ∀ b<f.n,f.n-c≤b→(∀ k ∈ nxt (f.bk b),∀ v<f.r,gB (I.getD k.toNat []) v=true→gB ((passR f I O c).O.getD b []) v=true)∧∀ v<f.r,gB (aheadL (f.bk b) ((passR f I O c).O.getD b [])) v=true→gB (I.getD b []) v=true
 | 0,_,_=>⟨rfl,fun b hb h=>by omega⟩
 | c+1,hc,hm=>by
  have hm':((passR f I O c).m || decide (orL ((passR f I O c).I.getD (f.n-1-c) []) (inOf f (passR f I O c).I (passR f I O c).O (f.n-1-c))≠(passR f I O c).I.getD (f.n-1-c) []))=false:=hm
  rw[Bool.or_eq_false_iff,decide_eq_false_iff_not]at hm'
  obtain ⟨h1,h2⟩:=pass_still hf h c (by omega) hm'.1
  have hI:=h.pass hf c (by omega)
  have hsame:orL ((passR f I O c).I.getD (f.n-1-c) []) (inOf f (passR f I O c).I (passR f I O c).O (f.n-1-c))=(passR f I O c).I.getD (f.n-1-c) []:=Classical.not_not.1 hm'.2
  have hb:f.n-1-c<f.n:=by omega
  have hOl:f.n-1-c<(passR f I O c).O.length:=by rw[show (passR f I O c).O.length=f.n from hI.sz.o];exact hb
  have hIl:f.n-1-c<(passR f I O c).I.length:=by rw[show (passR f I O c).I.length=f.n from hI.sz.i];exact hb
  have hset:(passR f I O (c+1)).I=I:=by
   show (passR f I O c).I.set (f.n-1-c) _=I
   rw[hsame,h1]
   rw[h1]at hIl
   have:I.getD (f.n-1-c) []=I[f.n-1-c]:=by simp[List.getD,List.getElem?_eq_getElem hIl]
   rw[this,List.set_getElem_self]
  refine ⟨hset,fun b hb' hlo=>?_⟩
  have hO:(passR f I O (c+1)).O.getD b []=if f.n-1-c=b then newO f (passR f I O c).I (passR f I O c).O (f.n-1-c) else (passR f I O c).O.getD b []:=row_set hOl
  rw[hO]
  by_cases e:f.n-1-c=b
  ·subst e
   rw[if_pos rfl]
   refine ⟨fun k hk v hv g=>?_,fun v hv g=>?_⟩
   ·refine newO_way (σ:=⟨(passR f I O c).I,(passR f I O c).O,[]⟩) hf hI.sz hb hk hv ?_
    rw[h1];exact g
   ·rw[← h1]
    exact or_self_ge (by rw[show ((passR f I O c).I.getD (f.n-1-c) []).length=f.r from hI.sz.il hb];exact hv) hsame g
  ·rw[if_neg e]
   exact h2 b hb' (by omega)
theorem pass_least (hf:Fine f) {I O:List (List Bool)} (h:RInv f I O) (hm:(passR f I O f.n).m=false):Least f ⟨(passR f I O f.n).I,(passR f I O f.n).O⟩:=by
 have hI:=h.pass hf f.n (Nat.le_refl _)
 obtain ⟨h1,h2⟩:=pass_still hf h f.n (Nat.le_refl _) hm
 refine ⟨⟨hI.sz,⟨fun b hb k hk v hv e=>?_,fun b hb v hv e=>?_⟩⟩,hI.un⟩
 ·have e':gB ((passR f I O f.n).I.getD k.toNat []) v=true:=e
  rw[h1]at e'
  exact (h2 b hb (by omega)).1 k hk v hv e'
 ·show gB ((passR f I O f.n).I.getD b []) v=true
  rw[h1]
  refine (h2 b hb (by omega)).2 v hv ?_
  rw[gB_ahead hf hb ((passR f I O f.n).O.getD b []) (hI.sz.ol hb) hv]
  exact e
theorem begin_r (f:BF):RInv f (beginS f).I (beginS f).O:=⟨(begin_inv f).sz,(begin_inv f).un⟩
end
set_option maxRecDepth 10000
open Go.V
theorem cells_B (l:List Bool):allCells (l.map B)=l.map B:=allCells_map1 (fun _=>rfl) l
theorem laid_B (l:List Bool):∀ y ∈ l.map B,y.laid=true:=fun y hy=>by
 obtain ⟨x,_,rfl⟩:=List.mem_map.1 hy;rfl
theorem rwithin27_c (a b:List Bool) (h:a.length≤b.length) (ha:a.length≤140737488355328):Contract Try.prog 67 [bools a,bools b] (fun r=>r=B (withinB a b)):=by
 refine Contract.of_call (VCall.of_body hmix f_scref27_within (by simp) ?_)
 simp only[go_sem,c_scref27_within]
 refine VW_loop (fun k:Nat=>⟨[(0,bools a),(1,bools b),(5,I k)],[],0⟩) (fun k=>k≤a.length∧∀ i<k,gB a i=true→gB b i=true) (fun k=>a.length-k) 0 (Wk.mk (by simp[get_cons]) ⟨[],rfl⟩ (Nat.le_refl _)) ⟨by omega,by omega⟩ ?_
 rintro k ⟨hk,hp⟩
 by_cases h1:k<a.length
 ·have hx:∀ k',((k':Nat):Int)=k→k'=k:=fun k' e=>by omega
  cases h2:gB a k
  ·simp only[go_sem,eq_true (show (k:Int)<a.length by omega),gB_getD,h2]
   rw[i64_in (by omega) (by omega)]
   refine ⟨by omega,k+1,⟨by omega,fun i hi e=>?_⟩,by omega,Wk.mk (by simp[get_cons]) ⟨[],rfl⟩ (Nat.le_refl _)⟩
   by_cases e2:i=k
   ·rw[e2,h2]at e;cases e
   ·exact hp i (by omega) e
  ·cases h3:gB b k
   ·simp only[go_sem,eq_true (show (k:Int)<a.length by omega),gB_getD,h2,h3]
    refine ⟨by omega,by omega,_,Frz.pure rfl,?_⟩
    rw[show withinB a b=false from decide_eq_false fun e=>by have:=e k h1 h2;rw[h3]at this;cases this]
   ·simp only[go_sem,eq_true (show (k:Int)<a.length by omega),gB_getD,h2,h3]
    rw[i64_in (by omega) (by omega)]
    refine ⟨by omega,by omega,k+1,⟨by omega,fun i hi e=>?_⟩,by omega,Wk.mk (by simp[get_cons]) ⟨[],rfl⟩ (Nat.le_refl _)⟩
    by_cases e2:i=k
    ·rw[e2];exact h3
    ·exact hp i (by omega) e
 ·simp only[go_sem,eq_false (show ¬ (k:Int)<a.length by omega)]
  refine ⟨_,Frz.pure rfl,?_⟩
  rw[show withinB a b=true from decide_eq_true fun i hi=>hp i (by omega)]
theorem rlast_c (b:Bk) (l:List Bool) (hl:l.length≤100000) (hv:b.e=2→0≤b.v∧b.v<l.length):ContractN Try.prog 48 [bkA b,bools l] (fun r=>r=bools (lastL b l)):=by
 refine ContractN.of_call (VCall.of_body hmix f_scref27_last (by simp) ?_)
 have hmx:(200000:Nat)≤maxLen:=by decide
 by_cases h:b.e=2
 ·obtain ⟨v0,v1⟩:=hv h
  simp only[go_sem,c_scref27_last,cells_B,set_B,eq_true h]
  repeat ((with_reducible refine And.intro ?_ ?_);· first | exact laid_B l | omega | exact Nat.le_trans hl (by decide))
  exact ⟨_,frzN_bools rfl (by simp),by rw[lastL,if_pos h]⟩
 ·simp only[go_sem,c_scref27_last,cells_B,set_B,eq_false h]
  repeat ((with_reducible refine And.intro ?_ ?_);· first | exact laid_B l | omega | exact Nat.le_trans hl (by decide))
  exact ⟨_,frzN_bools rfl (by simp),by rw[lastL,if_neg h]⟩
theorem rback_c (t:Tac) (l:List Bool) (hl:l.length≤100000) (hr:RegT t l.length):ContractN Try.prog 49 [tacA t,bools l] (fun r=>r=bools (backL t l)):=by
 refine ContractN.of_call (VCall.of_body hmix f_scref27_back (by simp) ?_)
 have hmx:(200000:Nat)≤maxLen:=by decide
 have hu2:=usesL_len t
 have done_:∀ (env:List (Nat × AV)) (H:List VObj),True:=fun _ _=>trivial
 have hcl:(clearL t l).length=l.length:=clearL_len t l
 have hloop:∀ (x:Nat) (us:List Int),useL (clearL t l) (us.take 0)=clearL t l:=fun _ _=>rfl
 by_cases h:0≤setsL t
 all_goals
  have hs1:0≤setsL t→setsL t<l.length:=fun h=>by rcases hr.sets with e | e<;>omega
  have hce:0≤setsL t→l.set (setsL t).toNat false=clearL t l:=fun h=>(if_pos h).symm
  have hce':¬ 0≤setsL t→l=clearL t l:=fun h=>(if_neg h).symm
  simp only[go_sem,c_scref27_back,cells_B]
  repeat ((with_reducible refine And.intro ?_ ?_);· first | exact laid_B l | omega | exact Nat.le_trans hl (by decide))
  refine VCall.of_contract (refsets_c t) (SleL.pure rfl) fun r hr'=>?_
  subst hr'
  first
  | simp only[go_sem,cells_B,eq_true h,set_B,hce h]
  | simp only[go_sem,cells_B,eq_false h,← hce' h]
  repeat ((with_reducible refine And.intro ?_ ?_);· first | exact h | exact hs1 h | (have:=hs1 h;omega) | omega)
  refine VCall.of_contractN (refuses_c t) ?_ fun r hr'=>?_
  ·exact ⟨_,_,rfl,Frz.pure rfl,rfl⟩
  subst hr'
  simp only[go_sem]
  refine VW_loop (fun k:Nat=>⟨[(5,.ref 1 2 0 l.length),(7,ints (usesL t)),(8,I k)],[⟨0,47,1,tacL t⟩,⟨2,4,1,(useL (clearL t l) ((usesL t).take k)).map B⟩],3⟩)
   (fun k=>k≤(usesL t).length) (fun k=>(usesL t).length-k) 0 (Wk.mk (by simp[get_cons]) ⟨[],by first | rfl | (simp[useL,← hce' h])⟩ (Nat.le_refl _)) (by omega) ?_
  intro k hk
  by_cases hlt:k<(usesL t).length
  ·have hu:=hr.1 _ (mem_getD hlt)
   simp only[go_sem,eq_true (show (k:Int)<(usesL t).length by omega),set_B,← useL_take _ _ hlt,useL_len,hcl]
   repeat ((with_reducible refine And.intro ?_ ?_);· omega)
   rw[i64_in (by omega) (by omega)]
   exact ⟨k+1,by omega,by omega,Wk.mk (by simp[get_cons]) ⟨[],rfl⟩ (Nat.le_refl _)⟩
  ·simp only[go_sem,eq_false (show ¬ (k:Int)<(usesL t).length by omega)]
   refine ⟨_,frzN_bools rfl (by simp[useL_len,hcl]),?_⟩
   rw[List.take_of_length_le (by omega)];rfl
theorem rahead_v (b:Bk) (l:List Bool) (x:AV) (H:List VObj) (nx:Nat) (hl:l.length≤100000) (hn:b.ins.length≤1000000) (hv:b.e=2→0≤b.v∧b.v<l.length) (hr:∀ t ∈ b.ins,RegT t l.length)
 (hx:∀ R nx',Frz 0 (H++R) nx' x (bools l)) (C:AV→List VObj→Nat→Prop) (hC:∀ R nx',C (bools (aheadL b l)) (H++R) nx'):VCall Try.prog 47 [bkA b,x] H nx C:=by
 refine VCall.of_body hmix f_scref27_ahead (by simp) ?_
 have hg:∀ (o:VObj),(H++[o])[H.length]? = some o:=fun o=>by simp
 simp only[go_sem,c_scref27_ahead,hg]
 refine VCall.of_contractN (rlast_c b l hl hv) ?_ fun r hr'=>?_
 ·exact ⟨_,_,rfl,Frz.pure rfl,_,_,rfl,hx _ _,rfl⟩
 subst hr'
 simp only[go_sem,hg]
 rw[i64_in (by omega) (by omega)]
 refine VW_loop (fun k:Nat=>⟨[(2,.ptr H.length nx 0),(5,bools (thruL (b.ins.drop (b.ins.length-k)) (lastL b l))),(6,I ((b.ins.length:Int)-1-k))],H++[⟨nx,49,1,bkL b⟩],nx+1⟩)
  (fun k=>k≤b.ins.length) (fun k=>b.ins.length-k) 0 (Wk.mk (by simp[get_cons,thruL]) ⟨[],by simp⟩ (Nat.le_refl _)) (by omega) ?_
 intro k hk
 by_cases hlt:k<b.ins.length
 ·simp only[go_sem,hg,eq_true (show (0:Int)≤(b.ins.length:Int)-1-k by omega)]
  refine ⟨by omega,?_⟩
  have e1:((b.ins.length:Int)-1-k).toNat=b.ins.length-k-1:=by omega
  rw[e1]
  refine VCall.of_contractN (rback_c (b.ins.getD (b.ins.length-k-1) default) (thruL (b.ins.drop (b.ins.length-k)) (lastL b l)) (by rw[thruL_len,lastL_len];exact hl) (by rw[thruL_len,lastL_len];exact hr _ (mem_getD (show b.ins.length-k-1<b.ins.length by omega)))) ?_ fun r hr'=>?_
  ·exact ⟨_,_,rfl,Frz.pure rfl,_,_,rfl,Frz.pure rfl,rfl⟩
  subst hr'
  simp only[go_sem,hg]
  rw[i64_in (by omega) (by omega)]
  have e3:backL (b.ins.getD (b.ins.length-k-1) default) (thruL (b.ins.drop (b.ins.length-k)) (lastL b l))=thruL (b.ins.drop (b.ins.length-(k+1))) (lastL b l):=by
   rw[show b.ins.length-(k+1)=b.ins.length-k-1 by omega,drop_back _ _ (show b.ins.length-k-1<b.ins.length by omega),show b.ins.length-k-1+1=b.ins.length-k by omega]
  rw[e3,show (b.ins.length:Int)-1-k-1=(b.ins.length:Int)-1-((k+1:Nat):Int) by omega]
  exact ⟨k+1,by omega,by omega,Wk.mk (by simp[get_cons]) ⟨[],by simp⟩ (Nat.le_refl _)⟩
 ·simp only[go_sem,hg,eq_false (show ¬ (0:Int)≤(b.ins.length:Int)-1-k by omega)]
  have:=hC [⟨nx,49,1,bkL b⟩] (nx+1)
  rw[show b.ins.length-k=0 by omega,List.drop_zero]
  exact this
theorem rahead_c (b:Bk) (l:List Bool) (hl:l.length≤100000) (hn:b.ins.length≤1000000) (hv:b.e=2→0≤b.v∧b.v<l.length) (hr:∀ t ∈ b.ins,RegT t l.length) :
 Contract Try.prog 47 [bkA b,bools l] (fun r=>r=bools (aheadL b l)) :=
 Contract.of_call (rahead_v b l (bools l) [] 0 hl hn hv hr (fun _ _=>Frz.pure rfl) _ fun R nx'=>⟨_,Frz.pure rfl,rfl⟩)
theorem rsized_c (m:List (List Bool)) (n r:Int) (hm:m.length≤140737488355328):Contract Try.prog 97 [rowsA m,I n,I r] (fun x=>x=B (sizedL m n r)):=by
 refine Contract.of_call (VCall.of_body hmix f_scref27_sized (by simp) ?_)
 by_cases h:(m.length:Int)=n
 ·subst h
  simp only[go_sem,c_scref27_sized]
  refine VW_loop (fun k:Nat=>⟨[(0,rowsA m),(1,I m.length),(2,I r),(7,I k)],[],0⟩) (fun k=>k≤m.length∧(m.take k).all (fun l=>decide ((l.length:Int)=r))=true) (fun k=>m.length-k) 0 (Wk.mk (by simp[get_cons]) ⟨[],rfl⟩ (Nat.le_refl _)) ⟨by omega,rfl⟩ ?_
  rintro k ⟨hk,hp⟩
  by_cases h1:k<m.length
  ·by_cases h2:((m.getD k default).length:Int)=r
   ·simp only[go_sem,eq_true (show (k:Int)<m.length by omega),eq_true h2]
    rw[i64_in (by omega) (by omega)]
    exact ⟨by omega,k+1,⟨by omega,all_step h1 hp (decide_eq_true h2)⟩,by omega,Wk.mk (by simp[get_cons]) ⟨[],rfl⟩ (Nat.le_refl _)⟩
   ·simp only[go_sem,eq_true (show (k:Int)<m.length by omega),eq_false h2]
    refine ⟨by omega,_,Frz.pure rfl,?_⟩
    unfold sizedL
    rw[all_stop h1 (decide_eq_false h2)];simp
  ·simp only[go_sem,eq_false (show ¬ (k:Int)<m.length by omega)]
   refine ⟨_,Frz.pure rfl,?_⟩
   unfold sizedL
   rw[all_end (by omega) hp];simp
 ·simp only[go_sem,c_scref27_sized,eq_false h]
  refine ⟨_,Frz.pure rfl,?_⟩
  unfold sizedL
  rw[decide_eq_false h];rfl
theorem rSized_c (f:BF) (L:LD) (h1:L.inn.length≤140737488355328) (h2:L.out.length≤140737488355328):Contract Try.prog 81 [bfA f,liveA L] (fun x=>x=B (sizedB f L)):=by
 refine Contract.of_call (VCall.of_body hmix f_scref27_Sized (by simp) ?_)
 simp only[go_sem,c_scref27_Sized]
 refine VCall.of_contract (rsized_c L.inn f.bks.length f.regs h1) (SleL.pure rfl) fun x hx=>?_
 subst hx
 cases h:sizedL L.inn f.bks.length f.regs
 ·simp only[go_sem]
  exact ⟨_,Frz.pure rfl,by simp[sizedB,h]⟩
 ·simp only[go_sem]
  refine VCall.of_contract (rsized_c L.out f.bks.length f.regs h2) (SleL.pure rfl) fun x hx=>?_
  subst hx
  simp only[go_sem]
  exact ⟨_,Frz.pure rfl,by simp[sizedB,h]⟩
theorem refnext_c (f:BF) (hb:f.bks.length≤500):Contract Try.prog 46 [bfA f] (fun x=>x = .imm 1 (f.bks.map fun b=>ints (nxt b))):=by
 obtain ⟨r,bs⟩:=f
 simp only at hb ⊢
 refine Contract.of_call (VCall.of_body hmix f_scref26_Next (by simp) ?_)
 simp only[go_sem,c_scref26_Next]
 repeat (refine And.intro (by omega) ?_)
 refine VW_loop (fun q:Nat × Nat=>⟨[(1,.ptr 0 0 0),(3,.ref 1 1 0 bs.length),(4,I q.1)],
  [⟨0,52,1,[I r,.imm 5 (bs.map bkA)]⟩,⟨1,53,1,filled nxtv nilv bs q.1⟩],q.2⟩) (fun q=>q.1≤bs.length∧2≤q.2) (fun q=>bs.length-q.1) (0,2)
  (Wk.mk (by simp[get_cons]) ⟨[],by simp[flat_rep,filled_zero]⟩ (Nat.le_refl _)) ⟨by omega,by omega⟩ ?_
 rintro ⟨k,nx⟩ ⟨hk,hnx⟩
 simp only[go_sem]
 refine ⟨fun h=>?_,fun h=>?_⟩
 ·have hl:=filled_length nxtv nilv bs (show k≤bs.length by omega)
  rw[i64_in (by omega) (by omega)]
  have hs:=filled_set nxtv nilv bs (show k<bs.length by omega)
  have hsk:=filled_skip nxtv nilv bs (show k<bs.length by omega)
  generalize hx:bs.getD k default=b at *
  refine ⟨by omega,fun h1=>?_,fun h1=>⟨fun h2=>?_,fun h2=>?_⟩⟩
  ·repeat (refine And.intro (by omega) ?_)
   intro _
   refine ⟨(k+1,nx+1+1),⟨by simp;omega,by simp⟩,by simp;omega,Wk.give (by simp[get_cons]) ?_ (Nat.le_refl _)⟩
   simp only[OW,CW.refl,Nat.reduceEqDiff,false_implies,true_and,and_true]
   rw[← hs,show nxtv b=ints [b.to] by simp[nxtv,h1]]
   exact CW.set (frz_ints (by simp) rfl rfl)
  ·have h1:b.e≠1:=by simpa using h1
   repeat (refine And.intro (by omega) ?_)
   refine ⟨(k+1,nx+1+1),⟨by simp;omega,by simp⟩,by simp;omega,Wk.give (by simp[get_cons]) ?_ (Nat.le_refl _)⟩
   simp only[OW,CW.refl,Nat.reduceEqDiff,false_implies,true_and,and_true]
   rw[← hs,show nxtv b=ints [b.to,b.el] by simp[nxtv,h2]]
   exact CW.set (frz_ints (by simp) rfl rfl)
  ·refine ⟨(k+1,nx+1),⟨by simp;omega,by simp;omega⟩,by simp;omega,Wk.give (by simp[get_cons]) ?_ (Nat.le_refl _)⟩
   simp only[OW,CW.refl,Nat.reduceEqDiff,false_implies,true_and,and_true]
   rw[← hsk (by (try simp at h1 h2);simp[nxtv,h1,h2])]
   exact CW.refl _
 ·refine ⟨_,?_,rfl⟩
  rw[filled_all nxtv nilv bs (by omega)]
  exact frz_map (by omega) rfl rfl nxtv_one (fun b _=>nxtv_frz _ _ _ b)
set_option maxRecDepth 10000
open Go.V
theorem rcheck_c (f:BF) (L:LD) (hf:Fine f) (hL:LOK L):Contract Try.prog 60 [bfA f,liveA L] (fun x=>x=B (checkB f L)):=by
 refine Contract.of_call (VCall.of_body hmix f_scref27_Check (by simp) ?_)
 have hn:f.bks.length=f.n:=rfl
 have hn5:=hf.b1
 rw[hn]at hn5
 have hr4:=hf.r1
 have hr0:=hf.r0
 have hr:f.r≤4000:=by unfold BF.r;omega
 simp only[go_sem,c_scref27_Check]
 refine VCall.of_contract (rSized_c f L hL.i hL.o) (SleL.pure rfl) fun x hx=>?_
 subst hx
 cases hs:sizedB f L
 ·simp only[go_sem]
  exact ⟨_,Frz.pure rfl,by simp[checkB,hs]⟩
 have hS:=(sizedB_iff hr0 L).1 hs
 simp only[go_sem]
 refine VCall.of_contract (refnext_c f hf.b1) (SleL.pure rfl) fun x hx=>?_
 subst hx
 simp only[go_sem]
 refine VW_loop (fun k:Nat=>⟨[(2,.ptr 0 0 0),(3,.ptr 1 1 0),(5,.imm 1 (f.bks.map fun b=>ints (nxt b))),(6,I k)],[⟨0,52,1,[I f.regs,bksA f.bks]⟩,⟨1,63,1,[rowsA L.inn,rowsA L.out]⟩],2⟩)
  (fun k=>k≤f.n∧∀ b<k,blkC f L b=true) (fun k=>f.n-k) 0 (Wk.mk (by simp[get_cons]) ⟨[],rfl⟩ (Nat.le_refl _)) ⟨by omega,by omega⟩ ?_
 rintro b ⟨hb,hp⟩
 by_cases hlt:b<f.n
 ·have hfalse:blkC f L b=false→checkB f L=false:=fun e=>by
   unfold checkB
   rw[List.all_eq_false.2 ⟨b,List.mem_range.2 hlt,by rw[e];decide⟩];simp
  have hbk:f.bks.getD b default=f.bk b:=rfl
  have hli:(L.inn.getD b default).length=f.r:=hS.il hlt
  have hlo:(L.out.getD b default).length=f.r:=hS.ol hlt
  have hnl:=nxt_len (f.bk b)
  have hreg:=hf.regs hlt hlo
  have hto:=hf.to _ (BF.mem hlt)
  have h1i:=hS.i
  have h1o:=hS.o
  simp only[go_sem,eq_true (show (b:Int)<f.bks.length by omega),hbk]
  refine VW_loop (fun j:Nat=>⟨[(2,.ptr 0 0 0),(3,.ptr 1 1 0),(5,.imm 1 (f.bks.map fun b=>ints (nxt b))),(6,I b),(7,I j)],[⟨0,52,1,[I f.regs,bksA f.bks]⟩,⟨1,63,1,[rowsA L.inn,rowsA L.out]⟩],2⟩)
   (fun j=>j≤(nxt (f.bk b)).length∧((nxt (f.bk b)).take j).all (fun k=>withinB (L.inn.getD k.toNat default) (L.out.getD b default))=true) (fun j=>(nxt (f.bk b)).length-j) 0 (Wk.mk (by simp[get_cons]) ⟨[],rfl⟩ (Nat.le_refl _)) ⟨by omega,rfl⟩ ?_
  rintro j ⟨hj,hq⟩
  by_cases hl2:j<(nxt (f.bk b)).length
  ·have hto':=hto _ (mem_getD hl2)
   have hlk:(L.inn.getD ((nxt (f.bk b)).getD j default).toNat default).length=f.r:=hS.il (by omega)
   simp only[go_sem,hbk,eq_true (show (j:Int)<(nxt (f.bk b)).length by omega)]
   repeat ((with_reducible refine And.intro ?_ ?_);· omega)
   refine VCall.of_contract (rwithin27_c _ _ (by rw[hlk,hlo];omega) (by rw[hlk];omega)) (SleL.pure rfl) fun x hx=>?_
   subst hx
   cases hw:withinB (L.inn.getD ((nxt (f.bk b)).getD j default).toNat default) (L.out.getD b default)
   ·simp only[go_sem]
    refine ⟨_,Frz.pure rfl,?_⟩
    rw[hfalse (by unfold blkC;rw[all_stop hl2 hw];rfl)]
   ·simp only[go_sem]
    rw[i64_in (by omega) (by omega)]
    exact ⟨j+1,⟨by omega,all_step hl2 hq hw⟩,by omega,Wk.mk (by simp[get_cons]) ⟨[],rfl⟩ (Nat.le_refl _)⟩
  ·simp only[go_sem,hbk,eq_false (show ¬ (j:Int)<(nxt (f.bk b)).length by omega)]
   repeat ((with_reducible refine And.intro ?_ ?_);· omega)
   refine ECall.of (rahead_c (f.bk b) (L.out.getD b default) (by omega) (by have:=hf.len _ (BF.mem hlt);omega) hreg.2 hreg.1) (SleL.pure rfl) ⟨_,fun _=>Iff.rfl⟩ fun x hx=>?_
   subst hx
   simp only[go_sem]
   repeat ((with_reducible refine And.intro ?_ ?_);· omega)
   refine ECall.of (rwithin27_c _ _ (by rw[aheadL_len,hli,hlo];omega) (by rw[aheadL_len,hlo];omega)) (SleL.pure rfl) ⟨_,fun _=>Iff.rfl⟩ fun x hx=>?_
   subst hx
   cases hw:withinB (aheadL (f.bk b) (L.out.getD b default)) (L.inn.getD b default)
   ·simp only[go_sem]
    refine ⟨_,Frz.pure rfl,?_⟩
    rw[hfalse (by unfold blkC;rw[hw];simp)]
   ·simp only[go_sem]
    rw[i64_in (by omega) (by omega)]
    refine ⟨b+1,⟨by omega,fun i hi=>?_⟩,by omega,Wk.mk (by simp[get_cons]) ⟨[],rfl⟩ (Nat.le_refl _)⟩
    by_cases e:i=b
    ·rw[e];unfold blkC;rw[hw,all_end (by omega) hq];rfl
    ·exact hp i (by omega)
 ·simp only[go_sem,eq_false (show ¬ (b:Int)<f.bks.length by omega)]
  refine ⟨_,Frz.pure rfl,?_⟩
  rw[show checkB f L=true from ?_]
  unfold checkB
  rw[hs,Bool.true_and,List.all_eq_true]
  exact fun i hi=>hp i (by have:=List.mem_range.1 hi;omega)
set_option maxRecDepth 10000
open Go.V
def rowC (b:Bk) (l:List Bool) (k:Nat):List AV:=(List.range b.ins.length).map fun i=>if i<b.ins.length-k then nilv else bools (atL b l (b.ins.length-1-i))
theorem rowC_len (b:Bk) (l:List Bool) (k:Nat):(rowC b l k).length=b.ins.length:=by simp[rowC]
theorem rowC_zero (b:Bk) (l:List Bool):rowC b l 0=List.replicate b.ins.length nilv:=by
 refine List.ext_getElem (by simp[rowC]) fun i h1 h2=>?_
 have:i<b.ins.length:=by simpa [rowC] using h1
 simp[rowC,this]
theorem rowC_set (b:Bk) (l:List Bool) {k:Nat} (hk:k<b.ins.length):(rowC b l k).set (b.ins.length-k-1) (bools (atL b l k))=rowC b l (k+1):=by
 refine List.ext_getElem (by simp[rowC]) fun i h1 h2=>?_
 have hi:i<b.ins.length:=by simpa [rowC] using h2
 rw[List.getElem_set]
 simp only[rowC,List.getElem_map,List.getElem_range]
 by_cases h:b.ins.length-k-1=i
 ·rw[if_pos h,if_neg (by omega),show b.ins.length-1-i=k by omega]
 ·rw[if_neg h]
  by_cases h3:i<b.ins.length-k
  ·rw[if_pos h3,if_pos (by omega)]
  ·rw[if_neg h3,if_neg (by omega)]
theorem rowC_all (b:Bk) (l:List Bool):rowC b l b.ins.length=(behindL b l).map bools:=by
 refine List.ext_getElem (by simp[rowC,behindL]) fun i h1 h2=>?_
 have hi:i<b.ins.length:=by simpa [rowC] using h1
 simp only[rowC,behindL,List.getElem_map,List.getElem_range,atL]
 rw[if_neg (by omega),show b.ins.length-(b.ins.length-1-i)=i+1 by omega]
theorem behindL_len (b:Bk) (l:List Bool):(behindL b l).length=b.ins.length:=by simp[behindL]
theorem rbehind_c (f:BF) (L:LD) (b:Nat) (hf:Fine f) (hb:b<f.n) (hob:b<L.out.length) (hlo:(L.out.getD b default).length=f.r) :
 Contract Try.prog 25 [bfA f,liveA L,I b] (fun x=>x=rowsA (behindL (f.bk b) (L.out.getD b default))):=by
 refine Contract.of_call (VCall.of_body hmix f_scref27_Behind (by simp) ?_)
 have hr4:=hf.r1
 have hr:f.r≤4000:=by unfold BF.r;omega
 have hnb:b<f.bks.length:=hb
 have hbk:f.bks.getD b default=f.bk b:=rfl
 have hlen:=hf.len _ (BF.mem hb)
 have hreg:=hf.regs hb hlo
 simp only[go_sem,c_scref27_Behind,hbk]
 generalize f.bk b=k at hlen hreg ⊢
 generalize L.out.getD b default=l at hlo hreg ⊢
 repeat ((with_reducible refine And.intro ?_ ?_);· omega)
 refine VCall.of_contract (rlast_c k l (by omega) hreg.2).old (SleL.pure rfl) fun x hx=>?_
 subst hx
 simp only[go_sem]
 rw[i64_in (by omega) (by omega)]
 refine VW_loop (fun j:Nat=>⟨[(7,.ptr 2 2 0),(8,.ref 3 3 0 k.ins.length),(9,bools (atL k l j)),(10,I ((k.ins.length:Int)-1-j))],[⟨0,52,1,[I f.regs,bksA f.bks]⟩,⟨1,63,1,[rowsA L.inn,rowsA L.out]⟩,⟨2,49,1,bkL k⟩,⟨3,67,1,rowC k l j⟩],4⟩)
  (fun j=>j≤k.ins.length) (fun j=>k.ins.length-j) 0 (Wk.mk (by simp[get_cons,atL_zero]) ⟨[],by simp[rowC_zero,flat_rep]⟩ (Nat.le_refl _)) (by omega) ?_
 intro j hj
 by_cases hlt:j<k.ins.length
 ·have e1:((k.ins.length:Int)-1-j).toNat=k.ins.length-j-1:=by omega
  simp only[go_sem,eq_true (show (0:Int)≤(k.ins.length:Int)-1-j by omega),e1,rowC_set k l hlt,rowC_len]
  repeat ((with_reducible refine And.intro ?_ ?_);· omega)
  refine VCall.of_contract (rback_c (k.ins.getD (k.ins.length-j-1) default) (atL k l j) (by rw[atL_len];omega) (by rw[atL_len];exact hreg.1 _ (mem_getD (by omega)))).old (SleL.pure rfl) fun x hx=>?_
  subst hx
  rw[atL_step k l hlt]
  simp only[go_sem]
  rw[i64_in (by omega) (by omega),show (k.ins.length:Int)-1-j-1=(k.ins.length:Int)-1-((j+1:Nat):Int) by omega]
  exact ⟨j+1,by omega,by omega,Wk.mk (by simp[get_cons]) ⟨[],rfl⟩ (Nat.le_refl _)⟩
 ·obtain rfl:j=k.ins.length:=by omega
  simp only[go_sem,eq_false (show ¬ (0:Int)≤(k.ins.length:Int)-1-k.ins.length by omega)]
  refine ⟨_,rows_frz (Nat.zero_le _) (by rw[rowC_all];rfl) (by rw[behindL_len]),rfl⟩
set_option maxRecDepth 10000
open Go.V
theorem cellT_row {n r b:Nat} {g:Nat→Nat × Nat} {C:AV→Prop}:cellT ((List.range n).map fun b=>AV.ref (g b).1 (g b).2 0 r) b false 1 C .mk=(b<n∧C (.ref (g b).1 (g b).2 0 r)):=by
 rw[cellT_map (fun _=>rfl)]
 apply propext
 rw[List.length_range]
 refine ⟨fun ⟨h1,h2⟩=>⟨h1,?_⟩,fun ⟨h1,h2⟩=>⟨h1,?_⟩⟩
 ·rw[range_get h1]at h2;exact h2
 ·rw[range_get h1];exact h2
structure NQ where
 i:Nat
 s:Nat
 T:List VObj
 g:Nat→Nat × Nat
 nx:Nat
theorem none_v (n r:Nat) (hn:n≤500) (hr:r≤4000) (H:List VObj) (nx:Nat) (C:AV→List VObj→Nat→Prop)
 (hC:∀ s g R nx',MT n r (H++R) H.length s g (List.replicate n (List.replicate r false))→(∀ b<n,H.length<(g b).1)→C (.ref H.length s 0 n) (H++R) nx') :
 VCall Try.prog 45 [I n,I r] H nx C:=by
 refine VCall.of_body hmix f_scref27_none (by simp) ?_
 have hmx:(200000:Nat)≤maxLen:=by decide
 simp only[go_sem,c_scref27_none]
 refine VW_loop (fun x:NQ=>⟨[(0,I n),(1,I r),(5,.ref H.length x.s 0 x.i),(6,I x.i)],H++⟨x.s,67,1,(List.range x.i).map fun b=>.ref (x.g b).1 (x.g b).2 0 r⟩::x.T,x.nx⟩)
  (fun x=>x.i≤n∧(∀ b<x.i,H.length<(x.g b).1∧(H++⟨x.s,67,1,(List.range x.i).map fun b=>.ref (x.g b).1 (x.g b).2 0 r⟩::x.T)[(x.g b).1]? = some ⟨(x.g b).2,4,1,(List.replicate r false).map B⟩) ∧
    ∀ b<x.i,∀ c<x.i,(x.g b).1=(x.g c).1→b=c) (fun x=>n-x.i) ⟨0,nx,[],fun _=>(0,0),nx+1⟩
  (Wk.virt 67 1 (by decide) (by simp[get_cons]) ⟨H,by simp,rfl,fun j ob' ho=>⟨ob',ho,rfl,rfl,rfl,rfl,fun _=>rfl,fun i x y hx hy=>.inl (by rw[hx]at hy;exact Option.some.inj hy)⟩⟩ rfl)
  ⟨by simp,by simp,by simp⟩ ?_
 rintro ⟨i,s,T,g,nx⟩ ⟨hi,hg,hd⟩
 simp only at hi hg hd
 by_cases hlt:i<n
 ·simp only[go_sem,rep_B,eq_true (show (i:Int)<n by omega),app_get,app_get0,app_set0,List.append_assoc,List.length_append]
  repeat ((with_reducible refine And.intro ?_ ?_);· first | omega | exact ⟨rfl,rfl,rfl⟩)
  rw[i64_in (by omega) (by omega)]
  have hle:((List.range i).map fun b=>AV.ref (g b).1 (g b).2 0 r).length=i:=by simp
  refine ⟨⟨i+1,nx+1+1,T++[⟨nx,4,1,(List.replicate r false).map B⟩,⟨nx+1,67,1,[.ref (H.length+(T.length+1)) nx 0 r]⟩],fun b=>if b=i then (H.length+(T.length+1),nx) else g b,nx+1+1+1⟩,⟨by simp only;omega,fun b hb=>?_,fun b hb c hc e=>?_⟩,by simp only;omega,Wk.mk (by simp[get_cons]) ⟨[],?_⟩ (Nat.le_refl _)⟩
  ·simp only at hb ⊢
   by_cases e:b=i
   ·subst e
    rw[if_pos rfl]
    refine ⟨by omega,?_⟩
    simp only[app_get,List.getElem?_cons_succ,app_get0,List.getElem?_cons_zero]
   ·rw[if_neg e]
    have hb':=hg b (by omega)
    refine ⟨hb'.1,?_⟩
    have h2:=hb'.2
    obtain ⟨j,hj⟩:∃ j,(g b).1=H.length+(j+1):=⟨(g b).1-H.length-1,by have:=hb'.1;omega⟩
    rw[hj,app_get,List.getElem?_cons_succ]at h2 ⊢
    exact app_old h2 _
  ·simp only at hb hc e
   by_cases e1:b=i
   ·by_cases e2:c=i
    ·rw[e1,e2]
    ·rw[if_pos e1,if_neg e2]at e
     obtain ⟨h1,h2⟩:=hg c (by omega)
     have:=(List.getElem?_eq_some_iff.1 h2).1
     simp at this;omega
   ·by_cases e2:c=i
    ·rw[if_neg e1,if_pos e2]at e
     obtain ⟨h1,h2⟩:=hg b (by omega)
     have:=(List.getElem?_eq_some_iff.1 h2).1
     simp at this;omega
    ·rw[if_neg e1,if_neg e2]at e
     exact hd b (by omega) c (by omega) e
  ·rw[List.append_nil]
   have key:((List.range i).map fun b=>AV.ref (g b).1 (g b).2 0 r).take i++[AV.ref (H.length+(T.length+1)) nx 0 r] =
    (List.range (i+1)).map fun b=>AV.ref (if b=i then (H.length+(T.length+1),nx) else g b).1 (if b=i then (H.length+(T.length+1),nx) else g b).2 0 r:=by
    rw[List.take_of_length_le (by rw[hle];omega),List.range_succ,List.map_append]
    congr 1
    ·refine List.map_congr_left fun b hb=>?_
     have:b≠i:=by have:=List.mem_range.1 hb;omega
     rw[if_neg this]
    ·simp
   exact congrArg (fun c=>H++VObj.mk (nx+1+1) 67 1 c::(T++[⟨nx,4,1,(List.replicate r false).map B⟩,⟨nx+1,67,1,[.ref (H.length+(T.length+1)) nx 0 r]⟩])) key
 ·obtain rfl:i=n:=by omega
  simp only[go_sem,eq_false (show ¬ (i:Int)<i by omega)]
  refine hC s g _ nx ⟨by rw[app_get0];rfl,fun b hb=>?_,hd⟩ fun b hb=>(hg b hb).1
  rw[(hg b hb).2,List.getD,List.getElem?_replicate,if_pos hb]
  rfl
set_option maxRecDepth 10000
open Go.V
def orP (x y:List Bool) (k:Nat):List Bool:=(List.range x.length).map fun i=>if i<k then gB x i || gB y i else gB x i
theorem orP_len (x y:List Bool) (k:Nat):(orP x y k).length=x.length:=by simp[orP]
theorem gB_orP (x y:List Bool) (k:Nat) {i:Nat} (hi:i<x.length):gB (orP x y k) i=if i<k then gB x i || gB y i else gB x i:=by
 unfold orP;rw[gB,List.getD];simp[hi]
theorem orP_zero (x y:List Bool):orP x y 0=x:=gB_ext (orP_len _ _ _) fun v hv=>by
 rw[orP_len]at hv;rw[gB_orP _ _ _ hv,if_neg (by omega)]
theorem orP_all (x y:List Bool) {k:Nat} (hk:x.length≤k):orP x y k=orL x y:=gB_ext (by rw[orP_len,orL_len]) fun v hv=>by
 rw[orP_len]at hv;rw[gB_orP _ _ _ hv,if_pos (by omega),gB_or _ _ hv]
theorem orP_set (x y:List Bool) {k:Nat} (hk:k<x.length) {w:Bool} (hw:w=(gB x k || gB y k)):(orP x y k).set k w=orP x y (k+1):=gB_ext (by simp[orP]) fun v hv=>by
 have hv':v<x.length:=by simpa [orP] using hv
 rw[gB_set _ _ _ _ (by rw[orP_len];exact hv'),gB_orP _ _ _ hv',gB_orP _ _ _ hv']
 by_cases e:k=v
 ·subst e;rw[if_pos rfl,if_pos (by omega)];exact hw
 ·rw[if_neg e]
  by_cases h:v<k
  ·rw[if_pos h,if_pos (by omega)]
  ·rw[if_neg h,if_neg (by omega)]
theorem orP_skip (x y:List Bool) {k:Nat} (hk:k<x.length) (hw:gB x k=(gB x k || gB y k)):orP x y k=orP x y (k+1):=by
 rw[← orP_set x y hk hw]
 exact gB_ext (by simp) fun v hv=>by
  have hv':v<x.length:=by rw[orP_len]at hv;exact hv
  rw[gB_set _ _ _ _ hv]
  by_cases e:k=v
  ·subst e;rw[if_pos rfl,gB_orP _ _ _ hv',if_neg (by omega)]
  ·rw[if_neg e]
def moreP (x a:List Bool) (k:Nat):Bool:=(List.range k).any fun i=>gB a i && !gB x i
theorem moreP_step (x a:List Bool) (k:Nat):moreP x a (k+1)=(moreP x a k || (gB a k && !gB x k)):=by
 unfold moreP;rw[List.range_succ,List.any_append];simp
theorem moreP_all (x a:List Bool):moreP x a x.length=decide (orL x a≠x):=by
 rw[Bool.eq_iff_iff,decide_eq_true_iff]
 unfold moreP
 rw[List.any_eq_true]
 constructor
 ·rintro ⟨i,hi,h⟩ e
  have hi:=List.mem_range.1 hi
  have h3:=gB_or x a hi
  rw[e]at h3
  rw[Bool.and_eq_true,Bool.not_eq_true']at h
  rw[h.1,h.2]at h3
  cases h3
 ·intro h
  refine Classical.byContradiction fun hn=>h (gB_ext (orL_len _ _) fun v hv=>?_)
  rw[orL_len]at hv
  rw[gB_or _ _ hv]
  cases h1:gB x v
  ·cases h2:gB a v
   ·rfl
   ·exact absurd ⟨v,List.mem_range.2 hv,by rw[h1,h2];rfl⟩ hn
  ·rfl
section
variable {f:BF} {H:List VObj} {q:RK} {I O:List (List Bool)}
end
theorem MT.frz {n r:Nat} {H:List VObj} {k s nx:Nat} {g:Nat→Nat × Nat} {m:List (List Bool)} (h:MT n r H k s g m) (hm:m.length=n) (hr:∀ l ∈ m,l.length=r):Frz 0 H nx (.ref k s 0 n) (rowsA m):=by
 refine frz_whole (Nat.zero_le _) h.l (by simp[hm]) (by simp[hm]) (by simp[AV.one]) fun i x y hx hy=>?_
 have hi:i<n:=by have:=(List.getElem?_eq_some_iff.1 hx).1;simpa using this
 simp only[List.getElem?_map,List.getElem?_range hi,Option.map_some,Option.some.injEq]at hx
 rw[List.getElem?_map,List.getElem?_eq_getElem (show i<m.length by omega),Option.map_some,Option.some.injEq]at hy
 subst hx;subst hy
 have e:m.getD i []=m[i]:=by simp[List.getD,List.getElem?_eq_getElem (show i<m.length by omega)]
 have ho:=h.r i hi
 rw[e]at ho
 exact frz_bools (Nat.zero_le _) ho (hr _ (List.getElem_mem _)).symm
structure MQ where
 H:List VObj
 I:List (List Bool)
 O:List (List Bool)
 m:Bool
 nx:Nat
structure CMQ where
 c:Nat
 H:List VObj
 nx:Nat
theorem rof_tail (f:BF) (hf:Fine f) (L:LD) (hL:Least f L) (env:List (Nat × AV)) (H:List VObj) (nx:Nat) (q:RK) (he1:get env 1 = .ptr 0 0 0) (he2:get env 2 = .ptr 1 1 0) (he3:get env 3=I f.n) (he4:get env 4 = .ptr q.kl q.sl 0)
 (hRS:RS f H q (beginS f).I (beginS f).O):VW Try.prog c_scref27_Of.tl.tl.tl (retQ Try.prog [VR.cell 2 true 2] fun r H nx=>∃ y,Frz 0 H nx r y∧y=liveA L) ⟨env,H,nx⟩:=by
 have hr0:=hf.r0
 have hr4:f.r≤4000:=by have:=hf.r1;unfold BF.r;omega
 have hregs:f.regs=(f.r:Int):=by unfold BF.r;omega
 have hn5:f.n≤500:=hf.b1
 have hlen:(f.bks.length:Int)=f.n:=rfl
 have hfb:=hRS.fb
 simp only[go_sem,c_scref27_Of,VC.tl,he1,he2,he3,he4,hfb]
 refine VCall.of_contract (refnext_c f hf.b1) (SleL.pure rfl) fun x hx=>?_
 subst hx
 simp only[go_sem]
 refine VW_loop (fun x:MQ=>⟨[(1,.ptr 0 0 0),(2,.ptr 1 1 0),(3,I f.n),(4,.ptr q.kl q.sl 0),(5,nextA f),(6,B x.m)],x.H,x.nx⟩) (fun x=>RS f x.H q x.I x.O∧RInv f x.I x.O∧(x.m=false→Least f ⟨x.I,x.O⟩)) (fun x=>if x.m then unset x.I+1 else 0)
  ⟨H,(beginS f).I,(beginS f).O,true,nx⟩ (Wk.mk (by simp[get_cons,he1,he2,he3,he4]) ⟨[],by simp⟩ (Nat.le_refl _)) ⟨hRS,begin_r f,fun e=>by cases e⟩ ?_
 clear hRS hfb
 rintro ⟨H,I0,O0,m,nx⟩ ⟨hRS,hRI,hm⟩
 simp only at hRS hRI hm
 cases m
 ·have hLL:(⟨I0,O0⟩:LD)=L:=(hm rfl).unique hL
  subst hLL
  have hlv:=hRS.lv
  have hrl:=hRS.rl
  have l1:=lt_of hrl
  have kp:KeepT [63] H (H.set 1 ⟨1,63,1,[.ref q.k1 q.s1 0 f.n,.ref q.k2 q.s2 0 f.n]⟩):=KeepT.set hrl (by simp)
  simp only[go_sem,hlv,hrl,List.getElem?_set,l1]
  repeat ((with_reducible refine And.intro ?_ ?_);· omega)
  refine ⟨_,Frz.agg (ys:=[rowsA I0,rowsA O0]) ?_,rfl⟩
  exact ⟨_,_,rfl,(hRS.mi.keep kp (by simp) (by simp)).frz hRI.sz.i hRI.sz.ir,_,_,rfl,(hRS.mo.keep kp (by simp) (by simp)).frz hRI.sz.o hRI.sz.or,rfl⟩
 ·simp only[go_sem]
  rw[i64_in (by omega) (by omega)]
  refine VW_loop (fun x:CMQ=>⟨[(1,.ptr 0 0 0),(2,.ptr 1 1 0),(3,I f.n),(4,.ptr q.kl q.sl 0),(5,nextA f),(6,B (passR f I0 O0 x.c).m),(7,I ((f.n:Int)-1-x.c))],x.H,x.nx⟩) (fun x=>x.c≤f.n∧RS f x.H q (passR f I0 O0 x.c).I (passR f I0 O0 x.c).O) (fun x=>f.n-x.c)
   ⟨0,H,nx⟩ (Wk.mk (by simp[get_cons,passR]) ⟨[],by simp⟩ (Nat.le_refl _)) ⟨by simp,hRS⟩ ?_
  clear hRS
  rintro ⟨c,H,nx⟩ ⟨hc,hRS⟩
  simp only at hc hRS
  by_cases hlt:c<f.n
  ·have hP:=hRI.pass hf c (by omega)
   have e1:((f.n:Int)-1-c).toNat=f.n-1-c:=by omega
   obtain ⟨b,hbe⟩:∃ b,b=f.n-1-c:=⟨_,rfl⟩
   have hb:b<f.n:=by omega
   have hbn:b<f.bks.length:=hb
   have hbk:f.bks.getD b default=f.bk b:=rfl
   have hbi:(f.n:Int)-1-c=b:=by omega
   have hnext:passR f I0 O0 (c+1)=stepR f (passR f I0 O0 c) b:=by rw[hbe];rfl
   rw[hbi]
   generalize passR f I0 O0 c=p at hRS hP hnext ⊢
   have hil:(p.I.getD b []).length=f.r:=hP.sz.il hb
   have hol:(p.O.getD b []).length=f.r:=hP.sz.ol hb
   have hfb:=hRS.fb
   have hlv:=hRS.lv
   have hmil:=hRS.mi.l
   have hmol:=hRS.mo.l
   have hob:=hRS.mo.r b hb
   have f1:=ty_ne hob hfb (by simp)
   have f2:=ty_ne hob hlv (by simp)
   have f3:=ty_ne hob hmil (by simp)
   have f4:=ty_ne hob hmol (by simp)
   have l1:=lt_of hob
   have hnl:=nxt_len (f.bk b)
   have hto:=hf.to _ (BF.mem hb)
   have hlen2:(f.bks.map fun b=>ints (nxt b)).length=f.n:=by simp[BF.n]
   simp only[go_sem,eq_true (show (0:Int)≤(b:Int) by omega)]
   refine VW_loop (fun j:Nat=>⟨[(1,.ptr 0 0 0),(2,.ptr 1 1 0),(3,I f.n),(4,.ptr q.kl q.sl 0),(5,nextA f),(6,B p.m),(7,I b),(8,I j)],H.set (q.g2 b).1 ⟨(q.g2 b).2,4,1,(gath p.I (p.O.getD b []) ((nxt (f.bk b)).take j)).map B⟩,nx⟩) (fun j=>j≤(nxt (f.bk b)).length) (fun j=>(nxt (f.bk b)).length-j) 0
    (Wk.mk (by simp[get_cons]) ⟨[],by rw[List.append_nil];exact (set_of_get hob).symm⟩ (Nat.le_refl _)) (by omega) ?_
   intro j hj
   by_cases hl2:j<(nxt (f.bk b)).length
   ·have hk:=hto _ (mem_getD hl2)
    have hgt:=gath_take p.I (p.O.getD b []) _ hl2
    have hgl:=gath_len p.I ((nxt (f.bk b)).take j) (p.O.getD b [])
    generalize hkk:(nxt (f.bk b)).getD j default=k at hk hgt ⊢
    have hkn:k.toNat<f.n:=by unfold BF.n;omega
    have hik:=hRS.mi.r k.toNat hkn
    have hkl:(p.I.getD k.toNat []).length=f.r:=hP.sz.il hkn
    have f5:((q.g2 b).1=(q.g1 k.toNat).1)=False:=eq_false fun e=>hRS.dio _ hkn b hb e.symm
    generalize hx:gath p.I (p.O.getD b []) ((nxt (f.bk b)).take j)=x at hgt hgl ⊢
    rw[hol]at hgl
    have hgt':gath p.I (p.O.getD b []) ((nxt (f.bk b)).take (j+1))=orL x (p.I.getD k.toNat []):=hgt
    generalize hy:p.I.getD k.toNat []=y at hik hkl hgt'
    simp only[go_sem,hbk,hkk,eq_true (show (j:Int)<(nxt (f.bk b)).length by omega)]
    repeat ((with_reducible refine And.intro ?_ ?_);· omega)
    refine VW_loop (fun v:Nat=>⟨[(1,.ptr 0 0 0),(2,.ptr 1 1 0),(3,I f.n),(4,.ptr q.kl q.sl 0),(5,nextA f),(6,B p.m),(7,I b),(8,I j),(9,I v)],H.set (q.g2 b).1 ⟨(q.g2 b).2,4,1,(orP x y v).map B⟩,nx⟩) (fun v=>v≤f.r) (fun v=>f.r-v) 0
     (Wk.mk (by simp[get_cons]) ⟨[],by rw[orP_zero,List.append_nil]⟩ (Nat.le_refl _)) (by omega) ?_
    intro v hv
    by_cases hl3:v<f.r
    ·have hgx:gB (orP x y v) v=gB x v:=by rw[gB_orP _ _ _ (by omega),if_neg (by omega)]
     cases h5:gB x v
     ·have hst:(orP x y v).set v (gB y v)=orP x y (v+1):=orP_set x y (by omega) (by rw[h5];rfl)
      simp only[go_sem,hfb,hlv,hmil,hmol,hik,cellT_row,hbk,hkk,hregs,eq_true (show (v:Int)<f.r by omega),List.getElem?_set,f1,f2,f3,f4,f5,l1,gB_getD,hgx,h5,set_B,hst,orP_len,List.set_set]
      repeat ((with_reducible refine And.intro ?_ ?_);· omega)
      rw[i64_in (by omega) (by omega)]
      exact ⟨v+1,by omega,by omega,Wk.mk (by simp[get_cons]) ⟨[],by simp⟩ (Nat.le_refl _)⟩
     ·have hst:(orP x y v).set v true=orP x y (v+1):=orP_set x y (by omega) (by rw[h5];rfl)
      simp only[go_sem,hfb,hlv,hmil,hmol,hik,cellT_row,hbk,hkk,hregs,eq_true (show (v:Int)<f.r by omega),List.getElem?_set,f1,f2,f3,f4,f5,l1,gB_getD,hgx,h5,set_B,hst,orP_len,List.set_set]
      repeat ((with_reducible refine And.intro ?_ ?_);· omega)
      rw[i64_in (by omega) (by omega)]
      exact ⟨v+1,by omega,by omega,Wk.mk (by simp[get_cons]) ⟨[],by simp⟩ (Nat.le_refl _)⟩
    ·obtain rfl:v=f.r:=by omega
     simp only[go_sem,hfb,hregs,List.getElem?_set,f1,eq_false (show ¬ (f.r:Int)<f.r by omega)]
     rw[i64_in (by omega) (by omega)]
     refine ⟨j+1,by omega,by omega,Wk.mk (by simp[get_cons]) ⟨[],?_⟩ (Nat.le_refl _)⟩
     rw[List.append_nil,hgt',orP_all x y (by omega)]
   ·obtain rfl:j=(nxt (f.bk b)).length:=by omega
    rw[List.take_length,show gath p.I (p.O.getD b []) (nxt (f.bk b))=newO f p.I p.O b from rfl]
    have hob1:=set_get (x:=⟨(q.g2 b).2,4,1,(newO f p.I p.O b).map B⟩) hob
    have hRS1:=hRS.setO hP.sz.o hb (newO f p.I p.O b)
    have holn:=hP.olen hf hb
    have haln:=hP.alen hf hb
    generalize H.set (q.g2 b).1 ⟨(q.g2 b).2,4,1,(newO f p.I p.O b).map B⟩=H1 at hob1 hRS1 ⊢
    have hfb1:=hRS1.fb
    have hlv1:=hRS1.lv
    have hmol1:=hRS1.mo.l
    have hrg:=hf.regs hb (l:=newO f p.I p.O b) holn
    have hln:=hf.len _ (BF.mem hb)
    simp only[go_sem,hfb1,hlv1,hmol1,hbk,cellT_row,eq_false (show ¬ ((nxt (f.bk b)).length:Int)<(nxt (f.bk b)).length by omega)]
    repeat ((with_reducible refine And.intro ?_ ?_);· omega)
    refine rahead_v (f.bk b) (newO f p.I p.O b) _ _ _ (by omega) (by omega) hrg.2 hrg.1 (fun R nx'=>frz_bools (Nat.zero_le _) (app_old hob1 R) (by rw[holn])) _ fun R nx2=>?_
    rw[show aheadL (f.bk b) (newO f p.I p.O b)=inOf f p.I p.O b from rfl]
    have hRS2:=hRS1.app R
    generalize H1++R=H2 at hRS2 ⊢
    clear hob1 hRS1 hfb1 hlv1 hmol1
    have hib2:=hRS2.mi.r b hb
    have hfb2:=hRS2.fb
    have hlv2:=hRS2.lv
    have hmil2:=hRS2.mi.l
    have g1:=ty_ne hib2 hfb2 (by simp)
    have g2:=ty_ne hib2 hlv2 (by simp)
    have g3:=ty_ne hib2 hmil2 (by simp)
    have l2:=lt_of hib2
    have hRS3:=hRS2.setI hP.sz.i hb (orL (p.I.getD b []) (inOf f p.I p.O b))
    have hfin:stepR f p b=⟨p.I.set b (orL (p.I.getD b []) (inOf f p.I p.O b)),p.O.set b (newO f p.I p.O b),p.m || moreP (p.I.getD b []) (inOf f p.I p.O b) f.r⟩:=by
     unfold stepR;rw[← hil,moreP_all]
    generalize p.I.getD b []=x at hib2 hil hRS3 hfin
    generalize inOf f p.I p.O b=y at haln hRS3 hfin ⊢
    simp only[go_sem]
    refine VW_loop (fun v:Nat=>⟨[(1,.ptr 0 0 0),(2,.ptr 1 1 0),(3,I f.n),(4,.ptr q.kl q.sl 0),(5,nextA f),(6,B (p.m || moreP x y v)),(7,I b),(10,bools y),(11,I v)],H2.set (q.g1 b).1 ⟨(q.g1 b).2,4,1,(orP x y v).map B⟩,nx2⟩) (fun v=>v≤f.r) (fun v=>f.r-v) 0
     (Wk.mk (by simp[get_cons,moreP]) ⟨[],by rw[orP_zero,List.append_nil];exact (set_of_get hib2).symm⟩ (Nat.le_refl _)) (by omega) ?_
    intro v hv
    by_cases hl3:v<f.r
    ·have hgx:gB (orP x y v) v=gB x v:=by rw[gB_orP _ _ _ (by omega),if_neg (by omega)]
     have hms:=moreP_step x y v
     cases h5:gB y v
     ·have hsk:=orP_skip x y (k:=v) (by omega) (by rw[h5,Bool.or_false])
      rw[h5]at hms
      simp only[go_sem,hfb2,hregs,eq_true (show (v:Int)<f.r by omega),List.getElem?_set,g1,g2,g3,l2,gB_getD,h5]
      repeat ((with_reducible refine And.intro ?_ ?_);· omega)
      rw[i64_in (by omega) (by omega)]
      refine ⟨v+1,by omega,by omega,Wk.mk (by simp[get_cons,hms]) ⟨[],by simp[hsk]⟩ (Nat.le_refl _)⟩
     ·cases h6:gB x v
      ·have hst:(orP x y v).set v true=orP x y (v+1):=orP_set x y (by omega) (by rw[h5];simp)
       rw[h5,h6]at hms
       simp only[go_sem,hfb2,hlv2,hmil2,cellT_row,hregs,eq_true (show (v:Int)<f.r by omega),List.getElem?_set,g1,g2,g3,l2,gB_getD,h5,hgx,h6,set_B,hst,orP_len,List.set_set]
       repeat ((with_reducible refine And.intro ?_ ?_);· omega)
       rw[i64_in (by omega) (by omega)]
       refine ⟨v+1,by omega,by omega,Wk.mk (by simp[get_cons,hms]) ⟨[],by simp⟩ (Nat.le_refl _)⟩
      ·have hsk:=orP_skip x y (k:=v) (by omega) (by rw[h6,Bool.true_or])
       rw[h5,h6]at hms
       simp only[go_sem,hfb2,hlv2,hmil2,cellT_row,hregs,eq_true (show (v:Int)<f.r by omega),List.getElem?_set,g1,g2,g3,l2,gB_getD,h5,hgx,h6,orP_len]
       repeat ((with_reducible refine And.intro ?_ ?_);· omega)
       rw[i64_in (by omega) (by omega)]
       refine ⟨v+1,by omega,by omega,Wk.mk (by simp[get_cons,hms]) ⟨[],by simp[hsk]⟩ (Nat.le_refl _)⟩
    ·obtain rfl:v=f.r:=by omega
     simp only[go_sem,hfb2,hregs,List.getElem?_set,g1,eq_false (show ¬ (f.r:Int)<f.r by omega)]
     rw[i64_in (by omega) (by omega),orP_all x y (by omega)]
     refine ⟨⟨c+1,_,nx2⟩,⟨by simp only;omega,?_⟩,by simp only;omega,Wk.mk (by simp[get_cons,hnext,hfin];omega) ⟨[],by rw[List.append_nil]⟩ (Nat.le_refl _)⟩
     simp only[hnext,hfin]
     exact hRS3
  ·obtain rfl:c=f.n:=by omega
   simp only[go_sem,eq_false (show ¬ (0:Int)≤(f.n:Int)-1-f.n by omega)]
   have hpm:=pass_mono hf hRI f.n (Nat.le_refl _)
   refine ⟨⟨H,(passR f I0 O0 f.n).I,(passR f I0 O0 f.n).O,(passR f I0 O0 f.n).m,nx⟩,⟨hRS,hRI.pass hf f.n (Nat.le_refl _),fun e=>pass_least hf hRI e⟩,?_,Wk.mk (by simp[get_cons]) ⟨[],by simp⟩ (Nat.le_refl _)⟩
   simp only
   split
   ·rename_i e;have:=hpm.2 e;omega
   ·omega
theorem Kept.stab {H H':List VObj} (h:Kept H H'):Stab (fun _=>True) 1 H H':=fun id ob _ ho=>⟨ob,h id ob ho,rfl,rfl⟩
theorem rof_c (f:BF) (hf:Fine f) (L:LD) (hL:Least f L):Contract Try.prog 24 [bfA f] (fun x=>x=liveA L):=by
 refine Contract.of_call (VCall.of_body hmix f_scref27_Of (by simp) ?_)
 have hr0:=hf.r0
 have hr4:f.r≤4000:=by have:=hf.r1;unfold BF.r;omega
 have hregs:f.regs=(f.r:Int):=by unfold BF.r;omega
 have hn5:f.n≤500:=hf.b1
 have hlen:(f.bks.length:Int)=f.n:=rfl
 have hv1:∀ (H:List VObj) (nx:Nat) (C:AV→List VObj→Nat→Prop),(∀ s g H' nx',MT f.n f.r H' H.length s g (beginS f).I→(∀ b<f.n,H.length<(g b).1)→Kept H H'→C (.ref H.length s 0 f.n) H' nx') →
  VCall Try.prog 45 [I f.bks.length,I f.regs] H nx C:=fun H nx C hC=>by
  rw[hregs,hlen]
  exact none_v f.n f.r hn5 hr4 H nx C fun s g R nx' h1 h2=>hC s g _ nx' h1 h2 (Kept.app _ _)
 have hc:c_scref27_Of=VC.seq _ (VC.seq _ (VC.seq _ c_scref27_Of.tl.tl.tl)):=rfl
 have htail:=rof_tail f hf L hL
 obtain ⟨D,hD⟩:∃ D,D=c_scref27_Of.tl.tl.tl:=⟨_,rfl⟩
 rw[← hD]at htail
 rw[hc,← hD]
 simp only[go_sem]
 repeat' (with_reducible apply And.intro)
 all_goals
  refine hv1 _ _ _ ?_
  intro s1 g1 H1 nx1 m1 p1 kp1
  refine ⟨kp1.stab,?_⟩
  have a0:=kp1 0 _ rfl
  have a1:=kp1 1 _ rfl
  have c0:=app_old a0
  have z1:2≤H1.length:=by have:=(List.getElem?_eq_some_iff.1 m1.l).1;(try simp at this);omega
  simp only[go_sem,a0,c0]
  repeat' (with_reducible apply And.intro)
  all_goals
   refine hv1 _ _ _ ?_
   intro s2 g2 H2 nx2 m2 p2 kp2
   refine ⟨kp2.stab,?_⟩
   have kp12:Kept H1 H2:=by first | exact kp2 | exact (Kept.app _ _).trans kp2
   have hdio:∀ b<f.n,∀ c<f.n,(g1 b).1≠(g2 c).1:=fun b hb c hc=>by
    have h1:=m1.lt hb
    have h2:=p2 c hc
    try simp only[List.length_append]at h2
    omega
   have z2:2≤H2.length:=by have:=(List.getElem?_eq_some_iff.1 m2.l).1;(try simp at this);omega
   have b0:=kp12 _ _ a0
   have b1:=kp12 _ _ a1
   have mm1:=m1.kept kp12
   first
   | (have b2:=kp12 _ _ (kp1 2 _ rfl)
      simp only[go_sem,b2]
      repeat' (with_reducible apply And.intro)
      all_goals first | omega | (refine htail _ _ _ ⟨2,2,3,s1,H1.length,s2,g1,g2⟩ ?_ ?_ ?_ ?_ ?_<;>first | rfl | exact ⟨by rw[set_ne (by omega)];exact b0,by rw[set_ne (by omega)];exact b1,set_get b2,mm1.lv b2 rfl,m2.lv b2 rfl,hdio⟩))
   | (simp only[go_sem,app_get0,app_set0]
      repeat' (with_reducible apply And.intro)
      all_goals first | omega | (refine htail _ _ _ ⟨H2.length,nx2,2,s1,H1.length,s2,g1,g2⟩ ?_ ?_ ?_ ?_ ?_<;>first | rfl | exact ⟨app_old b0 _,app_old b1 _,by rw[app_get0];rfl,mm1.app _,m2.app _,hdio⟩))
   | (have b2:=kp2 H1.length _ (by rw[app_get0];rfl)
      have q1:1<H1.length:=(List.getElem?_eq_some_iff.1 a1).1
      rw[List.length_append]at m2 ⊢
      simp only[go_sem,b2]
      repeat' (with_reducible apply And.intro)
      all_goals first | omega | (refine htail _ _ _ ⟨H1.length,nx1,2,s1,H1.length+1,s2,g1,g2⟩ ?_ ?_ ?_ ?_ ?_<;>first | rfl | exact ⟨by rw[set_ne (by omega)];exact b0,by rw[set_ne (by omega)];exact b1,set_get b2,mm1.lv b2 rfl,m2.lv b2 rfl,hdio⟩))
set_option maxRecDepth 10000
open Go.V
theorem places_c (pl:List Int) (regs n:Int) (hl:pl.length≤140737488355328):Contract Try.prog 61 [alA pl,I regs,I n] (fun r=>r=B (placesB pl regs n)):=by
 refine Contract.of_call (VCall.of_body hmix f_scref28_places (by simp) ?_)
 by_cases h0:(pl.length:Int)=regs
 case neg =>
  simp only[go_sem,c_scref28_places,eq_false h0]
  exact ⟨_,Frz.pure rfl,by simp[placesB,h0]⟩
 simp only[go_sem,c_scref28_places,eq_true h0]
 refine VW_loop (fun k:Nat=>⟨[(2,I n),(3,.ptr 0 0 0),(7,I k)],[⟨0,55,1,[ints pl]⟩],1⟩) (fun k=>k≤pl.length∧(pl.take k).all (okP n)=true) (fun k=>pl.length-k) 0 (Wk.mk (by simp[get_cons]) ⟨[],rfl⟩ (Nat.le_refl _)) ⟨Nat.zero_le _,rfl⟩ ?_
 rintro k ⟨hk,hp⟩
 by_cases h:k<pl.length
 ·have hgo:okP n (pl.getD k default)=true→(pl.take (k+1)).all (okP n)=true:=fun e=>all_step h hp e
  have hno:okP n (pl.getD k default)=false→placesB pl regs n=false:=fun e=>by
   unfold placesB;rw[all_stop h e];simp
  generalize hq:pl.getD k default=p at hgo hno
  have hiff:=okP_iff (n:=n) (p:=p)
  have hlt:=eq_true (show (k:Int)<pl.length by omega)
  by_cases h1:p < -4000
  ·simp only[go_sem,hq,hlt,eq_true h1]
   repeat ((with_reducible refine And.intro ?_ ?_);· omega)
   refine ⟨_,Frz.pure rfl,?_⟩
   rw[hno (by cases e:okP n p with | false=>rfl | true=>have:=hiff.1 e;omega)]
  by_cases h2:p=0
  ·simp only[go_sem,hq,hlt,eq_false h1,eq_true h2]
   repeat ((with_reducible refine And.intro ?_ ?_);· omega)
   refine ⟨_,Frz.pure rfl,?_⟩
   rw[hno (by cases e:okP n p with | false=>rfl | true=>have:=hiff.1 e;omega)]
  by_cases h3:0<p
  ·by_cases h4:n<p
   ·simp only[go_sem,hq,hlt,eq_false h1,eq_false h2,eq_true h3,eq_true h4]
    repeat ((with_reducible refine And.intro ?_ ?_);· omega)
    refine ⟨_,Frz.pure rfl,?_⟩
    rw[hno (by cases e:okP n p with | false=>rfl | true=>have:=hiff.1 e;omega)]
   ·simp only[go_sem,hq,hlt,eq_false h1,eq_false h2,eq_true h3,eq_false h4]
    repeat ((with_reducible refine And.intro ?_ ?_);· omega)
    rw[i64_in (n:=(k:Int)+1) (by omega) (by omega)]
    exact ⟨k+1,⟨by omega,hgo (hiff.2 (by omega))⟩,by omega,Wk.mk (by simp[get_cons]) ⟨[],rfl⟩ (Nat.le_refl _)⟩
  ·simp only[go_sem,hq,hlt,eq_false h1,eq_false h2,eq_false h3]
   repeat ((with_reducible refine And.intro ?_ ?_);· omega)
   rw[i64_in (n:=(k:Int)+1) (by omega) (by omega)]
   exact ⟨k+1,⟨by omega,hgo (hiff.2 (by omega))⟩,by omega,Wk.mk (by simp[get_cons]) ⟨[],rfl⟩ (Nat.le_refl _)⟩
 ·simp only[go_sem,eq_false (show ¬ (k:Int)<pl.length by omega)]
  refine ⟨_,Frz.pure rfl,?_⟩
  unfold placesB;rw[all_end (by omega) hp,decide_eq_true h0];rfl
def apI (pl:List Int) (row:List Bool) (i:Nat):Prop:=∀ j<i,∀ k<j,gB row j=true→gB row k=true→gP pl j≠gP pl k
def apK (pl:List Int) (row:List Bool) (i k:Nat):Prop:=∀ j<k,gB row i=true→gB row j=true→gP pl i≠gP pl j
def onV (t:Tac) (pl:List Int) (row:List Bool) (v:Nat):Prop:=∀ u<v,gB row u=true→¬ ((0≤setsL t∧(u:Int)≠setsL t∧gP pl u=gP pl (setsL t).toNat)∨(t.op=10∧0<gP pl u))
theorem apart_c (pl:List Int) (row:List Bool) (h:row.length≤pl.length) (hl:pl.length≤140737488355328):Contract Try.prog 62 [alA pl,bools row] (fun r=>r=B (apartB pl row)):=by
 refine Contract.of_call (VCall.of_body hmix f_scref28_apart (by simp) ?_)
 simp only[go_sem,c_scref28_apart]
 refine VW_loop (fun i:Nat=>⟨[(1,bools row),(2,.ptr 0 0 0),(5,I i)],[⟨0,55,1,[ints pl]⟩],1⟩) (fun i=>i≤row.length∧apI pl row i) (fun i=>row.length-i) 0 (Wk.mk (by simp[get_cons]) ⟨[],rfl⟩ (Nat.le_refl _)) ⟨Nat.zero_le _,fun j hj=>by omega⟩ ?_
 rintro i ⟨hi,hp⟩
 by_cases hlt:i<row.length
 ·simp only[go_sem,eq_true (show (i:Int)<row.length by omega)]
  refine VW_loop (fun k:Nat=>⟨[(1,bools row),(2,.ptr 0 0 0),(5,I i),(6,I k)],[⟨0,55,1,[ints pl]⟩],1⟩) (fun k=>k≤i∧apK pl row i k) (fun k=>i-k) 0 (Wk.mk (by simp[get_cons]) ⟨[],rfl⟩ (Nat.le_refl _)) ⟨Nat.zero_le _,fun j hj=>by omega⟩ ?_
  rintro k ⟨hk,hq⟩
  by_cases hlk:k<i
  ·have hgo:(gB row i=true→gB row k=true→gP pl i≠gP pl k)→apK pl row i (k+1):=fun e j hj=>by
    by_cases e2:j=k
    ·rw[e2];exact e
    ·exact hq j (by omega)
   have e1:row.getD i default=gB row i:=rfl
   have e2:row.getD k default=gB row k:=rfl
   have e3:pl.getD i default=gP pl i:=rfl
   have e4:pl.getD k default=gP pl k:=rfl
   have hkl:=eq_true (show (k:Int)<(i:Int) by omega)
   cases h1:gB row i
   ·simp only[go_sem,hkl,e1,e2,e3,e4,h1]
    repeat ((with_reducible refine And.intro ?_ ?_);· omega)
    rw[i64_in (n:=(k:Int)+1) (by omega) (by omega)]
    exact ⟨k+1,⟨by omega,hgo (by rw[h1];intro h;cases h)⟩,by omega,Wk.mk (by simp[get_cons]) ⟨[],rfl⟩ (Nat.le_refl _)⟩
   cases h2:gB row k
   ·simp only[go_sem,hkl,e1,e2,e3,e4,h1,h2]
    repeat ((with_reducible refine And.intro ?_ ?_);· omega)
    rw[i64_in (n:=(k:Int)+1) (by omega) (by omega)]
    exact ⟨k+1,⟨by omega,hgo (by rw[h2];intro _ h;cases h)⟩,by omega,Wk.mk (by simp[get_cons]) ⟨[],rfl⟩ (Nat.le_refl _)⟩
   by_cases h3:gP pl i=gP pl k
   ·simp only[go_sem,hkl,e1,e2,e3,e4,h1,h2,h3]
    repeat ((with_reducible refine And.intro ?_ ?_);· omega)
    refine ⟨_,Frz.pure rfl,?_⟩
    have:apartB pl row=false:=decide_eq_false fun e=>e i hlt k hlk h1 h2 h3
    rw[this]
   ·simp only[go_sem,hkl,e1,e2,e3,e4,h1,h2,eq_false h3]
    repeat ((with_reducible refine And.intro ?_ ?_);· omega)
    rw[i64_in (n:=(k:Int)+1) (by omega) (by omega)]
    exact ⟨k+1,⟨by omega,hgo (fun _ _=>h3)⟩,by omega,Wk.mk (by simp[get_cons]) ⟨[],rfl⟩ (Nat.le_refl _)⟩
  ·simp only[go_sem,eq_false (show ¬ (k:Int)<(i:Int) by omega)]
   rw[i64_in (n:=(i:Int)+1) (by omega) (by omega)]
   refine ⟨i+1,⟨by omega,fun j hj=>?_⟩,by omega,Wk.mk (by simp[get_cons]) ⟨[],rfl⟩ (Nat.le_refl _)⟩
   by_cases e2:j=i
   ·rw[e2];exact fun k' hk'=>hq k' (by omega)
   ·exact hp j (by omega)
 ·simp only[go_sem,eq_false (show ¬ (i:Int)<row.length by omega)]
  refine ⟨_,Frz.pure rfl,?_⟩
  have:apartB pl row=true:=decide_eq_true fun j hj=>hp j (by omega)
  rw[this]
theorem rone28_c (t:Tac) (pl:List Int) (row:List Bool) (h:row.length≤pl.length) (hl:pl.length≤140737488355328) (hd:0≤setsL t→setsL t<pl.length):Contract Try.prog 63 [tacA t,alA pl,bools row] (fun r=>r=B (oneAB t pl row)):=by
 refine Contract.of_call (VCall.of_body hmix f_scref28_one (by simp) ?_)
 simp only[go_sem,c_scref28_one]
 refine VCall.of_contract (refsets_c t) (SleL.pure rfl) fun x hx=>?_
 subst hx
 simp only[go_sem]
 refine VW_loop (fun v:Nat=>⟨[(2,bools row),(3,.ptr 0 0 0),(4,.ptr 1 1 0),(7,I (setsL t)),(8,I v)],[⟨0,47,1,tacL t⟩,⟨1,55,1,[ints pl]⟩],2⟩)
  (fun v=>v≤row.length∧onV t pl row v) (fun v=>row.length-v) 0 (Wk.mk (by simp[get_cons]) ⟨[],rfl⟩ (Nat.le_refl _)) ⟨Nat.zero_le _,fun j hj=>by omega⟩ ?_
 rintro v ⟨hv,hp⟩
 by_cases hlt:v<row.length
 ·have hgo:(gB row v=true→¬ ((0≤setsL t∧(v:Int)≠setsL t∧gP pl v=gP pl (setsL t).toNat)∨(t.op=10∧0<gP pl v)))→onV t pl row (v+1):=fun e u hu=>by
   by_cases e2:u=v
   ·rw[e2];exact e
   ·exact hp u (by omega)
  have hno:gB row v=true→((0≤setsL t∧(v:Int)≠setsL t∧gP pl v=gP pl (setsL t).toNat)∨(t.op=10∧0<gP pl v))→oneAB t pl row=false:=fun e1 e2=>decide_eq_false fun e=>e v hlt e1 e2
  have e1:row.getD v default=gB row v:=rfl
  have e3:pl.getD v default=gP pl v:=rfl
  have e4:pl.getD (setsL t).toNat default=gP pl (setsL t).toNat:=rfl
  obtain ⟨d,hdd⟩:∃ d,setsL t=d:=⟨_,rfl⟩
  rw[hdd]at hgo hno hd e4 ⊢
  have hlv:=eq_true (show (v:Int)<row.length by omega)
  cases h1:gB row v
  ·simp only[go_sem,hlv,e1,h1]
   repeat ((with_reducible refine And.intro ?_ ?_);· omega)
   rw[i64_in (n:=(v:Int)+1) (by omega) (by omega)]
   exact ⟨v+1,⟨by omega,hgo (by rw[h1];intro h;cases h)⟩,by omega,Wk.mk (by simp[get_cons]) ⟨[],rfl⟩ (Nat.le_refl _)⟩
  by_cases h2:0≤d
  ·have hdl:=hd h2
   by_cases h3:(v:Int)=d
   ·by_cases h5:t.op=10
    ·by_cases h6:0<gP pl v
     ·simp only[go_sem,hlv,e1,e3,h1,eq_true h2,eq_true h3,eq_true h5,eq_true h6]
      repeat ((with_reducible refine And.intro ?_ ?_);· omega)
      refine ⟨_,Frz.pure rfl,?_⟩
      rw[hno h1 (.inr ⟨h5,h6⟩)]
     ·simp only[go_sem,hlv,e1,e3,h1,eq_true h2,eq_true h3,eq_true h5,eq_false h6]
      repeat ((with_reducible refine And.intro ?_ ?_);· omega)
      rw[i64_in (n:=(v:Int)+1) (by omega) (by omega)]
      exact ⟨v+1,⟨by omega,hgo (fun _=>by rintro (e | e);exact e.2.1 h3;exact h6 e.2)⟩,by omega,Wk.mk (by simp[get_cons]) ⟨[],rfl⟩ (Nat.le_refl _)⟩
    ·simp only[go_sem,hlv,e1,e3,h1,eq_true h2,eq_true h3,eq_false h5]
     repeat ((with_reducible refine And.intro ?_ ?_);· omega)
     rw[i64_in (n:=(v:Int)+1) (by omega) (by omega)]
     exact ⟨v+1,⟨by omega,hgo (fun _=>by rintro (e | e);exact e.2.1 h3;exact h5 e.1)⟩,by omega,Wk.mk (by simp[get_cons]) ⟨[],rfl⟩ (Nat.le_refl _)⟩
   ·by_cases h4:gP pl v=gP pl d.toNat
    ·simp only[go_sem,hlv,e1,e3,e4,h1,eq_true h2,eq_false h3,eq_true h4]
     repeat ((with_reducible refine And.intro ?_ ?_);· omega)
     refine ⟨_,Frz.pure rfl,?_⟩
     rw[hno h1 (.inl ⟨h2,h3,h4⟩)]
    ·by_cases h5:t.op=10
     ·by_cases h6:0<gP pl v
      ·simp only[go_sem,hlv,e1,e3,e4,h1,eq_true h2,eq_false h3,eq_false h4,eq_true h5,eq_true h6]
       repeat ((with_reducible refine And.intro ?_ ?_);· omega)
       refine ⟨_,Frz.pure rfl,?_⟩
       rw[hno h1 (.inr ⟨h5,h6⟩)]
      ·simp only[go_sem,hlv,e1,e3,e4,h1,eq_true h2,eq_false h3,eq_false h4,eq_true h5,eq_false h6]
       repeat ((with_reducible refine And.intro ?_ ?_);· omega)
       rw[i64_in (n:=(v:Int)+1) (by omega) (by omega)]
       exact ⟨v+1,⟨by omega,hgo (fun _=>by rintro (e | e);exact h4 e.2.2;exact h6 e.2)⟩,by omega,Wk.mk (by simp[get_cons]) ⟨[],rfl⟩ (Nat.le_refl _)⟩
     ·simp only[go_sem,hlv,e1,e3,e4,h1,eq_true h2,eq_false h3,eq_false h4,eq_false h5]
      repeat ((with_reducible refine And.intro ?_ ?_);· omega)
      rw[i64_in (n:=(v:Int)+1) (by omega) (by omega)]
      exact ⟨v+1,⟨by omega,hgo (fun _=>by rintro (e | e);exact h4 e.2.2;exact h5 e.1)⟩,by omega,Wk.mk (by simp[get_cons]) ⟨[],rfl⟩ (Nat.le_refl _)⟩
  ·by_cases h5:t.op=10
   ·by_cases h6:0<gP pl v
    ·simp only[go_sem,hlv,e1,e3,h1,eq_false h2,eq_true h5,eq_true h6]
     repeat ((with_reducible refine And.intro ?_ ?_);· omega)
     refine ⟨_,Frz.pure rfl,?_⟩
     rw[hno h1 (.inr ⟨h5,h6⟩)]
    ·simp only[go_sem,hlv,e1,e3,h1,eq_false h2,eq_true h5,eq_false h6]
     repeat ((with_reducible refine And.intro ?_ ?_);· omega)
     rw[i64_in (n:=(v:Int)+1) (by omega) (by omega)]
     exact ⟨v+1,⟨by omega,hgo (fun _=>by rintro (e | e);exact h2 e.1;exact h6 e.2)⟩,by omega,Wk.mk (by simp[get_cons]) ⟨[],rfl⟩ (Nat.le_refl _)⟩
   ·simp only[go_sem,hlv,e1,e3,h1,eq_false h2,eq_false h5]
    repeat ((with_reducible refine And.intro ?_ ?_);· omega)
    rw[i64_in (n:=(v:Int)+1) (by omega) (by omega)]
    exact ⟨v+1,⟨by omega,hgo (fun _=>by rintro (e | e);exact h2 e.1;exact h5 e.1)⟩,by omega,Wk.mk (by simp[get_cons]) ⟨[],rfl⟩ (Nat.le_refl _)⟩
 ·simp only[go_sem,eq_false (show ¬ (v:Int)<row.length by omega)]
  refine ⟨_,Frz.pure rfl,?_⟩
  have:oneAB t pl row=true:=decide_eq_true fun j hj=>hp j (by omega)
  rw[this]
set_option maxRecDepth 10000
open Go.V
def blkAll (f:BF) (L:LD) (pl:List Int) (b:Nat):Prop:=∀ i<b,blkAB f L pl i=true
def insAll (f:BF) (L:LD) (pl:List Int) (b i:Nat):Prop:=∀ j<i,oneAB ((f.bk b).ins.getD j default) pl ((behindL (f.bk b) (L.out.getD b default)).getD j default)=true
theorem rcheck28_c (f:BF) (L:LD) (pl:List Int) (n:Int) (hf:Fine f) (hL:LOK L) (hl:pl.length≤140737488355328):Contract Try.prog 38 [bfA f,liveA L,alA pl,I n] (fun r=>r=B (allocB f L pl n)):=by
 refine Contract.of_call (VCall.of_body hmix f_scref28_Check (by simp) ?_)
 have hn:f.bks.length=f.n:=rfl
 have hn5:=hf.b1
 rw[hn]at hn5
 have hr4:=hf.r1
 have hr0:=hf.r0
 have hpos:0<f.n:=List.length_pos_iff.2 hf.b0
 have hregs:(f.r:Int)=f.regs:=by unfold BF.r;omega
 simp only[go_sem,c_scref28_Check]
 refine ECall.of (rcheck_c f L hf hL) (SleL.pure rfl) ⟨_,fun _=>Iff.rfl⟩ fun x hx=>?_
 subst hx
 cases hc:checkB f L
 ·simp only[go_sem]
  exact ⟨_,Frz.pure rfl,by simp[allocB,hc]⟩
 have hcl:=(checkB_iff hf L).1 hc
 have hli:L.inn.length=f.n:=hcl.sz.i
 have hi0:(L.inn.getD 0 default).length=f.r:=hcl.sz.il hpos
 simp only[go_sem]
 refine ECall.of (places_c pl f.regs n hl) (SleL.pure rfl) ⟨_,fun _=>Iff.rfl⟩ fun x hx=>?_
 subst hx
 cases hp:placesB pl f.regs n
 ·simp only[go_sem]
  exact ⟨_,Frz.pure rfl,by simp[allocB,hp]⟩
 have hpl:pl.length=f.r:=by
  have:=hp
  unfold placesB at this
  simp only[Bool.and_eq_true,decide_eq_true_eq]at this
  omega
 simp only[go_sem]
 repeat ((with_reducible refine And.intro ?_ ?_);· omega)
 refine ECall.of (apart_c pl (L.inn.getD 0 default) (by omega) hl) (SleL.pure rfl) ⟨_,fun _=>Iff.rfl⟩ fun x hx=>?_
 subst hx
 cases ha:apartB pl (L.inn.getD 0 default)
 ·simp only[go_sem]
  exact ⟨_,Frz.pure rfl,by simp only[allocB,ha,Bool.and_false,Bool.false_and]⟩
 simp only[go_sem]
 refine VW_loop (fun b:Nat=>⟨[(3,I n),(4,.ptr 0 0 0),(5,.ptr 1 1 0),(6,.ptr 2 2 0),(9,I b)],[⟨0,52,1,bfL f⟩,⟨1,63,1,[rowsA L.inn,rowsA L.out]⟩,⟨2,55,1,[ints pl]⟩],3⟩)
  (fun b=>b≤f.n∧blkAll f L pl b) (fun b=>f.n-b) 0 (Wk.mk (by simp[get_cons]) ⟨[],rfl⟩ (Nat.le_refl _)) ⟨Nat.zero_le _,fun i hi=>absurd hi (Nat.not_lt_zero i)⟩ ?_
 rintro b ⟨hb,hp2⟩
 by_cases hlt:b<f.n
 ·have hbk:f.bks.getD b default=f.bk b:=rfl
  have hob:b<L.out.length:=by rw[hcl.sz.o];exact hlt
  have hlo:(L.out.getD b default).length=f.r:=hcl.sz.ol hlt
  have hrg:=hf.regs hlt hlo
  have hlen:=hf.len _ (BF.mem hlt)
  simp only[go_sem,hn,eq_true (show (b:Int)<f.n by omega)]
  refine VCall.of_contract (rbehind_c f L b hf hlt hob hlo) (SleL.pure rfl) fun x hx=>?_
  subst hx
  simp only[go_sem]
  refine VW_loop (fun i:Nat=>⟨[(3,I n),(4,.ptr 0 0 0),(5,.ptr 1 1 0),(6,.ptr 2 2 0),(9,I b),(10,rowsA (behindL (f.bk b) (L.out.getD b default))),(11,I i)],[⟨0,52,1,bfL f⟩,⟨1,63,1,[rowsA L.inn,rowsA L.out]⟩,⟨2,55,1,[ints pl]⟩],3⟩)
   (fun i=>i≤(f.bk b).ins.length∧insAll f L pl b i) (fun i=>(f.bk b).ins.length-i) 0 (Wk.mk (by simp[get_cons]) ⟨[],rfl⟩ (Nat.le_refl _)) ⟨Nat.zero_le _,fun i hi=>absurd hi (Nat.not_lt_zero i)⟩ ?_
  rintro i ⟨hi,hq⟩
  by_cases hil:i<(f.bk b).ins.length
  ·have hbl:=behindL_len (f.bk b) (L.out.getD b default)
   have hrl:((behindL (f.bk b) (L.out.getD b default)).getD i default).length=f.r:=behindL_lens hf hlt hlo hil
   have hrt:=hrg.1 _ (mem_getD hil)
   simp only[go_sem,hbk,hbl,eq_true (show (i:Int)<(f.bk b).ins.length by omega)]
   repeat ((with_reducible refine And.intro ?_ ?_);· omega)
   refine VCall.of_contract (rone28_c ((f.bk b).ins.getD i default) pl ((behindL (f.bk b) (L.out.getD b default)).getD i default) (by omega) hl (fun h=>by rcases hrt.sets with e | e<;>omega)) (SleL.pure rfl) fun x hx=>?_
   subst hx
   cases ho:oneAB ((f.bk b).ins.getD i default) pl ((behindL (f.bk b) (L.out.getD b default)).getD i default)
   ·simp only[go_sem]
    refine ⟨_,Frz.pure rfl,?_⟩
    have h1:blkAB f L pl b=false:=by
     unfold blkAB
     exact List.all_eq_false.2 ⟨i,List.mem_range.2 hil,by rw[ho];decide⟩
    have:allocB f L pl n=false:=by
     unfold allocB
     rw[List.all_eq_false.2 ⟨b,List.mem_range.2 hlt,by rw[h1];decide⟩];simp
    rw[this]
   ·simp only[go_sem]
    rw[i64_in (by omega) (by omega)]
    refine ⟨i+1,⟨by omega,fun j hj=>?_⟩,by omega,Wk.mk (by simp[get_cons]) ⟨[],rfl⟩ (Nat.le_refl _)⟩
    by_cases e:j=i
    ·rw[e];exact ho
    ·exact hq j (by omega)
  ·simp only[go_sem,hbk,hn,eq_false (show ¬ (i:Int)<(f.bk b).ins.length by omega)]
   repeat ((with_reducible refine And.intro ?_ ?_);· omega)
   rw[i64_in (by omega) (by omega)]
   refine ⟨b+1,⟨by omega,fun j hj=>?_⟩,by omega,Wk.mk (by simp[get_cons]) ⟨[],rfl⟩ (Nat.le_refl _)⟩
   by_cases e:j=b
   ·rw[e]
    unfold blkAB
    rw[List.all_eq_true]
    exact fun k hk=>hq k (by have:=List.mem_range.1 hk;omega)
   ·exact hp2 j (by omega)
 ·simp only[go_sem,hn,eq_false (show ¬ (b:Int)<f.n by omega)]
  refine ⟨_,Frz.pure rfl,?_⟩
  have:allocB f L pl n=true:=by
   unfold allocB
   rw[hc,hp,ha,List.all_eq_true.2 fun i hi=>hp2 i (by have:=List.mem_range.1 hi;omega)];rfl
  rw[this]
set_option maxRecDepth 10000
open Go.V
theorem MemAt.frz {n:Nat} {H:List VObj} {nx:Nat} {L T:List VObj} {m:AV} {own:Bool} {mem:List Int} (h:MemAt L T m own mem) (hn:n≤L.length) (hT:∀ k ob,T[k]? = some ob→H[L.length+(k+1)]? = some ob):Frz n H nx m (words mem):=by
 rcases h with ⟨_,rfl⟩ | ⟨_,k,sm,rfl,hk⟩
 ·exact Frz.pure rfl
 ·exact frz_map (f:=U32) (g:=U32) (by omega) (hT k _ hk) rfl (fun _=>rfl) fun _ _=>Frz.pure rfl
section
variable (code:List Int) (inp:ByteArray) (pc:Int) (f:Nat→Int) (m:AV) (rd:Int) (out outT:ByteArray) (st fin:Int) (own:Bool) (more:AV) (bs:List UInt8) (L T:List VObj) (s nx:Nat)
end
set_option maxRecDepth 10000
open Go.V
theorem frz_tcs {n:Nat} {H:List VObj} {nx id s ty len:Nat} (code:List Tac) (hid:n≤id) (ho:H[id]? = some ⟨s,ty,8,(code.map tacL).flatten⟩) (hl:len=code.length):Frz n H nx (.ref id s 0 len) (inA code):=by
 have h:=Frz.refT (n:=n) (nx:=nx) (len:=len) hid ho rfl rfl (yss:=code.map tacL) (zss:=code.map tacL) rfl (fun l hl=>?_) (by simp[hl]) (FrzLL.pure fun l hl=>?_)
 ·rw[List.map_map]at h;exact h
 ·obtain ⟨x,_,rfl⟩:=List.mem_map.1 hl;rfl
 ·obtain ⟨x,_,rfl⟩:=List.mem_map.1 hl;rfl
set_option maxRecDepth 10000
open Go.V
def zPut (v:Nat):Tac:=⟨9,0,(v:Int),0,0,0,0,0⟩
def zCon (v:Nat):Tac:=⟨1,(v:Int),0,0,0,0,0,7⟩
def zAg (n:Nat):List Tac:=[⟨4,(n:Int),0,0,0,0,0,0⟩,⟨1,(n:Int)+1,0,0,0,0,0,1⟩,⟨3,(n:Int)+2,(n:Int),(n:Int)+1,15,0,0,0⟩,⟨5,0,(n:Int)+1,0,0,0,0,0⟩]
def zI (n:Nat):List Tac:=(List.range n).map zPut++(List.range n).map zCon
def zF (n:Nat):BF:=⟨(n:Int)+3,[⟨zI n++zAg n,2,(n:Int)+2,1,0⟩,⟨[],3,0,0,0⟩]⟩
def zT:List Tac:=[⟨1,0,0,0,0,0,0,0⟩,⟨5,0,0,0,0,0,0,0⟩,⟨10,0,0,0,0,0,0,0⟩]
def zM (k:Nat):List Tac:=(List.range k).flatMap fun _=>zT
def zG (k:Nat):BF:=⟨1,[⟨zM k,3,0,0,0⟩]⟩
def zP (n k:Nat):BP:=⟨1,[zF n,zG k]⟩
def zV (wd:Bool) (v:Nat):Int:=if wd=true∨8<v+1 then -1-(v:Int) else (v:Int)+1
def zA (n:Nat) (wd:Bool):List Int:=(List.range (n+3)).map (zV wd)
def zW (n k:Nat):List UInt8:=(List.range k).flatMap fun _=>List.replicate n 0++List.replicate n 7
def zLd:LD:=⟨[[false]],[[false]]⟩
def zOk (n k:Nat):Bool:=rightB (zP n k) && (decide ((resB (zP n k) ⟨#[]⟩ 4000).en=1) && ((resB (zP n k) ⟨#[]⟩ 4000).out == zW n k && (checkB (zG k) zLd && (allocB (zG k) zLd [1] 8 && (decide (totF (zP n k).funcs≤1000) && (decide (totW [zA n true,[1]]≤600) && decide (totW [zA n false,[1]]≤600)))))))
theorem zOk_all:((List.range 8).all fun n=>(List.range 5).all fun k=>zOk (n+1) (k+1))=true:=by kernel_rfl
theorem z_ok {n k:Nat} (hn:1≤n∧n≤8) (hk:1≤k∧k≤5):zOk n k=true:=by
 have h:=List.all_eq_true.1 (List.all_eq_true.1 zOk_all (n-1) (List.mem_range.2 (by omega))) (k-1) (List.mem_range.2 (by omega))
 rw[show n-1+1=n by omega,show k-1+1=k by omega]at h
 exact h
structure ZP (n k:Nat) (wd:Bool):Prop where
 few:FewP (zP n k)
 hold:HoldP (zP n k) [zA n wd,[1]]
 of:∃ rw,OfH (zP n k) [zA n wd,[1]] rw
 right:rightB (zP n k)=true
 en:(resB (zP n k) ⟨#[]⟩ 4000).en=1
 out:(resB (zP n k) ⟨#[]⟩ 4000).out=zW n k
theorem zV_ok (wd:Bool) {v:Nat} (h:v<11):(1≤zV wd v∧zV wd v≤8)∨(-4000≤zV wd v∧zV wd v≤-1):=by
 unfold zV;split<;>omega
theorem zV_ne (wd:Bool) {u v:Nat} (h:u≠v):zV wd u≠zV wd v:=by
 unfold zV;split<;>split<;>omega
theorem zA_len (n:Nat) (wd:Bool):(zA n wd).length=n+3:=by simp[zA]
theorem zA_get {n v:Nat} (wd:Bool) (h:v<n+3):gP (zA n wd) v=zV wd v:=by simp[gP,zA,List.getD,h]
theorem zF_nocall {n:Nat}:∀ b ∈ (zF n).bks,∀ t ∈ b.ins,t.op≠10:=fun b hb t ht=>by
 rcases List.mem_cons.1 hb with rfl | hb
 ·rcases List.mem_append.1 (show t ∈ zI n++zAg n from ht) with ht | ht
  ·rcases List.mem_append.1 (show t ∈ (List.range n).map zPut++(List.range n).map zCon from ht) with ht | ht
   ·obtain ⟨v,_,rfl⟩:=List.mem_map.1 ht;simp[zPut]
   ·obtain ⟨v,_,rfl⟩:=List.mem_map.1 ht;simp[zCon]
  ·simp only[zAg,List.mem_cons,List.not_mem_nil,or_false]at ht
   rcases ht with rfl | rfl | rfl | rfl<;>simp
 ·rw[List.mem_singleton.1 hb]at ht;cases ht
theorem z_all {n k:Nat} (wd:Bool) (hn:1≤n∧n≤8) (hk:1≤k∧k≤5):ZP n k wd:=by
 have h:=z_ok hn hk
 unfold zOk at h
 simp only[Bool.and_eq_true,decide_eq_true_eq,beq_iff_eq]at h
 obtain ⟨h1,h2,h3,h4,h5,h6,h7,h8⟩:=h
 have hfew:FewP (zP n k):=by
  refine ⟨by show (1:Int)≤8000;omega,by simp[zP],fun f hf=>?_,h6,h1⟩
  rcases List.mem_cons.1 hf with rfl | hf
  ·exact ⟨by simp[zF],by simp[zF];omega⟩
  ·rw[List.mem_singleton.1 hf];exact ⟨by simp[zG],by simp[zG]⟩
 have hl:(zP n k).funcs.length=2:=rfl
 have f0:(zP n k).funcs.getD 0 default=zF n:=rfl
 have f1:(zP n k).funcs.getD 1 default=zG k:=rfl
 obtain ⟨hf0,hr0,_⟩:=hfew.fine (i:=0) (by rw[hl];omega)
 obtain ⟨hf1,hr1,_⟩:=hfew.fine (i:=1) (by rw[hl];omega)
 rw[f0]at hf0 hr0
 rw[f1]at hf1 hr1
 obtain ⟨L,hL⟩:=least_exists hf0
 have hr:(zF n).r=n+3:=by show ((n:Int)+3).toNat=n+3;omega
 have hA:AllocP (zF n) L (zA n wd) 8:=by
  refine ⟨hL.cl,by rw[zA_len,hr],fun v hv=>by rw[zA_get wd (by omega)];exact zV_ok wd (by omega),fun u hu v hv hne _ _=>by rw[zA_get wd (by omega),zA_get wd (by omega)];exact zV_ne wd hne,fun b hb i hi hs v hv _ hne=>?_,fun b hb i hi ho v hv _=>?_⟩
  ·rw[zA_get wd (by omega)]
   have hd:=((hf0.ins _ (BF.mem hb) _ (mem_getD hi)).2 hs)
   have hd2:(((zF n).bk b).ins.getD i default).d<(n:Int)+3:=hd.2
   rw[zA_get wd (by omega)]
   exact zV_ne wd hne
  ·exact absurd ho (zF_nocall _ (BF.mem hb) _ (mem_getD hi))
 have hL1:Least (zG k) zLd:=by
  refine ⟨(checkB_iff hf1 zLd).1 h4,fun I O h b hb v hv=>?_⟩
  have hb':b=0:=by have:(zG k).n=1:=rfl;omega
  have hv':v=0:=by have:(zG k).r=1:=rfl;omega
  subst hb';subst hv'
  exact ⟨fun e=>absurd e (by decide),fun e=>absurd e (by decide)⟩
 have hA1:AllocP (zG k) zLd [1] 8:=(allocB_iff hf1 zLd [1] 8).1 h5
 have hhold:HoldP (zP n k) [zA n wd,[1]]:=by
  refine ⟨rfl,fun i hi=>?_⟩
  rw[hl]at hi
  have:i=0∨i=1:=by omega
  rcases this with rfl | rfl
  ·exact ⟨L,hL,hA⟩
  ·exact ⟨zLd,hL1,hA1⟩
 refine ⟨hfew,hhold,⟨fun i=>if i=0 then L.inn.getD 0 default else [false],⟨hfew,hhold,by cases wd<;>assumption⟩,fun f hf b hb t ht=>?_,fun i hi=>?_,fun pl hp=>?_⟩,h1,h2,h3⟩
 ·have z:In32 0:=⟨by omega,by omega⟩
  rcases List.mem_cons.1 hf with rfl | hf
  ·rcases List.mem_cons.1 hb with rfl | hb
   ·rcases List.mem_append.1 (show t ∈ zI n++zAg n from ht) with ht | ht
    ·rcases List.mem_append.1 (show t ∈ (List.range n).map zPut++(List.range n).map zCon from ht) with ht | ht
     ·obtain ⟨v,_,rfl⟩:=List.mem_map.1 ht;exact z
     ·obtain ⟨v,_,rfl⟩:=List.mem_map.1 ht;exact ⟨by simp[zCon],by simp[zCon]⟩
    ·simp only[zAg,List.mem_cons,List.not_mem_nil,or_false]at ht
     rcases ht with rfl | rfl | rfl | rfl
     ·exact z
     ·exact ⟨by simp,by simp⟩
     ·exact z
     ·exact z
   ·rw[List.mem_singleton.1 hb]at ht;cases ht
  ·rw[List.mem_singleton.1 hf]at hb
   rw[List.mem_singleton.1 hb]at ht
   obtain ⟨_,_,ht⟩:=List.mem_flatMap.1 (show t ∈ zM k from ht)
   simp only[zT,List.mem_cons,List.not_mem_nil,or_false]at ht
   rcases ht with rfl | rfl | rfl<;>exact z
 ·rw[hl]at hi
  have:i=0∨i=1:=by omega
  rcases this with rfl | rfl
  ·exact ⟨L,hL,rfl⟩
  ·exact ⟨zLd,hL1,rfl⟩
 ·rcases List.mem_cons.1 hp with rfl | hp
  ·rw[zA_len];omega
  ·rw[List.mem_singleton.1 hp];simp
theorem holdT_c (b:BP) (ls:List (List Int)) (hw:FewP b) (hH:HoldP b ls) (hl:∀ pl ∈ ls,pl.length≤140737488355328) (hls:ls.length≤20) :
 Contract Try.prog 20 [bpA b,alsA ls] (fun r=>r=B true):=by
 refine Contract.of_call (VCall.of_body hmix f_scref29_Hold (by simp) ?_)
 have h20:=hw.l
 have h1:(ls.length:Int)=b.funcs.length:=by have:=hH.len;omega
 simp only[go_sem,c_scref29_Hold,h1]
 refine VW_loop (fun k:Nat=>⟨[(1,alsA ls),(2,.ptr 0 0 0),(5,I k)],[⟨0,24,1,[I b.words,.imm 2 (b.funcs.map bfA)]⟩],1⟩)
  (fun k=>k≤ls.length) (fun k=>ls.length-k) 0
  (Wk.mk (by simp[get_cons]) ⟨[],rfl⟩ (Nat.le_refl _)) (Nat.zero_le _) ?_
 intro k hk
 by_cases hlt:k<ls.length
 ·obtain ⟨hf,hr,ho⟩:=hw.fine (i:=k) (by omega)
  obtain ⟨L,hL,hA⟩:=hH.al k (by omega)
  have hpl:=hl _ (mem_getD hlt)
  simp only[go_sem,h1,eq_true (show (k:Int)<b.funcs.length by omega)]
  repeat ((with_reducible refine And.intro ?_ ?_);· first | omega | (simp;omega))
  refine ECall.of (rof_c _ hf L hL) (SleL.pure rfl) ⟨_,fun _=>Iff.rfl⟩ fun x hx=>?_
  subst hx
  simp only[go_sem]
  repeat ((with_reducible refine And.intro ?_ ?_);· first | omega | (simp;omega))
  refine ECall.of (rcheck28_c _ L _ 8 hf (hL.cl.sz.ok hf) hpl) (SleL.pure rfl) ⟨_,fun _=>Iff.rfl⟩ fun x hx=>?_
  subst hx
  rw[(allocB_iff hf L _ 8).2 hA]
  simp only[go_sem]
  rw[i64_in (n:=(k:Int)+1) (by omega) (by omega)]
  exact ⟨k+1,by omega,by omega,Wk.mk (by simp[get_cons]) ⟨[],rfl⟩ (Nat.le_refl _)⟩
 ·obtain rfl:k=ls.length:=by omega
  simp only[go_sem,h1,eq_false (show ¬ (b.funcs.length:Int)<b.funcs.length by omega)]
  exact ⟨_,Frz.pure rfl,rfl⟩
set_option maxRecDepth 10000
open Go.V Go.ChangeShapes Go.WideShapes Go.ChangeAt Go.RowKit
abbrev tcs (l:List Tac):List AV:=(l.map tacL).flatten
theorem tcs_len (l:List Tac):(tcs l).length=l.length*8:=sz_flat tacL 8 (fun _=>rfl) l
theorem tcs_app (a b:List Tac):tcs (a++b)=tcs a++tcs b:=by simp[tcs]
theorem tcs_all:∀ l:List Tac,allCells (l.map tacA)=tcs l
 | []=>rfl
 | x::l=>by
  have h:=tcs_all l
  show tacL x++allCells (l.map tacA)=tacL x++tcs l
  rw[h]
theorem tcs_laid (l:List Tac):∀ y ∈ l.map tacA,y.laid=true:=fun y hy=>by
 obtain ⟨x,_,rfl⟩:=List.mem_map.1 hy;rfl
theorem str_push (l:List UInt8) (x:UInt8):(⟨l.toArray⟩:ByteArray)++⟨#[x]⟩=⟨(l++[x]).toArray⟩:=by
 apply ByteArray.ext
 simp
def zQ (n v:Nat):List UInt8:=(List.range v).map fun j=>if j<n then 0 else 7
theorem zQ_succ (n v:Nat):zQ n (v+1)=zQ n v++[if v<n then 0 else 7]:=by simp[zQ,List.range_succ]
theorem zQ_len (n v:Nat):(zQ n v).length=v:=by simp[zQ]
theorem zQ_full (n:Nat):zQ n (2*n)=List.replicate n 0++List.replicate n 7:=by
 refine List.ext_getElem (by simp[zQ];omega) fun i h1 h2=>?_
 simp only[zQ,List.getElem_map,List.getElem_range]
 by_cases h:i<n
 ·rw[if_pos h,List.getElem_append_left (by simpa using h)];simp
 ·rw[if_neg h,List.getElem_append_right (by simpa using h)];simp
theorem zW_succ (n k:Nat):zW n (k+1)=zW n k++(List.replicate n 0++List.replicate n 7):=by simp[zW,List.range_succ]
theorem zW_len (n k:Nat):(zW n k).length=k*(2*n):=by
 induction k with
 | zero=>simp[zW]
 | succ k ih=>rw[zW_succ,List.length_append,ih,Nat.add_one_mul k (2*n),List.length_append,List.length_replicate,List.length_replicate];omega
theorem zM_succ (k:Nat):zM (k+1)=zM k++zT:=by simp[zM,List.range_succ]
theorem zM_len (k:Nat):(zM k).length=3*k:=by
 induction k with
 | zero=>rfl
 | succ k ih=>rw[zM_succ,List.length_append,ih];simp[zT];omega
theorem zI_len (n:Nat):(zI n).length=2*n:=by simp[zI];omega
theorem zA_succ (wd:Bool) (v:Nat):(List.range (v+1)).map (zV wd)=(List.range v).map (zV wd)++[zV wd v]:=by simp[List.range_succ]
theorem zeros_C {n k nx:Nat} {wd:Bool} (hn:1≤n∧n≤8) (hk:1≤k∧k≤5) :
 VWs Try.prog (tailC 15 c_sclaw29_ChooseZeros) (retQ Try.prog [.tmp 6] fun r H nx=>∃ y,Frz 0 H nx r y∧y=B true) ⟨[(10,strv ⟨(zW n k).toArray⟩),(18,.ip (bpA (zP n k))),(22,alsA [zA n wd,[1]])],[],nx⟩:=by
 have hz:=z_all wd hn hk
 obtain ⟨rw,h⟩:=hz.of
 have hw:=h.f.words
 have hfo:=fnsOk h
 have hb1:(zP n k).funcs.length=2:=rfl
 have hbk:∀ f ∈ (zP n k).funcs,f.bks.length≤140737488355328∧∀ b ∈ f.bks,b.ins.length≤140737488355328:=fun f hf=>by
  obtain ⟨i,hi,rfl⟩:=List.getElem_of_mem hf
  have h1:=(hz.few.fine hi).1
  rw[show (zP n k).funcs.getD i default=(zP n k).funcs[i] by simp[List.getD,hi]]at h1
  exact ⟨by have:=h1.b1;omega,fun b hb=>by have:=h1.len b hb;omega⟩
 have hpl:∀ pl ∈ [zA n wd,[1]],pl.length≤140737488355328:=h.p
 have ht:=h.f.tot 2 (Nat.le_refl _)
 rw[show List.take 2 [zA n wd,[1]]=[zA n wd,[1]] from rfl]at ht
 have hwd:=h.f.wds
 have k0:=holdT_c (zP n k) [zA n wd,[1]] hz.few hz.hold hpl (by simp)
 have k1:=of29_c h
 unfold ofA at k1
 have k2:=rright_c (zP n k) (by omega) (fun f hf=>(hbk f hf).1) (fun f hf=>(hbk f hf).2)
 rw[hz.right]at k2
 have k3:=run24_c (zP n k) ⟨#[]⟩ 4000 (by simp[zP]) ⟨hw.1,by omega⟩ hfo (by omega) ⟨by decide,by decide⟩ (by decide)
 have e4:(4000:Int).toNat=4000:=rfl
 rw[e4]at k3
 have hst:(resB (zP n k) ⟨#[]⟩ 4000).st≤4000:=by
  have hcp:=funF_wf (inp:=⟨#[]⟩) (fuel:=4000) hfo (zP n k).funcs.length (Nat.le_refl _)
  exact (hcp ((zP n k).funcs.length-1) (by omega) (begB (zP n k)) ⟨by simp[begB],fun x hx=>by rw[(List.mem_replicate.1 hx).2];exact ⟨by omega,by omega⟩,by simp[begB],Nat.zero_le _,Nat.zero_le _⟩ rfl).1.s
 have hen:=hz.en
 have hout:=hz.out
 obtain ⟨s6,k6⟩:=run29_c h (inp:=⟨#[]⟩) (by decide) (fuel:=4000) (by decide) (by rw[hen];decide)
 have k5:=fuel29_c (zP n k) [zA n wd,[1]] (resB (zP n k) ⟨#[]⟩ 4000).st ⟨hw.1,by omega⟩ hpl (by simp) h.f.hold.wds ⟨by omega,by omega⟩ ⟨by omega,by omega⟩
 rw[hen,hout]at k3 k6
 generalize codeO (zP n k) [zA n wd,[1]] rw=code at *
 generalize dataO (zP n k) [zA n wd,[1]]=data at *
 generalize resB (zP n k) ⟨#[]⟩ 4000=ρ at *
 generalize totW [zA n wd,[1]]=tw at *
 generalize [zA n wd,[1]]=ls at *
 have eb:bpA (zP n k)=AV.agg [I 1,.imm 2 ((zP n k).funcs.map bfA)]:=rfl
 have ew:(zP n k).words=1:=rfl
 rw[ew]at k5 k6
 rw[eb]at k0 k1 k2 k3 k5 ⊢
 generalize (zP n k).funcs.map bfA=fs at *
 simp only[go_sem,VWs_seq,VWs_ret,VWs_ops,VWs_cond,Int.reduceEq,Int.reduceBEq,tailC,c_sclaw29_ChooseZeros]
 refine VCall.of_contract (k2) (SleL.pure rfl) fun x hx=>?_
 subst hx
 simp only[go_sem,VWs_seq,VWs_ret,VWs_ops,VWs_cond,Int.reduceEq,Int.reduceBEq]
 refine VCall.of_contract (k0) (SleL.pure rfl) fun x hx=>?_
 subst hx
 simp only[go_sem,VWs_seq,VWs_ret,VWs_ops,VWs_cond,Int.reduceEq,Int.reduceBEq]
 refine ⟨_,Wk.refl _,?_⟩
 simp only[go_sem,VWs_seq,VWs_ret,VWs_ops,VWs_cond,Int.reduceEq,Int.reduceBEq]
 refine VCall.of_contract (k1) (SleL.pure rfl) fun x hx=>?_
 subst hx
 simp only[go_sem,VWs_seq,VWs_ret,VWs_ops,VWs_cond,Int.reduceEq,Int.reduceBEq]
 refine ⟨_,Wk.refl _,?_⟩
 simp only[go_sem,VWs_seq,VWs_ret,VWs_ops,VWs_cond,Int.reduceEq,Int.reduceBEq]
 refine VCall.of_contract (k3) (SleL.pure rfl) fun x hx=>?_
 subst hx
 simp only[go_sem,VWs_seq,VWs_ret,VWs_ops,VWs_cond,Int.reduceEq,Int.reduceBEq]
 refine ⟨_,Wk.refl _,?_⟩
 simp only[go_sem,VWs_seq,VWs_ret,VWs_ops,VWs_cond,Int.reduceEq,Int.reduceBEq]
 refine ECall.of (k5) (SleL.pure rfl) ⟨_,fun _=>Iff.rfl⟩ fun x hx=>?_
 subst hx
 simp only[go_sem,VWs_seq,VWs_ret,VWs_ops,VWs_cond,Int.reduceEq,Int.reduceBEq]
 refine ECall.of (k6) (SleL.pure rfl) ⟨_,fun _=>Iff.rfl⟩ fun x hx=>?_
 subst hx
 simp only[go_sem,VWs_seq,VWs_ret,VWs_ops,VWs_cond,Int.reduceEq,Int.reduceBEq]
 refine ECall.of (ends_same _ _ _ _) (SleL.pure rfl) ⟨_,fun _=>Iff.rfl⟩ fun x hx=>?_
 subst hx
 simp only[go_sem,VWs_seq,VWs_ret,VWs_ops,VWs_cond,Int.reduceEq,Int.reduceBEq]
 refine ⟨_,Wk.refl _,?_⟩
 simp only[go_sem,VWs_seq,VWs_ret,VWs_ops,VWs_cond,Int.reduceEq,Int.reduceBEq]
 exact ⟨_,Frz.pure rfl,rfl⟩
structure ZQ where
 k:Nat
 s:Nat
 nx:Nat
def zAv (wd:Bool) (v:Nat):List Int:=(List.range v).map (zV wd)
theorem zAv_len (wd:Bool) (v:Nat):(zAv wd v).length=v:=by simp[zAv]
theorem zAv_succ (wd:Bool) (v:Nat):zAv wd (v+1)=zAv wd v++[zV wd v]:=zA_succ wd v
set_option maxHeartbeats 1000000 in
theorem zeros_B2 {n k nx:Nat} {wd:Bool} (hn:1≤n∧n≤8) (hk:1≤k∧k≤5) :
 VWs Try.prog (tailC 12 c_sclaw29_ChooseZeros) (retQ Try.prog [.tmp 6] fun r H nx=>∃ y,Frz 0 H nx r y∧y=B true) ⟨[(2,B wd),(7,I n),(10,strv ⟨(zW n k).toArray⟩),(18,.ip (bpA (zP n k)))],[],nx⟩:=by
 have hmx:(2000000:Nat)≤maxLen:=by decide
 have hfin:=fun nx=>zeros_C (nx:=nx) (wd:=wd) hn hk
 simp only[tailC,c_sclaw29_ChooseZeros]at hfin
 generalize (⟨(zW n k).toArray⟩:ByteArray)=S at *
 generalize bpA (zP n k)=P at *
 simp only[go_sem,VWs_seq,VWs_ret,VWs_ops,VWs_cond,Int.reduceEq,Int.reduceBEq,tailC,c_sclaw29_ChooseZeros]
 refine ⟨⟨[(2,B wd),(7,I n),(10,strv S),(18,.ip P),(19,.ptr 0 nx 0)],[⟨nx,55,1,[nilv]⟩],nx+1⟩,Wk.mk (by simp[get_cons]) ⟨[],by simp⟩ (Nat.le_refl _),?_⟩
 simp only[go_sem,VWs_seq,VWs_ret,VWs_ops,VWs_cond,Int.reduceEq,Int.reduceBEq]
 refine VW_loop (fun q:ZQ=>⟨[(2,B wd),(7,I n),(10,strv S),(18,.ip P),(19,.ptr 0 nx 0),(20,I q.k)],[⟨nx,55,1,[.ref 1 q.s 0 q.k]⟩,⟨q.s,3,1,(zAv wd q.k).map I⟩],q.nx⟩) (fun q=>q.k≤n+3) (fun q=>n+3-q.k) ⟨0,nx+1,nx+1+1⟩ ?_ (Nat.zero_le _) ?_
 ·have w:=virt_at (env:=[(2,B wd),(7,I n),(10,strv S),(18,.ip P),(19,.ptr 0 nx 0),(20,I ((0:Nat):Int))]) (H:=[⟨nx,55,1,[nilv]⟩]) (nx:=nx+1) (i:=0) (ob:=⟨nx,55,1,[nilv]⟩) (cs':=[.ref 1 (nx+1) 0 0]) 3 1 (by decide) (by simp[get_cons]) rfl (by simp) rfl (fun j a c ha hc=>by
   match j with
   | 0=>simp at ha hc;subst ha;subst hc;exact .inr ⟨rfl,by simp⟩
   | j+1=>simp at ha)
  refine Wk.trans ?_ w
  exact Wk.mk (by simp[get_cons]) ⟨[],by simp⟩ (Nat.le_refl _)
 rintro ⟨v,s3,nx3⟩ hv
 simp only at hv
 have u3:IntKind.i64.wrap ((n:Int)+3)=(n:Int)+3:=i64_in (by omega) (by omega)
 by_cases hlt:v<n+3
 ·have hvn:(v:Int)<(n:Int)+3:=by omega
  have u1:IntKind.i64.wrap ((v:Int)+1)=(v:Int)+1:=i64_in (by omega) (by omega)
  have u2:IntKind.i64.wrap (-1-(v:Int)) = -1-(v:Int):=i64_in (by omega) (by omega)
  have u4:(v:Int)+1=((v+1:Nat):Int):=by omega
  have htk:List.take v ((zAv wd v).map I)=(zAv wd v).map I:=List.take_of_length_le (by rw[List.length_map,zAv_len];exact Nat.le_refl _)
  have hcl:(zAv wd v).map I++[I (zV wd v)]=(zAv wd (v+1)).map I:=by rw[zAv_succ,List.map_append];rfl
  cases wd
  ·by_cases h8:(8:Int)<(v:Int)+1
   ·have hz:zV false v = -1-(v:Int):=by unfold zV;rw[if_pos (.inr (by omega))]
    rw[hz]at hcl
    simp only[go_sem,VWs_seq,VWs_ret,VWs_ops,VWs_cond,Int.reduceEq,Int.reduceBEq,u1,u2,u3,eq_true hvn,gt_iff_lt,eq_true h8,htk]
    repeat ((with_reducible refine And.intro ?_ ?_);· first | omega | (simp;done) | (simp;omega))
    try rw[hcl]
    exact ⟨⟨v+1,_,_⟩,by simp only;omega,by simp only;omega,Wk.mk (by simp[get_cons]) ⟨[_],rfl⟩ (Nat.le_refl _)⟩
   ·have hz:zV false v=(v:Int)+1:=by unfold zV;rw[if_neg (by simp;omega)]
    rw[hz]at hcl
    simp only[go_sem,VWs_seq,VWs_ret,VWs_ops,VWs_cond,Int.reduceEq,Int.reduceBEq,u1,u2,u3,eq_true hvn,gt_iff_lt,eq_false h8,htk]
    repeat ((with_reducible refine And.intro ?_ ?_);· first | omega | (simp;done) | (simp;omega))
    try rw[hcl]
    exact ⟨⟨v+1,_,_⟩,by simp only;omega,by simp only;omega,Wk.mk (by simp[get_cons]) ⟨[_],rfl⟩ (Nat.le_refl _)⟩
  ·have hz:zV true v = -1-(v:Int):=by unfold zV;rw[if_pos (.inl rfl)]
   rw[hz]at hcl
   simp only[go_sem,VWs_seq,VWs_ret,VWs_ops,VWs_cond,Int.reduceEq,Int.reduceBEq,u1,u2,u3,eq_true hvn,gt_iff_lt,htk]
   repeat ((with_reducible refine And.intro ?_ ?_);· first | omega | (simp;done) | (simp;omega))
   try rw[hcl]
   exact ⟨⟨v+1,_,_⟩,by simp only;omega,by simp only;omega,Wk.mk (by simp[get_cons]) ⟨[_],rfl⟩ (Nat.le_refl _)⟩
 obtain rfl:v=n+3:=by omega
 simp only[go_sem,VWs_seq,VWs_ret,VWs_ops,VWs_cond,Int.reduceEq,Int.reduceBEq,u3,eq_false (show ¬ ((n+3:Nat):Int)<(n:Int)+3 by omega)]
 refine ⟨_,Wk.refl _,?_⟩
 simp only[go_sem,VWs_seq,VWs_ret,VWs_ops,VWs_cond,Int.reduceEq,Int.reduceBEq]
 repeat ((with_reducible refine And.intro ?_ ?_);· first | omega | (simp;done) | (simp;omega))
 refine ⟨_,?_,hfin (nx3+1+1)⟩
 refine Wk.give (fun p hp=>?_) trivial (Nat.le_refl _)
 simp only[List.mem_cons,List.not_mem_nil,or_false]at hp
 rcases hp with rfl | rfl | rfl
 ·exact .inl (by simp[get_cons])
 ·exact .inl (by simp[get_cons])
 ·refine .inr ?_
  have h1:Frz 0 [⟨nx,55,1,[.ref 1 s3 0 (n+3)]⟩,⟨s3,3,1,(zAv wd (n+3)).map I⟩,⟨nx3,3,1,[I 1]⟩,⟨nx3+1,55,1,[.ref 1 s3 0 (n+3),.ref 2 nx3 0 1]⟩] (nx3+1+1) (.ref 3 (nx3+1) 0 2) (.imm 1 (([[ints (zAv wd (n+3))],[ints [1]]]:List (List AV)).map .agg)) :=
   Frz.refT (Nat.zero_le _) rfl rfl rfl (yss:=[[.ref 1 s3 0 (n+3)],[.ref 2 nx3 0 1]]) rfl (fun l hl=>by
    simp only[List.mem_cons,List.not_mem_nil,or_false]at hl
    rcases hl with rfl | rfl<;>rfl) rfl
    ⟨_,_,rfl,⟨_,_,rfl,frz_ints (Nat.zero_le _) rfl (zAv_len wd (n+3)).symm,rfl⟩,_,_,rfl,⟨_,_,rfl,frz_ints (l:=[1]) (Nat.zero_le _) rfl rfl,rfl⟩,rfl⟩
  exact h1
theorem zB_app (l:List UInt8) (x:UInt8):((⟨l.toArray⟩:ByteArray)++⟨#[x]⟩)=⟨(l++[x]).toArray⟩:=str_push l x
set_option maxHeartbeats 1000000 in
theorem zeros_B1 {n k nx:Nat} {wd:Bool} (hn:1≤n∧n≤8) (hk:1≤k∧k≤5) :
 VWs Try.prog (tailC 9 c_sclaw29_ChooseZeros) (retQ Try.prog [.tmp 6] fun r H nx=>∃ y,Frz 0 H nx r y∧y=B true) ⟨[(2,B wd),(7,I n),(8,I k),(10,strv ⟨#[]⟩),(14,.ip (bfA (zF n)))],[],nx⟩:=by
 have hmx:(2000000:Nat)≤maxLen:=by decide
 have hfin:=fun nx=>zeros_B2 (nx:=nx) (wd:=wd) hn hk
 simp only[tailC,c_sclaw29_ChooseZeros]at hfin
 have ef:bfA (zF n) = .agg [I ((n:Int)+3),AV.imm 5 ((zF n).bks.map bkA)]:=rfl
 have eb:bpA (zP n k) = .agg [I 1,.imm 2 ([[I ((n:Int)+3),AV.imm 5 ((zF n).bks.map bkA)],[I 1,bksA (zG k).bks]].map .agg)]:=rfl
 rw[eb]at hfin
 rw[ef]
 have hQ:(AV.imm 5 ((zF n).bks.map bkA)).pure=true:=rfl
 generalize (zF n).bks.map bkA=Q at *
 simp only[go_sem,VWs_seq,VWs_ret,VWs_ops,VWs_cond,Int.reduceEq,Int.reduceBEq,tailC,c_sclaw29_ChooseZeros]
 refine ⟨⟨[(2,B wd),(7,I n),(8,I k),(10,strv ⟨#[]⟩),(14,.ip (.agg [I ((n:Int)+3),.imm 5 Q])),(15,nilv)],[],nx⟩,Wk.mk (by simp[get_cons]) ⟨[],by simp⟩ (Nat.le_refl _),?_⟩
 simp only[go_sem,VWs_seq,VWs_ret,VWs_ops,VWs_cond,Int.reduceEq,Int.reduceBEq]
 refine VW_loop (fun q:ZQ=>⟨[(2,B wd),(7,I n),(8,I k),(10,strv ⟨(zW n q.k).toArray⟩),(14,.ip (.agg [I ((n:Int)+3),.imm 5 Q])),(15,.ref 0 q.s 0 (3*q.k)),(16,I q.k)],[⟨q.s,47,8,tcs (zM q.k)⟩],q.nx⟩) (fun q=>q.k≤k) (fun q=>k-q.k) ⟨0,nx,nx+1⟩
  (Wk.virt 47 8 (by decide) (by simp[get_cons,zW]) ⟨[],by simp[tcs,zM],by simp,fun j ob' ho=>by simp at ho⟩ rfl) (Nat.zero_le _) ?_
 rintro ⟨i,s,nx1⟩ hi
 simp only at hi
 by_cases hlt:i<k
 ·have hik:(i:Int)<k:=by omega
  have htl:(tcs (zM i)).length=3*i*8:=by rw[tcs_len,zM_len]
  have htk:List.take (3*i*8) (tcs (zM i))=tcs (zM i):=List.take_of_length_le (Nat.le_of_eq htl)
  have u1:IntKind.i64.wrap ((i:Int)+1)=((i+1:Nat):Int):=by rw[i64_in (by omega) (by omega)];omega
  have hcl:tcs (zM i)++[I 1,I 0,I 0,I 0,I 0,I 0,I 0,U32 0,I 5,I 0,I 0,I 0,I 0,I 0,I 0,U32 0,I 10,I 0,I 0,I 0,I 0,I 0,I 0,U32 0]=tcs (zM (i+1)):=by rw[zM_succ,tcs_app];rfl
  have h3:3*i+3=3*(i+1):=by omega
  simp only[go_sem,VWs_seq,VWs_ret,VWs_ops,VWs_cond,Int.reduceEq,Int.reduceBEq,eq_true hik,htk,u1]
  repeat ((with_reducible refine And.intro ?_ ?_);· first | omega | (simp;done) | (simp;omega))
  try rw[hcl]
  refine VW_loop (fun q:ZQ=>⟨[(2,B wd),(7,I n),(8,I k),(10,strv ⟨(zW n i++zQ n q.k).toArray⟩),(14,.ip (.agg [I ((n:Int)+3),.imm 5 Q])),(15,.ref 0 (nx1+1) 0 (3*(i+1))),(16,I i),(17,I q.k)],[⟨nx1+1,47,8,tcs (zM (i+1))⟩],q.nx⟩) (fun q=>q.k≤2*n) (fun q=>2*n-q.k) ⟨0,0,nx1+1+1⟩
   (Wk.mk (by simp[get_cons,zQ,h3]) ⟨[_],rfl⟩ (Nat.le_refl _)) (Nat.zero_le _) ?_
  rintro ⟨v,s9,nx2⟩ hv
  simp only at hv
  have u2:IntKind.i64.wrap (2*(n:Int))=2*(n:Int):=i64_in (by omega) (by omega)
  by_cases hvl:v<2*n
  ·have hv2:(v:Int)<2*(n:Int):=by omega
   have u3:IntKind.i64.wrap ((v:Int)+1)=((v+1:Nat):Int):=by rw[i64_in (by omega) (by omega)];omega
   have hsz:(ByteArray.mk (zW n i++zQ n v).toArray).size+(ByteArray.mk #[0]).size≤maxLen:=by
    show (zW n i++zQ n v).toArray.size+1≤maxLen
    have h5:i*(2*n)≤5*16:=Nat.mul_le_mul (by omega) (by omega)
    rw[List.size_toArray,List.length_append,zW_len,zQ_len];omega
   have hsz7:(ByteArray.mk (zW n i++zQ n v).toArray).size+(ByteArray.mk #[7]).size≤maxLen:=hsz
   by_cases hvn:v<n
   ·have e:zW n i++zQ n v++[0]=zW n i++zQ n (v+1):=by rw[zQ_succ,if_pos hvn,List.append_assoc]
    simp only[go_sem,VWs_seq,VWs_ret,VWs_ops,VWs_cond,Int.reduceEq,Int.reduceBEq,u2,u3,eq_true hv2,eq_true (show (v:Int)<n by omega),zB_app,e]
    refine ⟨hsz,?_⟩
    exact ⟨⟨v+1,0,_⟩,by simp only;omega,by simp only;omega,Wk.mk (by simp[get_cons]) ⟨[],rfl⟩ (Nat.le_refl _)⟩
   ·have e:zW n i++zQ n v++[7]=zW n i++zQ n (v+1):=by rw[zQ_succ,if_neg hvn,List.append_assoc]
    simp only[go_sem,VWs_seq,VWs_ret,VWs_ops,VWs_cond,Int.reduceEq,Int.reduceBEq,u2,u3,eq_true hv2,eq_false (show ¬ (v:Int)<n by omega),zB_app,e]
    refine ⟨hsz7,?_⟩
    exact ⟨⟨v+1,0,_⟩,by simp only;omega,by simp only;omega,Wk.mk (by simp[get_cons]) ⟨[],rfl⟩ (Nat.le_refl _)⟩
  obtain rfl:v=2*n:=by omega
  have e:zW n i++zQ n (2*n)=zW n (i+1):=by rw[zQ_full,zW_succ]
  simp only[go_sem,VWs_seq,VWs_ret,VWs_ops,VWs_cond,Int.reduceEq,Int.reduceBEq,u1,u2,e,eq_false (show ¬ ((2*n:Nat):Int)<2*(n:Int) by omega)]
  exact ⟨⟨i+1,_,_⟩,by simp only;omega,by simp only;omega,Wk.mk (by simp[get_cons]) ⟨[],rfl⟩ (Nat.le_refl _)⟩
 obtain rfl:i=k:=by omega
 simp only[go_sem,VWs_seq,VWs_ret,VWs_ops,VWs_cond,Int.reduceEq,Int.reduceBEq,eq_false (show ¬ (i:Int)<i by omega)]
 refine ⟨_,Wk.refl _,?_⟩
 simp only[go_sem,VWs_seq,VWs_ret,VWs_ops,VWs_cond,Int.reduceEq,Int.reduceBEq]
 repeat ((with_reducible refine And.intro ?_ ?_);· first | omega | (simp;done) | (simp;omega))
 refine ⟨_,?_,hfin (nx1+1+1+1)⟩
 refine Wk.give (fun p hp=>?_) trivial (Nat.le_refl _)
 simp only[List.mem_cons,List.not_mem_nil,or_false]at hp
 rcases hp with rfl | rfl | rfl | rfl
 ·exact .inl (by simp[get_cons])
 ·exact .inl (by simp[get_cons])
 ·exact .inl (by simp[get_cons])
 ·refine .inr ?_
  have h0:Frz 0 [⟨s,47,8,tcs (zM i)⟩,⟨nx1,49,5,[.ref 0 s 0 (3*i),I 3,I 0,I 0,I 0]⟩,⟨nx1+1,52,2,[I ((n:Int)+3),.imm 5 Q,I 1,.ref 1 nx1 0 1]⟩,⟨nx1+1+1,24,1,[I 1,.ref 2 (nx1+1) 0 2]⟩] (nx1+1+1+1) (.ref 0 s 0 (3*i)) (inA (zM i)):=frz_tcs (zM i) (Nat.zero_le _) rfl (zM_len i).symm
  have h1:Frz 0 [⟨s,47,8,tcs (zM i)⟩,⟨nx1,49,5,[.ref 0 s 0 (3*i),I 3,I 0,I 0,I 0]⟩,⟨nx1+1,52,2,[I ((n:Int)+3),.imm 5 Q,I 1,.ref 1 nx1 0 1]⟩,⟨nx1+1+1,24,1,[I 1,.ref 2 (nx1+1) 0 2]⟩] (nx1+1+1+1) (.ref 1 nx1 0 1) (.imm 5 (([[inA (zM i),I 3,I 0,I 0,I 0]]:List (List AV)).map .agg)) :=
   Frz.refT (Nat.zero_le _) rfl rfl rfl (yss:=[[.ref 0 s 0 (3*i),I 3,I 0,I 0,I 0]]) rfl (fun l hl=>by rw[List.mem_singleton.1 hl];rfl) rfl
    ⟨_,_,rfl,⟨_,_,rfl,h0,_,_,rfl,Frz.pure rfl,_,_,rfl,Frz.pure rfl,_,_,rfl,Frz.pure rfl,_,_,rfl,Frz.pure rfl,rfl⟩,rfl⟩
  have h2:Frz 0 [⟨s,47,8,tcs (zM i)⟩,⟨nx1,49,5,[.ref 0 s 0 (3*i),I 3,I 0,I 0,I 0]⟩,⟨nx1+1,52,2,[I ((n:Int)+3),.imm 5 Q,I 1,.ref 1 nx1 0 1]⟩,⟨nx1+1+1,24,1,[I 1,.ref 2 (nx1+1) 0 2]⟩] (nx1+1+1+1) (.ref 2 (nx1+1) 0 2) (.imm 2 (([[I ((n:Int)+3),.imm 5 Q],[I 1,bksA (zG i).bks]]:List (List AV)).map .agg)) :=
   Frz.refT (Nat.zero_le _) rfl rfl rfl (yss:=[[I ((n:Int)+3),.imm 5 Q],[I 1,.ref 1 nx1 0 1]]) rfl (fun l hl=>by
    simp only[List.mem_cons,List.not_mem_nil,or_false]at hl
    rcases hl with rfl | rfl<;>rfl) rfl
    ⟨_,_,rfl,⟨_,_,rfl,Frz.pure rfl,_,_,rfl,Frz.pure hQ,rfl⟩,_,_,rfl,⟨_,_,rfl,Frz.pure rfl,_,_,rfl,h1,rfl⟩,rfl⟩
  exact Frz.ptr (Nat.zero_le _) rfl rfl (Nat.succ_ne_zero 0) ⟨_,_,rfl,Frz.pure rfl,_,_,rfl,h2,rfl⟩
def zPs (v:Nat):List Tac:=(List.range v).map zPut
def zCs (v:Nat):List Tac:=(List.range v).map zCon
theorem zPs_len (v:Nat):(zPs v).length=v:=by simp[zPs]
theorem zCs_len (v:Nat):(zCs v).length=v:=by simp[zCs]
theorem zPs_succ (v:Nat):zPs (v+1)=zPs v++[zPut v]:=by simp[zPs,List.range_succ]
theorem zCs_succ (v:Nat):zCs (v+1)=zCs v++[zCon v]:=by simp[zCs,List.range_succ]
theorem zAg_len (n:Nat):(zAg n).length=4:=rfl
set_option maxHeartbeats 2000000 in
theorem zeros_c (sz w:Int) (wd:Bool) (hs:0≤sz∧sz≤255) (hw:0≤w∧w≤255):Contract Try.prog 5 [.val (.int .u8 sz),.val (.int .u8 w),B wd] (fun r=>r=B true):=by
 have hqq:=f_sclaw29_ChooseZeros
 unfold compF compFp at hqq
 have hmx:(2000000:Nat)≤maxLen:=by decide
 refine Contract.of_call (VCall.of_bodyS (pt:=false) (pf:=false) hmix hqq (by simp) ?_)
 simp only[go_sem,VWs_seq,VWs_ret,VWs_ops,VWs_cond,Int.reduceEq,Int.reduceBEq,c_sclaw29_ChooseZeros]
 refine ⟨_,Wk.refl _,?_⟩
 simp only[go_sem,VWs_seq,VWs_ret,VWs_ops,VWs_cond,Int.reduceEq,Int.reduceBEq]
 refine VCall.of_contract (alive_c) (SleL.pure rfl) fun x hx=>?_
 subst hx
 simp only[go_sem,VWs_seq,VWs_ret,VWs_ops,VWs_cond,Int.reduceEq,Int.reduceBEq]
 refine ⟨_,Wk.refl _,?_⟩
 have t1:sz.tmod 8=sz % 8:=Int.tmod_eq_emod_of_nonneg hs.1
 have t2:w.tmod 5=w % 5:=Int.tmod_eq_emod_of_nonneg hw.1
 have w1:IntKind.i64.wrap sz=sz:=i64_in (by omega) (by omega)
 have w2:IntKind.i64.wrap w=w:=i64_in (by omega) (by omega)
 obtain ⟨n,hn⟩:∃ n:Nat,1+sz % 8=(n:Int):=⟨(1+sz % 8).toNat,by omega⟩
 obtain ⟨k,hk⟩:∃ k:Nat,1+w % 5=(k:Int):=⟨(1+w % 5).toNat,by omega⟩
 have hn2:1≤n∧n≤8:=by omega
 have hk2:1≤k∧k≤5:=by omega
 have w5:IntKind.i64.wrap (1+sz % 8)=(n:Int):=by rw[hn];exact i64_in (by omega) (by omega)
 have w6:IntKind.i64.wrap (1+w % 5)=(k:Int):=by rw[hk];exact i64_in (by omega) (by omega)
 simp only[go_sem,VWs_seq,VWs_ret,VWs_ops,VWs_cond,Int.reduceEq,Int.reduceBEq,w1,t1,w2,t2,w5,w6]
 refine ⟨⟨[(2,B wd),(7,I n),(8,I k)],[],0⟩,Wk.mk (by simp[get_cons]) ⟨[],by simp⟩ (Nat.le_refl _),?_⟩
 simp only[go_sem,VWs_seq,VWs_ret,VWs_ops,VWs_cond,Int.reduceEq,Int.reduceBEq]
 refine ⟨⟨[(2,B wd),(7,I n),(8,I k),(9,nilv)],[],0⟩,Wk.mk (by simp[get_cons]) ⟨[],by simp⟩ (Nat.le_refl _),?_⟩
 simp only[go_sem,VWs_seq,VWs_ret,VWs_ops,VWs_cond,Int.reduceEq,Int.reduceBEq]
 refine ⟨⟨[(2,B wd),(7,I n),(8,I k),(9,nilv),(10,strv ⟨#[]⟩)],[],0⟩,Wk.mk (by simp[get_cons]) ⟨[],by simp⟩ (Nat.le_refl _),?_⟩
 simp only[go_sem,VWs_seq,VWs_ret,VWs_ops,VWs_cond,Int.reduceEq,Int.reduceBEq]
 refine VW_loop (fun q:ZQ=>⟨[(2,B wd),(7,I n),(8,I k),(9,.ref 0 q.s 0 q.k),(10,strv ⟨#[]⟩),(11,I q.k)],[⟨q.s,47,8,tcs (zPs q.k)⟩],q.nx⟩) (fun q=>q.k≤n) (fun q=>n-q.k) ⟨0,0,1⟩
  (Wk.virt 47 8 (by decide) (by simp[get_cons]) ⟨[],by simp[tcs,zPs],by simp,fun j ob' ho=>by simp at ho⟩ rfl) (Nat.zero_le _) ?_
 rintro ⟨v,s,nx⟩ hv
 simp only at hv
 by_cases hlt:v<n
 ·have hvn:(v:Int)<(n:Int):=by omega
  have htk:List.take (v*8) (tcs (zPs v))=tcs (zPs v):=List.take_of_length_le (by rw[tcs_len,zPs_len];exact Nat.le_refl _)
  have u1:IntKind.i64.wrap ((v:Int)+1)=((v+1:Nat):Int):=by rw[i64_in (by omega) (by omega)];omega
  have hcl:tcs (zPs v)++[I 9,I 0,I (v:Int),I 0,I 0,I 0,I 0,U32 0]=tcs (zPs (v+1)):=by rw[zPs_succ,tcs_app];rfl
  simp only[go_sem,VWs_seq,VWs_ret,VWs_ops,VWs_cond,Int.reduceEq,Int.reduceBEq,eq_true hvn,htk,u1]
  repeat ((with_reducible refine And.intro ?_ ?_);· first | omega | (simp;done) | (simp;omega))
  try rw[hcl]
  exact ⟨⟨v+1,_,_⟩,by simp only;omega,by simp only;omega,Wk.mk (by simp[get_cons]) ⟨[_],rfl⟩ (Nat.le_refl _)⟩
 obtain rfl:v=n:=by omega
 simp only[go_sem,VWs_seq,VWs_ret,VWs_ops,VWs_cond,Int.reduceEq,Int.reduceBEq,eq_false (show ¬ (v:Int)<v by omega)]
 refine ⟨_,Wk.refl _,?_⟩
 simp only[go_sem,VWs_seq,VWs_ret,VWs_ops,VWs_cond,Int.reduceEq,Int.reduceBEq]
 refine VW_loop (fun q:ZQ=>⟨[(2,B wd),(7,I v),(8,I k),(9,.ref 0 q.s 0 (v+q.k)),(10,strv ⟨#[]⟩),(12,I q.k)],[⟨q.s,47,8,tcs (zPs v++zCs q.k)⟩],q.nx⟩) (fun q=>q.k≤v) (fun q=>v-q.k) ⟨0,s,nx⟩
  (Wk.mk (by simp[get_cons]) ⟨[],by simp[zCs]⟩ (Nat.le_refl _)) (Nat.zero_le _) ?_
 rintro ⟨u,s2,nx2⟩ hu
 simp only at hu
 by_cases hlt:u<v
 ·have hvn:(u:Int)<(v:Int):=by omega
  have htk:List.take ((v+u)*8) (tcs (zPs v++zCs u))=tcs (zPs v++zCs u):=List.take_of_length_le (by rw[tcs_len,List.length_append,zPs_len,zCs_len];exact Nat.le_refl _)
  have u1:IntKind.i64.wrap ((u:Int)+1)=((u+1:Nat):Int):=by rw[i64_in (by omega) (by omega)];omega
  have hcl:tcs (zPs v++zCs u)++[I 1,I (u:Int),I 0,I 0,I 0,I 0,I 0,U32 7]=tcs (zPs v++zCs (u+1)):=by rw[zCs_succ,← List.append_assoc,tcs_app (zPs v++zCs u)];rfl
  simp only[go_sem,VWs_seq,VWs_ret,VWs_ops,VWs_cond,Int.reduceEq,Int.reduceBEq,eq_true hvn,htk,u1]
  repeat ((with_reducible refine And.intro ?_ ?_);· first | omega | (simp;done) | (simp;omega))
  try rw[hcl]
  exact ⟨⟨u+1,_,_⟩,by simp only;omega,by simp only;omega,Wk.mk (by simp[get_cons];try omega) ⟨[_],rfl⟩ (Nat.le_refl _)⟩
 obtain rfl:u=v:=by omega
 simp only[go_sem,VWs_seq,VWs_ret,VWs_ops,VWs_cond,Int.reduceEq,Int.reduceBEq,eq_false (show ¬ (u:Int)<u by omega)]
 have ez:zPs u++zCs u=zI u:=rfl
 rw[ez]
 refine ⟨⟨[(2,B wd),(7,I u),(8,I k),(9,inA (zI u)),(10,strv ⟨#[]⟩)],[],nx2⟩,Wk.give (fun p hp=>?_) trivial (Nat.le_refl _),?_⟩
 ·simp only[List.mem_cons,List.not_mem_nil,or_false]at hp
  rcases hp with rfl | rfl | rfl | rfl | rfl
  ·exact .inl (by simp[get_cons])
  ·exact .inl (by simp[get_cons])
  ·exact .inl (by simp[get_cons])
  ·exact .inr (frz_tcs (zI u) (Nat.zero_le _) rfl (by rw[zI_len];omega))
  ·exact .inl (by simp[get_cons])
 have u1:IntKind.i64.wrap ((u:Int)+1)=(u:Int)+1:=i64_in (by omega) (by omega)
 have u2:IntKind.i64.wrap ((u:Int)+2)=(u:Int)+2:=i64_in (by omega) (by omega)
 have u3:IntKind.i64.wrap ((u:Int)+3)=(u:Int)+3:=i64_in (by omega) (by omega)
 generalize hzI:zI u=zi at *
 simp only[go_sem,VWs_seq,VWs_ret,VWs_ops,VWs_cond,Int.reduceEq,Int.reduceBEq,u1,u2]
 repeat ((with_reducible refine And.intro ?_ ?_);· first | omega | (simp;done) | (simp;omega))
 refine ⟨⟨[(2,B wd),(7,I u),(8,I k),(9,inA zi),(10,strv ⟨#[]⟩),(13,inA (zAg u))],[],nx2+1⟩,Wk.give (fun p hp=>?_) trivial (Nat.le_refl _),?_⟩
 ·simp only[List.mem_cons,List.not_mem_nil,or_false]at hp
  rcases hp with rfl | rfl | rfl | rfl | rfl | rfl
  ·exact .inl (by simp[get_cons])
  ·exact .inl (by simp[get_cons])
  ·exact .inl (by simp[get_cons])
  ·exact .inl (by simp[get_cons])
  ·exact .inl (by simp[get_cons])
  ·exact .inr (frz_tcs (zAg u) (Nat.zero_le _) rfl rfl)
 have hla:∀ y ∈ (zAg u).map tacA,y.laid=true:=tcs_laid _
 have hli:∀ y ∈ zi.map tacA,y.laid=true:=tcs_laid _
 have hga:=zAg_len u
 have hgi:zi.length=2*u:=by rw[← hzI,zI_len]
 have hfb:bfA (zF u) = .agg [I ((u:Int)+3),.imm 5 (([[inA (zi++zAg u),I 2,I ((u:Int)+2),I 1,I 0],[.imm 8 [],I 3,I 0,I 0,I 0]]:List (List AV)).map .agg)]:=by rw[← hzI];rfl
 generalize hzA:zAg u=za at *
 have htk:List.take (2*u*8) (tcs zi)=tcs zi:=List.take_of_length_le (by rw[tcs_len,hgi];omega)
 simp only[go_sem,VWs_seq,VWs_ret,VWs_ops,VWs_cond,Int.reduceEq,Int.reduceBEq,u2,u3,tcs_all,hga,hgi,htk]
 refine ⟨hli,by omega,by omega,hla,by omega,by omega,?_⟩
 have hfin:=fun nx=>zeros_B1 (nx:=nx) (wd:=wd) hn2 hk2
 simp only[tailC,c_sclaw29_ChooseZeros]at hfin
 rw[hfb]at hfin
 refine ⟨_,?_,hfin (nx2+1+1+1+1+1+1)⟩
 refine Wk.give (fun p hp=>?_) trivial (Nat.le_refl _)
 simp only[List.mem_cons,List.not_mem_nil,or_false]at hp
 rcases hp with rfl | rfl | rfl | rfl | rfl
 ·exact .inl (by simp[get_cons])
 ·exact .inl (by simp[get_cons])
 ·exact .inl (by simp[get_cons])
 ·exact .inl (by simp[get_cons])
 ·refine .inr ?_
  have h0:Frz 0 [⟨nx2+1+1+1,47,8,tcs zi++tcs za⟩,⟨nx2+1+1+1+1,49,5,[.ref 0 (nx2+1+1+1) 0 (2*u+4),I 2,I ((u:Int)+2),I 1,I 0,nilv,I 3,I 0,I 0,I 0]⟩,⟨nx2+1+1+1+1+1,52,1,[I ((u:Int)+3),.ref 1 (nx2+1+1+1+1) 0 2]⟩] (nx2+1+1+1+1+1+1) (.ref 0 (nx2+1+1+1) 0 (2*u+4)) (inA (zi++za)):=frz_tcs (ty:=47) (zi++za) (Nat.zero_le _) (by rw[List.map_append,List.flatten_append];rfl) (by rw[List.length_append];omega)
  have h1:Frz 0 [⟨nx2+1+1+1,47,8,tcs zi++tcs za⟩,⟨nx2+1+1+1+1,49,5,[.ref 0 (nx2+1+1+1) 0 (2*u+4),I 2,I ((u:Int)+2),I 1,I 0,nilv,I 3,I 0,I 0,I 0]⟩,⟨nx2+1+1+1+1+1,52,1,[I ((u:Int)+3),.ref 1 (nx2+1+1+1+1) 0 2]⟩] (nx2+1+1+1+1+1+1) (.ref 1 (nx2+1+1+1+1) 0 2) (.imm 5 (([[inA (zi++za),I 2,I ((u:Int)+2),I 1,I 0],[.imm 8 [],I 3,I 0,I 0,I 0]]:List (List AV)).map .agg)) :=
   Frz.refT (Nat.zero_le _) rfl rfl rfl (yss:=[[.ref 0 (nx2+1+1+1) 0 (2*u+4),I 2,I ((u:Int)+2),I 1,I 0],[nilv,I 3,I 0,I 0,I 0]]) rfl (fun l hl=>by
    simp only[List.mem_cons,List.not_mem_nil,or_false]at hl
    rcases hl with rfl | rfl<;>rfl) rfl
    ⟨_,_,rfl,⟨_,_,rfl,h0,_,_,rfl,Frz.pure rfl,_,_,rfl,Frz.pure rfl,_,_,rfl,Frz.pure rfl,_,_,rfl,Frz.pure rfl,rfl⟩,_,_,rfl,⟨_,_,rfl,Frz.nil 8,_,_,rfl,Frz.pure rfl,_,_,rfl,Frz.pure rfl,_,_,rfl,Frz.pure rfl,_,_,rfl,Frz.pure rfl,rfl⟩,rfl⟩
  exact Frz.ptr (Nat.zero_le _) rfl rfl (Nat.succ_ne_zero 0) ⟨_,_,rfl,Frz.pure rfl,_,_,rfl,h1,rfl⟩
set_option maxRecDepth 10000
open Go.V Go.ChangeShapes Go.WideShapes Go.ChangeAt Go.RowKit
set_option maxRecDepth 100000 in
theorem choosezeros_lifted (os:Os) (started:os.Started) (H:Type) (enc:TypeId × Value→H) :
 ReturnsInHanded {} Try.checked os 5 .any (Rows.chooseZerosSpec.pre6 enc Try.prog Try.f5 Rows.chooseZerosRow.domain false) (Rows.chooseZerosSpec.post enc Try.prog Try.f5 false true false false):=by
 refine returnsInHanded_of_change_sized (C:=Try.checked) Try.own started (by kernel_rfl) Try.func5
  (ChangeSpec.witness6 (enc:=enc) (C:=Try.checked) false ⟨#[],#[.int .u8 0,.int .u8 0,.bool false],[]⟩ 8 (by kernel_rfl) (by kernel_rfl) (by kernel_rfl) (by kernel_rfl)) ?_
 intro W base args ds gs before hval hW _ hwt _
 refine law_calls (P:=Try.prog) (n:=20) (shs:=[.int .u8,.int .u8,.bool]) (tb:=4) Try.laidOut rfl (by kernel_rfl) (by kernel_rfl) (by decide +kernel) (by kernel_rfl) (fun ds h=>?_) (fun xs hx=>?_) hval hW hwt
 ·match ds,h with
  | [d1,d2,d3],_=>rfl
 ·obtain ⟨x,xs',rfl,hx1,hxs⟩:=fitS_cons hx
  obtain ⟨y,ys',rfl,hy,hys⟩:=fitS_cons hxs
  obtain ⟨z,zs',rfl,hz,hzs⟩:=fitS_cons hys
  simp only[Sh.fitL]at hzs
  subst hzs
  simp only[Sh.fit]at hx1 hy hz
  obtain ⟨n,rfl,h1⟩:=hx1
  obtain ⟨w,rfl,h2⟩:=hy
  obtain ⟨b,rfl⟩:=hz
  simp[Lit.wf,IntKind.min,IntKind.max,IntKind.bits,IntKind.signed]at h1 h2
  exact zeros_c n w b (by omega) (by omega)
theorem choosezeros_holds:Rows.ChooseZerosSaid :=
 OpenClaim.holds_of_wide 5 Try.f5 rfl rfl rfl rfl rfl rfl rfl ⟨rfl,rfl,rfl,rfl,rfl⟩ rfl rfl rfl rfl rfl (by kernel_rfl) Try.func5 (by kernel_rfl)
  (of_decide_eq_true (by kernel_rfl)) (by unfold Func.isWrapper;first | (rw[if_pos (by decide +kernel)];kernel_rfl) | (rw[if_neg (by decide +kernel)];exact ⟨rfl,rfl⟩))
  (fun os started H enc _=>choosezeros_lifted os started H enc)
end Go.Proofs.Ytkbhfokbhkmfgaa
