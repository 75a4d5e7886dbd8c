/- Where a program's functions and blocks stand in its image, plainly. No condition. Two runs of blocks whose registers agree where they matter: one instruction, plainly. No condition. -/
import Derived.Test.YtkbhfokbhkmfgaaQa2
import Derived.Test.YtkbhfokbhkmfgaaUH
import Derived.Test.YtkbhfokbhkmfgaaUCode
import Derived.Test.YtkbhfokbhkmfgaaUY
set_option linter.unusedVariables false
set_option linter.unusedSimpArgs false
namespace Go.Proofs.Ytkbhfokbhkmfgaa
set_option linter.unusedSimpArgs false
set_option linter.unusedVariables false
open Go.V
def LayO (b:BP) (ls:List (List Int)) (rw:Nat→List Bool) (S:S3) (i:Nat):Prop:=∃ pre post,S.l=pre++funY (cxO b ls i) (rw i) (fO b i)++post∧S.en.getD i default=((pre.length:Nat):Int)∧S.rows.getD i []=rowJ (cxO b ls i) (pre++headY (cxO b ls i) (rw i)).length (fO b i).bks (fO b i).bks.length
structure LayB (b:BP) (ls:List (List Int)) (rw:Nat→List Bool) (S:S3) (o:List Nat):Prop where
 en:S.en.length=b.funcs.length
 rows:S.rows.length=b.funcs.length
 lay:∀ i ∈ o,LayO b ls rw S i
section
variable {b:BP} {ls:List (List Int)} {rw:Nat→List Bool}
theorem LayB.step {S:S3} {o:List Nat} (h:LayB b ls rw S o) {i:Nat} (hi:i<b.funcs.length) (hn:i ∉ o):LayB b ls rw (stepO b ls rw S i) (o++[i]):=by
 refine ⟨by simp[stepO,h.en],by simp[stepO,h.rows],fun j hj=>?_⟩
 by_cases e:j=i
 ·subst e
  exact ⟨S.l,[],by simp[stepO],by simp only[stepO];exact gds_self (by rw[h.en];exact hi),by simp only[stepO];exact gds_self (by rw[h.rows];exact hi)⟩
 ·rcases List.mem_append.1 hj with hj | hj
  ·obtain ⟨pre,post,h1,h2,h3⟩:=h.lay j hj
   refine ⟨pre,post++funY (cxO b ls i) (rw i) (fO b i),?_,?_,?_⟩
   ·show S.l++funY (cxO b ls i) (rw i) (fO b i)=pre++funY (cxO b ls j) (rw j) (fO b j)++(post++funY (cxO b ls i) (rw i) (fO b i))
    rw[← List.append_assoc,← h1]
   ·simp only[stepO];rw[gds_ne (fun e2=>e e2.symm)];exact h2
   ·simp only[stepO];rw[gds_ne (fun e2=>e e2.symm)];exact h3
  ·exact absurd (List.mem_singleton.1 hj) e
theorem layB (hn:1≤b.funcs.length):∀ j≤b.funcs.length-1,LayB b ls rw (runO b ls rw (ordJ b.funcs.length j)) (ordJ b.funcs.length j)∧(runO b ls rw (ordJ b.funcs.length j)).en.getD (b.funcs.length-1) default=0
 | 0,_=>by
  have h0:LayB b ls rw ⟨[],List.replicate b.funcs.length 0,List.replicate b.funcs.length []⟩ []:=⟨by simp,by simp,fun i hi=>absurd hi (by simp)⟩
  have:=h0.step (i:=b.funcs.length-1) (by omega) (by simp)
  exact ⟨this,by show (stepO b ls rw _ _).en.getD _ _=0;simp only[stepO];rw[gds_self (by simp;omega)];rfl⟩
 | j+1,h=>by
  obtain ⟨h1,h2⟩:=layB hn j (by omega)
  rw[ordJ_succ,runO_snoc]
  refine ⟨h1.step (by omega) ?_,?_⟩
  ·unfold ordJ
   simp only[List.mem_cons,List.mem_range,not_or];omega
  ·simp only[stepO];rw[gds_ne (by omega)];exact h2
end
def entO (b:BP) (ls:List (List Int)) (rw:Nat→List Bool) (i:Nat):Nat:=((endO b ls rw).en.getD i default).toNat
def fxO (b:BP) (ls:List (List Int)) (rw:Nat→List Bool) (l:List Sy):List Ci:=fixY (endO b ls rw).en (endO b ls rw).rows l
def cdO (b:BP) (ls:List (List Int)) (rw:Nat→List Bool):List Ci:=fxO b ls rw (endO b ls rw).l
def stO (b:BP) (ls:List (List Int)) (rw:Nat→List Bool) (i k:Nat):Nat:=entO b ls rw i+(headY (cxO b ls i) (rw i)).length+(blksY (cxO b ls i) 0 ((fO b i).bks.take k)).length
theorem blksY_app (c:Cx) (m:List Bk):∀ (l:List Bk) (j:Nat),blksY c j (l++m)=blksY c j l++blksY c (j+l.length) m
 | [],j=>by simp[blksY]
 | x::l,j=>by
  simp only[List.cons_append,blksY,blksY_app c m l,List.length_cons,List.append_assoc]
  rw[show j+1+l.length=j+(l.length+1) by omega]
theorem At.midO (A B C:List Ci):At (A++B++C) A.length B:=fun i hi=>by
 rw[List.getElem?_append_left (by rw[List.length_append];omega),List.getElem?_append_right (by omega)];congr 1;omega
section
variable {b:BP} {ls:List (List Int)} {rw:Nat→List Bool}
theorem fxO_app (a c:List Sy):fxO b ls rw (a++c)=fxO b ls rw a++fxO b ls rw c:=by simp[fxO,fixY]
theorem fxO_len (a:List Sy):(fxO b ls rw a).length=a.length:=by simp[fxO,fixY]
theorem fxO_plain {l:List Sy} (h:∀ y ∈ l,y.2=none):fxO b ls rw l=l.map (·.1):=by
 unfold fxO fixY
 refine List.map_congr_left fun y hy=>?_
 rw[h y hy]
theorem lay_ofO (hn:1≤b.funcs.length) {i:Nat} (hi:i<b.funcs.length):∃ pre post,(endO b ls rw).l=pre++funY (cxO b ls i) (rw i) (fO b i)++post∧entO b ls rw i=pre.length∧(endO b ls rw).en.getD i default=((entO b ls rw i:Nat):Int)∧(endO b ls rw).rows.getD i []=rowJ (cxO b ls i) (entO b ls rw i+(headY (cxO b ls i) (rw i)).length) (fO b i).bks (fO b i).bks.length:=by
 obtain ⟨pre,post,h1,h2,h3⟩:=(layB (ls:=ls) (rw:=rw) hn _ (Nat.le_refl _)).1.lay i (ordJ_mem hi)
 have e:entO b ls rw i=pre.length:=by
  unfold entO
  rw[show (endO b ls rw).en.getD i default=((pre.length:Nat):Int) from h2];simp
 refine ⟨pre,post,h1,e,by rw[e];exact h2,?_⟩
 rw[e]
 rw[List.length_append]at h3
 exact h3
theorem entO_en (hn:1≤b.funcs.length) {i:Nat} (hi:i<b.funcs.length):(endO b ls rw).en.getD i default=((entO b ls rw i:Nat):Int):=(lay_ofO hn hi).choose_spec.choose_spec.2.2.1
theorem entO_last (hn:1≤b.funcs.length):entO b ls rw (b.funcs.length-1)=0:=by
 unfold entO
 rw[show (endO b ls rw).en.getD (b.funcs.length-1) default=0 from (layB (ls:=ls) (rw:=rw) hn _ (Nat.le_refl _)).2];rfl
theorem at_headO (hn:1≤b.funcs.length) {i:Nat} (hi:i<b.funcs.length):At (cdO b ls rw) (entO b ls rw i) (fxO b ls rw (headY (cxO b ls i) (rw i))):=by
 obtain ⟨pre,post,h1,h2,_,_⟩:=lay_ofO (ls:=ls) (rw:=rw) hn hi
 have:cdO b ls rw=fxO b ls rw pre++fxO b ls rw (headY (cxO b ls i) (rw i))++fxO b ls rw (blksY (cxO b ls i) 0 (fO b i).bks++post):=by
  unfold cdO
  rw[h1];simp only[funY,fxO_app,List.append_assoc]
 have ha:=At.midO (fxO b ls rw pre) (fxO b ls rw (headY (cxO b ls i) (rw i))) (fxO b ls rw (blksY (cxO b ls i) 0 (fO b i).bks++post))
 rw[← this,fxO_len,← h2]at ha
 exact ha
theorem take_bk {f:BF} {k:Nat} (hk:k<f.n):f.bks=f.bks.take k++[f.bk k]++f.bks.drop (k+1):=by
 have hk':k<f.bks.length:=hk
 have:f.bk k=f.bks[k]:=by unfold BF.bk;simp[List.getD,hk']
 rw[this];simp
theorem at_blkO (hn:1≤b.funcs.length) {i:Nat} (hi:i<b.funcs.length) {k:Nat} (hk:k<(fO b i).n):At (cdO b ls rw) (stO b ls rw i k) (fxO b ls rw (blkY (cxO b ls i) ((fO b i).bk k) (k+1:Nat))):=by
 obtain ⟨pre,post,h1,h2,_,_⟩:=lay_ofO (ls:=ls) (rw:=rw) hn hi
 have hk':k<(fO b i).bks.length:=hk
 have hc:blksY (cxO b ls i) 0 (fO b i).bks=blksY (cxO b ls i) 0 ((fO b i).bks.take k)++(blkY (cxO b ls i) ((fO b i).bk k) (k+1:Nat)++blksY (cxO b ls i) (k+1) ((fO b i).bks.drop (k+1))):=by
  conv=>lhs;rw[take_bk hk]
  rw[List.append_assoc,blksY_app]
  simp only[List.cons_append,List.nil_append,blksY,Nat.zero_add,List.length_take]
  rw[show min k (fO b i).bks.length=k by omega]
 have:cdO b ls rw=fxO b ls rw (pre++headY (cxO b ls i) (rw i)++blksY (cxO b ls i) 0 ((fO b i).bks.take k))++fxO b ls rw (blkY (cxO b ls i) ((fO b i).bk k) (k+1:Nat))++fxO b ls rw (blksY (cxO b ls i) (k+1) ((fO b i).bks.drop (k+1))++post):=by
  unfold cdO
  rw[h1,funY,hc];simp only[fxO_app,List.append_assoc]
 have ha:=At.midO (fxO b ls rw (pre++headY (cxO b ls i) (rw i)++blksY (cxO b ls i) 0 ((fO b i).bks.take k))) (fxO b ls rw (blkY (cxO b ls i) ((fO b i).bk k) (k+1:Nat))) (fxO b ls rw (blksY (cxO b ls i) (k+1) ((fO b i).bks.drop (k+1))++post))
 rw[← this,fxO_len]at ha
 unfold stO
 rw[h2]
 rw[List.length_append,List.length_append]at ha
 exact ha
theorem stO_succ {i k:Nat} (hk:k<(fO b i).n):stO b ls rw i (k+1)=stO b ls rw i k+(blkY (cxO b ls i) ((fO b i).bk k) (k+1:Nat)).length:=by
 have hk':k<(fO b i).bks.length:=hk
 have e:(fO b i).bks.take (k+1)=(fO b i).bks.take k++[(fO b i).bk k]:=by
  have:(fO b i).bk k=(fO b i).bks[k]:=by unfold BF.bk;simp[List.getD,hk']
  rw[this,List.take_add_one,List.getElem?_eq_getElem hk'];rfl
 unfold stO
 rw[e,blksY_snoc,List.length_append,List.length_take,show min k (fO b i).bks.length=k by omega,Nat.zero_add]
 omega
theorem stO_zero (i:Nat):stO b ls rw i 0=entO b ls rw i+(headY (cxO b ls i) (rw i)).length:=by simp[stO,blksY]
theorem tgtO (hn:1≤b.funcs.length) {i:Nat} (hi:i<b.funcs.length) {to:Int} (ht:0≤to∧to<((fO b i).bks.length:Int)):tgt (endO b ls rw).en (endO b ls rw).rows ((i:Int),to)=((stO b ls rw i to.toNat:Nat):Int):=by
 obtain ⟨pre,post,_,_,_,h4⟩:=lay_ofO (ls:=ls) (rw:=rw) hn hi
 unfold tgt
 rw[if_pos ht.1]
 simp only[Int.toNat_natCast]
 rw[h4]
 unfold rowJ
 rw[List.getD,List.getElem?_map,List.getElem?_range (by omega)]
 simp only[Option.map_some,Option.getD_some]
 rw[if_pos (by omega)];rfl
theorem tgtO_ent (hn:1≤b.funcs.length) {i:Nat} (hi:i<b.funcs.length):tgt (endO b ls rw).en (endO b ls rw).rows ((i:Int),-1)=((entO b ls rw i:Nat):Int):=by
 unfold tgt
 rw[if_neg (show ¬ (0:Int)≤-1 by decide)]
 simp only[Int.toNat_natCast]
 exact entO_en hn hi
end
structure Eqv (σ τ:Bst):Prop where
 ws:σ.ws=τ.ws
 out:σ.out=τ.out
 rd:σ.rd=τ.rd
 en:σ.en=τ.en
theorem Eqv.refl (σ:Bst):Eqv σ σ:=⟨rfl,rfl,rfl,rfl⟩
theorem Eqv.end_ {σ τ:Bst} (h:Eqv σ τ) (e:Int):Eqv { σ with en:=e } { τ with en:=e }:=⟨h.ws,h.out,h.rd,rfl⟩
theorem getD_set (l:List Int) (i j:Nat) (x:Int) (hj:j<l.length):(l.set i x).getD j default=if i=j then x else l.getD j default:=by
 simp only[List.getD]
 rw[List.getElem?_set]
 by_cases h:i=j
 ·subst h;simp[hj]
 ·rw[if_neg h,if_neg h]
theorem opF_st (call:Nat→Bst→Bst) (inp:ByteArray) (t:Tac) (rg:List Int) (σ:Bst) (h:t.op≠10):(opF call inp t rg σ).2.st=σ.st:=by
 unfold opF
 by_cases h1:t.op=1
 ·rw[if_pos h1]
  try rfl
 rw[if_neg h1]
 by_cases h2:t.op=2
 ·rw[if_pos h2]
  try rfl
 rw[if_neg h2]
 by_cases h3:t.op=3
 ·rw[if_pos h3]
  by_cases hc:(applyW t.k (gR rg t.a) (gR rg t.b)).2=0
  ·rw[if_pos hc];try rfl
  ·rw[if_neg hc];try rfl
 rw[if_neg h3]
 by_cases h4:t.op=4
 ·rw[if_pos h4]
  try rfl
 rw[if_neg h4]
 by_cases h5:t.op=5
 ·rw[if_pos h5]
  try rfl
 rw[if_neg h5]
 by_cases h6:t.op=6
 ·rw[if_pos h6]
  by_cases hc:gR rg t.a<t.size
  ·rw[if_pos hc];try rfl
  ·rw[if_neg hc];try rfl
 rw[if_neg h6]
 by_cases h7:t.op=7
 ·rw[if_pos h7]
  by_cases hc:gR rg t.a<t.size
  ·rw[if_pos hc];try rfl
  ·rw[if_neg hc];try rfl
 rw[if_neg h7]
 by_cases h8:t.op=8
 ·rw[if_pos h8]
  by_cases hc:σ.rd<inp.size
  ·rw[if_pos hc];try rfl
  ·rw[if_neg hc];try rfl
 rw[if_neg h8]
 by_cases h9:t.op=9
 ·rw[if_pos h9]
  by_cases hc:65536≤σ.out.length
  ·rw[if_pos hc];try rfl
  ·rw[if_neg hc];try rfl
 rw[if_neg h9]
 by_cases h10:t.op=10
 ·rw[if_pos h10]
  exact absurd h10 h
 rw[if_neg h10]
structure BaO (W N:Nat) (σ:Bst) (s:Mc):Prop where
 z:s.rg 0=0
 w:∀ a<W,s.me.getD a default=σ.ws.getD a default
 o:s.out=σ.out
 d:s.rd=σ.rd
 n:s.me.length=N
theorem Rl.st {c:Cx} {W N:Nat} {M:Nat→Bool} {rg:List Int} {σ:Bst} {s:Mc} (h:Rl c W N M rg σ s) (n:Nat):Rl c W N M rg { σ with st:=n } s:=⟨h.z,h.v,h.w,h.o,h.d,h.n⟩
def wsA (b:BP) (ls:List (List Int)) (j:Nat):Int:=b.words+totW (ls.take j)
def bkP (b:BP) (ls:List (List Int)):Int:=b.words+totW ls
def FrJ (b:BP) (ls:List (List Int)) (m j:Nat) (s s':Mc):Prop:=∀ a:Nat,wsA b ls (j+1)≤(a:Int)→¬ (bkP b ls≤(a:Int)∧(a:Int)<bkP b ls+m)→s'.me.getD a default=s.me.getD a default
theorem FrJ.refl (b:BP) (ls:List (List Int)) (m j:Nat) (s:Mc):FrJ b ls m j s s:=fun _ _ _=>rfl
theorem FrJ.trans {b:BP} {ls:List (List Int)} {m j:Nat} {x y z:Mc} (h:FrJ b ls m j x y) (k:FrJ b ls m j y z):FrJ b ls m j x z:=fun a h1 h2=>(k a h1 h2).trans (h a h1 h2)
theorem FrJ.mono {b:BP} {ls:List (List Int)} {m m' j j':Nat} {x y:Mc} (h:FrJ b ls m j x y) (hm:m≤m') (hj:wsA b ls (j+1)≤wsA b ls (j'+1)):FrJ b ls m' j' x y:=fun a h1 h2=>h a (Int.le_trans hj h1) (fun h3=>h2 ⟨h3.1,by omega⟩)
theorem FrM.j {b:BP} {ls:List (List Int)} {m j E:Nat} {x y:Mc} (h:FrM E x y) (hE:(E:Int)≤wsA b ls (j+1)):FrJ b ls m j x y:=fun a h1 _=>h a (by omega)
def CallO (b:BP) (ls:List (List Int)) (rw:Nat→List Bool) (inp:ByteArray) (fuel:Nat) (call:Nat→Bst→Bst) (k:Nat):Prop :=
 ∀ j<k,∀ (σ:Bst) (s:Mc),WfB inp fuel b.words.toNat σ→σ.en=0→BaO b.words.toNat (dataO b ls).toNat σ s→s.pc=((entO b ls rw j:Nat):Int) →
  ((call j σ).en=0→∃ n s',n≤63*((call j σ).st-σ.st)+62∧Mx (cdO b ls rw) inp n s s'∧s'.pc=s.rg 12∧BaO b.words.toNat (dataO b ls).toNat (call j σ) s'∧FrJ b ls (j+1) j s s') ∧
  ((call j σ).en≠0→(call j σ).en≠5→∃ n s',n+1≤63*((call j σ).st-σ.st)+62∧Mn (cdO b ls rw) inp n s (call j σ).en s'∧s'.out=(call j σ).out)
def ApP (pl:List Int) (m:Nat) (M:Nat→Bool):List Tac→Prop
 | []=>True
 | t::l=>(SetsT t→∀ u<m,thru1 l u (M u)=true→u≠t.d.toNat→gP pl u≠gP pl t.d.toNat)∧(t.op=10→∀ u<m,thru1 l u (M u)=true→gP pl u<0)∧ApP pl m M l
theorem apP_of {pl:List Int} {m:Nat} {M:Nat→Bool}:∀ (l:List Tac),(∀ i<l.length,SetsT (l.getD i default)→∀ u<m,thru1 (l.drop (i+1)) u (M u)=true→u≠(l.getD i default).d.toNat→gP pl u≠gP pl (l.getD i default).d.toNat) →
 (∀ i<l.length,(l.getD i default).op=10→∀ u<m,thru1 (l.drop (i+1)) u (M u)=true→gP pl u<0)→ApP pl m M l
 | [],_,_=>trivial
 | t::l,h,k=>by
  refine ⟨fun hs u hu h1 h2=>?_,fun hs u hu h1=>?_,apP_of l (fun i hi=>?_) fun i hi=>?_⟩
  ·have:=h 0 (by simp)
   simp only[List.getD_cons_zero,List.drop_succ_cons,List.drop_zero]at this
   exact this hs u hu h1 h2
  ·have:=k 0 (by simp)
   simp only[List.getD_cons_zero,List.drop_succ_cons,List.drop_zero]at this
   exact this hs u hu h1
  ·have:=h (i+1) (by simp;omega)
   simp only[List.getD_cons_succ,List.drop_succ_cons]at this
   exact this
  ·have:=k (i+1) (by simp;omega)
   simp only[List.getD_cons_succ,List.drop_succ_cons]at this
   exact this
theorem ins_plain (c:Cx) (t:Tac) (h:t.op≠10):∀ y ∈ insY c t,y.2=none:=by
 have f:∀ v s,∀ y ∈ fetchY c v s,y.2=none:=fun v s y hy=>by
  unfold fetchY at hy;split at hy
  ·cases hy
  ·rw[List.mem_singleton.1 hy];rfl
 have kp:∀ v s,∀ y ∈ keepY c v s,y.2=none:=fun v s y hy=>by
  unfold keepY at hy;split at hy
  ·rw[List.mem_singleton.1 hy];rfl
  ·cases hy
 have ap:∀ {l m:List Sy},(∀ y ∈ l,y.2=none)→(∀ y ∈ m,y.2=none)→∀ y ∈ l++m,y.2=none:=fun h1 h2 y hy=>(List.mem_append.1 hy).elim (h1 y) (h2 y)
 have on:∀ op x z w,∀ y ∈ [pY op x z w],y.2=none:=fun op x z w y hy=>by rw[List.mem_singleton.1 hy];rfl
 have nl:∀ y ∈ ([]:List Sy),y.2=none:=fun y hy=>by cases hy
 unfold insY
 split
 ·unfold constY
  split
  ·exact kp _ _
  ·refine ap (l:=[_]) (on _ _ _ _) (ap ?_ (kp _ _))
   split
   ·exact nl
   ·exact on _ _ _ _
 split
 ·unfold copyY
  split
  ·exact nl
  split
  ·refine ap (f _ _) ?_
   split
   ·exact nl
   ·exact on _ _ _ _
  ·exact ap (f _ _) (kp _ _)
 split
 ·exact ap (ap (ap (f _ _) (f _ _)) (on _ _ _ _)) (kp _ _)
 split
 ·exact ap (on _ _ _ _) (kp _ _)
 split
 ·exact ap (f _ _) (on _ _ _ _)
 split
 ·exact ap (ap (ap (f _ _) (on _ _ _ _)) (on _ _ _ _)) (kp _ _)
 split
 ·exact ap (ap (ap (f _ _) (on _ _ _ _)) (f _ _)) (on _ _ _ _)
 split
 ·exact ap (on _ _ _ _) (kp _ _)
 split
 ·exact ap (f _ _) (on _ _ _ _)
 try rw[if_neg h]
 exact nl
theorem ar63 {a b c n m k:Nat} (h1:n≤63*(b-a)) (h2:m+k≤63*(c-b)) (h3:a≤b) (h4:b≤c):n+m+k≤63*(c-a):=by omega
theorem mI_calls (inp:ByteArray) (m:Mc) (a c:Int):mI inp m ⟨21,a,0,c⟩=({ m with rg:=upM m.rg a.toNat (m.pc+1),pc:=c },0):=by simp[mI]
section
variable {b:BP} {ls:List (List Int)} {rw:Nat→List Bool} {inp:ByteArray} {fuel:Nat}
theorem ws_mono (h:FairP b ls) {i j:Nat} (hij:i≤j) (hj:j≤b.funcs.length):wsA b ls i≤wsA b ls j:=by
 have hl:=h.hold.len
 have:=totW_mono h.hold.wds i (j-i) (by omega)
 rw[show i+(j-i)=j by omega]at this
 unfold wsA;omega
theorem ws_bk (h:FairP b ls) {j:Nat} (hj:j≤b.funcs.length):b.words≤wsA b ls j∧wsA b ls j≤bkP b ls:=by
 have hl:=h.hold.len
 have h1:=h.tot j (by omega)
 have h2:=totW_mono h.hold.wds j (ls.length-j) (by omega)
 rw[show j+(ls.length-j)=ls.length by omega,List.take_of_length_le (Nat.le_refl _)]at h2
 unfold wsA bkP;omega
theorem data_bk (b:BP) (ls:List (List Int)):dataO b ls=bkP b ls+((b.funcs.length:Int)-1):=rfl
theorem own_in (h:FairP b ls) {i:Nat} (hi:i<b.funcs.length) {v:Nat} (hv:v<(cxO b ls i).pl.length) (hn:gP (cxO b ls i).pl v<0):wsA b ls i≤(cxO b ls i).own (gP (cxO b ls i).pl v)∧(cxO b ls i).own (gP (cxO b ls i).pl v)<wsA b ls (i+1):=by
 have hl:=h.hold.len
 have hx:=(h.cx hi).ok.pv v hv
 have hst:=totW_step ls (show i<ls.length by omega)
 have hg:gP (cxO b ls i).ws i=wsA b ls i:=by simp[gP,cxO,wsO,List.getD,hi,wsA]
 have hw:=wdsI_ge (pl:=(cxO b ls i).pl) (v:=v) hv (by omega) hn
 have hw2:wdsI (cxO b ls i).pl=wdsI (ls.getD i default):=rfl
 have hfn:(cxO b ls i).fn=i:=rfl
 unfold Cx.own
 rw[hfn,hg]
 unfold wsA at *
 omega
theorem memO (h:FairP b ls) {i:Nat} (hi:i<b.funcs.length):MemOk (cxO b ls i) b.words.toNat (wsA b ls (i+1)).toNat (dataO b ls).toNat:=by
 have hw:=h.words
 have h1:=ws_bk h (j:=i) (by omega)
 have h2:=ws_bk h (j:=i+1) (by omega)
 have h3:=h.tot ls.length (Nat.le_refl _)
 rw[List.take_of_length_le (Nat.le_refl _)]at h3
 have h20:=h.few.l
 have hd:=data_bk b ls
 have hb:bkP b ls=b.words+totW ls:=rfl
 refine ⟨h.cx hi,by omega,by omega,by omega,fun v hv hn=>?_⟩
 have:=own_in h hi hv hn
 omega
theorem ins_go (h:OfH b ls rw) {j:Nat} (hj:j<b.funcs.length) {call:Nat→Bst→Bst} (hc:CallO b ls rw inp fuel call j) (hcp:CallP inp fuel b.words.toNat j call) {M:Nat→Bool} :
 ∀ (l:List Tac) (k:Nat) (rg:List Int) (σ:Bst) (s:Mc),(∀ t ∈ l,InsOk (cxO b ls j) t∧FitsT t j (cxO b ls j).pl.length b.words∧In32 t.n)→ApP (cxO b ls j).pl (cxO b ls j).pl.length M l→WfR (cxO b ls j).pl.length rg→WfB inp fuel b.words.toNat σ→σ.en=0 →
  Rl (cxO b ls j) b.words.toNat (dataO b ls).toNat (fun u=>thru1 l u (M u)) rg σ s→s.pc=k→At (cdO b ls rw) k (fxO b ls rw (l.flatMap (insY (cxO b ls j)))) →
  ((insF call inp fuel l rg σ).2.en=0→∃ n s',n≤63*((insF call inp fuel l rg σ).2.st-σ.st)∧Mx (cdO b ls rw) inp n s s'∧s'.pc=((k+(l.flatMap (insY (cxO b ls j))).length:Nat):Int)∧Rl (cxO b ls j) b.words.toNat (dataO b ls).toNat M (insF call inp fuel l rg σ).1 (insF call inp fuel l rg σ).2 s'∧FrJ b ls j j s s') ∧
  ((insF call inp fuel l rg σ).2.en≠0→(insF call inp fuel l rg σ).2.en≠5→∃ n s',n+1≤63*((insF call inp fuel l rg σ).2.st-σ.st)∧Mn (cdO b ls rw) inp n s (insF call inp fuel l rg σ).2.en s'∧s'.out=(insF call inp fuel l rg σ).2.out)
 | [],k,rg,σ,s,_,_,_,_,h0,hr,hp,_=>⟨fun _=>⟨0,s,Nat.zero_le _,rfl,by rw[hp];rfl,hr,FrJ.refl _ _ _ _ _⟩,fun e=>absurd h0 e⟩
 | t::l,k,rg,σ,s,ht,ha,hR,hw,h0,hr,hp,hat=>by
  obtain ⟨t1,t2,t3⟩:=ht t (by simp)
  obtain ⟨a1,a2,a3⟩:=ha
  have hwd:=h.f.words
  have hWW:((b.words.toNat:Nat):Int)=b.words:=by omega
  rw[insF_cons]
  by_cases hf:fuel≤σ.st
  ·rw[if_pos hf]
   exact ⟨fun e=>absurd (show (5:Int)=0 from e) (by decide),fun _ e=>absurd rfl e⟩
  rw[if_neg hf]
  have hw1:WfB inp fuel b.words.toNat { σ with st:=σ.st+1 }:=⟨hw.n,hw.w,hw.o,hw.r,by show σ.st+1≤fuel;omega⟩
  obtain ⟨w1,w2,w3⟩:=opF_wf hcp (by rw[hWW];exact t2) t3 hR hw1 h0
  replace w3:σ.st+1≤_:=w3
  simp only[List.flatMap_cons]at hat ⊢
  rw[fxO_app]at hat
  obtain ⟨b1,b2⟩:=hat.app
  rw[fxO_len]at b2
  have one:((opF call inp t rg { σ with st:=σ.st+1 }).2.en=0→∃ n s',n≤63*((opF call inp t rg { σ with st:=σ.st+1 }).2.st-σ.st)∧Mx (cdO b ls rw) inp n s s'∧s'.pc=((k+(insY (cxO b ls j) t).length:Nat):Int)∧Rl (cxO b ls j) b.words.toNat (dataO b ls).toNat (fun u=>thru1 l u (M u)) (opF call inp t rg { σ with st:=σ.st+1 }).1 (opF call inp t rg { σ with st:=σ.st+1 }).2 s'∧FrJ b ls j j s s') ∧
   ((opF call inp t rg { σ with st:=σ.st+1 }).2.en≠0→(opF call inp t rg { σ with st:=σ.st+1 }).2.en≠5→∃ n s',n+1≤63*((opF call inp t rg { σ with st:=σ.st+1 }).2.st-σ.st)∧Mn (cdO b ls rw) inp n s (opF call inp t rg { σ with st:=σ.st+1 }).2.en s'∧s'.out=(opF call inp t rg { σ with st:=σ.st+1 }).2.out):=by
   by_cases e:t.op=10
   ·have hf8:restT t j b.words:=t2.2.2.2.2.2.2.2
    have eo:opF call inp t rg { σ with st:=σ.st+1 }=(rg,call t.base.toNat { σ with st:=σ.st+1 }):=by simp[opF,e]
    have ei:insY (cxO b ls j) t=[jY 21 12 t.base (-1)]:=by simp[insY,e]
    unfold restT at hf8
    simp only[e,Int.reduceEq,if_false,if_true,or_self]at hf8
    obtain ⟨-,g0,g1,-⟩:=hf8
    obtain ⟨i,hi⟩:∃ i:Nat,t.base=(i:Int):=⟨t.base.toNat,by omega⟩
    have hij:i<j:=by omega
    have hil:i<b.funcs.length:=by omega
    rw[hi,Int.toNat_natCast]at eo
    rw[eo]
    rw[eo]at w2 w3
    rw[ei]at b1 ⊢
    rw[hi,show fxO b ls rw [jY 21 12 (i:Int) (-1)]=[⟨21,12,0,((entO b ls rw i:Nat):Int)⟩] by
     rw[← tgtO_ent (ls:=ls) (rw:=rw) (by omega) hil];rfl]at b1
    have x1:=Mx.one (inp:=inp) b1 hp (mI_calls inp s 12 ((entO b ls rw i:Nat):Int))
    have hr12:(upM s.rg (12:Int).toNat (s.pc+1)) 12=s.pc+1:=rfl
    obtain ⟨c1,c2⟩:=hc i hij { σ with st:=σ.st+1 } { s with rg:=upM s.rg (12:Int).toNat (s.pc+1),pc:=((entO b ls rw i:Nat):Int) } hw1 h0 ⟨hr.z,hr.w,hr.o,hr.d,hr.n⟩ rfl
    refine ⟨fun e0=>?_,fun e0 e5=>?_⟩
    ·obtain ⟨n,s',q1,q2,q3,q4,q5⟩:=c1 e0
     refine ⟨1+n,s',?_,x1.trans q2,?_,⟨q4.z,fun u hu hM=>?_,q4.w,q4.o,q4.d,q4.n⟩,fun a g2 g3=>?_⟩
     ·show 1+n≤63*((call i { σ with st:=σ.st+1 }).st-σ.st)
      replace w3:σ.st+1≤(call i { σ with st:=σ.st+1 }).st:=w3
      replace q1:n≤63*((call i { σ with st:=σ.st+1 }).st-(σ.st+1))+62:=q1
      omega
     ·rw[q3];show s.pc+1=_;rw[hp];simp
     ·have hneg:=a2 e u hu hM
      have hin:=own_in h.f hj hu hneg
      have hbk:=ws_bk h.f (j:=j+1) (by omega)
      have hms:=ws_mono h.f (show i+1≤j by omega) (by omega)
      have h0w:=ws_bk h.f (j:=j) (by omega)
      have hv:=hr.v u hu (by
       show bk1 t u (thru1 l u (M u))=true
       exact bk1_keep hM (fun hs=>by simp[SetsT,e]at hs) (fun hs=>by simp[SetsT,e]at hs))
      rw[← hv]
      unfold valM
      rw[if_neg (by omega),if_neg (by omega)]
      exact q5 _ (by omega) (by omega)
     ·have hms:=ws_mono h.f (show i+1≤j+1 by omega) (by omega)
      exact q5 a (by omega) (fun g4=>g3 ⟨g4.1,by omega⟩)
    ·obtain ⟨n,s',q1,q2,q3⟩:=c2 e0 e5
     refine ⟨1+n,s',?_,x1.end_ q2,q3⟩
     show 1+n+1≤63*((call i { σ with st:=σ.st+1 }).st-σ.st)
     replace w3:σ.st+1≤(call i { σ with st:=σ.st+1 }).st:=w3
     replace q1:n+1≤63*((call i { σ with st:=σ.st+1 }).st-(σ.st+1))+62:=q1
     omega
   ·rw[fxO_plain (ins_plain _ t e)]at b1
    obtain ⟨c1,c2⟩:=sim_op (call:=call) (M:=fun u=>thru1 l u (M u)) (memO h.f hj) t1 (f:=j) (by rw[hWW];exact t2.2.2.2.2.2.2.2) e hR hw.n (σ:={ σ with st:=σ.st+1 }) h0 (hr.st _) a1 hp b1
    have hst:=opF_st call inp t rg { σ with st:=σ.st+1 } e
    refine ⟨fun e0=>?_,fun e0 _=>?_⟩
    ·obtain ⟨n,s',q1,q2,q3,q4,q5⟩:=c1 e0
     have:=ws_bk h.f (j:=j+1) (by omega)
     exact ⟨n,s',by rw[hst];simp only;omega,q2,q3,q4,q5.j (by omega)⟩
    ·obtain ⟨n,s',q1,q2,q3⟩:=c2 e0
     exact ⟨n,s',by rw[hst];simp only;omega,q2,q3⟩
  generalize opF call inp t rg { σ with st:=σ.st+1 }=p at *
  by_cases e:p.2.en=0
  ·rw[if_pos e]
   obtain ⟨n,s1,q1,q2,q3,q4,q5⟩:=one.1 e
   obtain ⟨k1,k2⟩:=ins_go h hj hc hcp l _ p.1 p.2 s1 (fun t h=>ht t (by simp[h])) a3 w1 w2 e q4 q3 b2
   have hws:=insF_wf hcp l p.1 p.2 (fun t h=>by have:=ht t (by simp[h]);rw[hWW];exact ⟨this.2.1,this.2.2⟩) w1 w2 e
   refine ⟨fun e0=>?_,fun e0 e5=>?_⟩
   ·obtain ⟨m,s',r1,r2,r3,r4,r5⟩:=k1 e0
    exact ⟨n+m,s',ar63 (k:=0) q1 r1 (by omega) hws.2.2,q2.trans r2,by rw[r3,List.length_append,← Nat.add_assoc],r4,q5.trans r5⟩
   ·obtain ⟨m,s',r1,r2,r3⟩:=k2 e0 e5
    exact ⟨n+m,s',ar63 q1 r1 (by omega) hws.2.2,q2.end_ r2,r3⟩
  ·rw[if_neg e]
   exact ⟨fun e0=>absurd e0 e,fun _ e5=>one.2 e e5⟩
end
theorem ar64 {a b c n m:Nat} (h1:n≤63*(b-a)) (h2:m≤3) (h3:a≤b) (h4:b+1≤c):n+m+63*(c-(b+1))≤63*(c-a):=by omega
theorem mI_jmp (inp:ByteArray) (m:Mc) (c:Int):mI inp m ⟨18,0,0,c⟩=({ m with pc:=c },0):=by simp[mI]
theorem mI_jz (inp:ByteArray) (m:Mc) (a c:Int):mI inp m ⟨19,a,0,c⟩=({ m with pc:=if m.rg a.toNat=0 then c else m.pc+1 },0):=by simp[mI]
theorem mI_jnz (inp:ByteArray) (m:Mc) (a c:Int):mI inp m ⟨20,a,0,c⟩=({ m with pc:=if m.rg a.toNat=0 then m.pc+1 else c },0):=by simp[mI]
theorem mI_rets (inp:ByteArray) (m:Mc) (a:Int):mI inp m ⟨22,a,0,0⟩=({ m with pc:=m.rg a.toNat },0):=by simp[mI]
theorem mI_halts (inp:ByteArray) (m:Mc):mI inp m ⟨26,0,0,0⟩=(m,1):=by simp[mI]
theorem Sm.pc {s s':Mc} (h:Sm s s') (p:Int):Sm s { s' with pc:=p }:=⟨h.r,h.m,h.o,h.d⟩
def ResO (b:BP) (ls:List (List Int)) (rw:Nat→List Bool) (inp:ByteArray) (j:Nat) (ret:Int) (K:Nat) (s:Mc) (σ':Bst):Prop :=
 (σ'.en=0→(j+1=b.funcs.length→∃ n s',n+1≤K∧Mn (cdO b ls rw) inp n s 1 s'∧s'.out=σ'.out) ∧
   (j+1<b.funcs.length→∃ n s',n≤K∧Mx (cdO b ls rw) inp n s s'∧s'.pc=ret∧BaO b.words.toNat (dataO b ls).toNat σ' s'∧FrJ b ls j j s s')) ∧
 (σ'.en≠0→σ'.en≠5→∃ n s',n+1≤K∧Mn (cdO b ls rw) inp n s σ'.en s'∧s'.out=σ'.out)
section
variable {b:BP} {ls:List (List Int)} {rw:Nat→List Bool} {inp:ByteArray} {fuel:Nat}
theorem ResO.step {j:Nat} {ret:Int} {n K K':Nat} {s s1:Mc} {σ':Bst} (h:ResO b ls rw inp j ret K s1 σ') (hx:Mx (cdO b ls rw) inp n s s1) (hf:FrJ b ls j j s s1) (hk:n+K≤K'):ResO b ls rw inp j ret K' s σ':=by
 refine ⟨fun e=>⟨fun hl=>?_,fun hl=>?_⟩,fun e e5=>?_⟩
 ·obtain ⟨m,s',h1,h2,h3⟩:=(h.1 e).1 hl
  exact ⟨n+m,s',by omega,hx.end_ h2,h3⟩
 ·obtain ⟨m,s',h1,h2,h3,h4,h5⟩:=(h.1 e).2 hl
  exact ⟨n+m,s',by omega,hx.trans h2,h3,h4,hf.trans h5⟩
 ·obtain ⟨m,s',h1,h2,h3⟩:=h.2 e e5
  exact ⟨n+m,s',by omega,hx.end_ h2,h3⟩
theorem fx_jump (op a:Int) {j:Nat} (hn:1≤b.funcs.length) (hj:j<b.funcs.length) {to:Int} (ht:0≤to∧to<((fO b j).bks.length:Int)):fxO b ls rw [jY op a j to]=[⟨op,a,0,((stO b ls rw j to.toNat:Nat):Int)⟩]:=by
 rw[← tgtO (ls:=ls) (rw:=rw) hn hj ht];rfl
theorem fetch_plain (c:Cx) (v sp:Int):∀ y ∈ fetchY c v sp,y.2=none:=fun y hy=>by
 unfold fetchY at hy;split at hy
 ·cases hy
 ·rw[List.mem_singleton.1 hy];rfl
theorem end_go (h:OfH b ls rw) {j:Nat} (hj:j<b.funcs.length) {bk:Bk} {i k:Nat} (he:bk.e=1∨bk.e=2) (hE:EndsP bk (fO b j).bks.length (fO b j).regs) {rg:List Int} {σ:Bst} {s:Mc} {X:Nat→Bool} (hr:Rl (cxO b ls j) b.words.toNat (dataO b ls).toNat (fun u=>last1 bk u (X u)) rg σ s)
 (hp:s.pc=k) (hat:At (cdO b ls rw) k (fxO b ls rw (endY (cxO b ls j) bk (i+1:Nat)))) (hk:k+(endY (cxO b ls j) bk (i+1:Nat)).length=stO b ls rw j (i+1)) :
 ∃ n s',n≤3∧Mx (cdO b ls rw) inp n s s'∧s'.pc=((stO b ls rw j (goB bk rg).toNat:Nat):Int)∧Sm s s':=by
 have hn:1≤b.funcs.length:=by omega
 have hpl:=h.f.pl hj
 unfold endY at hat hk
 rcases he with e | e
 ·have hg:goB bk rg=bk.to:=by unfold goB;rw[if_neg (fun h=>by omega)]
  unfold EndsP at hE
  rw[if_pos e]at hE
  rw[hg]
  simp only[e,if_true]at hat hk
  by_cases e2:bk.to=((i+1:Nat):Int)
  ·rw[if_pos e2]at hat hk
   rw[e2,Int.toNat_natCast,← hk]
   exact ⟨0,s,by omega,rfl,by rw[hp];rfl,Sm.refl s⟩
  ·rw[if_neg e2]at hat hk
   rw[show (cxO b ls j).fn=j from rfl,fx_jump 18 0 hn hj ⟨hE.1,hE.2.1⟩]at hat
   exact ⟨1,_,by omega,Mx.one hat hp (mI_jmp inp s _),rfl,(Sm.refl s).pc _⟩
 ·unfold EndsP at hE
  rw[if_neg (by omega),if_pos e]at hE
  have hv:0≤bk.v∧bk.v<(cxO b ls j).pl.length:=⟨hE.2.2.2.2.1,by rw[hpl.1];exact hE.2.2.2.2.2⟩
  have hMv:last1 bk bk.v.toNat (X bk.v.toNat)=true:=by
   unfold last1;rw[if_pos ⟨e,by omega⟩]
  simp only[e,Int.reduceEq,if_true,if_false]at hat hk
  by_cases e2:bk.to=((i+1:Nat):Int)
  ·rw[if_pos e2]at hat hk
   rw[fxO_app,fxO_plain (fetch_plain _ _ _),show (cxO b ls j).fn=j from rfl,fx_jump 19 _ hn hj ⟨hE.2.2.1,hE.2.2.2.1⟩]at hat
   rw[List.length_append]at hk
   obtain ⟨n,s1,g1,g2,g3,g4,g5,g6,g7⟩:=fetch_r (inp:=inp) (memO h.f hj) hr hv hMv ⟨by omega,by omega⟩ hat hp
   have hmi:=mI_jz inp s1 (fetchR (cxO b ls j) bk.v 9) ((stO b ls rw j bk.el.toNat:Nat):Int)
   rw[g5]at hmi
   refine ⟨n+1,_,by omega,g2.trans (Mx.one g7 g3 hmi),?_,g4.pc _⟩
   unfold goB
   simp only[e,true_and]
   by_cases q:gR rg bk.v=0
   ·rw[if_pos q,if_pos q]
   ·rw[if_neg q,if_neg q,e2,Int.toNat_natCast,← hk,g3]
    simp only[List.length_cons,List.length_nil];omega
  ·rw[if_neg e2]at hat hk
   simp only[List.append_assoc]at hat hk
   rw[fxO_app,fxO_app,fxO_plain (fetch_plain _ _ _),show (cxO b ls j).fn=j from rfl,fx_jump 20 _ hn hj ⟨hE.1,hE.2.1⟩]at hat
   rw[List.length_append,List.length_append]at hk
   obtain ⟨n,s1,g1,g2,g3,g4,g5,g6,g7⟩:=fetch_r (inp:=inp) (memO h.f hj) hr hv hMv ⟨by omega,by omega⟩ hat hp
   obtain ⟨a1,a2⟩:=g7.app
   have hmi:=mI_jnz inp s1 (fetchR (cxO b ls j) bk.v 9) ((stO b ls rw j bk.to.toNat:Nat):Int)
   rw[g5]at hmi
   by_cases q:gR rg bk.v=0
   ·have hg:goB bk rg=bk.el:=by unfold goB;rw[if_pos ⟨e,q⟩]
    rw[if_pos q]at hmi
    rw[hg]
    by_cases e3:bk.el=((i+1:Nat):Int)
    ·rw[if_pos e3]at hk
     refine ⟨n+1,_,by omega,g2.trans (Mx.one a1 g3 hmi),?_,g4.pc _⟩
     rw[e3,Int.toNat_natCast,← hk]
     simp only[List.length_cons,List.length_nil]
     rw[g3];omega
    ·rw[if_neg e3,fx_jump 18 0 hn hj ⟨hE.2.2.1,hE.2.2.2.1⟩]at a2
     have x1:=Mx.one (inp:=inp) a1 g3 hmi
     have x2:=Mx.one (inp:=inp) (s:={ s1 with pc:=s1.pc+1 }) a2 (by simp only[List.length_cons,List.length_nil];rw[g3];omega) (mI_jmp inp _ _)
     exact ⟨n+(1+1),_,by omega,g2.trans (x1.trans x2),rfl,(g4.pc _).pc _⟩
   ·have hg:goB bk rg=bk.to:=by unfold goB;rw[if_neg (fun h=>q h.2)]
    rw[if_neg q]at hmi
    rw[hg]
    exact ⟨n+1,_,by omega,g2.trans (Mx.one a1 g3 hmi),rfl,g4.pc _⟩
theorem Sm.frj {j m:Nat} {s s':Mc} (h:Sm s s'):FrJ b ls m j s s':=fun a _ _=>by rw[h.m]
theorem blk_go (h:OfH b ls rw) {j:Nat} (hj:j<b.funcs.length) {call:Nat→Bst→Bst} (hc:CallO b ls rw inp fuel call j) (hcp:CallP inp fuel b.words.toNat j call) {L:LD} (hL:ClosedP (fO b j) L) (hA:AllocP (fO b j) L (cxO b ls j).pl 8) {ret:Int} :
 ∀ (g i:Nat) (rg:List Int) (σ:Bst) (s:Mc),i<(fO b j).n→WfR (cxO b ls j).pl.length rg→WfB inp fuel b.words.toNat σ→σ.en=0→fuel<g+σ.st→Rl (cxO b ls j) b.words.toNat (dataO b ls).toNat (fun u=>L.I i u) rg σ s→s.pc=((stO b ls rw j i:Nat):Int) →
  (j+1<b.funcs.length→s.me.getD (bkP b ls+j).toNat default=ret)→ResO b ls rw inp j ret (63*((blkF call inp fuel (fO b j) g i rg σ).st-σ.st)) s (blkF call inp fuel (fO b j) g i rg σ)
 | 0,_,_,σ,_,_,_,hw,_,hg,_,_,_=>absurd hw.s (by omega)
 | g+1,i,rg,σ,s,hi,hR,hw,h0,hg,hr,hp,hb=>by
  have hn:1≤b.funcs.length:=by omega
  have hwd:=h.f.words
  have hWW:((b.words.toNat:Nat):Int)=b.words:=by omega
  have hm:=BF.mem hi
  have hpl:=h.f.pl hj
  obtain ⟨hE,hT⟩:=h.f.parts hj _ hm
  have hbk:(fO b j).bks.getD i default=(fO b j).bk i:=rfl
  have hat:=at_blkO (ls:=ls) (rw:=rw) hn hj hi
  unfold blkY at hat
  rw[fxO_app]at hat
  obtain ⟨a1,a2⟩:=hat.app
  rw[fxO_len]at a2
  have hsu:=stO_succ (b:=b) (ls:=ls) (rw:=rw) hi
  unfold blkY at hsu
  rw[List.length_append]at hsu
  have hT2:∀ t ∈ ((fO b j).bk i).ins,FitsT t j (cxO b ls j).pl.length b.words.toNat∧In32 t.n:=fun t ht=>by
   rw[hpl.1,hWW];exact ⟨hT t ht,h.n _ (mem_getD hj) _ hm t ht⟩
  have hfine:=(h.f.few.fine hj).1
  obtain ⟨k1,k2⟩:=ins_go h hj hc hcp (M:=fun u=>last1 ((fO b j).bk i) u (L.O i u)) ((fO b j).bk i).ins (stO b ls rw j i) rg σ s (fun t ht=>⟨h.f.insOk h.n hj hm ht,by have:=(hT2 t ht).1;rw[hWW]at this;exact this,(hT2 t ht).2⟩)
   (apP_of _ (fun q hq hs u hu h1 h2=>hA.st i hi q hq hs u (by rw[← hpl.2];exact hu) h1 h2) (fun q hq hs u hu h1=>hA.ca i hi q hq hs u (by rw[← hpl.2];exact hu) h1)) hR hw h0
   (hr.mono fun u hu hM=>hL.cl.ahead i hi u (by rw[← hpl.2];exact hu) hM) hp a1
  obtain ⟨w1,w2,w3⟩:=insF_wf hcp ((fO b j).bk i).ins rg σ hT2 hR hw h0
  rw[blkF_succ,hbk]
  generalize insF call inp fuel ((fO b j).bk i).ins rg σ=p at *
  by_cases e:p.2.en=0
  ·rw[if_pos e]
   by_cases e2:fuel≤p.2.st
   ·rw[if_pos e2]
    exact ⟨fun e=>absurd (show (5:Int)=0 from e) (by decide),fun _ e=>absurd rfl e⟩
   rw[if_neg e2]
   obtain ⟨n,s1,q1,q2,q3,q4,q5⟩:=k1 e
   have hbks:=ws_bk h.f (j:=j+1) (by omega)
   have hb1:j+1<b.funcs.length→s1.me.getD (bkP b ls+j).toNat default=ret:=fun hl=>by
    rw[← hb hl]
    exact q5 _ (by omega) (by omega)
   by_cases e3:((fO b j).bk i).e=3
   ·rw[if_pos e3]
    have eY:endY (cxO b ls j) ((fO b j).bk i) (i+1:Nat)=if (j:Int)=(b.funcs.length:Int)-1 then [pY 26 0 0 0] else [pY 16 12 0 (bkP b ls+j),pY 22 12 0 0]:=by
     unfold endY
     simp only[e3,Int.reduceEq,if_true,if_false];rfl
    rw[eY]at a2
    refine ⟨fun _=>⟨fun hl=>?_,fun hl=>?_⟩,fun e4=>absurd e e4⟩
    ·rw[if_pos (by omega)]at a2
     refine ⟨n+0,s1,?_,q2.end_ (Mn.one a2 q3 (mI_halts inp s1) (by decide)),q4.o⟩
     simp only;omega
    ·rw[if_neg (by omega)]at a2
     obtain ⟨c1,c2⟩:=At.app (l:=[_]) (m:=[_]) a2
     have hz:s1.rg (0:Int).toNat=0:=q4.z
     have hN:=q4.n
     have hd:=data_bk b ls
     have hmi:=mI_ld inp s1 12 0 (bkP b ls+j) (by rw[hz];have:=(memO h.f hj).le;omega) (by rw[hz];omega)
     rw[hz,Int.zero_add,hb1 hl]at hmi
     have x1:=Mx.one (inp:=inp) c1 q3 hmi
     have x2:=Mx.one (inp:=inp) (s:=stM s1 12 ret) c2 (by simp only[stM,List.length_cons,List.length_nil];rw[q3];omega) (mI_rets inp _ 12)
     refine ⟨n+(1+1),_,?_,q2.trans (x1.trans x2),rfl,⟨q4.z,q4.w,q4.o,q4.d,q4.n⟩,fun a g1 g2=>q5 a g1 g2⟩
     simp only;omega
   ·rw[if_neg e3]
    have he:((fO b j).bk i).e=1∨((fO b j).bk i).e=2:=by
     have:=((h.f.fn h.n hj).ins _ hm).2.1
     omega
    obtain ⟨n2,s2,r1,r2,r3,r4⟩:=end_go (inp:=inp) h hj (i:=i) he hE q4 q3 a2 (by rw[hsu];omega)
    have hgo:=goB_in hE e3 p.1
    have hnx:goB ((fO b j).bk i) p.1 ∈ nxt ((fO b j).bk i):=by
     unfold goB nxt
     rcases he with e4 | e4
     ·simp[e4]
     ·simp only[e4,true_and,Int.reduceEq,if_false,if_true]
      split<;>simp
    have hgn:(goB ((fO b j).bk i) p.1).toNat<(fO b j).n:=by unfold BF.n;omega
    have hw':WfB inp fuel b.words.toNat { p.2 with st:=p.2.st+1 }:=⟨w2.n,w2.w,w2.o,w2.r,by show p.2.st+1≤fuel;omega⟩
    have hcx:=(h.f.cx hj).ok
    have hrr:=(q4.sm hcx r4).st (p.2.st+1)
    have key:=blk_go h hj hc hcp hL hA (ret:=ret) g (goB ((fO b j).bk i) p.1).toNat p.1 { p.2 with st:=p.2.st+1 } s2 hgn w1 hw' e (by show fuel<g+(p.2.st+1);omega)
     (hrr.mono fun u hu hM=>by
       show last1 _ u (L.O i u)=true
       unfold last1
       split
       ·rfl
       ·exact hL.cl.way i hi _ hnx u (by rw[← hpl.2];exact hu) hM) r3 (fun hl=>by rw[r4.m];exact hb1 hl)
    have hmono:=(blkF_wf hcp hfine.r0 (fun k hk=>⟨(h.f.parts hj k hk).1,fun t ht=>by rw[hWW];exact ⟨(h.f.parts hj k hk).2 t ht,h.n _ (mem_getD hj) k hk t ht⟩⟩) g (goB ((fO b j).bk i) p.1).toNat p.1 { p.2 with st:=p.2.st+1 } hgn (by have:(fO b j).regs.toNat=(cxO b ls j).pl.length:=hpl.2.symm;show WfR (fO b j).regs.toNat p.1;rw[this];exact w1) hw' e).2
    replace hmono:p.2.st+1≤(blkF call inp fuel (fO b j) g (goB ((fO b j).bk i) p.1).toNat p.1 { p.2 with st:=p.2.st+1 }).st:=hmono
    exact key.step (q2.trans r2) (q5.trans r4.frj) (ar64 q1 r1 w3 hmono)
  ·rw[if_neg e]
   exact ⟨fun e0=>absurd e0 e,fun _ e5=>k2 e e5⟩
theorem set_rep (n d:Nat):sR (List.replicate n 0) (d:Int) 0=List.replicate n 0:=by
 unfold sR
 refine List.ext_getElem (by simp) fun i h1 h2=>?_
 rw[List.getElem_set]
 split<;>simp
theorem zeros_go {code:List Ci} {c:Cx} {k W E N:Nat} {s:Mc} {σ:Bst} {row:List Bool} (hm:MemOk c W E N) (hap:∀ u<c.pl.length,∀ v<c.pl.length,u≠v→gB row u=true→gB row v=true→gP c.pl u≠gP c.pl v) (hb:BaO W N σ s) (hp:s.pc=k) :
 ∀ m≤c.pl.length,At code k ((zerosY c row m).map (·.1))→∃ n s',n≤2*m∧Mx code inp n s s'∧s'.pc=((k+(zerosY c row m).length:Nat):Int)∧Rl c W N (fun u=>decide (u<m) && gB row u) (List.replicate c.pl.length 0) σ s'∧FrM E s s'
 | 0,_,_=>⟨0,s,Nat.le_refl _,rfl,by rw[hp];simp[zerosY],⟨hb.z,fun u hu h=>by simp at h,hb.w,hb.o,hb.d,hb.n⟩,FrM.refl E s⟩
 | m+1,hml,hat=>by
  rw[zerosY_succ,List.map_append]at hat
  obtain ⟨a1,a2⟩:=hat.app
  rw[List.length_map]at a2
  obtain ⟨n,s1,q1,q2,q3,q4,q5⟩:=zeros_go hm hap hb hp m (by omega) a1
  rw[zerosY_succ,List.length_append]
  unfold zeroY at a2 ⊢
  by_cases e:gB row m=true
  ·rw[if_pos e]at a2 ⊢
   have hpm:=hm.cs.ok.pv m (by omega)
   have hcp:c.p (m:Int)=gP c.pl m:=by unfold Cx.p;rw[Int.toNat_natCast]
   have hM:∀ u<c.pl.length,(decide (u<m+1) && gB row u)=true→u≠((m:Nat):Int).toNat→(decide (u<m) && gB row u)=true:=fun u hu h1 h2=>by
    rw[Bool.and_eq_true,decide_eq_true_eq]at h1 ⊢
    exact ⟨by omega,h1.2⟩
   have hapm:∀ u<c.pl.length,(decide (u<m+1) && gB row u)=true→u≠((m:Nat):Int).toNat→gP c.pl u≠gP c.pl ((m:Nat):Int).toNat:=fun u hu h1 h2=>by
    rw[Bool.and_eq_true,decide_eq_true_eq]at h1
    rw[Int.toNat_natCast]at h2 ⊢
    exact hap u hu m (by omega) h2 h1.2 e
   by_cases h0:0<c.p (m:Int)
   ·rw[if_pos h0]at a2 ⊢
    have x1:=Mx.one (inp:=inp) a2 q3 (mI_li inp s1 (c.p (m:Int)) 0 0)
    have hk0:keepY c (m:Int) (c.p (m:Int))=[]:=by unfold keepY;rw[if_neg (by omega)]
    obtain ⟨n2,s',g1,g2,g3,g4,g5⟩:=fin_set (code:=code) (inp:=inp) (k:=k+(zerosY c row m).length+1) (s1:=stM s1 (c.p (m:Int)) 0) (M:=fun u=>decide (u<m+1) && gB row u) (σ':=σ) hm q4 (d:=(m:Int)) (r:=c.p (m:Int)) (x:=0) ⟨by omega,by omega⟩ (by simp) hM hapm (by simp[stM,upM]) (fun _=>rfl) (fun j hj hne=>by simp only[stM,upM];rw[if_neg (hne h0)]) rfl rfl q4.o q4.d (by rw[hk0];intro i hi;simp at hi) (by simp only[stM];rw[q3];omega)
    rw[set_rep]at g4
    rw[hk0]at g3
    exact ⟨n+(1+n2),s',by omega,q2.trans (x1.trans g2),by rw[g3];simp only[List.length_cons,List.length_nil];omega,g4,q5.trans (FrM.trans (fun a ha=>rfl) g5)⟩
   ·rw[if_neg h0]at a2 ⊢
    obtain ⟨n2,s',g1,g2,g3,g4,g5⟩:=fin_set (code:=code) (inp:=inp) (k:=k+(zerosY c row m).length) (s1:=s1) (M:=fun u=>decide (u<m+1) && gB row u) (σ':=σ) hm q4 (d:=(m:Int)) (r:=0) (x:=0) ⟨by omega,by omega⟩ (by simp) hM hapm q4.z (fun h1=>absurd h1 h0) (fun j hj hne=>rfl) rfl rfl q4.o q4.d a2 q3
    rw[set_rep]at g4
    exact ⟨n+n2,s',by omega,q2.trans g2,by rw[g3];omega,g4,q5.trans g5⟩
  ·rw[if_neg e]
   refine ⟨n,s1,by omega,q2,by rw[q3];rfl,q4.mono fun u hu h1=>?_,q5⟩
   rw[Bool.and_eq_true,decide_eq_true_eq]at h1 ⊢
   refine ⟨?_,h1.2⟩
   have:u≠m:=fun e2=>e (e2▸h1.2)
   omega
end
section
variable {b:BP} {ls:List (List Int)} {rw:Nat→List Bool} {inp:ByteArray} {fuel:Nat}
theorem zeros_plain (c:Cx) (row:List Bool) (m:Nat):∀ y ∈ zerosY c row m,y.2=none:=fun y hy=>by
 unfold zerosY at hy
 obtain ⟨v,_,hy⟩:=List.mem_flatMap.1 hy
 unfold zeroY at hy
 split at hy
 ·split at hy
  ·rw[List.mem_singleton.1 hy];rfl
  ·unfold keepY at hy;split at hy
   ·rw[List.mem_singleton.1 hy];rfl
   ·cases hy
 ·cases hy
theorem body_go (h:OfH b ls rw) {j:Nat} (hj:j<b.funcs.length) {call:Nat→Bst→Bst} (hc:CallO b ls rw inp fuel call j) (hcp:CallP inp fuel b.words.toNat j call) {σ:Bst} {s:Mc} (hw:WfB inp fuel b.words.toNat σ) (h0:σ.en=0) (hb:BaO b.words.toNat (dataO b ls).toNat σ s) (hp:s.pc=((entO b ls rw j:Nat):Int)) :
 ∃ n s1,n≤61∧Mx (cdO b ls rw) inp n s s1∧FrJ b ls (j+1) j s s1∧ResO b ls rw inp j (s.rg 12) (63*((blkF call inp fuel (fO b j) (fuel+1) 0 (List.replicate (fO b j).regs.toNat 0) σ).st-σ.st)) s1 (blkF call inp fuel (fO b j) (fuel+1) 0 (List.replicate (fO b j).regs.toNat 0) σ):=by
 have hn:1≤b.funcs.length:=by omega
 have hpl:=h.f.pl hj
 obtain ⟨hfine,hr30,-⟩:=h.f.few.fine hj
 obtain ⟨L0,hL0,hA0⟩:=h.f.hold.al j hj
 obtain ⟨L,hL,hrow⟩:=h.r j hj
 have hb0:0<(fO b j).n:=List.length_pos_iff.2 hfine.b0
 have hrl:(rw j).length=(fO b j).r:=by rw[hrow];exact hL.cl.sz.il hb0
 have hregs:(fO b j).regs.toNat=(cxO b ls j).pl.length:=hpl.2.symm
 have hI:∀ u<(fO b j).r,gB (rw j) u=L0.I 0 u:=fun u hu=>by
  have e1:gB (rw j) u=L.I 0 u:=by rw[hrow];rfl
  rw[e1]
  have m1:=(hL.min _ _ hL0.cl.cl 0 hb0 u hu).1
  have m2:=(hL0.min _ _ hL.cl.cl 0 hb0 u hu).1
  cases x1:L.I 0 u<;>cases x2:L0.I 0 u<;>simp_all
 have hmo:=memO h.f hj
 have hwd:=h.f.words
 have hbks:=ws_bk h.f (j:=j+1) (by omega)
 have hws:=ws_bk h.f (j:=j) (by omega)
 have hat:=at_headO (ls:=ls) (rw:=rw) hn hj
 have hst:=stO_zero (b:=b) (ls:=ls) (rw:=rw) j
 unfold headY at hat hst
 rw[fxO_app,fxO_plain (zeros_plain _ _ _)]at hat
 obtain ⟨a1,a2⟩:=hat.app
 rw[fxO_len]at a2
 rw[List.length_append]at hst
 have first:∃ n s1,n≤1∧Mx (cdO b ls rw) inp n s s1∧s1.pc=((entO b ls rw j+(if ((cxO b ls j).fn:Int)=((cxO b ls j).b.funcs.length:Int)-1 then ([]:List Sy) else [pY 17 12 0 ((cxO b ls j).back+(cxO b ls j).fn)]).length:Nat):Int)∧BaO b.words.toNat (dataO b ls).toNat σ s1∧FrJ b ls (j+1) j s s1∧(j+1<b.funcs.length→s1.me.getD (bkP b ls+j).toNat default=s.rg 12):=by
  by_cases hl:(j:Int)=(b.funcs.length:Int)-1
  ·have hl':((cxO b ls j).fn:Int)=((cxO b ls j).b.funcs.length:Int)-1:=hl
   rw[if_pos hl']
   exact ⟨0,s,by omega,rfl,by rw[hp];simp,hb,FrJ.refl _ _ _ _ _,fun e=>by omega⟩
  ·have hl':¬ ((cxO b ls j).fn:Int)=((cxO b ls j).b.funcs.length:Int)-1:=hl
   rw[if_neg hl']at a1 ⊢
   have hz:s.rg (0:Int).toNat=0:=hb.z
   have hN:=hb.n
   have hd:=data_bk b ls
   have hmi:=mI_st inp s 12 0 (bkP b ls+j) (by rw[hz];have:=hmo.le;omega) (by rw[hz];omega)
   rw[hz,Int.zero_add]at hmi
   refine ⟨1,_,by omega,Mx.one (i:=⟨17,12,0,bkP b ls+j⟩) a1 hp hmi,by simp[hp],⟨hb.z,fun a ha=>?_,hb.o,hb.d,by simp only[List.length_set];exact hN⟩,fun a g1 g2=>?_,fun _=>?_⟩
   ·simp only;rw[gds_ne (by omega)];exact hb.w a ha
   ·simp only;rw[gds_ne (by omega)]
   ·simp only;rw[gds_self (by omega)];rfl
 obtain ⟨n,s1,q1,q2,q3,q4,q5,q6⟩:=first
 obtain ⟨n2,s2,r1,r2,r3,r4,r5⟩:=zeros_go (inp:=inp) (row:=rw j) hmo (fun u hu v hv hne e1 e2=>by
  rw[hpl.2]at hu hv
  exact hA0.ap u hu v hv hne (by rw[← hI u hu];exact e1) (by rw[← hI v hv];exact e2)) q4 q3 (rw j).length (by rw[hrl,hpl.2];exact Nat.le_refl _) a2
 have hRr:WfR (cxO b ls j).pl.length (List.replicate (fO b j).regs.toNat 0):=by rw[hregs];exact rep_wf _
 have hr2:(fO b j).r≤30:=hr30
 refine ⟨n+n2,s2,by omega,q2.trans r2,q5.trans (r5.j (by omega)),?_⟩
 refine blk_go h hj hc hcp hL0.cl hA0 (fuel+1) 0 _ σ s2 hb0 hRr hw h0 (by omega) ?_ (by rw[r3,hst];omega) fun hl=>?_
 ·rw[hregs]
  refine r4.mono fun u hu hM=>?_
  rw[Bool.and_eq_true,decide_eq_true_eq]
  rw[hpl.2]at hu
  exact ⟨by rw[hrl];exact hu,by rw[hI u hu];exact hM⟩
 ·rw[← q6 hl]
  exact r5 _ (by omega)
theorem fnsOk (h:OfH b ls rw):FnsOk b.funcs b.words.toNat:=by
 have hwd:=h.f.words
 refine ⟨fun i hi=>?_,fun f hf k hk=>?_,fun f hf k hk t ht=>h.n f hf k hk t ht⟩
 ·rw[show ((b.words.toNat:Nat):Int)=b.words by omega];exact (h.f.few.fine hi).2.2
 ·obtain ⟨i,hi,rfl⟩:=List.getElem_of_mem hf
  have:=(h.f.few.fine hi).1.len k (by simpa [List.getD,hi] using hk)
  omega
theorem fun_go (h:OfH b ls rw):∀ k,k+1≤b.funcs.length→CallO b ls rw inp fuel (funF b.funcs inp fuel k) k
 | 0,_=>fun j hj=>absurd hj (Nat.not_lt_zero j)
 | k+1,hk=>fun j hj σ s hw h0 hb hp=>by
  have hcp:=funF_wf (inp:=inp) (fuel:=fuel) (fnsOk h) k (by omega)
  have hc:=fun_go h k (by omega)
  obtain ⟨n,s1,q1,q2,q3,q4⟩:=body_go h (j:=j) (by omega) (fun i hi=>hc i (by omega)) (fun i hi=>hcp i (by omega)) hw h0 hb hp
  have e:funF b.funcs inp fuel (k+1) j σ=blkF (funF b.funcs inp fuel k) inp fuel (fO b j) (fuel+1) 0 (List.replicate (fO b j).regs.toNat 0) σ:=rfl
  rw[e]
  refine ⟨fun e0=>?_,fun e0 e5=>?_⟩
  ·obtain ⟨m,s',r1,r2,r3,r4,r5⟩:=(q4.1 e0).2 (by omega)
   exact ⟨n+m,s',by omega,q2.trans r2,r3,r4,q3.trans (r5.mono (by omega) (Int.le_refl _))⟩
  ·obtain ⟨m,s',r1,r2,r3⟩:=q4.2 e0 e5
   exact ⟨n+m,s',by omega,q2.end_ r2,r3⟩
theorem sim_blocks (h:OfH b ls rw) (h5:(finB b inp fuel).en≠5):∃ n s',n+1≤64*((finB b inp fuel).st+1)∧Mn (cdO b ls rw) inp n ⟨0,fun _=>0,List.replicate (dataO b ls).toNat 0,0,[]⟩ (resB b inp fuel).en s'∧s'.out=(finB b inp fuel).out:=by
 have hwd:=h.f.words
 have hd:=data_bk b ls
 have hbk:=ws_bk h.f (j:=0) (by omega)
 have hcp:=funF_wf (inp:=inp) (fuel:=fuel) (fnsOk h) (b.funcs.length-1) (by omega)
 have hc:=fun_go (inp:=inp) (fuel:=fuel) h (b.funcs.length-1) (by omega)
 have hw:WfB inp fuel b.words.toNat (begB b):=⟨by simp[begB],fun x hx=>by rw[(List.mem_replicate.1 hx).2];exact ⟨by omega,by omega⟩,by simp[begB],Nat.zero_le _,Nat.zero_le _⟩
 have hb:BaO b.words.toNat (dataO b ls).toNat (begB b) ⟨0,fun _=>0,List.replicate (dataO b ls).toNat 0,0,[]⟩:=by
  refine ⟨rfl,fun a ha=>?_,rfl,rfl,by simp⟩
  show (List.replicate (dataO b ls).toNat (0:Int)).getD a default=(List.replicate b.words.toNat (0:Int)).getD a default
  rw[List.getD,List.getD,List.getElem?_replicate,List.getElem?_replicate,if_pos (by omega),if_pos ha]
 obtain ⟨n,s1,q1,q2,q3,q4⟩:=body_go h (j:=b.funcs.length-1) (by omega) (fun i hi=>hc i (by omega)) (fun i hi=>hcp i (by omega)) hw rfl hb (by rw[entO_last (by omega)];rfl)
 have e:finB b inp fuel=blkF (funF b.funcs inp fuel (b.funcs.length-1)) inp fuel (fO b (b.funcs.length-1)) (fuel+1) 0 (List.replicate (fO b (b.funcs.length-1)).regs.toNat 0) (begB b):=by
  have:∀ k,funF b.funcs inp fuel (k+1) k (begB b)=blkF (funF b.funcs inp fuel k) inp fuel (fO b k) (fuel+1) 0 (List.replicate (fO b k).regs.toNat 0) (begB b):=fun k=>rfl
  rw[← this]
  unfold finB
  congr 1
  omega
 rw[← e]at q4
 have hst:(begB b).st=0:=rfl
 rw[hst]at q4
 unfold resB
 by_cases e0:(finB b inp fuel).en=0
 ·obtain ⟨m,s',r1,r2,r3⟩:=(q4.1 e0).1 (by omega)
  simp only[if_pos e0]
  exact ⟨n+m,s',by omega,q2.end_ r2,r3⟩
 ·obtain ⟨m,s',r1,r2,r3⟩:=q4.2 e0 h5
  simp only[if_neg e0]
  exact ⟨n+m,s',by omega,q2.end_ r2,r3⟩
end
set_option maxRecDepth 10000
open Go.V
abbrev words (l:List Int):AV:=.imm 1 (l.map U32)
def regs (f:Nat→Int):List AV:=(List.range 16).map fun k=>U32 (f k)
def stc (pc:Int) (f:Nat→Int) (m:AV) (rd:Int) (out:ByteArray) (st fin:Int):List AV:=I pc::(regs f++[m,I rd,strv out,I st,I fin])
def updR (f:Nat→Int) (j:Nat) (v:Int):Nat→Int:=fun k=>if k=j then v else f k
theorem regs_length (f:Nat→Int):(regs f).length=16:=rfl
theorem regs_all (f:Nat→Int):(regs f).all AV.one=true:=rfl
theorem regs_get {f:Nat→Int} {j:Nat} (h:j<16):(regs f).getD j .dead=U32 (f j):=by
 simp[regs,List.getD,h]
theorem regs_set {f:Nat→Int} {j:Nat} {v:Int} (h:j<16):(regs f).set j (U32 v)=regs (updR f j v):=by
 refine List.ext_getElem (by simp[regs]) fun i h1 h2=>?_
 rw[List.getElem_set]
 simp only[regs,List.getElem_map,List.getElem_range,updR]
 by_cases e:j=i
 ·subst e;simp
 ·rw[if_neg e,if_neg (fun h=>e h.symm)]
section
variable {pc:Int} {f:Nat→Int} {m:AV} {rd:Int} {out:ByteArray} {st fin:Int} {C:AV→Prop}
theorem stc_length:(stc pc f m rd out st fin).length=22:=rfl
theorem stc_all:(stc pc f m rd out st fin).all AV.one=m.one:=by
 simp[stc,regs_all];simp[AV.one,Value.oneCell']
theorem s_all:cellT (stc pc f m rd out st fin) 0 true 22 C .mk=C (.agg (stc pc f m rd out st fin)):=by
 simp only[cellT,cellW,partOK,partA]
 rw[stc_length];simp
 rw[List.take_of_length_le (by rw[stc_length];exact Nat.le_refl _)]
theorem s_pc:cellT (stc pc f m rd out st fin) 0 false 1 C .mk=C (I pc):=by
 simp only[cellT,cellW,partOK,partA,stc_length];simp[stc,AV.one,Value.oneCell']
theorem s_regs:cellT (stc pc f m rd out st fin) 1 true 16 C .mk=C (.agg (regs f)):=by
 simp only[cellT,cellW,partOK,partA,stc_length]
 simp only[stc,if_true,List.drop_succ_cons,List.drop_zero]
 rw[List.take_append_of_le_length (by rw[regs_length];exact Nat.le_refl _),List.take_of_length_le (by rw[regs_length];exact Nat.le_refl _)]
 simp
theorem s_mem:cellT (stc pc f m rd out st fin) 17 false 1 C .mk=(m.one=true∧C m):=by
 have e:(stc pc f m rd out st fin).getD 17 .dead=m:=rfl
 simp only[cellT,cellW,partOK,partA,stc_length,e];simp
theorem s_rd:cellT (stc pc f m rd out st fin) 18 false 1 C .mk=C (I rd):=by
 have e:(stc pc f m rd out st fin).getD 18 .dead=I rd:=rfl
 simp only[cellT,cellW,partOK,partA,stc_length,e];simp[AV.one,Value.oneCell']
theorem s_out:cellT (stc pc f m rd out st fin) 19 false 1 C .mk=C (strv out):=by
 have e:(stc pc f m rd out st fin).getD 19 .dead=strv out:=rfl
 simp only[cellT,cellW,partOK,partA,stc_length,e];simp[AV.one,Value.oneCell']
theorem s_st:cellT (stc pc f m rd out st fin) 20 false 1 C .mk=C (I st):=by
 have e:(stc pc f m rd out st fin).getD 20 .dead=I st:=rfl
 simp only[cellT,cellW,partOK,partA,stc_length,e];simp[AV.one,Value.oneCell']
theorem s_fin:cellT (stc pc f m rd out st fin) 21 false 1 C .mk=C (I fin):=by
 have e:(stc pc f m rd out st fin).getD 21 .dead=I fin:=rfl
 simp only[cellT,cellW,partOK,partA,stc_length,e];simp[AV.one,Value.oneCell']
theorem ss_mem {x:AV}:(stc pc f m rd out st fin).set 17 x=stc pc f x rd out st fin:=rfl
theorem ss_fin {x:Int}:(stc pc f m rd out st fin).set 21 (I x)=stc pc f m rd out st x:=rfl
theorem s_zero:([.val (.int .i64 0),.val (.int .u32 0),.val (.int .u32 0),.val (.int .u32 0),.val (.int .u32 0),.val (.int .u32 0),.val (.int .u32 0),.val (.int .u32 0),.val (.int .u32 0),.val (.int .u32 0),.val (.int .u32 0),.val (.int .u32 0),.val (.int .u32 0),.val (.int .u32 0),.val (.int .u32 0),.val (.int .u32 0),.val (.int .u32 0),.val (.slice none 0 0),.val (.int .i64 0),.val (.string ⟨#[]⟩),.val (.int .i64 0),.val (.int .i64 0)]:List AV)
 = stc 0 (fun _=>0) nilv 0 ⟨#[]⟩ 0 0:=rfl
theorem s_put {pc':Int} {f':Nat→Int} {m':AV} {rd':Int} {out':ByteArray} {st' fin':Int}:(stc pc f m rd out st fin).take 0++stc pc' f' m' rd' out' st' fin'++(stc pc f m rd out st fin).drop (0+22)=stc pc' f' m' rd' out' st' fin':=by
 rw[List.drop_eq_nil_of_le (by rw[stc_length];exact Nat.le_refl _)];simp
theorem s_put' {pc':Int} {f':Nat→Int} {m':AV} {rd':Int} {out':ByteArray} {st' fin':Int}:stc pc' f' m' rd' out' st' fin'++(stc pc f m rd out st fin).drop 22=stc pc' f' m' rd' out' st' fin':=by
 rw[List.drop_eq_nil_of_le (by rw[stc_length];exact Nat.le_refl _)];simp
variable {code:AV} {inp:ByteArray} {own:Bool} {more:AV}
end
structure S where
 pc:Int
 reg:Nat→Int
 mem:List Int
 rd:Int
 out:ByteArray
 st:Int
 fin:Int
abbrev stA (s:S):AV:=.agg (stc s.pc s.reg (words s.mem) s.rd s.out s.st s.fin)
theorem stA_frz' {n:Nat} {H:List VObj} {nx:Nat} {pc:Int} {f:Nat→Int} {m:AV} {mem:List Int} {rd:Int} {out:ByteArray} {st fin:Int} (h:Frz n H nx m (words mem)):Frz n H nx (.agg (stc pc f m rd out st fin)) (stA ⟨pc,f,mem,rd,out,st,fin⟩):=by
 refine Frz.agg ?_
 refine ⟨_,_,rfl,Frz.pure rfl,?_⟩
 have app:∀ {xs ys xs' ys':List AV},FrzL n H nx xs xs'→FrzL n H nx ys ys'→FrzL n H nx (xs++ys) (xs'++ys'):=fun {xs ys xs' ys'} h1 h2=>by
  induction xs generalizing xs' with
  | nil=>simp only[FrzL]at h1;subst h1;exact h2
  | cons x xs ih =>
   obtain ⟨y,ys2,rfl,h3,h4⟩:=h1
   exact ⟨y,_,rfl,h3,ih h4⟩
 refine app (FrzL.pure rfl) ⟨_,_,rfl,h,FrzL.pure rfl⟩
set_option maxRecDepth 10000
open Go.V
section
variable {α:Type}
theorem ogn (T:List α) (x:α) (R:List α):(T++x::R)[T.length]? = some x:=by simp
theorem osn (T:List α) (x y:α) (R:List α):(T++x::R).set T.length y=T++y::R:=by
 rw[List.set_append_right _ _ (Nat.le_refl _)];simp
theorem olen (L:List α) (o:α) (T:List α):(L++o::T).length=L.length+(T.length+1):=by simp
end
def nxtM (s:S):Int:=IntKind.i64.wrap (s.pc+1)
def setR (s:S) (a v:Int):S:={ s with reg:=updR s.reg a.toNat v,pc:=nxtM s }
def atW (s:S) (b c:Int):Int:=w32 (s.reg b.toNat+c)
def byteOf (r:Int):UInt8:=UInt8.ofNat (IntKind.u8.wrap r).toNat
def insM (code:List Int) (inp:ByteArray) (s:S) (op a b c:Int):Int × S :=
 if op=18 then (0,{ s with pc:=c })
 else if op=19 then (0,{ s with pc:=if s.reg a.toNat=0 then c else nxtM s })
 else if op=20 then (0,{ s with pc:=if s.reg a.toNat=0 then nxtM s else c })
 else if op=21 then (0,{ s with reg:=updR s.reg a.toNat (w32 (nxtM s)),pc:=c })
 else if op=22 then (0,{ s with pc:=s.reg a.toNat })
 else if op=1 then (0,setR s a c)
 else if op=2 then (0,setR s a (s.reg a.toNat % 65536+c*65536))
 else if op=3 then (0,setR s a (s.reg b.toNat))
 else if op=16 then (if atW s b c<s.mem.length then (0,setR s a (s.mem.getD (atW s b c).toNat default)) else (8,s))
 else if op=17 then (if atW s b c<s.mem.length then (0,{ s with mem:=s.mem.set (atW s b c).toNat (s.reg a.toNat),pc:=nxtM s }) else (8,s))
 else if op=27 then (if atW s b c<code.length then (0,setR s a (code.getD (atW s b c).toNat default)) else (8,s))
 else if op=23 then (0,if s.rd<0∨(inp.size:Int)≤s.rd then setR s a 256 else setR { s with rd:=IntKind.i64.wrap (s.rd+1) } a (byteAt inp s.rd.toNat))
 else if op=24 then (if 65536≤s.out.size then (4,s) else (0,{ s with out:=s.out.push (byteOf (s.reg a.toNat)),pc:=nxtM s }))
 else if op=25 then (if s.reg a.toNat<c then (0,{ s with pc:=nxtM s }) else (3,s))
 else if op=26 then (1,s)
 else if (applyW op (s.reg b.toNat) (s.reg c.toNat)).2=0 then (0,setR s a (applyW op (s.reg b.toNat) (s.reg c.toNat)).1) else (2,s)
section
variable (code:List Int) (inp:ByteArray) (pc:Int) (f:Nat→Int) (m:AV) (rd:Int) (out:ByteArray) (st fin:Int) (own:Bool) (more:AV) (L T:List VObj) (s nx:Nat)
end
set_option maxRecDepth 10000
open Go.V
def MemAt (L T:List VObj) (m:AV) (own:Bool) (mem:List Int):Prop :=
 (own=false∧m=words mem)∨(own=true∧∃ k sm,m = .ref (L.length+(k+1)) sm 0 mem.length∧T[k]? = some ⟨sm,45,1,mem.map U32⟩)
def MoreAt (L T:List VObj) (m:AV) (bs:List UInt8):Prop :=
 (m=nilv∧bs=[])∨∃ k sm,m = .ref (L.length+(k+1)) sm 0 bs.length∧T[k]? = some ⟨sm,5,1,bs.map U8⟩
theorem MemAt.add {L T:List VObj} {m:AV} {own:Bool} {mem:List Int} (h:MemAt L T m own mem) (R:List VObj):MemAt L (T++R) m own mem:=by
 rcases h with h | ⟨h1,k,sm,h2,h3⟩
 ·exact .inl h
 ·exact .inr ⟨h1,k,sm,h2,by rw[List.getElem?_append_left (List.getElem?_eq_some_iff.1 h3).1];exact h3⟩
theorem MoreAt.add {L T:List VObj} {m:AV} {bs:List UInt8} (h:MoreAt L T m bs) (R:List VObj):MoreAt L (T++R) m bs:=by
 rcases h with h | ⟨k,sm,h2,h3⟩
 ·exact .inl h
 ·exact .inr ⟨k,sm,h2,by rw[List.getElem?_append_left (List.getElem?_eq_some_iff.1 h3).1];exact h3⟩
def Keep (T T':List VObj):Prop:=∀ (k:Nat) (ob:VObj),T[k]? = some ob→(ob.sz=0∨(ob.ty≠45∧ob.ty≠5))→T'[k]? = some ob
theorem Keep.refl (T:List VObj):Keep T T:=fun _ _ h _=>h
theorem Keep.add {T:List VObj} (R:List VObj):Keep T (T++R):=fun k ob h _=>by rw[List.getElem?_append_left (List.getElem?_eq_some_iff.1 h).1];exact h
theorem Keep.trans {T T' T'':List VObj} (h:Keep T T') (k:Keep T' T''):Keep T T'':=fun i ob h1 h2=>k i ob (h i ob h1 h2) h2
theorem Keep.put {T:List VObj} {k:Nat} {ob ob':VObj} (h:T[k]? = some ob) (hz:ob.sz≠0) (ht:ob.ty=45∨ob.ty=5) (R:List VObj):Keep T ((T++R).set k ob'):=fun i o h1 h2=>by
 have hne:k≠i:=fun e=>by
  subst e;rw[h]at h1;cases h1
  rcases h2 with h2 | ⟨h2,h3⟩
  ·exact hz h2
  rcases ht with e | e
  ·exact h2 e
  ·exact h3 e
 rw[List.getElem?_set,if_neg hne,List.getElem?_append_left (List.getElem?_eq_some_iff.1 h1).1];exact h1
theorem MemAt.one {L T:List VObj} {m:AV} {own:Bool} {mem:List Int} (h:MemAt L T m own mem):m.one=true:=by
 rcases h with ⟨_,h⟩ | ⟨_,k,sm,h,_⟩<;>rw[h]<;>rfl
theorem MoreAt.one {L T:List VObj} {m:AV} {bs:List UInt8} (h:MoreAt L T m bs):m.one=true:=by
 rcases h with ⟨h,_⟩ | ⟨k,sm,h,_⟩<;>rw[h]<;>rfl
theorem MoreAt.put {L T:List VObj} {m:AV} {bs:List UInt8} (h:MoreAt L T m bs) {k sm:Nat} {cs cs':List AV} (hk:T[k]? = some ⟨sm,45,1,cs⟩) (R:List VObj):MoreAt L ((T++R).set k ⟨sm,45,1,cs'⟩) m bs:=by
 rcases h with h | ⟨j,s2,h2,h3⟩
 ·exact .inl h
 ·refine .inr ⟨j,s2,h2,?_⟩
  have hne:k≠j:=fun e=>by
   subst e;rw[hk]at h3
   simp only[Option.some.injEq,VObj.mk.injEq]at h3
   exact absurd h3.2.1 (by decide)
  rw[List.getElem?_set,if_neg hne,List.getElem?_append_left (List.getElem?_eq_some_iff.1 h3).1];exact h3
section
variable (code:List Int) (inp:ByteArray) (pc:Int) (f:Nat→Int) (m:AV) (mem:List Int) (rd:Int) (out outT:ByteArray) (st fin:Int) (own:Bool) (more:AV) (L T:List VObj) (s nx:Nat)
end
set_option maxRecDepth 10000
open Go.V
theorem MemAt.put {L T:List VObj} {m:AV} {own:Bool} {mem:List Int} (h:MemAt L T m own mem) {k sm s':Nat} {cs cs':List AV} (hk:T[k]? = some ⟨sm,5,1,cs⟩) (R:List VObj):MemAt L ((T++R).set k ⟨s',5,1,cs'⟩) m own mem:=by
 rcases h with h | ⟨h1,j,s2,h2,h3⟩
 ·exact .inl h
 ·refine .inr ⟨h1,j,s2,h2,?_⟩
  have hne:k≠j:=fun e=>by
   subst e;rw[hk]at h3
   simp only[Option.some.injEq,VObj.mk.injEq]at h3
   exact absurd h3.2.1 (by decide)
  rw[List.getElem?_set,if_neg hne,List.getElem?_append_left (List.getElem?_eq_some_iff.1 h3).1];exact h3
theorem MoreAt.size {L T:List VObj} {m:AV} {bs:List UInt8} (h:MoreAt L T m bs):(m=nilv∧bs=[])∨∃ k sm,m = .ref (L.length+(k+1)) sm 0 bs.length∧T[k]? = some ⟨sm,5,1,bs.map U8⟩:=h
theorem byteOf_eq (r:Int):((byteOf r).toNat:Int)=IntKind.u8.wrap r:=by
 unfold byteOf
 rw[IntKind.wrap_u8]
 simp only[UInt8.toNat_ofNat']
 omega
section
variable (code:List Int) (inp:ByteArray) (pc:Int) (f:Nat→Int) (m:AV) (mem:List Int) (rd:Int) (out outT:ByteArray) (st fin:Int) (own:Bool) (more:AV) (bs:List UInt8) (L T:List VObj) (s nx:Nat)
end
set_option maxRecDepth 10000
open Go.V
def wordF (code:List Int) (inp:ByteArray) (s:S) (w:Int):S :=
 if okW w then (if (insM code inp s (opW w) (raW w) (rbW w) (kW w)).1=0 then (insM code inp s (opW w) (raW w) (rbW w) (kW w)).2
  else { (insM code inp s (opW w) (raW w) (rbW w) (kW w)).2 with fin:=(insM code inp s (opW w) (raW w) (rbW w) (kW w)).1 })
 else { s with fin:=6 }
def doneF (code:List Int) (s:S):Bool:=decide (s.fin=0) && (decide (0≤s.pc) && decide (s.pc<code.length))
def stepF (code:List Int) (inp:ByteArray) (s:S):S :=
 if s.fin=0 then (if s.pc<0∨(code.length:Int)≤s.pc then { s with fin:=7 } else wordF code inp { s with st:=IntKind.i64.wrap (s.st+1) } (code.getD s.pc.toNat default)) else s
theorem ite_ind {α:Type} {P:α→Prop} {c:Prop} [Decidable c] {x y:α} (h1:c→P x) (h2:¬ c→P y):P (if c then x else y):=by
 by_cases h:c
 ·rw[if_pos h];exact h1 h
 ·rw[if_neg h];exact h2 h
theorem applyM_in (op a b:Int) (ha:In32 a) (hb:In32 b):In32 (applyW op a b).1:=by
 have z:In32 0:=⟨by omega,by omega⟩
 have one:In32 1:=⟨by omega,by omega⟩
 unfold applyW
 refine ite_ind (P:=fun p:Int × Int=>In32 p.1) (fun _=>w32_ok _) fun _=>?_
 refine ite_ind (P:=fun p:Int × Int=>In32 p.1) (fun _=>w32_ok _) fun _=>?_
 refine ite_ind (P:=fun p:Int × Int=>In32 p.1) (fun _=>w32_ok _) fun _=>?_
 refine ite_ind (P:=fun p:Int × Int=>In32 p.1) (fun _=>ite_ind (P:=fun p:Int × Int=>In32 p.1) (fun _=>z) fun _=>w32_ok _) fun _=>?_
 refine ite_ind (P:=fun p:Int × Int=>In32 p.1) (fun _=>ite_ind (P:=fun p:Int × Int=>In32 p.1) (fun _=>z) fun h=>?_) fun _=>?_
 ·show In32 (a.tmod b)
  rw[Int.tmod_eq_emod_of_nonneg ha.1]
  have h1:0≤a % b:=Int.emod_nonneg _ h
  have h2:a % b<b:=Int.emod_lt_of_pos _ (by have:=hb.1;omega)
  exact ⟨h1,by have:=hb.2;omega⟩
 refine ite_ind (P:=fun p:Int × Int=>In32 p.1) (fun _=>w32_ok _) fun _=>?_
 refine ite_ind (P:=fun p:Int × Int=>In32 p.1) (fun _=>w32_ok _) fun _=>?_
 refine ite_ind (P:=fun p:Int × Int=>In32 p.1) (fun _=>w32_ok _) fun _=>?_
 refine ite_ind (P:=fun p:Int × Int=>In32 p.1) (fun _=>ite_ind (P:=In32) (fun _=>z) fun _=>w32_ok _) fun _=>?_
 refine ite_ind (P:=fun p:Int × Int=>In32 p.1) (fun _=>ite_ind (P:=In32) (fun _=>z) fun h=>?_) fun _=>?_
 ·have:=shrW_eq ha b.toNat (by have:=hb.1;omega)
  rw[show ((b.toNat:Nat):Int)=b by have:=hb.1;omega]at this
  rw[this]
  have h2:=Nat.div_le_self a.toNat (2 ^ b.toNat)
  have h3:=ha.2
  have h4:=ha.1
  generalize a.toNat / 2 ^ b.toNat=q at *
  exact ⟨by omega,by omega⟩
 refine ite_ind (P:=fun p:Int × Int=>In32 p.1) (fun _=>ite_ind (P:=In32) (fun _=>one) fun _=>z) fun _=>?_
 refine ite_ind (P:=fun p:Int × Int=>In32 p.1) (fun _=>ite_ind (P:=In32) (fun _=>one) fun _=>z) fun _=>z
structure Wf (s:S):Prop where
 reg:∀ k,In32 (s.reg k)
 mem:∀ x ∈ s.mem,In32 x
def wfS (s:S) (p:Int × S):Prop:=Wf p.2∧p.2.mem.length=s.mem.length∧s.out.size≤p.2.out.size∧p.2.out.size≤s.out.size+1
theorem updR_in {f:Nat→Int} (h:∀ k,In32 (f k)) {j:Nat} {v:Int} (hv:In32 v):∀ k,In32 (updR f j v k):=fun k=>by
 unfold updR;split
 ·exact hv
 ·exact h k
theorem insM_wf (code:List Int) (inp:ByteArray) (s:S) (op a b c:Int) (hcode:∀ x ∈ code,In32 x) (hs:Wf s) (hc:0≤c∧c≤65535):wfS s (insM code inp s op a b c):=by
 have same:wfS s (0,s):=⟨hs,rfl,Nat.le_refl _,Nat.le_succ _⟩
 have pcs:∀ e x,wfS s (e,{ s with pc:=x }):=fun e x=>⟨⟨hs.reg,hs.mem⟩,rfl,Nat.le_refl _,Nat.le_succ _⟩
 have ends:∀ e,wfS s (e,s):=fun e=>⟨hs,rfl,Nat.le_refl _,Nat.le_succ _⟩
 have regs_:∀ x v,In32 v→wfS s (0,setR s x v):=fun x v hv=>⟨⟨updR_in hs.reg hv,hs.mem⟩,rfl,Nat.le_refl _,Nat.le_succ _⟩
 have hR:=hs.reg a.toNat
 unfold insM
 refine ite_ind (P:=wfS s) (fun _=>pcs _ _) fun _=>?_
 refine ite_ind (P:=wfS s) (fun _=>pcs _ _) fun _=>?_
 refine ite_ind (P:=wfS s) (fun _=>pcs _ _) fun _=>?_
 refine ite_ind (P:=wfS s) (fun _=>⟨⟨updR_in hs.reg (w32_ok _),hs.mem⟩,rfl,Nat.le_refl _,Nat.le_succ _⟩) fun _=>?_
 refine ite_ind (P:=wfS s) (fun _=>pcs _ _) fun _=>?_
 refine ite_ind (P:=wfS s) (fun _=>regs_ _ _ ⟨by omega,by omega⟩) fun _=>?_
 refine ite_ind (P:=wfS s) (fun _=>regs_ _ _ ⟨by omega,by omega⟩) fun _=>?_
 refine ite_ind (P:=wfS s) (fun _=>regs_ _ _ (hs.reg _)) fun _=>?_
 have hat:In32 (atW s b c):=w32_ok _
 refine ite_ind (P:=wfS s) (fun _=>ite_ind (P:=wfS s) (fun h=>regs_ _ _ (hs.mem _ (mem_getD (by have:=hat.1;omega)))) fun _=>ends _) fun _=>?_
 refine ite_ind (P:=wfS s) (fun _=>ite_ind (P:=wfS s) (fun h=>⟨⟨hs.reg,fun x hx=>?_⟩,by simp,Nat.le_refl _,Nat.le_succ _⟩) fun _=>ends _) fun _=>?_
 ·rcases List.mem_or_eq_of_mem_set hx with h | h
  ·exact hs.mem x h
  ·rw[h];exact hR
 refine ite_ind (P:=wfS s) (fun _=>ite_ind (P:=wfS s) (fun h=>regs_ _ _ (hcode _ (mem_getD (by have:=hat.1;omega)))) fun _=>ends _) fun _=>?_
 refine ite_ind (P:=wfS s) (fun _=>?_) fun _=>?_
 ·refine ite_ind (P:=fun x:S=>wfS s (0,x)) (fun _=>regs_ _ _ ⟨by omega,by omega⟩) fun _=>⟨⟨updR_in hs.reg ⟨?_,?_⟩,hs.mem⟩,rfl,Nat.le_refl _,Nat.le_succ _⟩<;>unfold byteAt
  ·omega
  ·have:=(inp.data.toList.getD s.rd.toNat 0).toNat_lt;omega
 refine ite_ind (P:=wfS s) (fun _=>ite_ind (P:=wfS s) (fun _=>ends _) fun _=>⟨⟨hs.reg,hs.mem⟩,rfl,by simp[ByteArray.size_push],by simp[ByteArray.size_push]⟩) fun _=>?_
 refine ite_ind (P:=wfS s) (fun _=>ite_ind (P:=wfS s) (fun _=>pcs _ _) fun _=>ends _) fun _=>?_
 refine ite_ind (P:=wfS s) (fun _=>ends _) fun _=>?_
 exact ite_ind (P:=wfS s) (fun _=>regs_ _ _ (applyM_in _ _ _ (hs.reg _) (hs.reg _))) fun _=>ends _
theorem stepF_wf (code:List Int) (inp:ByteArray) (s:S) (hcode:∀ x ∈ code,In32 x) (hs:Wf s):wfS s (0,stepF code inp s):=by
 have ends:∀ x:S,x.reg=s.reg→x.mem=s.mem→x.out=s.out→wfS s (0,x):=fun x h1 h2 h3=>⟨⟨by show ∀ k,In32 (x.reg k);rw[h1];exact hs.reg,by show ∀ y ∈ x.mem,In32 y;rw[h2];exact hs.mem⟩,by show x.mem.length=_;rw[h2],by show s.out.size≤x.out.size;rw[h3];exact Nat.le_refl _,by show x.out.size≤_;rw[h3];exact Nat.le_succ _⟩
 refine ite_ind (P:=fun x:S=>wfS s (0,x)) (fun _=>?_) fun _=>ends _ rfl rfl rfl
 refine ite_ind (P:=fun x:S=>wfS s (0,x)) (fun _=>ends _ rfl rfl rfl) fun _=>?_
 unfold wordF
 generalize code.getD s.pc.toNat default=w
 have hk:0≤kW w∧kW w≤65535:=by unfold kW;omega
 have h:=insM_wf code inp { s with st:=IntKind.i64.wrap (s.st+1) } (opW w) (raW w) (rbW w) (kW w) hcode ⟨hs.reg,hs.mem⟩ hk
 refine ite_ind (P:=fun x:S=>wfS s (0,x)) (fun _=>?_) fun _=>ends _ rfl rfl rfl
 generalize insM code inp { s with st:=IntKind.i64.wrap (s.st+1) } (opW w) (raW w) (rbW w) (kW w)=p at *
 refine ite_ind (P:=fun x:S=>wfS s (0,x)) (fun _=>h) fun _=>?_
 exact ⟨⟨h.1.reg,h.1.mem⟩,h.2⟩
section
variable (code:List Int) (inp:ByteArray) (pc:Int) (f:Nat→Int) (m:AV) (mem:List Int) (rd:Int) (out outT:ByteArray) (st fin:Int) (own:Bool) (more:AV) (bs:List UInt8) (L T:List VObj) (s nx:Nat)
end
set_option maxRecDepth 10000
open Go.V
abbrev imgA (code:List Int) (data:Int):AV:=.agg [words code,I data]
theorem bytes_ext {a b:ByteArray} (h:a.data.toList=b.data.toList):a=b:=by
 cases a;cases b;simp only[ByteArray.mk.injEq];exact Array.toList_inj.1 h
section
variable (code:List Int) (inp:ByteArray) (pc:Int) (f:Nat→Int) (m:AV) (rd:Int) (out outT:ByteArray) (st fin:Int) (own:Bool) (more:AV) (bs:List UInt8) (L T:List VObj) (s nx:Nat)
end
set_option maxRecDepth 10000
open Go.V
def startF (data:Int):S:=⟨0,fun _=>0,if 0<data∧data≤32768 then List.replicate data.toNat 0 else [],0,⟨#[]⟩,0,0⟩
theorem FrzNL.app {H:List VObj} {nx:Nat}:∀ {xs ys xs' ys':List AV},FrzNL H nx xs xs'→FrzNL H nx ys ys'→FrzNL H nx (xs++ys) (xs'++ys')
 | [],_,_,_,h1,h2=>by simp only[FrzNL]at h1;subst h1;exact h2
 | x::xs,ys,xs',ys',h1,h2=>by
  obtain ⟨y,ys2,rfl,h3,h4⟩:=h1
  exact ⟨y,_,rfl,h3,FrzNL.app h4 h2⟩
theorem stA_frzN {H:List VObj} {nx:Nat} {pc:Int} {f:Nat→Int} {m:AV} {mem:List Int} {rd:Int} {out:ByteArray} {st fin:Int} (h:FrzN H nx m (words mem)):FrzN H nx (.agg (stc pc f m rd out st fin)) (stA ⟨pc,f,mem,rd,out,st,fin⟩) :=
 FrzN.agg ⟨_,_,rfl,FrzN.val,FrzNL.app (FrzNL.vals (fun k=>Value.int .u32 (f k)) (List.range 16)) ⟨_,_,rfl,h,_,_,rfl,FrzN.val,_,_,rfl,FrzN.val,_,_,rfl,FrzN.val,_,_,rfl,FrzN.val,rfl⟩⟩
theorem refstart_c (code:List Int) (data:Int):Contract Try.prog 35 [imgA code data] (fun r=>r=stA (startF data)):=by
 refine ContractN.old (ContractN.of_call (VCall.of_body hmix f_scref09_Start (by simp) ?_))
 have z:¬ (0<data∧data≤32768)→startF data=⟨0,fun _=>0,[],0,⟨#[]⟩,0,0⟩:=fun h=>by unfold startF;rw[if_neg h]
 by_cases h1:0<data
 ·by_cases h2:data≤32768
  ·have e:startF data=⟨0,fun _=>0,List.replicate data.toNat 0,0,⟨#[]⟩,0,0⟩:=by unfold startF;rw[if_pos ⟨h1,h2⟩]
   simp only[go_sem,c_scref09_Start,eq_true h1,eq_true h2,s_zero,ss_mem,s_put,s_put',stc_length,stc_all,s_all]
   repeat (refine And.intro (by omega) ?_)
   rw[e,flat_rep]
   refine ⟨_,stA_frzN ?_,rfl⟩
   have hr:List.replicate data.toNat (AV.val (.int .u32 0))=(List.replicate data.toNat (0:Int)).map fun n=>AV.val (.int .u32 n):=by simp
   rw[hr]
   exact frzN_map (f:=fun n:Int=>Value.int .u32 n) rfl (by simp) (fun _=>rfl)
  ·rw[z (fun h=>h2 h.2)]
   simp only[go_sem,c_scref09_Start,eq_true h1,eq_false h2,s_zero,ss_mem,s_put,s_put',stc_length,stc_all,s_all]
   exact ⟨_,stA_frzN (FrzN.nil 1),rfl⟩
 ·rw[z (fun h=>h1 h.1)]
  simp only[go_sem,c_scref09_Start,eq_false h1,s_zero,ss_mem,s_put,s_put',stc_length,stc_all,s_all]
  exact ⟨_,stA_frzN (FrzN.nil 1),rfl⟩
theorem Sle.agg {xs ys:List AV} (h:SleL xs ys):Sle (.agg xs) (.agg ys):=fun M hR v r=>by
 simp only[RV]at r
 obtain ⟨vs,h1,h2⟩:=r
 simp only[RV0]
 exact ⟨vs,h1,h.rl hR h2⟩
theorem wf_start (data:Int):Wf (startF data):=by
 refine ⟨fun k=>⟨by show (0:Int)≤0;omega,by show (0:Int)<_;omega⟩,fun x hx=>?_⟩
 unfold startF at hx
 simp only at hx
 split at hx
 ·rw[List.mem_replicate]at hx;rw[hx.2];exact ⟨by omega,by omega⟩
 ·cases hx
theorem start_len (data:Int):(startF data).mem.length≤32768:=by
 unfold startF
 simp only
 split
 ·simp;omega
 ·simp
set_option maxRecDepth 10000
open Go.V
def runN (code:List Int) (inp:ByteArray) (s:S):Nat→S
 | 0=>s
 | k+1=>stepF code inp (runN code inp s k)
theorem stepF_stays {code:List Int} {inp:ByteArray} {s:S} (h:s.fin≠0):stepF code inp s=s:=if_neg h
theorem runN_stays {code:List Int} {inp:ByteArray} {s:S} {k:Nat} (h:(runN code inp s k).fin≠0):∀ d,runN code inp s (k+d)=runN code inp s k
 | 0=>rfl
 | d+1=>by
  show stepF code inp (runN code inp s (k+d))=_
  rw[runN_stays h d,stepF_stays h]
theorem runN_add (code:List Int) (inp:ByteArray) (s:S) (a:Nat):∀ b,runN code inp s (a+b)=runN code inp (runN code inp s a) b
 | 0=>rfl
 | b+1=>by show stepF code inp (runN code inp s (a+b))=_;rw[runN_add code inp s a b];rfl
theorem runN_wf {code:List Int} {inp:ByteArray} {s:S} (hcode:∀ x ∈ code,In32 x) (h:Wf s):∀ k,Wf (runN code inp s k)∧(runN code inp s k).mem.length=s.mem.length∧(runN code inp s k).out.size≤s.out.size+k
 | 0=>⟨h,rfl,Nat.le_refl _⟩
 | k+1=>by
  obtain ⟨h1,h2,h3⟩:=runN_wf hcode h k
  obtain ⟨g1,g2,g3,g4⟩:=stepF_wf code inp (runN code inp s k) hcode h1
  refine ⟨g1,g2.trans h2,?_⟩
  show (stepF code inp (runN code inp s k)).out.size≤_
  simp only at g4;omega
theorem MemAt.len {L L' T:List VObj} {m:AV} {own:Bool} {mem:List Int} (h:MemAt L T m own mem) (e:L.length=L'.length):MemAt L' T m own mem:=by
 unfold MemAt at h ⊢;rw[← e];exact h
theorem MoreAt.len {L L' T:List VObj} {m:AV} {bs:List UInt8} (h:MoreAt L T m bs) (e:L.length=L'.length):MoreAt L' T m bs:=by
 unfold MoreAt at h ⊢;rw[← e];exact h
section
variable (code:List Int) (inp:ByteArray) (pc:Int) (f:Nat→Int) (m:AV) (mem:List Int) (rd:Int) (out outT:ByteArray) (st fin:Int) (own:Bool) (more:AV) (bs:List UInt8) (L T:List VObj) (s nx:Nat)
end
structure CdOk (code:List Ci):Prop where
 ok:∀ i ∈ code,okI i.op i.a i.b i.c=true∧i.op≠27
 len:code.length≤1000000
abbrev wrds (code:List Ci):List Int:=code.map fun i=>encI i.op i.a i.b i.c
theorem enc_dec {op a b c:Int} (h:okI op a b c=true):opW (encI op a b c)=op∧raW (encI op a b c)=a∧rbW (encI op a b c)=b∧kW (encI op a b c)=c∧In32 (encI op a b c):=by
 have hb:=okI_in h
 unfold opW raW rbW kW encI In32
 refine ⟨by omega,by omega,by omega,by omega,by omega,by omega⟩
theorem enc_ok {op a b c:Int} (h:okI op a b c=true):okW (encI op a b c)=true:=by
 obtain ⟨h1,h2,h3,h4,_⟩:=enc_dec h
 unfold okW;rw[h1,h2,h3,h4];exact h
theorem wrds_in {code:List Ci} (h:CdOk code):∀ x ∈ wrds code,In32 x:=fun x hx=>by
 obtain ⟨i,hi,rfl⟩:=List.mem_map.1 hx
 exact (enc_dec (h.ok i hi).1).2.2.2.2
structure RSM (s:Mc) (t:S) (n:Nat):Prop where
 pc:t.pc=s.pc
 rg:t.reg=s.rg
 me:t.mem=s.me
 rd:t.rd=(s.rd:Int)
 out:t.out.data.toList=s.out
 st:t.st=(n:Int)
 fin:t.fin=0
theorem updR_upM (f:Nat→Int) (j:Nat) (v:Int):updR f j v=upM f j v:=rfl
theorem size_out {s:Mc} {t:S} {n:Nat} (h:RSM s t n):t.out.size=s.out.length:=by rw[← h.out];rfl
theorem push_toList (a:ByteArray) (b:UInt8):(a.push b).data.toList=a.data.toList++[b]:=by
 cases a;simp[ByteArray.push]
theorem ins_same {inp:ByteArray} {w:List Int} {s:Mc} {t:S} {n m:Nat} (h:RSM s t n) (i:Ci) (h27:i.op≠27) (hp:0≤s.pc) (hp2:s.pc≤1000000) (hrd:s.rd≤2000000000) :
 (insM w inp { t with st:=m } i.op i.a i.b i.c).1=(mI inp s i).2∧((mI inp s i).2=0→RSM (mI inp s i).1 (insM w inp { t with st:=m } i.op i.a i.b i.c).2 m)∧(insM w inp { t with st:=m } i.op i.a i.b i.c).2.out.data.toList=(mI inp s i).1.out∧(insM w inp { t with st:=m } i.op i.a i.b i.c).2.st=m:=by
 obtain ⟨pc,rg,me,rd,out,st,fin⟩:=t
 obtain ⟨spc,srg,sme,srd,sout⟩:=s
 have hsz:=size_out h
 obtain ⟨h1,h2,h3,h4,h5,h6,h7⟩:=h
 simp only at h1 h2 h3 h4 h5 h6 h7 hp hp2 hrd hsz
 subst h1;subst h2;subst h3;subst h7
 have wp:IntKind.i64.wrap (pc+1)=pc+1:=i64_in (by omega) (by omega)
 have wp2:w32 (pc+1)=pc+1:=w32_in ⟨by omega,by omega⟩
 obtain ⟨op,a,b,c⟩:=i
 simp only at h27
 unfold insM mI
 simp only[nxtM,setR,atW,wp,wp2,stM,adM,updR_upM]
 by_cases e:op=18
 ·simp only[e,if_true];exact ⟨by trivial,fun _=>⟨rfl,rfl,rfl,h4,h5,rfl,rfl⟩,h5,by trivial⟩
 rw[if_neg e,if_neg e];clear e
 by_cases e:op=19
 ·simp only[e,if_true];exact ⟨by trivial,fun _=>⟨rfl,rfl,rfl,h4,h5,rfl,rfl⟩,h5,by trivial⟩
 rw[if_neg e,if_neg e];clear e
 by_cases e:op=20
 ·simp only[e,if_true];exact ⟨by trivial,fun _=>⟨rfl,rfl,rfl,h4,h5,rfl,rfl⟩,h5,by trivial⟩
 rw[if_neg e,if_neg e];clear e
 by_cases e:op=21
 ·simp only[e,if_true];exact ⟨by trivial,fun _=>⟨rfl,rfl,rfl,h4,h5,rfl,rfl⟩,h5,by trivial⟩
 rw[if_neg e,if_neg e];clear e
 by_cases e:op=22
 ·simp only[e,if_true];exact ⟨by trivial,fun _=>⟨rfl,rfl,rfl,h4,h5,rfl,rfl⟩,h5,by trivial⟩
 rw[if_neg e,if_neg e];clear e
 by_cases e:op=1
 ·simp only[e,if_true];exact ⟨by trivial,fun _=>⟨rfl,rfl,rfl,h4,h5,rfl,rfl⟩,h5,by trivial⟩
 rw[if_neg e,if_neg e];clear e
 by_cases e:op=2
 ·simp only[e,if_true];exact ⟨by trivial,fun _=>⟨rfl,rfl,rfl,h4,h5,rfl,rfl⟩,h5,by trivial⟩
 rw[if_neg e,if_neg e];clear e
 by_cases e:op=3
 ·simp only[e,if_true];exact ⟨by trivial,fun _=>⟨rfl,rfl,rfl,h4,h5,rfl,rfl⟩,h5,by trivial⟩
 rw[if_neg e,if_neg e];clear e
 by_cases e:op=16
 ·simp only[e,if_true]
  by_cases q:w32 (rg b.toNat+c)<me.length
  ·simp only[eq_true q,if_true];exact ⟨by trivial,fun _=>⟨rfl,rfl,rfl,h4,h5,rfl,rfl⟩,h5,by trivial⟩
  ·simp only[eq_false q,if_false];exact ⟨by trivial,fun h=>absurd h (by decide),h5,by trivial⟩
 rw[if_neg e,if_neg e];clear e
 by_cases e:op=17
 ·simp only[e,if_true]
  by_cases q:w32 (rg b.toNat+c)<me.length
  ·simp only[eq_true q,if_true];exact ⟨by trivial,fun _=>⟨rfl,rfl,rfl,h4,h5,rfl,rfl⟩,h5,by trivial⟩
  ·simp only[eq_false q,if_false];exact ⟨by trivial,fun h=>absurd h (by decide),h5,by trivial⟩
 rw[if_neg e,if_neg e];clear e
 rw[if_neg h27]
 by_cases e:op=23
 ·simp only[e,if_true]
  by_cases q:srd<inp.size
  ·have q':¬ (rd<0∨(inp.size:Int)≤rd):=by omega
   have wr:IntKind.i64.wrap (rd+1)=rd+1:=i64_in (by omega) (by omega)
   simp only[eq_true q,eq_false q',if_true,if_false,wr]
   rw[show rd.toNat=srd by omega]
   exact ⟨by trivial,fun _=>⟨rfl,rfl,rfl,by simp only;omega,h5,rfl,rfl⟩,h5,by trivial⟩
  ·have q':(rd<0∨(inp.size:Int)≤rd):=by omega
   simp only[eq_false q,eq_true q',if_true,if_false];exact ⟨by trivial,fun _=>⟨rfl,rfl,rfl,h4,h5,rfl,rfl⟩,h5,by trivial⟩
 rw[if_neg e,if_neg e];clear e
 by_cases e:op=24
 ·simp only[e,if_true,hsz]
  by_cases q:65536≤sout.length
  ·simp only[eq_true q,if_true];exact ⟨by trivial,fun h=>absurd h (by decide),h5,by trivial⟩
  ·simp only[eq_false q,if_false]
   exact ⟨by trivial,fun _=>⟨rfl,rfl,rfl,h4,by simp only;rw[push_toList,h5];rfl,rfl,rfl⟩,by rw[push_toList,h5];rfl,trivial⟩
 rw[if_neg e,if_neg e];clear e
 by_cases e:op=25
 ·simp only[e,if_true]
  by_cases q:rg a.toNat<c
  ·simp only[eq_true q,if_true];exact ⟨by trivial,fun _=>⟨rfl,rfl,rfl,h4,h5,rfl,rfl⟩,h5,by trivial⟩
  ·simp only[eq_false q,if_false];exact ⟨by trivial,fun h=>absurd h (by decide),h5,by trivial⟩
 rw[if_neg e,if_neg e];clear e
 by_cases e:op=26
 ·simp only[e,if_true];exact ⟨by trivial,fun h=>absurd h (by decide),h5,by trivial⟩
 rw[if_neg e,if_neg e];clear e
 by_cases q:(applyW op (rg b.toNat) (rg c.toNat)).2=0
 ·simp only[eq_true q,if_true];exact ⟨by trivial,fun _=>⟨rfl,rfl,rfl,h4,h5,rfl,rfl⟩,h5,by trivial⟩
 ·simp only[eq_false q,if_false];exact ⟨by trivial,fun h=>absurd h (by decide),h5,by trivial⟩
section
variable {code:List Ci} {inp:ByteArray}
theorem step_same (hc:CdOk code) {s:Mc} {t:S} {n:Nat} (h:RSM s t n) (hp:0≤s.pc) (hp2:s.pc<code.length) (hrd:s.rd≤2000000000) (hn:n≤4000000000000000000) :
 ((mI inp s (code.getD s.pc.toNat default)).2=0→RSM (mI inp s (code.getD s.pc.toNat default)).1 (stepF (wrds code) inp t) (n+1)) ∧
 ((mI inp s (code.getD s.pc.toNat default)).2≠0→(stepF (wrds code) inp t).fin=(mI inp s (code.getD s.pc.toNat default)).2∧(stepF (wrds code) inp t).out.data.toList=(mI inp s (code.getD s.pc.toNat default)).1.out∧(stepF (wrds code) inp t).st=((n+1:Nat):Int)):=by
 have hlt:s.pc.toNat<code.length:=by omega
 have hg:code.getD s.pc.toNat default=code[s.pc.toNat]:=by simp[List.getD,hlt]
 have hm:code.getD s.pc.toNat default ∈ code:=by rw[hg];exact List.getElem_mem hlt
 obtain ⟨ho,h27⟩:=hc.ok _ hm
 have hw:(wrds code).getD s.pc.toNat default=encI (code.getD s.pc.toNat default).op (code.getD s.pc.toNat default).a (code.getD s.pc.toNat default).b (code.getD s.pc.toNat default).c:=by
  rw[hg,List.getD,List.getElem?_map,List.getElem?_eq_getElem hlt];rfl
 obtain ⟨d1,d2,d3,d4,d5⟩:=enc_dec ho
 have hok:=enc_ok ho
 have hst:IntKind.i64.wrap (t.st+1)=((n+1:Nat):Int):=by rw[h.st,i64_in (by omega) (by omega)];omega
 have hl:=hc.len
 obtain ⟨k1,k2,k3,k4⟩:=ins_same (inp:=inp) (w:=wrds code) (m:=n+1) h (code.getD s.pc.toNat default) h27 hp (by omega) hrd
 have hs:stepF (wrds code) inp t=(if (insM (wrds code) inp { t with st:=((n+1:Nat):Int) } (code.getD s.pc.toNat default).op (code.getD s.pc.toNat default).a (code.getD s.pc.toNat default).b (code.getD s.pc.toNat default).c).1=0 then (insM (wrds code) inp { t with st:=((n+1:Nat):Int) } (code.getD s.pc.toNat default).op (code.getD s.pc.toNat default).a (code.getD s.pc.toNat default).b (code.getD s.pc.toNat default).c).2
  else { (insM (wrds code) inp { t with st:=((n+1:Nat):Int) } (code.getD s.pc.toNat default).op (code.getD s.pc.toNat default).a (code.getD s.pc.toNat default).b (code.getD s.pc.toNat default).c).2 with fin:=(insM (wrds code) inp { t with st:=((n+1:Nat):Int) } (code.getD s.pc.toNat default).op (code.getD s.pc.toNat default).a (code.getD s.pc.toNat default).b (code.getD s.pc.toNat default).c).1 }):=by
  unfold stepF
  rw[if_pos h.fin,h.pc,if_neg (by rw[List.length_map];omega),hst,hw]
  unfold wordF
  rw[if_pos hok,d1,d2,d3,d4]
 rw[hs]
 refine ⟨fun e=>?_,fun e=>?_⟩
 ·rw[if_pos (k1.trans e)];exact k2 e
 ·rw[if_neg (by rw[k1];exact e)];exact ⟨k1,k3,k4⟩
theorem iteQ {α:Type} {p:Prop} [Decidable p] {P:α→Prop} {a b:α} (h1:p→P a) (h2:¬ p→P b):P (if p then a else b):=by
 by_cases h:p
 ·rw[if_pos h];exact h1 h
 ·rw[if_neg h];exact h2 h
theorem mI_rd (s:Mc) (i:Ci) (h:s.rd≤inp.size):(mI inp s i).1.rd≤inp.size:=by
 let Q:Mc × Int→Prop:=fun p=>p.1.rd≤inp.size
 show Q (mI inp s i)
 unfold mI
 iterate 8 (refine iteQ (P:=Q) (fun _=>h) fun _=>?_)
 iterate 2 (refine iteQ (P:=Q) (fun _=>iteQ (P:=Q) (fun _=>h) fun _=>h) fun _=>?_)
 refine iteQ (P:=Q) (fun _=>iteQ (P:=Q) (fun q=>q) fun _=>h) fun _=>?_
 iterate 2 (refine iteQ (P:=Q) (fun _=>iteQ (P:=Q) (fun _=>h) fun _=>h) fun _=>?_)
 refine iteQ (P:=Q) (fun _=>h) fun _=>?_
 exact iteQ (P:=Q) (fun _=>h) fun _=>h
theorem run_same (hc:CdOk code) (hi:inp.size≤1000000000):∀ {k n:Nat} {s s':Mc} {t:S},Mx code inp k s s'→RSM s t n→s.rd≤inp.size→n+k≤4000000000000000000 →
 RSM s' (runN (wrds code) inp t k) (n+k)∧s'.rd≤inp.size
 | 0,n,s,s',t,h,hr,hd,_=>by cases h;exact ⟨hr,hd⟩
 | k+1,n,s,s',t,h,hr,hd,hn=>by
  obtain ⟨h1,h2,h3,h4⟩:=h
  have hst:=(step_same hc hr h1 h2 (by omega) (by omega)).1 h3
  have:=run_same hc hi h4 hst (mI_rd _ _ hd) (by omega)
  rw[show n+1+k=n+(k+1) by omega]at this
  rw[show k+1=1+k by omega,runN_add]
  rw[show n+(1+k)=n+(k+1) by omega]
  exact this
theorem end_same (hc:CdOk code) (hi:inp.size≤1000000000) {k:Nat} {s s':Mc} {t:S} {e:Int} (h:Mn code inp k s e s') (hr:RSM s t 0) (hd:s.rd≤inp.size) (hk:k≤4000000000000000000) {F:Nat} (hF:k<F) :
 (runN (wrds code) inp t F).fin=e∧(runN (wrds code) inp t F).out.data.toList=s'.out∧(runN (wrds code) inp t F).st=((k+1:Nat):Int):=by
 obtain ⟨s1,h1,h2,h3,h4,h5⟩:=h
 obtain ⟨g1,g2⟩:=run_same hc hi h1 hr hd (by omega)
 rw[Nat.zero_add]at g1
 have:=(step_same (inp:=inp) hc g1 h2 h3 (by omega) (by omega)).2 (by rw[h4];exact h5)
 rw[h4]at this
 obtain ⟨q1,q2,q3⟩:=this
 have hs:runN (wrds code) inp t (k+1)=stepF (wrds code) inp (runN (wrds code) inp t k):=rfl
 rw[show F=k+1+(F-(k+1)) by omega,runN_stays (by rw[hs,q1];exact h5),hs]
 exact ⟨q1,q2,q3⟩
end
def mc0 (data:Int):Mc:=⟨0,fun _=>0,List.replicate data.toNat 0,0,[]⟩
theorem rs0 {data:Int} (h:data≤32768):RSM (mc0 data) (startF data) 0:=by
 refine ⟨rfl,rfl,?_,rfl,rfl,rfl,rfl⟩
 unfold startF mc0
 by_cases h0:0<data
 ·simp only[if_pos (show 0<data∧data≤32768 from ⟨h0,h⟩)]
 ·simp only[if_neg (show ¬ (0<data∧data≤32768) from fun h=>h0 h.1)]
  rw[show data.toNat=0 by omega];rfl
end Go.Proofs.Ytkbhfokbhkmfgaa
namespace Go.V
set_option linter.unusedSimpArgs false
set_option linter.unusedVariables false
theorem flat_getR {α:Type} {z:Nat}:∀ {ls:List (List α)},(∀ l ∈ ls,l.length=z)→∀ {i j:Nat} {l:List α} {u:α},ls[i]? = some l→l[j]? = some u→ls.flatten[i*z+j]? = some u
 | [],_,i,j,l,u,h,_=>by simp at h
 | a::ls,hz,i,j,l,u,h,hu=>by
  have ha:=hz a (by simp)
  cases i with
  | zero =>
   simp at h;subst h
   rw[List.flatten_cons,Nat.zero_mul,Nat.zero_add,List.getElem?_append_left (List.getElem?_eq_some_iff.1 hu).1];exact hu
  | succ i =>
   simp only[List.getElem?_cons_succ]at h
   rw[List.flatten_cons,List.getElem?_append_right (by rw[ha,Nat.succ_mul];omega),ha,show (i+1)*z+j-z=i*z+j by rw[Nat.succ_mul];omega]
   exact flat_getR (fun l hl=>hz l (by simp[hl])) h hu
theorem RL.splitR {M:MM}:∀ {xs ys:List AV} {vs:List Value},RL M (xs++ys) vs→∃ v1 v2,vs=v1++v2∧RL M xs v1∧RL M ys v2
 | [],ys,vs,h=>⟨[],vs,rfl,by simp only[RL],h⟩
 | x::xs,ys,vs,h=>by
  simp only[List.cons_append,RL]at h
  obtain ⟨v,vs',rfl,h1,h2⟩:=h
  obtain ⟨v1,v2,rfl,h3,h4⟩:=RL.splitR h2
  exact ⟨v::v1,v2,rfl,by simp only[RL];exact ⟨v,v1,rfl,h1,h3⟩,h4⟩
theorem RL.chunksR {M:MM}:∀ {yss:List (List AV)} {vs:List Value},RL M yss.flatten vs→∃ vss:List (List Value),vs=vss.flatten∧vss.length=yss.length∧∀ (i:Nat) (l:List AV) (v:List Value),yss[i]? = some l→vss[i]? = some v→RL M l v
 | [],vs,h=>by
  simp only[List.flatten_nil,RL]at h
  exact ⟨[],h,rfl,fun i l v h=>by simp at h⟩
 | y::yss,vs,h=>by
  rw[List.flatten_cons]at h
  obtain ⟨v1,v2,rfl,h1,h2⟩:=RL.splitR h
  obtain ⟨vss,rfl,h3,h4⟩:=RL.chunksR h2
  refine ⟨v1::vss,by simp,by simp[h3],fun i l v hl hv=>?_⟩
  cases i with
  | zero=>simp at hl hv;subst hl;subst hv;exact h1
  | succ i=>exact h4 i l v (by simpa using hl) (by simpa using hv)
theorem rl0_aggs {M:MM} {n:Nat} (hR:RH M):∀ {yss:List (List AV)} {vss:List (List Value)},vss.length=yss.length→(∀ (i:Nat) (l:List AV) (v:List Value),yss[i]? = some l→vss[i]? = some v→RL M l v)→(∀ l ∈ yss,l.all AV.pure=true) →
 RL0 M.w (Drop M n) (yss.map .agg) (vss.map fun l=>Value.agg l.toArray)
 | [],[],_,_,_=>by simp only[List.map_nil,RL0]
 | [],v::vs,h,_,_=>by simp at h
 | y::ys,[],h,_,_=>by simp at h
 | y::ys,v::vs,h,h1,h2=>by
  simp only[List.map_cons,RL0]
  refine ⟨_,_,rfl,?_,rl0_aggs hR (by simpa using h) (fun i l v hl hv=>h1 (i+1) l v (by simpa using hl) (by simpa using hv)) (fun l hl=>h2 l (by simp[hl]))⟩
  simp only[RV0]
  exact ⟨v,rfl,(FrzL.pure (n:=n) (h2 y (by simp))).rl hR rfl rfl (h1 0 y v (by simp) (by simp))⟩
theorem flatz_lenR {α:Type} {z:Nat}:∀ {ls:List (List α)},(∀ l ∈ ls,l.length=z)→ls.flatten.length=ls.length*z
 | [],_=>by simp
 | y::ys,h=>by rw[List.flatten_cons,List.length_append,flatz_lenR (fun l hl=>h l (by simp[hl])),h y (by simp),List.length_cons,Nat.succ_mul];omega
theorem Frz.refS {n:Nat} {H:List VObj} {nx id s len z:Nat} {ob:VObj} {yss:List (List AV)} (hid:n≤id) (ho:H[id]? = some ob) (hs:ob.s=s) (hz:ob.sz=z) (hcs:ob.cs=yss.flatten)
 (hy:∀ l ∈ yss,l.length=z∧l.all AV.pure=true) (hlen:len=yss.length):Frz n H nx (.ref id s 0 len) (.imm z (yss.map .agg)):=fun M hR hH hnx v r=>by
 subst hH;subst hlen
 simp only[RV]at r
 obtain ⟨hzz,r⟩:=r.2.2 ob ho hs
 have hfl:yss.flatten.length=yss.length*z:=flatz_lenR fun l hl=>(hy l hl).1
 cases hm:M.m.getD id none with
 | none =>
  rw[hm]at r
  obtain ⟨rfl,h1,h2⟩:=r
  have:yss=[]:=List.length_eq_zero_iff.1 (by omega)
  subst this
  simp only[List.map_nil,RV0,RL0]
  exact ⟨none,0,0,[],rfl,rfl,Nat.le_refl _,by simp[maxLen],rfl,by simp,.inl rfl⟩
 | some g =>
  rw[hm]at r
  obtain ⟨oo,cap,rfl,q2,q3,q4,q5,q6⟩:=r
  obtain ⟨vs,g1,g2,g3⟩:=hR.cells ho hzz hm 0 (yss.length*z) (by rw[hcs,hfl];omega)
  rw[List.drop_zero,hcs,List.take_of_length_le (by omega)]at g2
  obtain ⟨vss,rfl,h3,h4⟩:=RL.chunksR g2
  have hlv:∀ i v,vss[i]? = some v→∃ l,yss[i]? = some l∧RL M l v∧v.length=z:=fun i v hv=>by
   have hi:i<yss.length:=by have:=(List.getElem?_eq_some_iff.1 hv).1;omega
   have hl:=List.getElem?_eq_getElem hi
   have:=h4 i _ v hl hv
   exact ⟨_,hl,this,by rw[this.length];exact (hy _ (List.getElem_mem hi)).1⟩
  have hmem:∀ v ∈ vss,v.length=z:=fun v hv=>by
   obtain ⟨i,hi⟩:=List.getElem?_of_mem hv
   obtain ⟨_,_,_,e⟩:=hlv i v hi
   exact e
  simp only[RV0]
  refine ⟨_,yss.length,cap,vss.map fun l=>Value.agg l.toArray,rfl,by simp,q2,q3,?_,fun u hu=>?_,?_⟩
  ·exact rl0_aggs hR h3 h4 fun l hl=>(hy l hl).2
  ·obtain ⟨l,hl,rfl⟩:=List.mem_map.1 hu
   simp[Value.cells,hmem l hl]
  ·by_cases hl:yss.length=0
   ·exact .inl hl
   ·refine .inr ⟨g,oo,rfl,⟨.inr ⟨(hR.lt hm).1,(hR.lt hm).2.1⟩,fun j hj e=>by have:=hR.inj j id g e hm;omega⟩,fun i u hu j x hx=>?_⟩
    have hoo:oo=M.o id+0:=by rcases q5 with q5 | q5<;>omega
    rw[List.getElem?_map]at hu
    cases hv:vss[i]? with
    | none=>rw[hv]at hu;cases hu
    | some l =>
     rw[hv]at hu
     simp only[Option.map_some,Option.some.injEq]at hu
     subst hu
     have hx':l[j]? = some x:=by simpa [Value.cells] using hx
     have:=g3 _ _ (flat_getR hmem hv hx')
     rw[hoo,Nat.add_assoc];exact this
end Go.V
namespace Go.Proofs.Ytkbhfokbhkmfgaa
set_option linter.unusedSimpArgs false
set_option linter.unusedVariables false
set_option maxRecDepth 10000
open Go.V
theorem set_of_getR {α:Type} {l:List α} {i:Nat} {x:α} (h:l[i]? = some x):l.set i x=l:=by
 obtain ⟨hlt,rfl⟩:=List.getElem?_eq_some_iff.1 h
 exact List.set_getElem_self hlt
set_option maxRecDepth 10000
open Go.V
abbrev resA (e:Int) (out:ByteArray) (st:Int):AV:=.agg [I e,strv out,I st]
def endF (σ:S):Int:=if σ.fin=0 then 5 else σ.fin
def runF (code:List Int) (data:Int) (inp:ByteArray) (fuel:Int):S:=runN code inp (startF data) fuel.toNat
abbrev runA (code:List Int) (data:Int) (inp:ByteArray) (fuel:Int):AV:=resA (endF (runF code data inp fuel)) (runF code data inp fuel).out (runF code data inp fuel).st
def cntL (code:List Int) (inp:ByteArray) (σ:S):Nat→List Int
 | 0=>List.replicate code.length 0
 | k+1=>if doneF code (runN code inp σ k)=true then (cntL code inp σ k).set (runN code inp σ k).pc.toNat ((cntL code inp σ k).getD (runN code inp σ k).pc.toNat 0+1) else cntL code inp σ k
theorem cntL_len (code:List Int) (inp:ByteArray) (σ:S):∀ k,(cntL code inp σ k).length=code.length
 | 0=>by simp[cntL]
 | k+1=>by
  simp only[cntL];split
  ·rw[List.length_set];exact cntL_len code inp σ k
  ·exact cntL_len code inp σ k
theorem cntL_le (code:List Int) (inp:ByteArray) (σ:S):∀ k,∀ x ∈ cntL code inp σ k,0≤x∧x≤k
 | 0=>fun x hx=>by
  simp only[cntL,List.mem_replicate]at hx;rw[hx.2];exact ⟨Int.le_refl _,Int.le_refl _⟩
 | k+1=>fun x hx=>by
  have ih:=cntL_le code inp σ k
  simp only[cntL]at hx
  split at hx
  ·rcases List.mem_or_eq_of_mem_set hx with hx | hx
   ·have:=ih x hx;omega
   ·rw[hx,List.getD_eq_getElem?_getD]
    cases hg:(cntL code inp σ k)[(runN code inp σ k).pc.toNat]? with
    | none=>simp;omega
    | some y=>have:=ih y (List.mem_of_getElem? hg);simp;omega
  ·have:=ih x hx;omega
theorem cellT_I1 {xs:List Int} {off:Nat} {C:AV→Prop}:cellT (xs.map I) off false 1 C .mk=(off<xs.length∧C (I (xs.getD off default))):=cellT_map fun _=>rfl
set_option maxRecDepth 10000
open Go.V
def Fr (s t:S):Prop :=
 (∃ j v,t.reg=updR s.reg j v∧t.mem=s.mem∧t.out=s.out∧(t.rd=s.rd∨t.rd=IntKind.i64.wrap (s.rd+1))) ∨
 (∃ j v,t.reg=s.reg∧t.mem=s.mem.set j v∧t.out=s.out∧t.rd=s.rd) ∨
 (∃ b,t.reg=s.reg∧t.mem=s.mem∧t.out=s.out.push b∧t.rd=s.rd)
theorem updR_same (f:Nat→Int):f=updR f 0 (f 0):=by
 funext k;unfold updR;split
 ·rename_i h;rw[h]
 ·rfl
theorem Fr.same {s t:S} (h1:t.reg=s.reg) (h2:t.mem=s.mem) (h3:t.out=s.out) (h4:t.rd=s.rd):Fr s t :=
 .inl ⟨0,s.reg 0,by rw[h1];exact updR_same _,h2,h3,.inl h4⟩
set_option maxRecDepth 10000
open Go.V
def wkc (pc:Int) (f:Nat→Int) (m:AV) (rd:Int) (so:ByteArray) (st fin:Int) (o cd ok wd:AV) (inp:ByteArray) (ct:AV):List AV :=
 I pc::(regs f++[m,I rd,strv so,I st,I fin,o,cd,ok,wd,strv inp,ct])
section
variable {pc:Int} {f:Nat→Int} {m:AV} {rd:Int} {so:ByteArray} {st fin:Int} {o cd ok wd:AV} {inp:ByteArray} {ct:AV} {C:AV→Prop}
theorem wkc_length:(wkc pc f m rd so st fin o cd ok wd inp ct).length=28:=rfl
theorem wkc_all:(wkc pc f m rd so st fin o cd ok wd inp ct).all AV.one=(m.one && o.one && cd.one && ok.one && wd.one && ct.one):=by
 simp[wkc,regs_all];simp[AV.one,Value.oneCell',Bool.and_assoc]
theorem k_state:cellT (wkc pc f m rd so st fin o cd ok wd inp ct) 0 true 22 C .mk=C (.agg (stc pc f m rd so st fin)):=by
 have e:((wkc pc f m rd so st fin o cd ok wd inp ct).drop 0).take 22=stc pc f m rd so st fin:=rfl
 simp only[cellT,cellW,partOK,partA,wkc_length,if_true,e];simp
theorem k_reg {j:Nat} (h:j<16):cellT (wkc pc f m rd so st fin o cd ok wd inp ct) (1+j) false 1 C .mk=C (U32 (f j)):=by
 have e:(wkc pc f m rd so st fin o cd ok wd inp ct).getD (1+j) .dead=U32 (f j):=by
  rw[← regs_get (f:=f) h,wkc,Nat.add_comm,List.getD_cons_succ]
  simp only[List.getD,List.getElem?_append_left (show j<(regs f).length by rw[regs_length];exact h)]
 simp only[cellT,cellW,partOK,partA,wkc_length,e]
 simp[AV.one,Value.oneCell'];omega
theorem ks_reg {j:Nat} {v:Int} (h:j<16):(wkc pc f m rd so st fin o cd ok wd inp ct).set (1+j) (U32 v)=wkc pc (updR f j v) m rd so st fin o cd ok wd inp ct:=by
 rw[wkc,Nat.add_comm,List.set_cons_succ,List.set_append_left _ _ (by rw[regs_length];exact h),regs_set h];rfl
theorem k_pc:cellT (wkc pc f m rd so st fin o cd ok wd inp ct) 0 false 1 C .mk=C (I pc):=by
 have e:(wkc pc f m rd so st fin o cd ok wd inp ct).getD 0 .dead=I pc:=rfl
 simp only[cellT,cellW,partOK,partA,wkc_length,e];simp[AV.one,Value.oneCell']
theorem ks_pc {x:Int}:(wkc pc f m rd so st fin o cd ok wd inp ct).set 0 (I x)=wkc x f m rd so st fin o cd ok wd inp ct:=rfl
theorem k_mem:cellT (wkc pc f m rd so st fin o cd ok wd inp ct) 17 false 1 C .mk=(m.one=true∧C m):=by
 have e:(wkc pc f m rd so st fin o cd ok wd inp ct).getD 17 .dead=m:=rfl
 simp only[cellT,cellW,partOK,partA,wkc_length,e];simp
theorem ks_mem {x:AV}:(wkc pc f m rd so st fin o cd ok wd inp ct).set 17 x=wkc pc f x rd so st fin o cd ok wd inp ct:=rfl
theorem k_rd:cellT (wkc pc f m rd so st fin o cd ok wd inp ct) 18 false 1 C .mk=C (I rd):=by
 have e:(wkc pc f m rd so st fin o cd ok wd inp ct).getD 18 .dead=I rd:=rfl
 simp only[cellT,cellW,partOK,partA,wkc_length,e];simp[AV.one,Value.oneCell']
theorem ks_rd {x:Int}:(wkc pc f m rd so st fin o cd ok wd inp ct).set 18 (I x)=wkc pc f m x so st fin o cd ok wd inp ct:=rfl
theorem k_so:cellT (wkc pc f m rd so st fin o cd ok wd inp ct) 19 false 1 C .mk=C (strv so):=by
 have e:(wkc pc f m rd so st fin o cd ok wd inp ct).getD 19 .dead=strv so:=rfl
 simp only[cellT,cellW,partOK,partA,wkc_length,e];simp[AV.one,Value.oneCell']
theorem ks_so {x:ByteArray}:(wkc pc f m rd so st fin o cd ok wd inp ct).set 19 (strv x)=wkc pc f m rd x st fin o cd ok wd inp ct:=rfl
theorem k_st:cellT (wkc pc f m rd so st fin o cd ok wd inp ct) 20 false 1 C .mk=C (I st):=by
 have e:(wkc pc f m rd so st fin o cd ok wd inp ct).getD 20 .dead=I st:=rfl
 simp only[cellT,cellW,partOK,partA,wkc_length,e];simp[AV.one,Value.oneCell']
theorem ks_st {x:Int}:(wkc pc f m rd so st fin o cd ok wd inp ct).set 20 (I x)=wkc pc f m rd so x fin o cd ok wd inp ct:=rfl
theorem k_fin:cellT (wkc pc f m rd so st fin o cd ok wd inp ct) 21 false 1 C .mk=C (I fin):=by
 have e:(wkc pc f m rd so st fin o cd ok wd inp ct).getD 21 .dead=I fin:=rfl
 simp only[cellT,cellW,partOK,partA,wkc_length,e];simp[AV.one,Value.oneCell']
theorem ks_fin {x:Int}:(wkc pc f m rd so st fin o cd ok wd inp ct).set 21 (I x)=wkc pc f m rd so st x o cd ok wd inp ct:=rfl
theorem k_o:cellT (wkc pc f m rd so st fin o cd ok wd inp ct) 22 false 1 C .mk=(o.one=true∧C o):=by
 have e:(wkc pc f m rd so st fin o cd ok wd inp ct).getD 22 .dead=o:=rfl
 simp only[cellT,cellW,partOK,partA,wkc_length,e];simp
theorem ks_o {x:AV}:(wkc pc f m rd so st fin o cd ok wd inp ct).set 22 x=wkc pc f m rd so st fin x cd ok wd inp ct:=rfl
theorem k_cd:cellT (wkc pc f m rd so st fin o cd ok wd inp ct) 23 false 1 C .mk=(cd.one=true∧C cd):=by
 have e:(wkc pc f m rd so st fin o cd ok wd inp ct).getD 23 .dead=cd:=rfl
 simp only[cellT,cellW,partOK,partA,wkc_length,e];simp
theorem k_ok:cellT (wkc pc f m rd so st fin o cd ok wd inp ct) 24 false 1 C .mk=(ok.one=true∧C ok):=by
 have e:(wkc pc f m rd so st fin o cd ok wd inp ct).getD 24 .dead=ok:=rfl
 simp only[cellT,cellW,partOK,partA,wkc_length,e];simp
theorem k_wd:cellT (wkc pc f m rd so st fin o cd ok wd inp ct) 25 false 1 C .mk=(wd.one=true∧C wd):=by
 have e:(wkc pc f m rd so st fin o cd ok wd inp ct).getD 25 .dead=wd:=rfl
 simp only[cellT,cellW,partOK,partA,wkc_length,e];simp
theorem k_in:cellT (wkc pc f m rd so st fin o cd ok wd inp ct) 26 false 1 C .mk=C (strv inp):=by
 have e:(wkc pc f m rd so st fin o cd ok wd inp ct).getD 26 .dead=strv inp:=rfl
 simp only[cellT,cellW,partOK,partA,wkc_length,e];simp[AV.one,Value.oneCell']
theorem k_ct:cellT (wkc pc f m rd so st fin o cd ok wd inp ct) 27 false 1 C .mk=(ct.one=true∧C ct):=by
 have e:(wkc pc f m rd so st fin o cd ok wd inp ct).getD 27 .dead=ct:=rfl
 simp only[cellT,cellW,partOK,partA,wkc_length,e];simp
end
set_option maxRecDepth 10000
open Go.V
abbrev wkO (s:Nat) (cs:List AV):VObj:=⟨s,143,1,cs⟩
section
variable {pc:Int} {f:Nat→Int} {m:AV} {rd:Int} {so:ByteArray} {st fin:Int} {o cd ok wd:AV} {inp:ByteArray} {ct:AV} {H:List VObj} {nx w sw:Nat} {C:AV→List VObj→Nat→Prop}
theorem wset_v (a v:Int) (ha:0≤a∧a≤15) (hw:H[w]? = some (wkO sw (wkc pc f m rd so st fin o cd ok wd inp ct))) (h1:(wkc pc f m rd so st fin o cd ok wd inp ct).all AV.one=true)
 (hC:∀ r,C r (H.set w (wkO sw (wkc (IntKind.i64.wrap (pc+1)) (updR f a.toNat v) m rd so st fin o cd ok wd inp ct))) nx) :
 VCall Try.prog 94 [.ptr w sw 0,I a,U32 v] H nx C:=by
 refine VCall.of_body hmix f_scref10_work_set (by simp) ?_
 have hlt:=(List.getElem?_eq_some_iff.1 hw).1
 have gw:∀ x,(H.set w x)[w]? = some x:=fun x=>by rw[List.getElem?_set,if_pos rfl,if_pos hlt]
 have hj:a.toNat<16:=by omega
 simp only[go_sem,c_scref10_work_set,hw,gw,List.set_set,wkc_length,k_pc,ks_reg hj,ks_pc]
 repeat (refine And.intro (by omega) ?_)
 exact hC _
theorem wjump_v (yes:Bool) (to:Int) (hw:H[w]? = some (wkO sw (wkc pc f m rd so st fin o cd ok wd inp ct)))
 (hC:∀ r,C r (H.set w (wkO sw (wkc (if yes then to else IntKind.i64.wrap (pc+1)) f m rd so st fin o cd ok wd inp ct))) nx) :
 VCall Try.prog 96 [.ptr w sw 0,B yes,I to] H nx C:=by
 refine VCall.of_body hmix f_scref10_work_jump (by simp) ?_
 have hlt:=(List.getElem?_eq_some_iff.1 hw).1
 have gw:∀ x,(H.set w x)[w]? = some x:=fun x=>by rw[List.getElem?_set,if_pos rfl,if_pos hlt]
 cases yes
 ·simp only[go_sem,c_scref10_work_jump,hw,gw,List.set_set,wkc_length,k_pc,ks_pc]
  repeat (refine And.intro (by omega) ?_)
  exact hC _
 ·simp only[go_sem,c_scref10_work_jump,hw,gw,List.set_set,wkc_length,k_pc,ks_pc]
  repeat (refine And.intro (by omega) ?_)
  exact hC _
end
theorem fetchN_c (l:List Int) (b k:Int) (hb:In32 b) (hk:0≤k∧k≤65535) (hl:l.length≤1000000):ContractN Try.prog 95 [words l,U32 b,I k]
 (fun r=>r=(if w32 (b+k)<l.length then AV.tup [U32 (l.getD (w32 (b+k)).toNat default),B true] else AV.tup [U32 0,B false])):=by
 refine ContractN.of_call (VCall.of_body hmix f_scref10_fetch (by simp) ?_)
 have e1:IntKind.u32.wrap k=k:=w32_in ⟨by omega,by omega⟩
 obtain ⟨at_,hat⟩:∃ x,IntKind.u32.wrap (b+k)=x:=⟨_,rfl⟩
 have hin:In32 at_:=by rw[← hat,IntKind.wrap_u32];exact ⟨by omega,by omega⟩
 obtain ⟨p1,p2⟩:=hin
 have e2:IntKind.u64.wrap at_=at_:=by rw[IntKind.wrap_u64];omega
 have e3:IntKind.u64.wrap (l.length:Int)=l.length:=by rw[IntKind.wrap_u64];omega
 have hat':w32 (b+k)=at_:=hat
 simp only[hat']
 by_cases h:at_<l.length
 ·simp only[go_sem,c_scref10_fetch,e1,hat,e2,e3,eq_false (show ¬ (l.length:Int)≤at_ by omega),if_pos h]
  repeat (refine And.intro (by omega) ?_)
  exact ⟨_,FrzN.tup ⟨_,_,rfl,FrzN.val,_,_,rfl,FrzN.val,rfl⟩,by simp[h]⟩
 ·simp only[go_sem,c_scref10_fetch,e1,hat,e2,e3,eq_true (show (l.length:Int)≤at_ by omega),if_neg h]
  exact ⟨_,FrzN.tup ⟨_,_,rfl,FrzN.val,_,_,rfl,FrzN.val,rfl⟩,by simp[h]⟩
set_option maxRecDepth 10000
open Go.V
def insC (w:Int):List AV:=if okW w then [I (opW w),I (raW w),I (rbW w),I (kW w)] else [I 0,I 0,I 0,I 0]
abbrev insL (code:List Int):AV:=.imm 4 ((code.map insC).map .agg)
abbrev okL (code:List Int):AV:=.imm 1 (code.map fun w=>B (okW w))
theorem insC_len (w:Int):(insC w).length=4:=by unfold insC;split<;>rfl
theorem insC_pure (w:Int):(insC w).all AV.pure=true:=by unfold insC;split<;>rfl
theorem insC_one (w:Int):(insC w).all AV.one=true:=by unfold insC;split<;>rfl
theorem flat4_len (ls:List (List AV)) (h:∀ l ∈ ls,l.length=4):ls.flatten.length=ls.length*4:=by
 induction ls with
 | nil=>rfl
 | cons a ls ih=>rw[List.flatten_cons,List.length_append,h a (by simp),ih (fun l hl=>h l (by simp[hl])),List.length_cons];omega
def insP (code:List Int) (k:Nat):List (List AV):=(code.take k).map insC++List.replicate (code.length-k) [I 0,I 0,I 0,I 0]
theorem insP_len (code:List Int) {k:Nat} (h:k≤code.length):(insP code k).length=code.length:=by simp[insP];omega
theorem insP_4 (code:List Int) (k:Nat):∀ l ∈ insP code k,l.length=4:=fun l hl=>by
 unfold insP at hl
 rcases List.mem_append.1 hl with hl | hl
 ·obtain ⟨w,_,rfl⟩:=List.mem_map.1 hl;exact insC_len w
 ·rw[List.mem_replicate]at hl;rw[hl.2];rfl
theorem insP_next (code:List Int) {k:Nat} (h:k<code.length):(insP code k).flatten.take (k*4)++insC (code.getD k default)++(insP code k).flatten.drop (k*4+4)=(insP code (k+1)).flatten:=by
 have e1:((code.take k).map insC).flatten.length=k*4:=by
  rw[flat4_len _ (fun l hl=>by obtain ⟨w,_,rfl⟩:=List.mem_map.1 hl;exact insC_len w)];simp;omega
 have e2:code.length-k=(code.length-(k+1))+1:=by omega
 unfold insP
 rw[List.flatten_append,List.take_append_of_le_length (by omega),List.take_of_length_le (by omega),e2,List.replicate_succ,List.flatten_cons]
 rw[show k*4+4=((code.take k).map insC).flatten.length+4 by rw[e1],← List.drop_drop,List.drop_left]
 rw[List.take_add_one,List.getElem?_eq_getElem h,List.getD_eq_getElem?_getD,List.getElem?_eq_getElem h]
 simp only[Option.getD_some,Option.toList_some,List.map_append,List.map_cons,List.map_nil,List.flatten_append,List.flatten_cons,List.flatten_nil,List.append_nil,List.append_assoc]
 rfl
def okPR (code:List Int) (k:Nat):List AV:=(code.take k).map (fun w=>B (okW w))++List.replicate (code.length-k) (B false)
theorem okP_len (code:List Int) {k:Nat} (h:k≤code.length):(okPR code k).length=code.length:=by simp[okPR];omega
theorem okP_next (code:List Int) {k:Nat} (h:k<code.length):(okPR code k).set k (B (okW (code.getD k default)))=okPR code (k+1):=by
 have e2:code.length-k=(code.length-(k+1))+1:=by omega
 have e1:((code.take k).map (fun w=>B (okW w))).length=k:=by simp;omega
 unfold okPR
 rw[e2,List.replicate_succ,List.set_append_right _ _ (by omega),e1,Nat.sub_self,List.set_cons_zero,List.take_add_one,List.getElem?_eq_getElem h,List.getD_eq_getElem?_getD,List.getElem?_eq_getElem h]
 simp only[Option.getD_some,Option.toList_some,List.map_append,List.map_cons,List.map_nil,List.append_assoc,List.cons_append,List.nil_append]
theorem refcode_c (code:List Int) (data:Int) (hcode:∀ x ∈ code,In32 x) (hcl:code.length≤1000000):Contract Try.prog 78 [imgA code data] (fun r=>r = .tup [insL code,okL code]):=by
 refine Contract.of_call (VCall.of_body hmix f_scref10_Code (by simp) ?_)
 have hr1:(List.replicate code.length [I 0,I 0,I 0,I 0]).flatten=(insP code 0).flatten:=by simp[insP]
 have hr2:(List.replicate code.length [B false]).flatten=okPR code 0:=by
  unfold okPR;simp
 have hi0:=flat4_len _ (insP_4 code 0)
 simp only[go_sem,c_scref10_Code,hr1,hr2]
 repeat (refine And.intro (by omega) ?_)
 refine VW_loop (fun q:Nat × List VObj × Nat=>⟨[(1,.ptr 0 0 0),(4,.ref 1 1 0 code.length),(5,.ref 2 2 0 code.length),(6,I q.1)],⟨0,30,1,[words code,I data]⟩::⟨1,115,4,(insP code q.1).flatten⟩::⟨2,4,1,okPR code q.1⟩::q.2.1,q.2.2⟩)
  (fun q=>q.1≤code.length) (fun q=>code.length-q.1) (0,[],3) (Wk.mk (by simp[get_cons]) ⟨[],rfl⟩ (Nat.le_refl _)) (Nat.zero_le _) ?_
 rintro ⟨k,J,nx⟩ hk
 simp only at hk
 by_cases c1:(k:Int)<code.length
 ·have hlt:k<code.length:=by omega
  obtain ⟨w,hw⟩:∃ w,code.getD k default=w:=⟨_,rfl⟩
  have hwi:In32 w:=by
   rw[← hw,List.getD_eq_getElem?_getD,List.getElem?_eq_getElem hlt]
   exact hcode _ (List.getElem_mem _)
  have n1:=insP_next code hlt
  have n2:=okP_next code hlt
  rw[hw]at n1 n2
  have l1:=flat4_len _ (insP_4 code k)
  rw[insP_len code hk]at l1
  have l2:=okP_len code hk
  simp only[go_sem,eq_true c1,cellT_U32,hw]
  repeat (refine And.intro (by omega) ?_)
  refine VCall.of_contract (refdecode_c w hwi) (SleL.pure rfl) fun x hx=>?_
  subst hx
  unfold decA
  cases hok:okW w
  ·have e4:insC w=[I 0,I 0,I 0,I 0]:=by unfold insC;rw[hok];rfl
   rw[e4]at n1
   rw[hok]at n2
   simp only[go_sem,ogn,osn,l1,l2,n1,n2,Int.reduceEq,Int.reduceBEq]
   repeat (refine And.intro (by omega) ?_)
   rw[i64_in (by omega) (by omega)]
   exact ⟨(k+1,_,_),by simp only;omega,by simp only;omega,Wk.mk (by simp[get_cons]) ⟨[],(List.append_nil _).symm⟩ (Nat.le_refl _)⟩
  ·have e4:insC w=[I (opW w),I (raW w),I (rbW w),I (kW w)]:=by unfold insC;rw[hok];rfl
   rw[e4]at n1
   rw[hok]at n2
   simp only[go_sem,ogn,osn,l1,l2,n1,n2,Int.reduceEq,Int.reduceBEq]
   repeat (refine And.intro (by omega) ?_)
   rw[i64_in (by omega) (by omega)]
   exact ⟨(k+1,_,_),by simp only;omega,by simp only;omega,Wk.mk (by simp[get_cons]) ⟨[],(List.append_nil _).symm⟩ (Nat.le_refl _)⟩
 ·have e:k=code.length:=by omega
  subst e
  have hi:insP code code.length=code.map insC:=by simp[insP]
  have ho:okPR code code.length=code.map fun w=>B (okW w):=by simp[okPR]
  simp only[go_sem,eq_false c1,hi,ho]
  refine ⟨_,Frz.tup ⟨_,_,rfl,Frz.refS (Nat.zero_le _) rfl rfl rfl rfl (fun l hl=>?_) (by simp),_,_,rfl,Frz.ref (Nat.zero_le _) rfl rfl rfl ?_ (FrzL.pure ?_),rfl⟩,?_⟩
  ·obtain ⟨w,_,rfl⟩:=List.mem_map.1 hl
   exact ⟨insC_len w,insC_pure w⟩
  ·rw[List.all_eq_true];intro y hy;obtain ⟨x,_,rfl⟩:=List.mem_map.1 hy;rfl
  ·rw[List.drop_zero,List.take_of_length_le (by simp),List.all_eq_true];intro y hy;obtain ⟨x,_,rfl⟩:=List.mem_map.1 hy;rfl
  ·rw[List.drop_zero,List.take_of_length_le (by simp)]
def r_scref10_work_step:VC :=
 (.seq
 (.seq
 (.ops [
 ⟨(some 11),none,(.mv (.tmp 0))⟩,
 ⟨(some 12),none,(.nck (.tmp 11))⟩,
 ⟨(some 13),none,(.fad 0 true 22 (.tmp 12))⟩,
 ⟨(some 14),none,(.fad 0 false 1 (.tmp 13))⟩,
 ⟨(some 15),none,(.ld false 1 (.tmp 14))⟩,
 ⟨(some 16),none,(.bin .lss (.tmp 15) (.const (.int .i64 0)))⟩,
 ⟨(some 17),none,(.mv (.tmp 16))⟩,
 ⟨(some 18),(some (17,false)),(.mv (.tmp 0))⟩,
 ⟨(some 19),(some (17,false)),(.nck (.tmp 18))⟩,
 ⟨(some 20),(some (17,false)),(.fad 0 true 22 (.tmp 19))⟩,
 ⟨(some 21),(some (17,false)),(.fad 0 false 1 (.tmp 20))⟩,
 ⟨(some 22),(some (17,false)),(.ld false 1 (.tmp 21))⟩,
 ⟨(some 23),(some (17,false)),(.mv (.tmp 0))⟩,
 ⟨(some 24),(some (17,false)),(.nck (.tmp 23))⟩,
 ⟨(some 25),(some (17,false)),(.fad 23 false 1 (.tmp 24))⟩,
 ⟨(some 26),(some (17,false)),(.ld false 1 (.tmp 25))⟩,
 ⟨(some 27),(some (17,false)),(.len (.tmp 26))⟩,
 ⟨(some 28),(some (17,false)),(.bin .geq (.tmp 22) (.tmp 27))⟩,
 ⟨(some 29),none,(.pick (.tmp 17) (.const (.bool true)) (.tmp 28))⟩])
 (.cond (.tmp 29)
 (.seq
 (.ops [
 ⟨(some 30),none,(.mv (.tmp 0))⟩,
 ⟨(some 31),none,(.nck (.tmp 30))⟩,
 ⟨(some 32),none,(.fad 0 true 22 (.tmp 31))⟩,
 ⟨(some 33),none,(.fad 21 false 1 (.tmp 32))⟩,
 ⟨none,none,(.sto false 1 (.tmp 33) (.const (.int .i64 7)))⟩])
 .ret)
 .skip))
 (.seq
 (.ops [
 ⟨(some 34),none,(.mv (.tmp 0))⟩,
 ⟨(some 35),none,(.nck (.tmp 34))⟩,
 ⟨(some 36),none,(.fad 0 true 22 (.tmp 35))⟩,
 ⟨(some 37),none,(.fad 20 false 1 (.tmp 36))⟩,
 ⟨(some 38),none,(.ld false 1 (.tmp 37))⟩,
 ⟨(some 39),none,(.bin .add (.tmp 38) (.const (.int .i64 1)))⟩,
 ⟨(some 40),none,(.nck (.tmp 34))⟩,
 ⟨(some 41),none,(.fad 0 true 22 (.tmp 40))⟩,
 ⟨(some 42),none,(.fad 20 false 1 (.tmp 41))⟩,
 ⟨none,none,(.sto false 1 (.tmp 42) (.tmp 39))⟩])
 (.seq
 (.ops [
 ⟨(some 43),none,(.mv (.tmp 0))⟩,
 ⟨(some 44),none,(.nck (.tmp 43))⟩,
 ⟨(some 45),none,(.fad 27 false 1 (.tmp 44))⟩,
 ⟨(some 46),none,(.ld false 1 (.tmp 45))⟩,
 ⟨(some 47),none,(.mv (.tmp 0))⟩,
 ⟨(some 48),none,(.nck (.tmp 47))⟩,
 ⟨(some 49),none,(.fad 0 true 22 (.tmp 48))⟩,
 ⟨(some 50),none,(.fad 0 false 1 (.tmp 49))⟩,
 ⟨(some 51),none,(.ld false 1 (.tmp 50))⟩,
 ⟨(some 52),none,(.idx 1 (.tmp 46) (.tmp 51))⟩,
 ⟨(some 53),none,(.ld false 1 (.tmp 52))⟩,
 ⟨(some 54),none,(.bin .add (.tmp 53) (.const (.int .i64 1)))⟩,
 ⟨(some 55),none,(.idx 1 (.tmp 46) (.tmp 51))⟩,
 ⟨none,none,(.sto false 1 (.tmp 55) (.tmp 54))⟩])
 (.seq
 (.par true (.one ⟨(some 56),none,(.mv (.tmp 0))⟩ (.one ⟨(some 57),none,(.nck (.tmp 56))⟩ (.one ⟨(some 58),none,(.fad 23 false 1 (.tmp 57))⟩ (.one ⟨(some 59),none,(.ld false 1 (.tmp 58))⟩ (.one ⟨(some 60),none,(.mv (.tmp 0))⟩ (.one ⟨(some 61),none,(.nck (.tmp 60))⟩ (.one ⟨(some 62),none,(.fad 0 true 22 (.tmp 61))⟩ (.one ⟨(some 63),none,(.fad 0 false 1 (.tmp 62))⟩ (.one ⟨(some 64),none,(.ld false 1 (.tmp 63))⟩ (.one ⟨(some 65),none,(.idx 4 (.tmp 59) (.tmp 64))⟩ (.one ⟨(some 66),none,(.ld true 4 (.tmp 65))⟩ (.one ⟨(some 2),none,(.alc 115 [(.int .i64 0),(.int .i64 0),(.int .i64 0),(.int .i64 0)])⟩ (.one ⟨none,none,(.sto true 4 (.tmp 2) (.tmp 66))⟩ .done))))))))))))))
 (.seq
 (.seq
 (.ops [
 ⟨(some 67),none,(.mv (.tmp 0))⟩,
 ⟨(some 68),none,(.nck (.tmp 67))⟩,
 ⟨(some 69),none,(.fad 24 false 1 (.tmp 68))⟩,
 ⟨(some 70),none,(.ld false 1 (.tmp 69))⟩,
 ⟨(some 71),none,(.mv (.tmp 0))⟩,
 ⟨(some 72),none,(.nck (.tmp 71))⟩,
 ⟨(some 73),none,(.fad 0 true 22 (.tmp 72))⟩,
 ⟨(some 74),none,(.fad 0 false 1 (.tmp 73))⟩,
 ⟨(some 75),none,(.ld false 1 (.tmp 74))⟩,
 ⟨(some 76),none,(.idx 1 (.tmp 70) (.tmp 75))⟩,
 ⟨(some 77),none,(.ld false 1 (.tmp 76))⟩,
 ⟨(some 78),none,(.un .not (.tmp 77))⟩])
 (.cond (.tmp 78)
 (.seq
 (.ops [
 ⟨(some 79),none,(.mv (.tmp 0))⟩,
 ⟨(some 80),none,(.nck (.tmp 79))⟩,
 ⟨(some 81),none,(.fad 0 true 22 (.tmp 80))⟩,
 ⟨(some 82),none,(.fad 21 false 1 (.tmp 81))⟩,
 ⟨none,none,(.sto false 1 (.tmp 82) (.const (.int .i64 6)))⟩])
 .ret)
 .skip))
 (.seq
 (.ops [
 ⟨(some 83),none,(.mv (.tmp 0))⟩,
 ⟨(some 84),none,(.fad 1 false 1 (.tmp 2))⟩,
 ⟨(some 85),none,(.ld false 1 (.tmp 84))⟩,
 ⟨(some 86),none,(.nck (.tmp 83))⟩,
 ⟨(some 87),none,(.fad 0 true 22 (.tmp 86))⟩,
 ⟨(some 88),none,(.fad 1 true 16 (.tmp 87))⟩,
 ⟨(some 89),none,(.aidx 16 false 1 (.tmp 88) (.tmp 85))⟩,
 ⟨(some 90),none,(.ld false 1 (.tmp 89))⟩,
 ⟨(some 3),none,(.mv (.tmp 90))⟩])
 (.seq
 (.ops [
 ⟨(some 91),none,(.fad 0 false 1 (.tmp 2))⟩,
 ⟨(some 92),none,(.ld false 1 (.tmp 91))⟩])
 (.block 0
 (.seq
 (.ops [
 ⟨(some 127),none,(.bin .eql (.tmp 92) (.const (.int .i64 1)))⟩,
 ⟨(some 126),none,(.mv (.tmp 127))⟩])
 (.cond (.tmp 126)
 (.ops [
 ⟨(some 128),none,(.mv (.tmp 0))⟩,
 ⟨(some 129),none,(.fad 1 false 1 (.tmp 2))⟩,
 ⟨(some 130),none,(.ld false 1 (.tmp 129))⟩,
 ⟨(some 131),none,(.fad 3 false 1 (.tmp 2))⟩,
 ⟨(some 132),none,(.ld false 1 (.tmp 131))⟩,
 ⟨(some 133),none,(.conv .u32 (.tmp 132))⟩,
 ⟨(some 134),none,(.call (.func 94) [(.tmp 128),(.tmp 130),(.tmp 133)])⟩])
 (.seq
 (.ops [
 ⟨(some 136),none,(.bin .eql (.tmp 92) (.const (.int .i64 2)))⟩,
 ⟨(some 135),none,(.mv (.tmp 136))⟩])
 (.cond (.tmp 135)
 (.ops [
 ⟨(some 137),none,(.mv (.tmp 0))⟩,
 ⟨(some 138),none,(.fad 1 false 1 (.tmp 2))⟩,
 ⟨(some 139),none,(.ld false 1 (.tmp 138))⟩,
 ⟨(some 140),none,(.mv (.tmp 3))⟩,
 ⟨(some 141),none,(.bin .rem (.tmp 140) (.const (.int .u32 65536)))⟩,
 ⟨(some 142),none,(.fad 3 false 1 (.tmp 2))⟩,
 ⟨(some 143),none,(.ld false 1 (.tmp 142))⟩,
 ⟨(some 144),none,(.conv .u32 (.tmp 143))⟩,
 ⟨(some 145),none,(.bin .mul (.tmp 144) (.const (.int .u32 65536)))⟩,
 ⟨(some 146),none,(.bin .add (.tmp 141) (.tmp 145))⟩,
 ⟨(some 147),none,(.call (.func 94) [(.tmp 137),(.tmp 139),(.tmp 146)])⟩])
 (.seq
 (.ops [
 ⟨(some 149),none,(.bin .eql (.tmp 92) (.const (.int .i64 3)))⟩,
 ⟨(some 148),none,(.mv (.tmp 149))⟩])
 (.cond (.tmp 148)
 (.ops [
 ⟨(some 150),none,(.mv (.tmp 0))⟩,
 ⟨(some 151),none,(.fad 1 false 1 (.tmp 2))⟩,
 ⟨(some 152),none,(.ld false 1 (.tmp 151))⟩,
 ⟨(some 153),none,(.mv (.tmp 0))⟩,
 ⟨(some 154),none,(.fad 2 false 1 (.tmp 2))⟩,
 ⟨(some 155),none,(.ld false 1 (.tmp 154))⟩,
 ⟨(some 156),none,(.nck (.tmp 153))⟩,
 ⟨(some 157),none,(.fad 0 true 22 (.tmp 156))⟩,
 ⟨(some 158),none,(.fad 1 true 16 (.tmp 157))⟩,
 ⟨(some 159),none,(.aidx 16 false 1 (.tmp 158) (.tmp 155))⟩,
 ⟨(some 160),none,(.ld false 1 (.tmp 159))⟩,
 ⟨(some 161),none,(.call (.func 94) [(.tmp 150),(.tmp 152),(.tmp 160)])⟩])
 (.seq
 (.seq
 (.ops [
 ⟨(some 163),none,(.bin .eql (.tmp 92) (.const (.int .i64 16)))⟩,
 ⟨(some 162),none,(.mv (.tmp 163))⟩])
 (.cond (.tmp 162)
 .skip
 (.ops [
 ⟨(some 164),none,(.bin .eql (.tmp 92) (.const (.int .i64 27)))⟩,
 ⟨(some 162),none,(.mv (.tmp 164))⟩])))
 (.cond (.tmp 162)
 (.seq
 (.ops [
 ⟨(some 165),none,(.mv (.tmp 0))⟩,
 ⟨(some 166),none,(.nck (.tmp 165))⟩,
 ⟨(some 167),none,(.fad 0 true 22 (.tmp 166))⟩,
 ⟨(some 168),none,(.fad 17 false 1 (.tmp 167))⟩,
 ⟨(some 169),none,(.ld false 1 (.tmp 168))⟩,
 ⟨(some 4),none,(.mv (.tmp 169))⟩])
 (.seq
 (.seq
 (.ops [
 ⟨(some 170),none,(.fad 0 false 1 (.tmp 2))⟩,
 ⟨(some 171),none,(.ld false 1 (.tmp 170))⟩,
 ⟨(some 172),none,(.bin .eql (.tmp 171) (.const (.int .i64 27)))⟩])
 (.cond (.tmp 172)
 (.ops [
 ⟨(some 173),none,(.mv (.tmp 0))⟩,
 ⟨(some 174),none,(.nck (.tmp 173))⟩,
 ⟨(some 175),none,(.fad 25 false 1 (.tmp 174))⟩,
 ⟨(some 176),none,(.ld false 1 (.tmp 175))⟩,
 ⟨(some 4),none,(.mv (.tmp 176))⟩])
 .skip))
 (.seq
 (.par true (.one ⟨(some 178),none,(.mv (.tmp 4))⟩ (.one ⟨(some 179),none,(.mv (.tmp 0))⟩ (.one ⟨(some 180),none,(.fad 2 false 1 (.tmp 2))⟩ (.one ⟨(some 181),none,(.ld false 1 (.tmp 180))⟩ (.one ⟨(some 182),none,(.nck (.tmp 179))⟩ (.one ⟨(some 183),none,(.fad 0 true 22 (.tmp 182))⟩ (.one ⟨(some 184),none,(.fad 1 true 16 (.tmp 183))⟩ (.one ⟨(some 185),none,(.aidx 16 false 1 (.tmp 184) (.tmp 181))⟩ (.one ⟨(some 186),none,(.ld false 1 (.tmp 185))⟩ (.one ⟨(some 187),none,(.fad 3 false 1 (.tmp 2))⟩ (.one ⟨(some 188),none,(.ld false 1 (.tmp 187))⟩ (.one ⟨(some 189),none,(.call (.func 95) [(.tmp 178),(.tmp 186),(.tmp 188)])⟩ (.one ⟨(some 177),none,(.mv (.tmp 189))⟩ (.one ⟨(some 190),none,(.ext (.tmp 177) 0)⟩ (.one ⟨(some 191),none,(.ext (.tmp 177) 1)⟩ (.one ⟨(some 5),none,(.mv (.tmp 190))⟩ (.one ⟨(some 6),none,(.mv (.tmp 191))⟩ .done))))))))))))))))))
 (.seq
 (.seq
 (.ops [
 ⟨(some 192),none,(.mv (.tmp 6))⟩,
 ⟨(some 193),none,(.un .not (.tmp 192))⟩])
 (.cond (.tmp 193)
 (.seq
 (.ops [
 ⟨(some 194),none,(.mv (.tmp 0))⟩,
 ⟨(some 195),none,(.nck (.tmp 194))⟩,
 ⟨(some 196),none,(.fad 0 true 22 (.tmp 195))⟩,
 ⟨(some 197),none,(.fad 21 false 1 (.tmp 196))⟩,
 ⟨none,none,(.sto false 1 (.tmp 197) (.const (.int .i64 8)))⟩])
 .ret)
 .skip))
 (.ops [
 ⟨(some 198),none,(.mv (.tmp 0))⟩,
 ⟨(some 199),none,(.fad 1 false 1 (.tmp 2))⟩,
 ⟨(some 200),none,(.ld false 1 (.tmp 199))⟩,
 ⟨(some 201),none,(.mv (.tmp 5))⟩,
 ⟨(some 202),none,(.call (.func 94) [(.tmp 198),(.tmp 200),(.tmp 201)])⟩])))))
 (.seq
 (.ops [
 ⟨(some 204),none,(.bin .eql (.tmp 92) (.const (.int .i64 17)))⟩,
 ⟨(some 203),none,(.mv (.tmp 204))⟩])
 (.cond (.tmp 203)
 (.seq
 (.ops [
 ⟨(some 205),none,(.mv (.tmp 0))⟩,
 ⟨(some 206),none,(.fad 2 false 1 (.tmp 2))⟩,
 ⟨(some 207),none,(.ld false 1 (.tmp 206))⟩,
 ⟨(some 208),none,(.nck (.tmp 205))⟩,
 ⟨(some 209),none,(.fad 0 true 22 (.tmp 208))⟩,
 ⟨(some 210),none,(.fad 1 true 16 (.tmp 209))⟩,
 ⟨(some 211),none,(.aidx 16 false 1 (.tmp 210) (.tmp 207))⟩,
 ⟨(some 212),none,(.ld false 1 (.tmp 211))⟩,
 ⟨(some 213),none,(.fad 3 false 1 (.tmp 2))⟩,
 ⟨(some 214),none,(.ld false 1 (.tmp 213))⟩,
 ⟨(some 215),none,(.conv .u32 (.tmp 214))⟩,
 ⟨(some 216),none,(.bin .add (.tmp 212) (.tmp 215))⟩,
 ⟨(some 7),none,(.mv (.tmp 216))⟩])
 (.seq
 (.seq
 (.ops [
 ⟨(some 217),none,(.mv (.tmp 7))⟩,
 ⟨(some 218),none,(.conv .u64 (.tmp 217))⟩,
 ⟨(some 219),none,(.mv (.tmp 0))⟩,
 ⟨(some 220),none,(.nck (.tmp 219))⟩,
 ⟨(some 221),none,(.fad 0 true 22 (.tmp 220))⟩,
 ⟨(some 222),none,(.fad 17 false 1 (.tmp 221))⟩,
 ⟨(some 223),none,(.ld false 1 (.tmp 222))⟩,
 ⟨(some 224),none,(.len (.tmp 223))⟩,
 ⟨(some 225),none,(.conv .u64 (.tmp 224))⟩,
 ⟨(some 226),none,(.bin .geq (.tmp 218) (.tmp 225))⟩])
 (.cond (.tmp 226)
 (.seq
 (.ops [
 ⟨(some 227),none,(.mv (.tmp 0))⟩,
 ⟨(some 228),none,(.nck (.tmp 227))⟩,
 ⟨(some 229),none,(.fad 0 true 22 (.tmp 228))⟩,
 ⟨(some 230),none,(.fad 21 false 1 (.tmp 229))⟩,
 ⟨none,none,(.sto false 1 (.tmp 230) (.const (.int .i64 8)))⟩])
 .ret)
 .skip))
 (.seq
 (.ops [
 ⟨(some 231),none,(.mv (.tmp 0))⟩,
 ⟨(some 232),none,(.nck (.tmp 231))⟩,
 ⟨(some 233),none,(.fad 0 true 22 (.tmp 232))⟩,
 ⟨(some 234),none,(.fad 17 false 1 (.tmp 233))⟩,
 ⟨(some 235),none,(.ld false 1 (.tmp 234))⟩,
 ⟨(some 236),none,(.mv (.tmp 7))⟩,
 ⟨(some 237),none,(.mv (.tmp 3))⟩,
 ⟨(some 238),none,(.idx 1 (.tmp 235) (.tmp 236))⟩,
 ⟨none,none,(.sto false 1 (.tmp 238) (.tmp 237))⟩])
 (.ops [
 ⟨(some 239),none,(.mv (.tmp 0))⟩,
 ⟨(some 240),none,(.nck (.tmp 239))⟩,
 ⟨(some 241),none,(.fad 0 true 22 (.tmp 240))⟩,
 ⟨(some 242),none,(.fad 0 false 1 (.tmp 241))⟩,
 ⟨(some 243),none,(.ld false 1 (.tmp 242))⟩,
 ⟨(some 244),none,(.bin .add (.tmp 243) (.const (.int .i64 1)))⟩,
 ⟨(some 245),none,(.nck (.tmp 239))⟩,
 ⟨(some 246),none,(.fad 0 true 22 (.tmp 245))⟩,
 ⟨(some 247),none,(.fad 0 false 1 (.tmp 246))⟩,
 ⟨none,none,(.sto false 1 (.tmp 247) (.tmp 244))⟩]))))
 (.seq
 (.ops [
 ⟨(some 249),none,(.bin .eql (.tmp 92) (.const (.int .i64 18)))⟩,
 ⟨(some 248),none,(.mv (.tmp 249))⟩])
 (.cond (.tmp 248)
 (.ops [
 ⟨(some 250),none,(.mv (.tmp 0))⟩,
 ⟨(some 251),none,(.fad 3 false 1 (.tmp 2))⟩,
 ⟨(some 252),none,(.ld false 1 (.tmp 251))⟩,
 ⟨(some 253),none,(.nck (.tmp 250))⟩,
 ⟨(some 254),none,(.fad 0 true 22 (.tmp 253))⟩,
 ⟨(some 255),none,(.fad 0 false 1 (.tmp 254))⟩,
 ⟨none,none,(.sto false 1 (.tmp 255) (.tmp 252))⟩])
 (.seq
 (.ops [
 ⟨(some 257),none,(.bin .eql (.tmp 92) (.const (.int .i64 19)))⟩,
 ⟨(some 256),none,(.mv (.tmp 257))⟩])
 (.cond (.tmp 256)
 (.ops [
 ⟨(some 258),none,(.mv (.tmp 0))⟩,
 ⟨(some 259),none,(.mv (.tmp 3))⟩,
 ⟨(some 260),none,(.bin .eql (.tmp 259) (.const (.int .u32 0)))⟩,
 ⟨(some 261),none,(.fad 3 false 1 (.tmp 2))⟩,
 ⟨(some 262),none,(.ld false 1 (.tmp 261))⟩,
 ⟨(some 263),none,(.call (.func 96) [(.tmp 258),(.tmp 260),(.tmp 262)])⟩])
 (.seq
 (.ops [
 ⟨(some 265),none,(.bin .eql (.tmp 92) (.const (.int .i64 20)))⟩,
 ⟨(some 264),none,(.mv (.tmp 265))⟩])
 (.cond (.tmp 264)
 (.ops [
 ⟨(some 266),none,(.mv (.tmp 0))⟩,
 ⟨(some 267),none,(.mv (.tmp 3))⟩,
 ⟨(some 268),none,(.bin .neq (.tmp 267) (.const (.int .u32 0)))⟩,
 ⟨(some 269),none,(.fad 3 false 1 (.tmp 2))⟩,
 ⟨(some 270),none,(.ld false 1 (.tmp 269))⟩,
 ⟨(some 271),none,(.call (.func 96) [(.tmp 266),(.tmp 268),(.tmp 270)])⟩])
 (.seq
 (.ops [
 ⟨(some 273),none,(.bin .eql (.tmp 92) (.const (.int .i64 21)))⟩,
 ⟨(some 272),none,(.mv (.tmp 273))⟩])
 (.cond (.tmp 272)
 (.seq
 (.ops [
 ⟨(some 274),none,(.mv (.tmp 0))⟩,
 ⟨(some 275),none,(.fad 1 false 1 (.tmp 2))⟩,
 ⟨(some 276),none,(.ld false 1 (.tmp 275))⟩,
 ⟨(some 277),none,(.mv (.tmp 0))⟩,
 ⟨(some 278),none,(.nck (.tmp 277))⟩,
 ⟨(some 279),none,(.fad 0 true 22 (.tmp 278))⟩,
 ⟨(some 280),none,(.fad 0 false 1 (.tmp 279))⟩,
 ⟨(some 281),none,(.ld false 1 (.tmp 280))⟩,
 ⟨(some 282),none,(.conv .u32 (.tmp 281))⟩,
 ⟨(some 283),none,(.bin .add (.tmp 282) (.const (.int .u32 1)))⟩,
 ⟨(some 284),none,(.nck (.tmp 274))⟩,
 ⟨(some 285),none,(.fad 0 true 22 (.tmp 284))⟩,
 ⟨(some 286),none,(.fad 1 true 16 (.tmp 285))⟩,
 ⟨(some 287),none,(.aidx 16 false 1 (.tmp 286) (.tmp 276))⟩,
 ⟨none,none,(.sto false 1 (.tmp 287) (.tmp 283))⟩])
 (.ops [
 ⟨(some 288),none,(.mv (.tmp 0))⟩,
 ⟨(some 289),none,(.fad 3 false 1 (.tmp 2))⟩,
 ⟨(some 290),none,(.ld false 1 (.tmp 289))⟩,
 ⟨(some 291),none,(.nck (.tmp 288))⟩,
 ⟨(some 292),none,(.fad 0 true 22 (.tmp 291))⟩,
 ⟨(some 293),none,(.fad 0 false 1 (.tmp 292))⟩,
 ⟨none,none,(.sto false 1 (.tmp 293) (.tmp 290))⟩]))
 (.seq
 (.ops [
 ⟨(some 295),none,(.bin .eql (.tmp 92) (.const (.int .i64 22)))⟩,
 ⟨(some 294),none,(.mv (.tmp 295))⟩])
 (.cond (.tmp 294)
 (.ops [
 ⟨(some 296),none,(.mv (.tmp 0))⟩,
 ⟨(some 297),none,(.mv (.tmp 3))⟩,
 ⟨(some 298),none,(.conv .i64 (.tmp 297))⟩,
 ⟨(some 299),none,(.nck (.tmp 296))⟩,
 ⟨(some 300),none,(.fad 0 true 22 (.tmp 299))⟩,
 ⟨(some 301),none,(.fad 0 false 1 (.tmp 300))⟩,
 ⟨none,none,(.sto false 1 (.tmp 301) (.tmp 298))⟩])
 (.seq
 (.ops [
 ⟨(some 303),none,(.bin .eql (.tmp 92) (.const (.int .i64 23)))⟩,
 ⟨(some 302),none,(.mv (.tmp 303))⟩])
 (.cond (.tmp 302)
 (.seq
 (.seq
 (.ops [
 ⟨(some 304),none,(.mv (.tmp 0))⟩,
 ⟨(some 305),none,(.nck (.tmp 304))⟩,
 ⟨(some 306),none,(.fad 0 true 22 (.tmp 305))⟩,
 ⟨(some 307),none,(.fad 18 false 1 (.tmp 306))⟩,
 ⟨(some 308),none,(.ld false 1 (.tmp 307))⟩,
 ⟨(some 309),none,(.bin .lss (.tmp 308) (.const (.int .i64 0)))⟩,
 ⟨(some 310),none,(.mv (.tmp 309))⟩,
 ⟨(some 311),(some (310,false)),(.mv (.tmp 0))⟩,
 ⟨(some 312),(some (310,false)),(.nck (.tmp 311))⟩,
 ⟨(some 313),(some (310,false)),(.fad 0 true 22 (.tmp 312))⟩,
 ⟨(some 314),(some (310,false)),(.fad 18 false 1 (.tmp 313))⟩,
 ⟨(some 315),(some (310,false)),(.ld false 1 (.tmp 314))⟩,
 ⟨(some 316),(some (310,false)),(.mv (.tmp 0))⟩,
 ⟨(some 317),(some (310,false)),(.nck (.tmp 316))⟩,
 ⟨(some 318),(some (310,false)),(.fad 26 false 1 (.tmp 317))⟩,
 ⟨(some 319),(some (310,false)),(.ld false 1 (.tmp 318))⟩,
 ⟨(some 320),(some (310,false)),(.lens (.tmp 319))⟩,
 ⟨(some 321),(some (310,false)),(.bin .geq (.tmp 315) (.tmp 320))⟩,
 ⟨(some 322),none,(.pick (.tmp 310) (.const (.bool true)) (.tmp 321))⟩])
 (.cond (.tmp 322)
 (.seq
 (.ops [
 ⟨(some 323),none,(.mv (.tmp 0))⟩,
 ⟨(some 324),none,(.fad 1 false 1 (.tmp 2))⟩,
 ⟨(some 325),none,(.ld false 1 (.tmp 324))⟩,
 ⟨(some 326),none,(.call (.func 94) [(.tmp 323),(.tmp 325),(.const (.int .u32 256))])⟩])
 .ret)
 .skip))
 (.seq
 (.ops [
 ⟨(some 327),none,(.mv (.tmp 0))⟩,
 ⟨(some 328),none,(.nck (.tmp 327))⟩,
 ⟨(some 329),none,(.fad 26 false 1 (.tmp 328))⟩,
 ⟨(some 330),none,(.ld false 1 (.tmp 329))⟩,
 ⟨(some 331),none,(.mv (.tmp 0))⟩,
 ⟨(some 332),none,(.nck (.tmp 331))⟩,
 ⟨(some 333),none,(.fad 0 true 22 (.tmp 332))⟩,
 ⟨(some 334),none,(.fad 18 false 1 (.tmp 333))⟩,
 ⟨(some 335),none,(.ld false 1 (.tmp 334))⟩,
 ⟨(some 336),none,(.pur .six [(.tmp 330),(.tmp 335)])⟩,
 ⟨(some 337),none,(.conv .u32 (.tmp 336))⟩,
 ⟨(some 8),none,(.mv (.tmp 337))⟩])
 (.seq
 (.ops [
 ⟨(some 338),none,(.mv (.tmp 0))⟩,
 ⟨(some 339),none,(.nck (.tmp 338))⟩,
 ⟨(some 340),none,(.fad 0 true 22 (.tmp 339))⟩,
 ⟨(some 341),none,(.fad 18 false 1 (.tmp 340))⟩,
 ⟨(some 342),none,(.ld false 1 (.tmp 341))⟩,
 ⟨(some 343),none,(.bin .add (.tmp 342) (.const (.int .i64 1)))⟩,
 ⟨(some 344),none,(.nck (.tmp 338))⟩,
 ⟨(some 345),none,(.fad 0 true 22 (.tmp 344))⟩,
 ⟨(some 346),none,(.fad 18 false 1 (.tmp 345))⟩,
 ⟨none,none,(.sto false 1 (.tmp 346) (.tmp 343))⟩])
 (.ops [
 ⟨(some 347),none,(.mv (.tmp 0))⟩,
 ⟨(some 348),none,(.fad 1 false 1 (.tmp 2))⟩,
 ⟨(some 349),none,(.ld false 1 (.tmp 348))⟩,
 ⟨(some 350),none,(.mv (.tmp 8))⟩,
 ⟨(some 351),none,(.call (.func 94) [(.tmp 347),(.tmp 349),(.tmp 350)])⟩]))))
 (.seq
 (.ops [
 ⟨(some 353),none,(.bin .eql (.tmp 92) (.const (.int .i64 24)))⟩,
 ⟨(some 352),none,(.mv (.tmp 353))⟩])
 (.cond (.tmp 352)
 (.seq
 (.seq
 (.ops [
 ⟨(some 354),none,(.mv (.tmp 0))⟩,
 ⟨(some 355),none,(.nck (.tmp 354))⟩,
 ⟨(some 356),none,(.fad 22 false 1 (.tmp 355))⟩,
 ⟨(some 357),none,(.ld false 1 (.tmp 356))⟩,
 ⟨(some 358),none,(.len (.tmp 357))⟩,
 ⟨(some 359),none,(.bin .geq (.tmp 358) (.const (.int .i64 65536)))⟩])
 (.cond (.tmp 359)
 (.seq
 (.ops [
 ⟨(some 360),none,(.mv (.tmp 0))⟩,
 ⟨(some 361),none,(.nck (.tmp 360))⟩,
 ⟨(some 362),none,(.fad 0 true 22 (.tmp 361))⟩,
 ⟨(some 363),none,(.fad 21 false 1 (.tmp 362))⟩,
 ⟨none,none,(.sto false 1 (.tmp 363) (.const (.int .i64 4)))⟩])
 .ret)
 .skip))
 (.seq
 (.ops [
 ⟨(some 364),none,(.mv (.tmp 0))⟩,
 ⟨(some 365),none,(.mv (.tmp 0))⟩,
 ⟨(some 366),none,(.nck (.tmp 365))⟩,
 ⟨(some 367),none,(.fad 22 false 1 (.tmp 366))⟩,
 ⟨(some 368),none,(.ld false 1 (.tmp 367))⟩,
 ⟨(some 369),none,(.mv (.tmp 3))⟩,
 ⟨(some 370),none,(.bin .rem (.tmp 369) (.const (.int .u32 256)))⟩,
 ⟨(some 371),none,(.conv .u8 (.tmp 370))⟩,
 ⟨(some 372),none,(.bsl 5 1 1 [(.int .u8 0)] [(0,(1,(.tmp 371)))])⟩,
 ⟨(some 373),none,(.app 5 1 1 (.tmp 368) (.tmp 372))⟩,
 ⟨(some 374),none,(.nck (.tmp 364))⟩,
 ⟨(some 375),none,(.fad 22 false 1 (.tmp 374))⟩,
 ⟨none,none,(.sto false 1 (.tmp 375) (.tmp 373))⟩])
 (.ops [
 ⟨(some 376),none,(.mv (.tmp 0))⟩,
 ⟨(some 377),none,(.nck (.tmp 376))⟩,
 ⟨(some 378),none,(.fad 0 true 22 (.tmp 377))⟩,
 ⟨(some 379),none,(.fad 0 false 1 (.tmp 378))⟩,
 ⟨(some 380),none,(.ld false 1 (.tmp 379))⟩,
 ⟨(some 381),none,(.bin .add (.tmp 380) (.const (.int .i64 1)))⟩,
 ⟨(some 382),none,(.nck (.tmp 376))⟩,
 ⟨(some 383),none,(.fad 0 true 22 (.tmp 382))⟩,
 ⟨(some 384),none,(.fad 0 false 1 (.tmp 383))⟩,
 ⟨none,none,(.sto false 1 (.tmp 384) (.tmp 381))⟩])))
 (.seq
 (.ops [
 ⟨(some 386),none,(.bin .eql (.tmp 92) (.const (.int .i64 25)))⟩,
 ⟨(some 385),none,(.mv (.tmp 386))⟩])
 (.cond (.tmp 385)
 (.seq
 (.seq
 (.ops [
 ⟨(some 387),none,(.mv (.tmp 3))⟩,
 ⟨(some 388),none,(.fad 3 false 1 (.tmp 2))⟩,
 ⟨(some 389),none,(.ld false 1 (.tmp 388))⟩,
 ⟨(some 390),none,(.conv .u32 (.tmp 389))⟩,
 ⟨(some 391),none,(.bin .geq (.tmp 387) (.tmp 390))⟩])
 (.cond (.tmp 391)
 (.seq
 (.ops [
 ⟨(some 392),none,(.mv (.tmp 0))⟩,
 ⟨(some 393),none,(.nck (.tmp 392))⟩,
 ⟨(some 394),none,(.fad 0 true 22 (.tmp 393))⟩,
 ⟨(some 395),none,(.fad 21 false 1 (.tmp 394))⟩,
 ⟨none,none,(.sto false 1 (.tmp 395) (.const (.int .i64 3)))⟩])
 .ret)
 .skip))
 (.ops [
 ⟨(some 396),none,(.mv (.tmp 0))⟩,
 ⟨(some 397),none,(.nck (.tmp 396))⟩,
 ⟨(some 398),none,(.fad 0 true 22 (.tmp 397))⟩,
 ⟨(some 399),none,(.fad 0 false 1 (.tmp 398))⟩,
 ⟨(some 400),none,(.ld false 1 (.tmp 399))⟩,
 ⟨(some 401),none,(.bin .add (.tmp 400) (.const (.int .i64 1)))⟩,
 ⟨(some 402),none,(.nck (.tmp 396))⟩,
 ⟨(some 403),none,(.fad 0 true 22 (.tmp 402))⟩,
 ⟨(some 404),none,(.fad 0 false 1 (.tmp 403))⟩,
 ⟨none,none,(.sto false 1 (.tmp 404) (.tmp 401))⟩]))
 (.seq
 (.ops [
 ⟨(some 406),none,(.bin .eql (.tmp 92) (.const (.int .i64 26)))⟩,
 ⟨(some 405),none,(.mv (.tmp 406))⟩])
 (.cond (.tmp 405)
 (.ops [
 ⟨(some 407),none,(.mv (.tmp 0))⟩,
 ⟨(some 408),none,(.nck (.tmp 407))⟩,
 ⟨(some 409),none,(.fad 0 true 22 (.tmp 408))⟩,
 ⟨(some 410),none,(.fad 21 false 1 (.tmp 409))⟩,
 ⟨none,none,(.sto false 1 (.tmp 410) (.const (.int .i64 1)))⟩])
 (.seq
 (.par true (.one ⟨(some 94),none,(.fad 0 false 1 (.tmp 2))⟩ (.one ⟨(some 95),none,(.ld false 1 (.tmp 94))⟩ (.one ⟨(some 96),none,(.mv (.tmp 0))⟩ (.one ⟨(some 97),none,(.fad 2 false 1 (.tmp 2))⟩ (.one ⟨(some 98),none,(.ld false 1 (.tmp 97))⟩ (.one ⟨(some 99),none,(.nck (.tmp 96))⟩ (.one ⟨(some 100),none,(.fad 0 true 22 (.tmp 99))⟩ (.one ⟨(some 101),none,(.fad 1 true 16 (.tmp 100))⟩ (.one ⟨(some 102),none,(.aidx 16 false 1 (.tmp 101) (.tmp 98))⟩ (.one ⟨(some 103),none,(.ld false 1 (.tmp 102))⟩ (.one ⟨(some 104),none,(.mv (.tmp 0))⟩ (.one ⟨(some 105),none,(.fad 3 false 1 (.tmp 2))⟩ (.one ⟨(some 106),none,(.ld false 1 (.tmp 105))⟩ (.one ⟨(some 107),none,(.nck (.tmp 104))⟩ (.one ⟨(some 108),none,(.fad 0 true 22 (.tmp 107))⟩ (.one ⟨(some 109),none,(.fad 1 true 16 (.tmp 108))⟩ (.one ⟨(some 110),none,(.aidx 16 false 1 (.tmp 109) (.tmp 106))⟩ (.one ⟨(some 111),none,(.ld false 1 (.tmp 110))⟩ (.one ⟨(some 112),none,(.call (.func 77) [(.tmp 95),(.tmp 103),(.tmp 111)])⟩ (.one ⟨(some 93),none,(.mv (.tmp 112))⟩ (.one ⟨(some 113),none,(.ext (.tmp 93) 0)⟩ (.one ⟨(some 114),none,(.ext (.tmp 93) 1)⟩ (.one ⟨(some 9),none,(.mv (.tmp 113))⟩ (.one ⟨(some 10),none,(.mv (.tmp 114))⟩ .done)))))))))))))))))))))))))
 (.seq
 (.seq
 (.ops [
 ⟨(some 115),none,(.mv (.tmp 10))⟩,
 ⟨(some 116),none,(.bin .neq (.tmp 115) (.const (.int .i64 0)))⟩])
 (.cond (.tmp 116)
 (.seq
 (.ops [
 ⟨(some 117),none,(.mv (.tmp 0))⟩,
 ⟨(some 118),none,(.nck (.tmp 117))⟩,
 ⟨(some 119),none,(.fad 0 true 22 (.tmp 118))⟩,
 ⟨(some 120),none,(.fad 21 false 1 (.tmp 119))⟩,
 ⟨none,none,(.sto false 1 (.tmp 120) (.const (.int .i64 2)))⟩])
 .ret)
 .skip))
 (.ops [
 ⟨(some 121),none,(.mv (.tmp 0))⟩,
 ⟨(some 122),none,(.fad 1 false 1 (.tmp 2))⟩,
 ⟨(some 123),none,(.ld false 1 (.tmp 122))⟩,
 ⟨(some 124),none,(.mv (.tmp 9))⟩,
 ⟨(some 125),none,(.call (.func 94) [(.tmp 121),(.tmp 123),(.tmp 124)])⟩])))))))))))))))))))))))))))))))))))))))
theorem s_scref10_work_step:compFq Try.prog false true 79=some (411,r_scref10_work_step,[]):=by kernel_rfl
def t_scref10_run:VC :=
 (.seq
 (.seq
 (.ops [
 ⟨(some 14),none,(.mv (.const (.int .i64 0)))⟩])
 (.block 0
 (.loop
 (.seq
 (.seq
 (.ops [
 ⟨(some 49),none,(.mv (.tmp 14))⟩,
 ⟨(some 50),none,(.mv (.tmp 3))⟩,
 ⟨(some 51),none,(.bin .lss (.tmp 49) (.tmp 50))⟩,
 ⟨(some 52),none,(.mv (.tmp 51))⟩,
 ⟨(some 53),(some (52,true)),(.fad 0 true 22 (.tmp 13))⟩,
 ⟨(some 54),(some (52,true)),(.fad 21 false 1 (.tmp 53))⟩,
 ⟨(some 55),(some (52,true)),(.ld false 1 (.tmp 54))⟩,
 ⟨(some 56),(some (52,true)),(.bin .eql (.tmp 55) (.const (.int .i64 0)))⟩,
 ⟨(some 57),none,(.pick (.tmp 52) (.tmp 56) (.const (.bool false)))⟩])
 (.cond (.tmp 57)
 .skip
 (.exit 0)))
 (.seq
 (.block 1
 (.ops [
 ⟨(some 60),none,(.call (.func 79) [(.tmp 13)])⟩]))
 (.ops [
 ⟨(some 58),none,(.mv (.tmp 14))⟩,
 ⟨(some 59),none,(.bin .add (.tmp 58) (.const (.int .i64 1)))⟩,
 ⟨(some 14),none,(.mv (.tmp 59))⟩]))))))
 (.seq
 (.ops [
 ⟨(some 61),none,(.fad 22 false 1 (.tmp 13))⟩,
 ⟨(some 62),none,(.ld false 1 (.tmp 61))⟩,
 ⟨(some 63),none,(.see .b2s [(.tmp 62)])⟩,
 ⟨(some 64),none,(.fad 0 true 22 (.tmp 13))⟩,
 ⟨(some 65),none,(.fad 19 false 1 (.tmp 64))⟩,
 ⟨none,none,(.sto false 1 (.tmp 65) (.tmp 63))⟩])
 (.seq
 (.par false (.one ⟨(some 66),none,(.fad 0 true 22 (.tmp 13))⟩ (.one ⟨(some 67),none,(.ld true 22 (.tmp 66))⟩ (.one ⟨(some 68),none,(.fad 27 false 1 (.tmp 13))⟩ (.both (.one ⟨(some 69),none,(.ld false 1 (.tmp 68))⟩ (.one ⟨none,none,(.sto true 22 (.tmp 8) (.tmp 67))⟩ (.one ⟨(some 9),none,(.mv (.tmp 69))⟩ .done))) (.one ⟨none,none,(.sto true 22 (.tmp 8) (.tmp 67))⟩ (.one ⟨(some 69),none,(.ld false 1 (.tmp 68))⟩ (.one ⟨(some 9),none,(.mv (.tmp 69))⟩ .done))))))))
 .ret)))
def g_scref10_run:VC :=
 (.seq
 (.ops [
 ⟨(some 4),none,(.box 30 (.tmp 0))⟩,
 ⟨(some 6),none,(.box 87 (.tmp 2))⟩,
 ⟨(some 8),none,(.alc 87 [(.int .i64 0),(.int .u32 0),(.int .u32 0),(.int .u32 0),(.int .u32 0),(.int .u32 0),(.int .u32 0),(.int .u32 0),(.int .u32 0),(.int .u32 0),(.int .u32 0),(.int .u32 0),(.int .u32 0),(.int .u32 0),(.int .u32 0),(.int .u32 0),(.int .u32 0),(.slice none 0 0),(.int .i64 0),(.string ⟨#[]⟩),(.int .i64 0),(.int .i64 0)])⟩,
 ⟨(some 9),none,(.mv (.const (.slice none 0 0)))⟩])
 (.seq
 (.ops [
 ⟨(some 16),none,(.ld true 2 (.tmp 4))⟩,
 ⟨(some 17),none,(.call (.func 78) [(.tmp 16)])⟩,
 ⟨(some 15),none,(.mv (.tmp 17))⟩,
 ⟨(some 18),none,(.ext (.tmp 15) 0)⟩,
 ⟨(some 19),none,(.ext (.tmp 15) 1)⟩,
 ⟨(some 10),none,(.mv (.tmp 18))⟩,
 ⟨(some 11),none,(.mv (.tmp 19))⟩])
 (.seq
 (.par true (.one ⟨(some 20),none,(.fad 0 false 1 (.tmp 6))⟩ (.one ⟨(some 21),none,(.ld false 1 (.tmp 20))⟩ (.one ⟨(some 22),none,(.fad 1 true 16 (.tmp 6))⟩ (.one ⟨(some 23),none,(.ld true 16 (.tmp 22))⟩ (.one ⟨(some 25),none,(.fad 17 false 1 (.tmp 6))⟩ (.one ⟨(some 26),none,(.ld false 1 (.tmp 25))⟩ (.one ⟨(some 28),none,(.fad 18 false 1 (.tmp 6))⟩ (.one ⟨(some 29),none,(.ld false 1 (.tmp 28))⟩ (.one ⟨(some 30),none,(.fad 20 false 1 (.tmp 6))⟩ (.one ⟨(some 31),none,(.ld false 1 (.tmp 30))⟩ (.one ⟨(some 32),none,(.fad 21 false 1 (.tmp 6))⟩ (.one ⟨(some 33),none,(.ld false 1 (.tmp 32))⟩ (.both (.one ⟨(some 24),none,(.bsl 45 1 0 [] [])⟩ (.both (.one ⟨(some 27),none,(.app 45 1 4 (.tmp 24) (.tmp 26))⟩ (.one ⟨(some 34),none,(.bld [(.int .i64 0),(.int .u32 0),(.int .u32 0),(.int .u32 0),(.int .u32 0),(.int .u32 0),(.int .u32 0),(.int .u32 0),(.int .u32 0),(.int .u32 0),(.int .u32 0),(.int .u32 0),(.int .u32 0),(.int .u32 0),(.int .u32 0),(.int .u32 0),(.int .u32 0),(.slice none 0 0),(.int .i64 0),(.string ⟨#[]⟩),(.int .i64 0),(.int .i64 0)] [(0,(1,(.tmp 21))),(1,(16,(.tmp 23))),(17,(1,(.tmp 27))),(18,(1,(.tmp 29))),(20,(1,(.tmp 31))),(21,(1,(.tmp 33)))])⟩ (.one ⟨(some 12),none,(.alc 87 [(.int .i64 0),(.int .u32 0),(.int .u32 0),(.int .u32 0),(.int .u32 0),(.int .u32 0),(.int .u32 0),(.int .u32 0),(.int .u32 0),(.int .u32 0),(.int .u32 0),(.int .u32 0),(.int .u32 0),(.int .u32 0),(.int .u32 0),(.int .u32 0),(.int .u32 0),(.slice none 0 0),(.int .i64 0),(.string ⟨#[]⟩),(.int .i64 0),(.int .i64 0)])⟩ (.one ⟨none,none,(.sto true 22 (.tmp 12) (.tmp 34))⟩ .done)))) (.one ⟨(some 12),none,(.alc 87 [(.int .i64 0),(.int .u32 0),(.int .u32 0),(.int .u32 0),(.int .u32 0),(.int .u32 0),(.int .u32 0),(.int .u32 0),(.int .u32 0),(.int .u32 0),(.int .u32 0),(.int .u32 0),(.int .u32 0),(.int .u32 0),(.int .u32 0),(.int .u32 0),(.int .u32 0),(.slice none 0 0),(.int .i64 0),(.string ⟨#[]⟩),(.int .i64 0),(.int .i64 0)])⟩ (.one ⟨(some 27),none,(.app 45 1 4 (.tmp 24) (.tmp 26))⟩ (.one ⟨(some 34),none,(.bld [(.int .i64 0),(.int .u32 0),(.int .u32 0),(.int .u32 0),(.int .u32 0),(.int .u32 0),(.int .u32 0),(.int .u32 0),(.int .u32 0),(.int .u32 0),(.int .u32 0),(.int .u32 0),(.int .u32 0),(.int .u32 0),(.int .u32 0),(.int .u32 0),(.int .u32 0),(.slice none 0 0),(.int .i64 0),(.string ⟨#[]⟩),(.int .i64 0),(.int .i64 0)] [(0,(1,(.tmp 21))),(1,(16,(.tmp 23))),(17,(1,(.tmp 27))),(18,(1,(.tmp 29))),(20,(1,(.tmp 31))),(21,(1,(.tmp 33)))])⟩ (.one ⟨none,none,(.sto true 22 (.tmp 12) (.tmp 34))⟩ .done)))))) (.one ⟨(some 12),none,(.alc 87 [(.int .i64 0),(.int .u32 0),(.int .u32 0),(.int .u32 0),(.int .u32 0),(.int .u32 0),(.int .u32 0),(.int .u32 0),(.int .u32 0),(.int .u32 0),(.int .u32 0),(.int .u32 0),(.int .u32 0),(.int .u32 0),(.int .u32 0),(.int .u32 0),(.int .u32 0),(.slice none 0 0),(.int .i64 0),(.string ⟨#[]⟩),(.int .i64 0),(.int .i64 0)])⟩ (.one ⟨(some 24),none,(.bsl 45 1 0 [] [])⟩ (.one ⟨(some 27),none,(.app 45 1 4 (.tmp 24) (.tmp 26))⟩ (.one ⟨(some 34),none,(.bld [(.int .i64 0),(.int .u32 0),(.int .u32 0),(.int .u32 0),(.int .u32 0),(.int .u32 0),(.int .u32 0),(.int .u32 0),(.int .u32 0),(.int .u32 0),(.int .u32 0),(.int .u32 0),(.int .u32 0),(.int .u32 0),(.int .u32 0),(.int .u32 0),(.int .u32 0),(.slice none 0 0),(.int .i64 0),(.string ⟨#[]⟩),(.int .i64 0),(.int .i64 0)] [(0,(1,(.tmp 21))),(1,(16,(.tmp 23))),(17,(1,(.tmp 27))),(18,(1,(.tmp 29))),(20,(1,(.tmp 31))),(21,(1,(.tmp 33)))])⟩ (.one ⟨none,none,(.sto true 22 (.tmp 12) (.tmp 34))⟩ .done)))))))))))))))))))
 (.seq
 (.par false (.one ⟨(some 35),none,(.ld true 22 (.tmp 12))⟩ (.one ⟨(some 36),none,(.fad 19 false 1 (.tmp 6))⟩ (.one ⟨(some 37),none,(.ld false 1 (.tmp 36))⟩ (.one ⟨(some 39),none,(.mv (.tmp 10))⟩ (.one ⟨(some 40),none,(.mv (.tmp 11))⟩ (.one ⟨(some 41),none,(.fad 0 false 1 (.tmp 4))⟩ (.one ⟨(some 42),none,(.ld false 1 (.tmp 41))⟩ (.one ⟨(some 43),none,(.mv (.tmp 1))⟩ (.one ⟨(some 44),none,(.fad 0 false 1 (.tmp 4))⟩ (.one ⟨(some 45),none,(.ld false 1 (.tmp 44))⟩ (.one ⟨(some 46),none,(.len (.tmp 45))⟩ (.both (.one ⟨(some 38),none,(.eff (.s2b 5) [(.tmp 37)])⟩ (.both (.one ⟨(some 47),none,(.mk 3 1 8 [(.int .i64 0)] (.tmp 46) (.tmp 46))⟩ (.one ⟨(some 48),none,(.bld [(.int .i64 0),(.int .u32 0),(.int .u32 0),(.int .u32 0),(.int .u32 0),(.int .u32 0),(.int .u32 0),(.int .u32 0),(.int .u32 0),(.int .u32 0),(.int .u32 0),(.int .u32 0),(.int .u32 0),(.int .u32 0),(.int .u32 0),(.int .u32 0),(.int .u32 0),(.slice none 0 0),(.int .i64 0),(.string ⟨#[]⟩),(.int .i64 0),(.int .i64 0),(.slice none 0 0),(.slice none 0 0),(.slice none 0 0),(.slice none 0 0),(.string ⟨#[]⟩),(.slice none 0 0)] [(0,(22,(.tmp 35))),(22,(1,(.tmp 38))),(23,(1,(.tmp 39))),(24,(1,(.tmp 40))),(25,(1,(.tmp 42))),(26,(1,(.tmp 43))),(27,(1,(.tmp 47)))])⟩ (.one ⟨(some 13),none,(.alc 143 [(.int .i64 0),(.int .u32 0),(.int .u32 0),(.int .u32 0),(.int .u32 0),(.int .u32 0),(.int .u32 0),(.int .u32 0),(.int .u32 0),(.int .u32 0),(.int .u32 0),(.int .u32 0),(.int .u32 0),(.int .u32 0),(.int .u32 0),(.int .u32 0),(.int .u32 0),(.slice none 0 0),(.int .i64 0),(.string ⟨#[]⟩),(.int .i64 0),(.int .i64 0),(.slice none 0 0),(.slice none 0 0),(.slice none 0 0),(.slice none 0 0),(.string ⟨#[]⟩),(.slice none 0 0)])⟩ (.one ⟨none,none,(.sto true 28 (.tmp 13) (.tmp 48))⟩ .done)))) (.one ⟨(some 13),none,(.alc 143 [(.int .i64 0),(.int .u32 0),(.int .u32 0),(.int .u32 0),(.int .u32 0),(.int .u32 0),(.int .u32 0),(.int .u32 0),(.int .u32 0),(.int .u32 0),(.int .u32 0),(.int .u32 0),(.int .u32 0),(.int .u32 0),(.int .u32 0),(.int .u32 0),(.int .u32 0),(.slice none 0 0),(.int .i64 0),(.string ⟨#[]⟩),(.int .i64 0),(.int .i64 0),(.slice none 0 0),(.slice none 0 0),(.slice none 0 0),(.slice none 0 0),(.string ⟨#[]⟩),(.slice none 0 0)])⟩ (.one ⟨(some 47),none,(.mk 3 1 8 [(.int .i64 0)] (.tmp 46) (.tmp 46))⟩ (.one ⟨(some 48),none,(.bld [(.int .i64 0),(.int .u32 0),(.int .u32 0),(.int .u32 0),(.int .u32 0),(.int .u32 0),(.int .u32 0),(.int .u32 0),(.int .u32 0),(.int .u32 0),(.int .u32 0),(.int .u32 0),(.int .u32 0),(.int .u32 0),(.int .u32 0),(.int .u32 0),(.int .u32 0),(.slice none 0 0),(.int .i64 0),(.string ⟨#[]⟩),(.int .i64 0),(.int .i64 0),(.slice none 0 0),(.slice none 0 0),(.slice none 0 0),(.slice none 0 0),(.string ⟨#[]⟩),(.slice none 0 0)] [(0,(22,(.tmp 35))),(22,(1,(.tmp 38))),(23,(1,(.tmp 39))),(24,(1,(.tmp 40))),(25,(1,(.tmp 42))),(26,(1,(.tmp 43))),(27,(1,(.tmp 47)))])⟩ (.one ⟨none,none,(.sto true 28 (.tmp 13) (.tmp 48))⟩ .done)))))) (.both (.one ⟨(some 47),none,(.mk 3 1 8 [(.int .i64 0)] (.tmp 46) (.tmp 46))⟩ (.both (.one ⟨(some 38),none,(.eff (.s2b 5) [(.tmp 37)])⟩ (.one ⟨(some 48),none,(.bld [(.int .i64 0),(.int .u32 0),(.int .u32 0),(.int .u32 0),(.int .u32 0),(.int .u32 0),(.int .u32 0),(.int .u32 0),(.int .u32 0),(.int .u32 0),(.int .u32 0),(.int .u32 0),(.int .u32 0),(.int .u32 0),(.int .u32 0),(.int .u32 0),(.int .u32 0),(.slice none 0 0),(.int .i64 0),(.string ⟨#[]⟩),(.int .i64 0),(.int .i64 0),(.slice none 0 0),(.slice none 0 0),(.slice none 0 0),(.slice none 0 0),(.string ⟨#[]⟩),(.slice none 0 0)] [(0,(22,(.tmp 35))),(22,(1,(.tmp 38))),(23,(1,(.tmp 39))),(24,(1,(.tmp 40))),(25,(1,(.tmp 42))),(26,(1,(.tmp 43))),(27,(1,(.tmp 47)))])⟩ (.one ⟨(some 13),none,(.alc 143 [(.int .i64 0),(.int .u32 0),(.int .u32 0),(.int .u32 0),(.int .u32 0),(.int .u32 0),(.int .u32 0),(.int .u32 0),(.int .u32 0),(.int .u32 0),(.int .u32 0),(.int .u32 0),(.int .u32 0),(.int .u32 0),(.int .u32 0),(.int .u32 0),(.int .u32 0),(.slice none 0 0),(.int .i64 0),(.string ⟨#[]⟩),(.int .i64 0),(.int .i64 0),(.slice none 0 0),(.slice none 0 0),(.slice none 0 0),(.slice none 0 0),(.string ⟨#[]⟩),(.slice none 0 0)])⟩ (.one ⟨none,none,(.sto true 28 (.tmp 13) (.tmp 48))⟩ .done)))) (.one ⟨(some 13),none,(.alc 143 [(.int .i64 0),(.int .u32 0),(.int .u32 0),(.int .u32 0),(.int .u32 0),(.int .u32 0),(.int .u32 0),(.int .u32 0),(.int .u32 0),(.int .u32 0),(.int .u32 0),(.int .u32 0),(.int .u32 0),(.int .u32 0),(.int .u32 0),(.int .u32 0),(.int .u32 0),(.slice none 0 0),(.int .i64 0),(.string ⟨#[]⟩),(.int .i64 0),(.int .i64 0),(.slice none 0 0),(.slice none 0 0),(.slice none 0 0),(.slice none 0 0),(.string ⟨#[]⟩),(.slice none 0 0)])⟩ (.one ⟨(some 38),none,(.eff (.s2b 5) [(.tmp 37)])⟩ (.one ⟨(some 48),none,(.bld [(.int .i64 0),(.int .u32 0),(.int .u32 0),(.int .u32 0),(.int .u32 0),(.int .u32 0),(.int .u32 0),(.int .u32 0),(.int .u32 0),(.int .u32 0),(.int .u32 0),(.int .u32 0),(.int .u32 0),(.int .u32 0),(.int .u32 0),(.int .u32 0),(.int .u32 0),(.slice none 0 0),(.int .i64 0),(.string ⟨#[]⟩),(.int .i64 0),(.int .i64 0),(.slice none 0 0),(.slice none 0 0),(.slice none 0 0),(.slice none 0 0),(.string ⟨#[]⟩),(.slice none 0 0)] [(0,(22,(.tmp 35))),(22,(1,(.tmp 38))),(23,(1,(.tmp 39))),(24,(1,(.tmp 40))),(25,(1,(.tmp 42))),(26,(1,(.tmp 43))),(27,(1,(.tmp 47)))])⟩ (.one ⟨none,none,(.sto true 28 (.tmp 13) (.tmp 48))⟩ .done)))))) (.one ⟨(some 13),none,(.alc 143 [(.int .i64 0),(.int .u32 0),(.int .u32 0),(.int .u32 0),(.int .u32 0),(.int .u32 0),(.int .u32 0),(.int .u32 0),(.int .u32 0),(.int .u32 0),(.int .u32 0),(.int .u32 0),(.int .u32 0),(.int .u32 0),(.int .u32 0),(.int .u32 0),(.int .u32 0),(.slice none 0 0),(.int .i64 0),(.string ⟨#[]⟩),(.int .i64 0),(.int .i64 0),(.slice none 0 0),(.slice none 0 0),(.slice none 0 0),(.slice none 0 0),(.string ⟨#[]⟩),(.slice none 0 0)])⟩ (.both (.one ⟨(some 38),none,(.eff (.s2b 5) [(.tmp 37)])⟩ (.one ⟨(some 47),none,(.mk 3 1 8 [(.int .i64 0)] (.tmp 46) (.tmp 46))⟩ (.one ⟨(some 48),none,(.bld [(.int .i64 0),(.int .u32 0),(.int .u32 0),(.int .u32 0),(.int .u32 0),(.int .u32 0),(.int .u32 0),(.int .u32 0),(.int .u32 0),(.int .u32 0),(.int .u32 0),(.int .u32 0),(.int .u32 0),(.int .u32 0),(.int .u32 0),(.int .u32 0),(.int .u32 0),(.slice none 0 0),(.int .i64 0),(.string ⟨#[]⟩),(.int .i64 0),(.int .i64 0),(.slice none 0 0),(.slice none 0 0),(.slice none 0 0),(.slice none 0 0),(.string ⟨#[]⟩),(.slice none 0 0)] [(0,(22,(.tmp 35))),(22,(1,(.tmp 38))),(23,(1,(.tmp 39))),(24,(1,(.tmp 40))),(25,(1,(.tmp 42))),(26,(1,(.tmp 43))),(27,(1,(.tmp 47)))])⟩ (.one ⟨none,none,(.sto true 28 (.tmp 13) (.tmp 48))⟩ .done)))) (.one ⟨(some 47),none,(.mk 3 1 8 [(.int .i64 0)] (.tmp 46) (.tmp 46))⟩ (.one ⟨(some 38),none,(.eff (.s2b 5) [(.tmp 37)])⟩ (.one ⟨(some 48),none,(.bld [(.int .i64 0),(.int .u32 0),(.int .u32 0),(.int .u32 0),(.int .u32 0),(.int .u32 0),(.int .u32 0),(.int .u32 0),(.int .u32 0),(.int .u32 0),(.int .u32 0),(.int .u32 0),(.int .u32 0),(.int .u32 0),(.int .u32 0),(.int .u32 0),(.int .u32 0),(.slice none 0 0),(.int .i64 0),(.string ⟨#[]⟩),(.int .i64 0),(.int .i64 0),(.slice none 0 0),(.slice none 0 0),(.slice none 0 0),(.slice none 0 0),(.string ⟨#[]⟩),(.slice none 0 0)] [(0,(22,(.tmp 35))),(22,(1,(.tmp 38))),(23,(1,(.tmp 39))),(24,(1,(.tmp 40))),(25,(1,(.tmp 42))),(26,(1,(.tmp 43))),(27,(1,(.tmp 47)))])⟩ (.one ⟨none,none,(.sto true 28 (.tmp 13) (.tmp 48))⟩ .done))))))))))))))))))))
 t_scref10_run))))
theorem e_scref10_run:compF Try.prog 57=some (70,g_scref10_run,[(.cell 8 true 22),(.tmp 9)]):=by kernel_rfl
set_option maxRecDepth 10000
open Go.V
def WAt (code:List Int) (inp:ByteArray) (H:List VObj) (w sw:Nat) (ρ:S) (so:ByteArray) (cnt:List Int):Prop :=
 ∃ m sm o s1 c sc,H[w]? = some (wkO sw (wkc ρ.pc ρ.reg (.ref m sm 0 ρ.mem.length) ρ.rd so ρ.st ρ.fin (.ref o s1 0 ρ.out.size) (insL code) (okL code) (words code) inp (.ref c sc 0 code.length))) ∧
  H[m]? = some ⟨sm,45,1,ρ.mem.map U32⟩∧H[o]? = some ⟨s1,5,1,ρ.out.data.toList.map U8⟩∧H[c]? = some ⟨sc,3,1,cnt.map I⟩∧cnt.length=code.length
theorem wput {code:List Int} {inp:ByteArray} {H:List VObj} {w sw m sm o s1 c sc:Nat} {mem:List Int} {out so:ByteArray} {cnt:List Int} {pc:Int} {f:Nat→Int} {rd st fin:Int} (hlt:w<H.length) (hm:H[m]? = some ⟨sm,45,1,mem.map U32⟩)
 (ho:H[o]? = some ⟨s1,5,1,out.data.toList.map U8⟩) (hc:H[c]? = some ⟨sc,3,1,cnt.map I⟩) (nm:w≠m) (no:w≠o) (nc:w≠c) (hl:cnt.length=code.length) :
 WAt code inp (H.set w (wkO sw (wkc pc f (.ref m sm 0 mem.length) rd so st fin (.ref o s1 0 out.size) (insL code) (okL code) (words code) inp (.ref c sc 0 code.length)))) w sw ⟨pc,f,mem,rd,out,st,fin⟩ so cnt :=
 ⟨m,sm,o,s1,c,sc,by rw[List.getElem?_set,if_pos rfl,if_pos hlt],by rw[List.getElem?_set,if_neg nm];exact hm,by rw[List.getElem?_set,if_neg no];exact ho,by rw[List.getElem?_set,if_neg nc];exact hc,hl⟩
def KeepS (H H':List VObj):Prop:=∀ (id:Nat) (ob:VObj),H[id]? = some ob→ob.ty=87→H'[id]? = some ob
def cntS (code:List Int) (ρ:S) (cnt:List Int):List Int:=if doneF code ρ=true then cnt.set ρ.pc.toNat (cnt.getD ρ.pc.toNat default+1) else cnt
set_option maxHeartbeats 2000000 in
theorem wstep_v (code:List Int) (inp:ByteArray) (ρ:S) (so:ByteArray) (cnt:List Int) (H:List VObj) (nx w sw:Nat) (C:AV→List VObj→Nat→Prop)
 (hcode:∀ x ∈ code,In32 x) (hcl:code.length≤1000000) (hi:inp.size≤1000000000) (hws:Wf ρ) (hl:ρ.mem.length≤1000000) (hol:ρ.out.size≤1000000) (hf0:ρ.fin=0) (hcb:∀ x ∈ cnt,0≤x∧x≤4000000000000000000)
 (hA:WAt code inp H w sw ρ so cnt) (hC:∀ r H' nx',KeepS H H'→WAt code inp H' w sw (stepF code inp ρ) so (cntS code ρ cnt)→C r H' nx') :
 VCall Try.prog 79 [.ptr w sw 0] H nx C:=by
 refine VCall.of_bodyQ hmix s_scref10_work_step (by simp) ?_
 obtain ⟨pc,f,mem,rd,out,st,fin⟩:=ρ
 simp only at hf0 hl hol
 subst hf0
 have hf:∀ k,In32 (f k):=hws.reg
 obtain ⟨m,sm,o,s1,c,sc,hw,hm,ho,hc,hcc⟩:=hA
 simp only at hw hm ho
 have hlt:=(List.getElem?_eq_some_iff.1 hw).1
 have nm:w≠m:=fun e=>by rw[← e,hw]at hm;simp at hm
 have no:w≠o:=fun e=>by rw[← e,hw]at ho;simp at ho
 have nc:w≠c:=fun e=>by rw[← e,hw]at hc;simp at hc
 have ncm:c≠m:=fun e=>by rw[← e,hc]at hm;simp at hm
 have nco:c≠o:=fun e=>by rw[← e,hc]at ho;simp at ho
 have nmo:m≠o:=fun e=>by rw[← e,hm]at ho;simp at ho
 have hclt:=(List.getElem?_eq_some_iff.1 hc).1
 have kA:∀ (id:Nat) (ob:VObj),H[id]? = some ob→ob.ty=87→id≠w∧id≠m∧id≠o∧id≠c∧id<H.length:=fun id ob h1 h2=>by
  refine ⟨fun e=>?_,fun e=>?_,fun e=>?_,fun e=>?_,(List.getElem?_eq_some_iff.1 h1).1⟩
  ·rw[e,hw]at h1;cases h1;simp at h2
  ·rw[e,hm]at h1;cases h1;simp at h2
  ·rw[e,ho]at h1;cases h1;simp at h2
  ·rw[e,hc]at h1;cases h1;simp at h2
 have kp0:∀ y,KeepS H (H.set w y):=fun y id ob h1 h2=>by
  rw[List.getElem?_set,if_neg (fun e=>(kA id ob h1 h2).1 e.symm)];exact h1
 have gA:∀ a,(H.set w a)[w]? = some a:=fun a=>by rw[List.getElem?_set,if_pos rfl,if_pos hlt]
 have hcdl:((code.map insC).map AV.agg).length=code.length:=by simp
 by_cases h2:pc<0
 ·have e1:stepF code inp ⟨pc,f,mem,rd,out,st,0⟩=⟨pc,f,mem,rd,out,st,7⟩:=by unfold stepF;rw[if_pos rfl,if_pos (.inl h2)]
  have e2:doneF code ⟨pc,f,mem,rd,out,st,0⟩=false:=by simp[doneF];omega
  simp only[go_sem,r_scref10_work_step,hw,gA,wkc_length,k_pc,k_cd,k_fin,ks_fin,eq_true h2]
  repeat (refine And.intro (by omega) ?_)
  refine hC _ _ _ (kp0 _) ?_
  rw[e1,cntS,if_neg (by rw[e2];simp)]
  exact wput hlt hm ho hc nm no nc hcc
 by_cases h3:(code.length:Int)≤pc
 ·have e1:stepF code inp ⟨pc,f,mem,rd,out,st,0⟩=⟨pc,f,mem,rd,out,st,7⟩:=by unfold stepF;rw[if_pos rfl,if_pos (.inr h3)]
  have e2:doneF code ⟨pc,f,mem,rd,out,st,0⟩=false:=by simp[doneF];omega
  simp only[go_sem,r_scref10_work_step,hw,gA,wkc_length,k_pc,k_cd,k_fin,ks_fin,hcdl,eq_false h2,eq_true h3]
  repeat (refine And.intro (by omega) ?_)
  refine hC _ _ _ (kp0 _) ?_
  rw[e1,cntS,if_neg (by rw[e2];simp)]
  exact wput hlt hm ho hc nm no nc hcc
 have e2:doneF code ⟨pc,f,mem,rd,out,st,0⟩=true:=by simp[doneF];omega
 obtain ⟨W,hW⟩:∃ W,code.getD pc.toNat default=W:=⟨_,rfl⟩
 have hpl:pc.toNat<code.length:=by omega
 have hW32:In32 W:=by
  rw[← hW];exact hcode _ (mem_getD (by omega))
 obtain ⟨t,ht⟩:∃ t,IntKind.i64.wrap (st+1)=t:=⟨_,rfl⟩
 have e1:stepF code inp ⟨pc,f,mem,rd,out,st,0⟩=wordF code inp ⟨pc,f,mem,rd,out,t,0⟩ W:=by unfold stepF;rw[if_pos rfl,if_neg (fun q=>q.elim h2 h3),hW,← ht]
 obtain ⟨x,hx⟩:∃ x,cnt.getD pc.toNat default=x:=⟨_,rfl⟩
 have hxb:0≤x∧x≤4000000000000000000:=by
  rw[← hx,List.getD_eq_getElem?_getD,List.getElem?_eq_getElem (by omega)]
  exact hcb _ (List.getElem_mem _)
 have hxw:IntKind.i64.wrap (x+1)=x+1:=i64_in (by omega) (by omega)
 have e5:cntS code ⟨pc,f,mem,rd,out,st,0⟩ cnt=cnt.set pc.toNat (x+1):=by rw[cntS,if_pos e2,hx]
 have hgi:(code.map insC).getD pc.toNat default=insC W:=by
  rw[List.getD_eq_getElem?_getD,List.getElem?_map,List.getElem?_eq_getElem hpl,← hW,List.getD_eq_getElem?_getD,List.getElem?_eq_getElem hpl];rfl
 have hgo:(code.map fun w=>B (okW w)).getD pc.toNat default=B (okW W):=by
  rw[List.getD_eq_getElem?_getD,List.getElem?_map,List.getElem?_eq_getElem hpl,← hW,List.getD_eq_getElem?_getD,List.getElem?_eq_getElem hpl];rfl
 have gB:∀ a,(H.set w a)[c]? = some ⟨sc,3,1,cnt.map I⟩:=fun a=>by rw[List.getElem?_set,if_neg nc];exact hc
 have gC:∀ a b,((H.set w a).set c b)[w]? = some a:=fun a b=>by rw[List.getElem?_set,if_neg (fun e=>nc e.symm)];exact gA a
 have gD:∀ a b z,((H.set w a).set c b++[z])[w]? = some a:=fun a b z=>by rw[List.getElem?_append_left (by simp;omega)];exact gC a b
 have gE:∀ a b (z:VObj),((H.set w a).set c b++[z])[H.length]? = some z:=fun a b z=>by
  rw[List.getElem?_append_right (by simp)];simp
 have sE:∀ a b (z x:VObj),((H.set w a).set c b++[z]).set H.length x=(H.set w a).set c b++[x]:=fun a b z x=>by
  rw[List.set_append_right _ _ (by simp)];simp
 simp only[go_sem,r_scref10_work_step,hw,gA,gB,gC,gD,gE,sE,List.length_set,wkc_length,k_pc,k_st,k_cd,k_ct,ks_st,hcdl,cellT_I1,set_map,hcc,hx,hxw,ht,eq_false h2,eq_false h3,hgi,insC_len,eq_true hlt]
 repeat (refine And.intro (by omega) ?_)
 refine ⟨insC_one W,?_⟩
 rw[k_ok]
 refine ⟨rfl,?_⟩
 have hdr:insC W++List.drop (insC W).length [I 0,I 0,I 0,I 0]=insC W:=by
  rw[insC_len];exact List.append_nil _
 simp only[List.length_set,sE,set_map,ht,hxw,List.take_zero,List.nil_append,Nat.zero_add,hdr]
 have hw3:=gD (wkO sw (wkc pc f (.ref m sm 0 mem.length) rd so t 0 (.ref o s1 0 out.size) (insL code) (okL code) (words code) inp (.ref c sc 0 code.length))) ⟨sc,3,1,(cnt.set pc.toNat (x+1)).map I⟩ ⟨nx,115,1,insC W⟩
 have hi3:=gE (wkO sw (wkc pc f (.ref m sm 0 mem.length) rd so t 0 (.ref o s1 0 out.size) (insL code) (okL code) (words code) inp (.ref c sc 0 code.length))) ⟨sc,3,1,(cnt.set pc.toNat (x+1)).map I⟩ ⟨nx,115,1,insC W⟩
 have hm3:((H.set w (wkO sw (wkc pc f (.ref m sm 0 mem.length) rd so t 0 (.ref o s1 0 out.size) (insL code) (okL code) (words code) inp (.ref c sc 0 code.length)))).set c ⟨sc,3,1,(cnt.set pc.toNat (x+1)).map I⟩++[⟨nx,115,1,insC W⟩])[m]? = some ⟨sm,45,1,mem.map U32⟩:=by
  rw[List.getElem?_append_left (by simp;exact (List.getElem?_eq_some_iff.1 hm).1),List.getElem?_set,if_neg ncm,List.getElem?_set,if_neg nm];exact hm
 have ho3:((H.set w (wkO sw (wkc pc f (.ref m sm 0 mem.length) rd so t 0 (.ref o s1 0 out.size) (insL code) (okL code) (words code) inp (.ref c sc 0 code.length)))).set c ⟨sc,3,1,(cnt.set pc.toNat (x+1)).map I⟩++[⟨nx,115,1,insC W⟩])[o]? = some ⟨s1,5,1,out.data.toList.map U8⟩:=by
  rw[List.getElem?_append_left (by simp;exact (List.getElem?_eq_some_iff.1 ho).1),List.getElem?_set,if_neg nco,List.getElem?_set,if_neg no];exact ho
 have hc3:((H.set w (wkO sw (wkc pc f (.ref m sm 0 mem.length) rd so t 0 (.ref o s1 0 out.size) (insL code) (okL code) (words code) inp (.ref c sc 0 code.length)))).set c ⟨sc,3,1,(cnt.set pc.toNat (x+1)).map I⟩++[⟨nx,115,1,insC W⟩])[c]? = some ⟨sc,3,1,(cnt.set pc.toNat (x+1)).map I⟩:=by
  rw[List.getElem?_append_left (by simp;exact hclt),List.getElem?_set,if_pos rfl,if_pos (by simp;exact hclt)]
 have kB:KeepS H ((H.set w (wkO sw (wkc pc f (.ref m sm 0 mem.length) rd so t 0 (.ref o s1 0 out.size) (insL code) (okL code) (words code) inp (.ref c sc 0 code.length)))).set c ⟨sc,3,1,(cnt.set pc.toNat (x+1)).map I⟩++[⟨nx,115,1,insC W⟩]):=fun id ob h1 h2=>by
  obtain ⟨i1,i2,i3,i4,i5⟩:=kA id ob h1 h2
  rw[List.getElem?_append_left (by simp;exact i5),List.getElem?_set,if_neg (fun e=>i4 e.symm),List.getElem?_set,if_neg (fun e=>i1 e.symm)];exact h1
 clear gA gB gC gD gE sE hdr
 generalize (H.set w (wkO sw (wkc pc f (.ref m sm 0 mem.length) rd so t 0 (.ref o s1 0 out.size) (insL code) (okL code) (words code) inp (.ref c sc 0 code.length)))).set c ⟨sc,3,1,(cnt.set pc.toNat (x+1)).map I⟩++[⟨nx,115,1,insC W⟩]=H3 at *
 have nwi:w≠H.length:=by omega
 have nmi:m≠H.length:=by have:=(List.getElem?_eq_some_iff.1 hm).1;omega
 have noi:o≠H.length:=by have:=(List.getElem?_eq_some_iff.1 ho).1;omega
 generalize H.length=i at *
 clear hw hm ho hc hlt hclt
 have hlt3:=(List.getElem?_eq_some_iff.1 hw3).1
 have hilt:=(List.getElem?_eq_some_iff.1 hi3).1
 have hmlt:=(List.getElem?_eq_some_iff.1 hm3).1
 have kp:∀ y,KeepS H (H3.set w y):=fun y id ob h1 h2=>by
  rw[List.getElem?_set,if_neg (fun e=>(kA id ob h1 h2).1 e.symm)];exact kB id ob h1 h2
 have kp2:∀ y z,KeepS H ((H3.set m y).set w z):=fun y z id ob h1 h2=>by
  rw[List.getElem?_set,if_neg (fun e=>(kA id ob h1 h2).1 e.symm),List.getElem?_set,if_neg (fun e=>(kA id ob h1 h2).2.1 e.symm)];exact kB id ob h1 h2
 have kp3:∀ y z u,KeepS H (((H3++[y]).set o z).set w u):=fun y z u id ob h1 h2=>by
  have h3:=kB id ob h1 h2
  rw[List.getElem?_set,if_neg (fun e=>(kA id ob h1 h2).1 e.symm),List.getElem?_set,if_neg (fun e=>(kA id ob h1 h2).2.2.1 e.symm),List.getElem?_append_left (List.getElem?_eq_some_iff.1 h3).1];exact h3
 have gw:∀ y,(H3.set w y)[w]? = some y:=fun y=>by rw[List.getElem?_set,if_pos rfl,if_pos hlt3]
 have hc5:(cnt.set pc.toNat (x+1)).length=code.length:=by rw[List.length_set];exact hcc
 have hone:(wkc pc f (.ref m sm 0 mem.length) rd so t 0 (.ref o s1 0 out.size) (insL code) (okL code) (words code) inp (.ref c sc 0 code.length)).all AV.one=true:=by rw[wkc_all];rfl
 rw[e1,e5]at hC
 cases hok:okW W
 ·have e3:wordF code inp ⟨pc,f,mem,rd,out,t,0⟩ W=⟨pc,f,mem,rd,out,t,6⟩:=by unfold wordF;rw[hok];rfl
  rw[e3]at hC
  simp only[go_sem,hw3,gw,wkc_length,k_pc,k_ok,k_fin,ks_fin,hW,hok]
  repeat (refine And.intro (by omega) ?_)
  exact hC _ _ _ (kp _) (wput hlt3 hm3 ho3 hc3 nm no nc hc5)
 have e3:wordF code inp ⟨pc,f,mem,rd,out,t,0⟩ W=(if (insM code inp ⟨pc,f,mem,rd,out,t,0⟩ (opW W) (raW W) (rbW W) (kW W)).1=0 then (insM code inp ⟨pc,f,mem,rd,out,t,0⟩ (opW W) (raW W) (rbW W) (kW W)).2
  else { (insM code inp ⟨pc,f,mem,rd,out,t,0⟩ (opW W) (raW W) (rbW W) (kW W)).2 with fin:=(insM code inp ⟨pc,f,mem,rd,out,t,0⟩ (opW W) (raW W) (rbW W) (kW W)).1 }):=by
  unfold wordF;rw[hok,if_pos rfl]
 rw[e3]at hC
 have e4:insC W=[I (opW W),I (raW W),I (rbW W),I (kW W)]:=by unfold insC;rw[hok];rfl
 rw[e4]at hi3
 have hok':=okI_in hok
 clear e3 e1 hws hcode hcb
 generalize opW W=op at *
 generalize raW W=a at *
 generalize rbW W=b at *
 generalize kW W=k at *
 obtain ⟨g1,g2,ga1,ga2,gb1,gb2,gc1,gc2,gc⟩:=hok'
 have ja:a.toNat<16:=by omega
 have jb:b.toNat<16:=by omega
 have ec:IntKind.u32.wrap k=k:=w32_in ⟨by omega,by omega⟩
 have gi:∀ y,(H3.set w y)[i]? = some ⟨nx,115,1,[I op,I a,I b,I k]⟩:=fun y=>by rw[List.getElem?_set,if_neg nwi];exact hi3
 have hsl:(H3.set w (wkO sw (wkc pc f (.ref m sm 0 mem.length) rd so t 0 (.ref o s1 0 out.size) (insL code) (okL code) (words code) inp (.ref c sc 0 code.length))))=H3:=set_of_getR hw3
 have hfm:∀ (H':List VObj) (nx':Nat),(∀ id ob,CallA true H3.length id→H3[id]? = some ob→H'[id]? = some ob)→FrzL 0 H' nx' [.ref m sm 0 mem.length,U32 (f b.toNat),I k] [words mem,U32 (f b.toNat),I k]:=fun H' nx' hH=>by
  refine ⟨_,_,rfl,Frz.ref (Nat.zero_le _) (hH m _ ⟨rfl,hmlt⟩ hm3) rfl rfl ?_ ?_,_,_,rfl,Frz.pure rfl,_,_,rfl,Frz.pure rfl,rfl⟩
  ·rw[List.all_eq_true];intro y hy;obtain ⟨x,_,rfl⟩:=List.mem_map.1 hy;rfl
  ·rw[List.drop_zero,List.take_of_length_le (by simp)]
   exact FrzL.pure (by rw[List.all_eq_true];intro y hy;obtain ⟨x,_,rfl⟩:=List.mem_map.1 hy;rfl)
 by_cases hap:4≤op∧op≤15
 ·have hc15:k≤15:=gc (by unfold cK;rw[if_pos hap])
  have jc:k.toNat<16:=by omega
  have hins:insM code inp ⟨pc,f,mem,rd,out,t,0⟩ op a b k=(if (applyW op (f b.toNat) (f k.toNat)).2=0 then (0,setR ⟨pc,f,mem,rd,out,t,0⟩ a (applyW op (f b.toNat) (f k.toNat)).1) else (2,⟨pc,f,mem,rd,out,t,0⟩)):=by
   unfold insM
   iterate 15 rw [if_neg (by omega)]
  rw[hins]at hC
  simp only[go_sem,hw3,hi3,gw,gi,List.set_set,List.length_set,set_map,wkc_length,k_pc,k_mem,k_rd,k_st,k_fin,k_o,k_cd,k_ok,k_wd,k_in,k_ct,k_reg ja,k_reg jb,ks_pc,ks_reg ja,ks_mem,ks_rd,ks_st,ks_fin,ks_o,cellT_U32,ec,hW,hok,Int.reduceEq,Int.reduceBEq,k_reg jc,eq_true hlt3,eq_true hilt,eq_false (show ¬ op=1 by omega),eq_false (show ¬ op=2 by omega),eq_false (show ¬ op=3 by omega),eq_false (show ¬ op=16 by omega),eq_false (show ¬ op=17 by omega),eq_false (show ¬ op=18 by omega),eq_false (show ¬ op=19 by omega),eq_false (show ¬ op=20 by omega),eq_false (show ¬ op=21 by omega),eq_false (show ¬ op=22 by omega),eq_false (show ¬ op=23 by omega),eq_false (show ¬ op=24 by omega),eq_false (show ¬ op=25 by omega),eq_false (show ¬ op=26 by omega),eq_false (show ¬ op=27 by omega)]
  repeat (refine And.intro (by omega) ?_)
  refine ECall.of (refapply_c op (f b.toNat) (f k.toNat) (hf _) (hf _)) (SleL.pure rfl) ⟨_,fun _=>Iff.rfl⟩ fun x hx=>?_
  subst hx
  generalize applyW op (f b.toNat) (f k.toNat)=q at *
  by_cases hp:q.2=0
  ·rw[if_pos hp]at hC
   simp only[go_sem,hw3,hi3,gw,gi,List.set_set,List.length_set,set_map,wkc_length,k_pc,k_mem,k_rd,k_st,k_fin,k_o,k_cd,k_ok,k_wd,k_in,k_ct,k_reg ja,k_reg jb,ks_pc,ks_reg ja,ks_mem,ks_rd,ks_st,ks_fin,ks_o,cellT_U32,ec,hW,hok,Int.reduceEq,Int.reduceBEq,eq_true hp]
   repeat (refine And.intro (by omega) ?_)
   refine wset_v a q.1 ⟨ga1,ga2⟩ hw3 hone fun r=>?_
   simp only[go_sem]
   exact hC _ _ _ (kp _) (wput hlt3 hm3 ho3 hc3 nm no nc hc5)
  ·rw[if_neg hp]at hC
   simp only[go_sem,hw3,hi3,gw,gi,List.set_set,List.length_set,set_map,wkc_length,k_pc,k_mem,k_rd,k_st,k_fin,k_o,k_cd,k_ok,k_wd,k_in,k_ct,k_reg ja,k_reg jb,ks_pc,ks_reg ja,ks_mem,ks_rd,ks_st,ks_fin,ks_o,cellT_U32,ec,hW,hok,Int.reduceEq,Int.reduceBEq,eq_false hp]
   repeat (refine And.intro (by omega) ?_)
   exact hC _ _ _ (kp _) (wput hlt3 hm3 ho3 hc3 nm no nc hc5)
 have hcases:op=1∨op=2∨op=3∨op=16∨op=27∨op=17∨op=18∨op=19∨op=20∨op=21∨op=22∨op=23∨op=24∨op=25∨op=26:=by omega
 rcases hcases with rfl | rfl | rfl | rfl | rfl | rfl | rfl | rfl | rfl | rfl | rfl | rfl | rfl | rfl | rfl
 ·
  simp only[go_sem,hw3,hi3,gw,gi,List.set_set,List.length_set,set_map,wkc_length,k_pc,k_mem,k_rd,k_st,k_fin,k_o,k_cd,k_ok,k_wd,k_in,k_ct,k_reg ja,k_reg jb,ks_pc,ks_reg ja,ks_mem,ks_rd,ks_st,ks_fin,ks_o,cellT_U32,ec,hW,hok,Int.reduceEq,Int.reduceBEq]
  repeat (refine And.intro (by omega) ?_)
  refine wset_v a k ⟨ga1,ga2⟩ hw3 hone fun r=>?_
  simp only[go_sem]
  exact hC _ _ _ (kp _) (wput hlt3 hm3 ho3 hc3 nm no nc hc5)
 ·
  have hq:IntKind.u32.wrap ((f a.toNat).tmod 65536+IntKind.u32.wrap (k*65536))=f a.toNat % 65536+k*65536:=by
   have h0:=(hf a.toNat).1
   have h1:=(hf a.toNat).2
   rw[Int.tmod_eq_emod_of_nonneg h0,IntKind.wrap_u32,IntKind.wrap_u32];omega
  simp only[go_sem,hw3,hi3,gw,gi,List.set_set,List.length_set,set_map,wkc_length,k_pc,k_mem,k_rd,k_st,k_fin,k_o,k_cd,k_ok,k_wd,k_in,k_ct,k_reg ja,k_reg jb,ks_pc,ks_reg ja,ks_mem,ks_rd,ks_st,ks_fin,ks_o,cellT_U32,ec,hW,hok,Int.reduceEq,Int.reduceBEq,hq]
  repeat (refine And.intro (by omega) ?_)
  refine wset_v a (f a.toNat % 65536+k*65536) ⟨ga1,ga2⟩ hw3 hone fun r=>?_
  simp only[go_sem]
  exact hC _ _ _ (kp _) (wput hlt3 hm3 ho3 hc3 nm no nc hc5)
 ·
  simp only[go_sem,hw3,hi3,gw,gi,List.set_set,List.length_set,set_map,wkc_length,k_pc,k_mem,k_rd,k_st,k_fin,k_o,k_cd,k_ok,k_wd,k_in,k_ct,k_reg ja,k_reg jb,ks_pc,ks_reg ja,ks_mem,ks_rd,ks_st,ks_fin,ks_o,cellT_U32,ec,hW,hok,Int.reduceEq,Int.reduceBEq]
  repeat (refine And.intro (by omega) ?_)
  refine wset_v a (f b.toNat) ⟨ga1,ga2⟩ hw3 hone fun r=>?_
  simp only[go_sem]
  exact hC _ _ _ (kp _) (wput hlt3 hm3 ho3 hc3 nm no nc hc5)
 ·
  simp only[go_sem,hw3,hi3,gw,gi,List.set_set,List.length_set,set_map,wkc_length,k_pc,k_mem,k_rd,k_st,k_fin,k_o,k_cd,k_ok,k_wd,k_in,k_ct,k_reg ja,k_reg jb,ks_pc,ks_reg ja,ks_mem,ks_rd,ks_st,ks_fin,ks_o,cellT_U32,ec,hW,hok,Int.reduceEq,Int.reduceBEq,eq_true hlt3,eq_true hilt]
  repeat (refine And.intro (by omega) ?_)
  by_cases h:w32 (f b.toNat+k)<(mem.length:Int)
  ·have hins:insM code inp ⟨pc,f,mem,rd,out,t,0⟩ 16 a b k=(0,setR ⟨pc,f,mem,rd,out,t,0⟩ a (mem.getD (w32 (f b.toNat+k)).toNat default)):=if_pos h
   rw[hins]at hC
   have hfe:=fetchN_c mem (f b.toNat) k (hf _) ⟨gc1,gc2⟩ hl
   rw[if_pos h]at hfe
   refine ECall.ofN hfe hfm ⟨_,fun _=>Iff.rfl⟩ fun x hx=>?_
   subst hx
   simp only[go_sem,hw3,hi3,gw,gi,List.set_set,List.length_set,set_map,wkc_length,k_pc,k_mem,k_rd,k_st,k_fin,k_o,k_cd,k_ok,k_wd,k_in,k_ct,k_reg ja,k_reg jb,ks_pc,ks_reg ja,ks_mem,ks_rd,ks_st,ks_fin,ks_o,cellT_U32,ec,hW,hok,Int.reduceEq,Int.reduceBEq]
   repeat (refine And.intro (by omega) ?_)
   refine wset_v a (mem.getD (w32 (f b.toNat+k)).toNat default) ⟨ga1,ga2⟩ hw3 hone fun r=>?_
   simp only[go_sem]
   exact hC _ _ _ (kp _) (wput hlt3 hm3 ho3 hc3 nm no nc hc5)
  ·have hins:insM code inp ⟨pc,f,mem,rd,out,t,0⟩ 16 a b k=(8,⟨pc,f,mem,rd,out,t,0⟩):=if_neg h
   rw[hins]at hC
   have hfe:=fetchN_c mem (f b.toNat) k (hf _) ⟨gc1,gc2⟩ hl
   rw[if_neg h]at hfe
   refine ECall.ofN hfe hfm ⟨_,fun _=>Iff.rfl⟩ fun x hx=>?_
   subst hx
   simp only[go_sem,hw3,hi3,gw,gi,List.set_set,List.length_set,set_map,wkc_length,k_pc,k_mem,k_rd,k_st,k_fin,k_o,k_cd,k_ok,k_wd,k_in,k_ct,k_reg ja,k_reg jb,ks_pc,ks_reg ja,ks_mem,ks_rd,ks_st,ks_fin,ks_o,cellT_U32,ec,hW,hok,Int.reduceEq,Int.reduceBEq]
   repeat (refine And.intro (by omega) ?_)
   exact hC _ _ _ (kp _) (wput hlt3 hm3 ho3 hc3 nm no nc hc5)
 ·
  simp only[go_sem,hw3,hi3,gw,gi,List.set_set,List.length_set,set_map,wkc_length,k_pc,k_mem,k_rd,k_st,k_fin,k_o,k_cd,k_ok,k_wd,k_in,k_ct,k_reg ja,k_reg jb,ks_pc,ks_reg ja,ks_mem,ks_rd,ks_st,ks_fin,ks_o,cellT_U32,ec,hW,hok,Int.reduceEq,Int.reduceBEq,eq_true hlt3,eq_true hilt]
  repeat (refine And.intro (by omega) ?_)
  by_cases h:w32 (f b.toNat+k)<(code.length:Int)
  ·have hins:insM code inp ⟨pc,f,mem,rd,out,t,0⟩ 27 a b k=(0,setR ⟨pc,f,mem,rd,out,t,0⟩ a (code.getD (w32 (f b.toNat+k)).toNat default)):=if_pos h
   rw[hins]at hC
   have hfe:=fetchN_c code (f b.toNat) k (hf _) ⟨gc1,gc2⟩ hcl
   rw[if_pos h]at hfe
   refine ECall.ofN hfe (fun H' nx' _=>⟨_,_,rfl,Frz.pure rfl,_,_,rfl,Frz.pure rfl,_,_,rfl,Frz.pure rfl,rfl⟩) ⟨_,fun _=>Iff.rfl⟩ fun x hx=>?_
   subst hx
   simp only[go_sem,hw3,hi3,gw,gi,List.set_set,List.length_set,set_map,wkc_length,k_pc,k_mem,k_rd,k_st,k_fin,k_o,k_cd,k_ok,k_wd,k_in,k_ct,k_reg ja,k_reg jb,ks_pc,ks_reg ja,ks_mem,ks_rd,ks_st,ks_fin,ks_o,cellT_U32,ec,hW,hok,Int.reduceEq,Int.reduceBEq]
   repeat (refine And.intro (by omega) ?_)
   refine wset_v a (code.getD (w32 (f b.toNat+k)).toNat default) ⟨ga1,ga2⟩ hw3 hone fun r=>?_
   simp only[go_sem]
   exact hC _ _ _ (kp _) (wput hlt3 hm3 ho3 hc3 nm no nc hc5)
  ·have hins:insM code inp ⟨pc,f,mem,rd,out,t,0⟩ 27 a b k=(8,⟨pc,f,mem,rd,out,t,0⟩):=if_neg h
   rw[hins]at hC
   have hfe:=fetchN_c code (f b.toNat) k (hf _) ⟨gc1,gc2⟩ hcl
   rw[if_neg h]at hfe
   refine ECall.ofN hfe (fun H' nx' _=>⟨_,_,rfl,Frz.pure rfl,_,_,rfl,Frz.pure rfl,_,_,rfl,Frz.pure rfl,rfl⟩) ⟨_,fun _=>Iff.rfl⟩ fun x hx=>?_
   subst hx
   simp only[go_sem,hw3,hi3,gw,gi,List.set_set,List.length_set,set_map,wkc_length,k_pc,k_mem,k_rd,k_st,k_fin,k_o,k_cd,k_ok,k_wd,k_in,k_ct,k_reg ja,k_reg jb,ks_pc,ks_reg ja,ks_mem,ks_rd,ks_st,ks_fin,ks_o,cellT_U32,ec,hW,hok,Int.reduceEq,Int.reduceBEq]
   repeat (refine And.intro (by omega) ?_)
   exact hC _ _ _ (kp _) (wput hlt3 hm3 ho3 hc3 nm no nc hc5)
 ·
  obtain ⟨at_,hat⟩:∃ y,IntKind.u32.wrap (f b.toNat+k)=y:=⟨_,rfl⟩
  have hin:In32 at_:=by rw[← hat,IntKind.wrap_u32];exact ⟨by omega,by omega⟩
  obtain ⟨p1,p2⟩:=hin
  have hat':w32 (f b.toNat+k)=at_:=hat
  have q2:IntKind.u64.wrap at_=at_:=by rw[IntKind.wrap_u64];omega
  have q3:IntKind.u64.wrap (mem.length:Int)=mem.length:=by rw[IntKind.wrap_u64];omega
  have gm:∀ y,(H3.set m y)[w]? = some (wkO sw (wkc pc f (.ref m sm 0 mem.length) rd so t 0 (.ref o s1 0 out.size) (insL code) (okL code) (words code) inp (.ref c sc 0 code.length))):=fun y=>by rw[List.getElem?_set,if_neg (fun e=>nm e.symm)];exact hw3
  have gm2:∀ y z,((H3.set m y).set w z)[w]? = some z:=fun y z=>by rw[List.getElem?_set,if_pos rfl,if_pos (by rw[List.length_set];exact hlt3)]
  by_cases h:at_<(mem.length:Int)
  ·have hins:insM code inp ⟨pc,f,mem,rd,out,t,0⟩ 17 a b k=(0,⟨nxtM ⟨pc,f,mem,rd,out,t,0⟩,f,mem.set at_.toNat (f a.toNat),rd,out,t,0⟩):=by
    have h':w32 (f b.toNat+k)<(mem.length:Int):=by rw[hat'];exact h
    rw[← hat'];exact if_pos h'
   rw[hins]at hC
   simp only[go_sem,hw3,hi3,gw,gi,List.set_set,List.length_set,set_map,wkc_length,k_pc,k_mem,k_rd,k_st,k_fin,k_o,k_cd,k_ok,k_wd,k_in,k_ct,k_reg ja,k_reg jb,ks_pc,ks_reg ja,ks_mem,ks_rd,ks_st,ks_fin,ks_o,cellT_U32,ec,hW,hok,Int.reduceEq,Int.reduceBEq,hat,q2,q3,hm3,gm,gm2,eq_false (show ¬ (mem.length:Int)≤at_ by omega)]
   repeat (refine And.intro (by first | omega | simp) ?_)
   refine hC _ _ _ (kp2 _ _) ?_
   have:=wput (code:=code) (inp:=inp) (H:=H3.set m ⟨sm,45,1,(mem.set at_.toNat (f a.toNat)).map U32⟩) (w:=w) (sw:=sw) (m:=m) (sm:=sm) (o:=o) (s1:=s1) (c:=c) (sc:=sc) (mem:=mem.set at_.toNat (f a.toNat)) (out:=out) (so:=so) (cnt:=cnt.set pc.toNat (x+1)) (pc:=IntKind.i64.wrap (pc+1)) (f:=f) (rd:=rd) (st:=t) (fin:=0)
    (by rw[List.length_set];exact hlt3) (by rw[List.getElem?_set,if_pos rfl,if_pos hmlt]) (by rw[List.getElem?_set,if_neg nmo];exact ho3) (by rw[List.getElem?_set,if_neg (fun e=>ncm e.symm)];exact hc3) nm no nc hc5
   rw[List.length_set]at this
   exact this
  ·have hins:insM code inp ⟨pc,f,mem,rd,out,t,0⟩ 17 a b k=(8,⟨pc,f,mem,rd,out,t,0⟩):=by
    have h':¬ w32 (f b.toNat+k)<(mem.length:Int):=by rw[hat'];exact h
    exact if_neg h'
   rw[hins]at hC
   simp only[go_sem,hw3,hi3,gw,gi,List.set_set,List.length_set,set_map,wkc_length,k_pc,k_mem,k_rd,k_st,k_fin,k_o,k_cd,k_ok,k_wd,k_in,k_ct,k_reg ja,k_reg jb,ks_pc,ks_reg ja,ks_mem,ks_rd,ks_st,ks_fin,ks_o,cellT_U32,ec,hW,hok,Int.reduceEq,Int.reduceBEq,hm3,hat,q2,q3,eq_true (show (mem.length:Int)≤at_ by omega)]
   repeat (refine And.intro (by omega) ?_)
   exact hC _ _ _ (kp _) (wput hlt3 hm3 ho3 hc3 nm no nc hc5)
 ·
  simp only[go_sem,hw3,hi3,gw,gi,List.set_set,List.length_set,set_map,wkc_length,k_pc,k_mem,k_rd,k_st,k_fin,k_o,k_cd,k_ok,k_wd,k_in,k_ct,k_reg ja,k_reg jb,ks_pc,ks_reg ja,ks_mem,ks_rd,ks_st,ks_fin,ks_o,cellT_U32,ec,hW,hok,Int.reduceEq,Int.reduceBEq]
  repeat (refine And.intro (by omega) ?_)
  exact hC _ _ _ (kp _) (wput hlt3 hm3 ho3 hc3 nm no nc hc5)
 ·
  simp only[go_sem,hw3,hi3,gw,gi,List.set_set,List.length_set,set_map,wkc_length,k_pc,k_mem,k_rd,k_st,k_fin,k_o,k_cd,k_ok,k_wd,k_in,k_ct,k_reg ja,k_reg jb,ks_pc,ks_reg ja,ks_mem,ks_rd,ks_st,ks_fin,ks_o,cellT_U32,ec,hW,hok,Int.reduceEq,Int.reduceBEq]
  repeat (refine And.intro (by omega) ?_)
  refine wjump_v _ k hw3 fun r=>?_
  simp only[go_sem]
  refine hC _ _ _ (kp _) ?_
  by_cases hz:f a.toNat=0
  ·have hins:insM code inp ⟨pc,f,mem,rd,out,t,0⟩ 19 a b k=(0,⟨k,f,mem,rd,out,t,0⟩):=by show (0,S.mk (if f a.toNat=0 then _ else _) f mem rd out t 0)=_;rw[if_pos hz]<;>rfl
   rw[hins]
   simp only[hz,beq_self_eq_true,if_true]
   exact wput hlt3 hm3 ho3 hc3 nm no nc hc5
  ·have hins:insM code inp ⟨pc,f,mem,rd,out,t,0⟩ 19 a b k=(0,⟨(IntKind.i64.wrap (pc+1)),f,mem,rd,out,t,0⟩):=by show (0,S.mk (if f a.toNat=0 then _ else _) f mem rd out t 0)=_;rw[if_neg hz]<;>rfl
   rw[hins]
   simp only[eq_false hz,if_false,if_true,not_false_eq_true]
   exact wput hlt3 hm3 ho3 hc3 nm no nc hc5
 ·
  simp only[go_sem,hw3,hi3,gw,gi,List.set_set,List.length_set,set_map,wkc_length,k_pc,k_mem,k_rd,k_st,k_fin,k_o,k_cd,k_ok,k_wd,k_in,k_ct,k_reg ja,k_reg jb,ks_pc,ks_reg ja,ks_mem,ks_rd,ks_st,ks_fin,ks_o,cellT_U32,ec,hW,hok,Int.reduceEq,Int.reduceBEq]
  repeat (refine And.intro (by omega) ?_)
  refine wjump_v _ k hw3 fun r=>?_
  simp only[go_sem]
  refine hC _ _ _ (kp _) ?_
  by_cases hz:f a.toNat=0
  ·have hins:insM code inp ⟨pc,f,mem,rd,out,t,0⟩ 20 a b k=(0,⟨(IntKind.i64.wrap (pc+1)),f,mem,rd,out,t,0⟩):=by show (0,S.mk (if f a.toNat=0 then _ else _) f mem rd out t 0)=_;rw[if_pos hz]<;>rfl
   rw[hins]
   simp only[hz,bne_self_eq_false,Bool.false_eq_true,if_false]
   exact wput hlt3 hm3 ho3 hc3 nm no nc hc5
  ·have hins:insM code inp ⟨pc,f,mem,rd,out,t,0⟩ 20 a b k=(0,⟨k,f,mem,rd,out,t,0⟩):=by show (0,S.mk (if f a.toNat=0 then _ else _) f mem rd out t 0)=_;rw[if_neg hz]<;>rfl
   rw[hins]
   simp only[eq_false hz,if_false,if_true,not_false_eq_true]
   exact wput hlt3 hm3 ho3 hc3 nm no nc hc5
 ·
  have hq:IntKind.u32.wrap (IntKind.u32.wrap pc+1)=w32 (nxtM ⟨pc,f,mem,rd,out,t,0⟩):=by
   simp only[w32,nxtM];rw[IntKind.wrap_u32,IntKind.wrap_u32,IntKind.wrap_u32,IntKind.wrap_i64];omega
  simp only[go_sem,hw3,hi3,gw,gi,List.set_set,List.length_set,set_map,wkc_length,k_pc,k_mem,k_rd,k_st,k_fin,k_o,k_cd,k_ok,k_wd,k_in,k_ct,k_reg ja,k_reg jb,ks_pc,ks_reg ja,ks_mem,ks_rd,ks_st,ks_fin,ks_o,cellT_U32,ec,hW,hok,Int.reduceEq,Int.reduceBEq,hq]
  repeat (refine And.intro (by omega) ?_)
  exact hC _ _ _ (kp _) (wput hlt3 hm3 ho3 hc3 nm no nc hc5)
 ·
  have hq:IntKind.i64.wrap (f a.toNat)=f a.toNat:=by
   have:=hf a.toNat
   exact i64_in (by have:=this.1;omega) (by have:=this.2;omega)
  simp only[go_sem,hw3,hi3,gw,gi,List.set_set,List.length_set,set_map,wkc_length,k_pc,k_mem,k_rd,k_st,k_fin,k_o,k_cd,k_ok,k_wd,k_in,k_ct,k_reg ja,k_reg jb,ks_pc,ks_reg ja,ks_mem,ks_rd,ks_st,ks_fin,ks_o,cellT_U32,ec,hW,hok,Int.reduceEq,Int.reduceBEq,hq]
  repeat (refine And.intro (by omega) ?_)
  exact hC _ _ _ (kp _) (wput hlt3 hm3 ho3 hc3 nm no nc hc5)
 ·
  by_cases r1:rd<0
  ·have hins:insM code inp ⟨pc,f,mem,rd,out,t,0⟩ 23 a b k=(0,setR ⟨pc,f,mem,rd,out,t,0⟩ a 256):=by
    show (0,if rd<0∨(inp.size:Int)≤rd then _ else _)=_;rw[if_pos (.inl r1)]
   rw[hins]at hC
   simp only[go_sem,hw3,hi3,gw,gi,List.set_set,List.length_set,set_map,wkc_length,k_pc,k_mem,k_rd,k_st,k_fin,k_o,k_cd,k_ok,k_wd,k_in,k_ct,k_reg ja,k_reg jb,ks_pc,ks_reg ja,ks_mem,ks_rd,ks_st,ks_fin,ks_o,cellT_U32,ec,hW,hok,Int.reduceEq,Int.reduceBEq,eq_true r1]
   repeat (refine And.intro (by omega) ?_)
   refine wset_v a 256 ⟨ga1,ga2⟩ hw3 hone fun r=>?_
   simp only[go_sem]
   exact hC _ _ _ (kp _) (wput hlt3 hm3 ho3 hc3 nm no nc hc5)
  by_cases r2:(inp.size:Int)≤rd
  ·have hins:insM code inp ⟨pc,f,mem,rd,out,t,0⟩ 23 a b k=(0,setR ⟨pc,f,mem,rd,out,t,0⟩ a 256):=by
    show (0,if rd<0∨(inp.size:Int)≤rd then _ else _)=_;rw[if_pos (.inr r2)]
   rw[hins]at hC
   simp only[go_sem,hw3,hi3,gw,gi,List.set_set,List.length_set,set_map,wkc_length,k_pc,k_mem,k_rd,k_st,k_fin,k_o,k_cd,k_ok,k_wd,k_in,k_ct,k_reg ja,k_reg jb,ks_pc,ks_reg ja,ks_mem,ks_rd,ks_st,ks_fin,ks_o,cellT_U32,ec,hW,hok,Int.reduceEq,Int.reduceBEq,eq_false r1,eq_true r2]
   repeat (refine And.intro (by omega) ?_)
   refine wset_v a 256 ⟨ga1,ga2⟩ hw3 hone fun r=>?_
   simp only[go_sem]
   exact hC _ _ _ (kp _) (wput hlt3 hm3 ho3 hc3 nm no nc hc5)
  ·have hins:insM code inp ⟨pc,f,mem,rd,out,t,0⟩ 23 a b k=(0,setR ⟨pc,f,mem,IntKind.i64.wrap (rd+1),out,t,0⟩ a (byteAt inp rd.toNat)):=by
    show (0,if rd<0∨(inp.size:Int)≤rd then _ else _)=_;rw[if_neg (by omega)]
   rw[hins]at hC
   have hb:IntKind.u32.wrap (byteAt inp rd.toNat)=byteAt inp rd.toNat:=by
    refine w32_in ⟨?_,?_⟩<;>unfold byteAt
    ·omega
    ·have:=(inp.data.toList.getD rd.toNat 0).toNat_lt;omega
   simp only[go_sem,hw3,hi3,gw,gi,List.set_set,List.length_set,set_map,wkc_length,k_pc,k_mem,k_rd,k_st,k_fin,k_o,k_cd,k_ok,k_wd,k_in,k_ct,k_reg ja,k_reg jb,ks_pc,ks_reg ja,ks_mem,ks_rd,ks_st,ks_fin,ks_o,cellT_U32,ec,hW,hok,Int.reduceEq,Int.reduceBEq,eq_false r1,eq_false r2,hb]
   repeat (refine And.intro (by omega) ?_)
   refine wset_v a (byteAt inp rd.toNat) ⟨ga1,ga2⟩ (gw _) (by rw[wkc_all];rfl) fun r=>?_
   rw[List.set_set]
   simp only[go_sem]
   exact hC _ _ _ (kp _) (wput hlt3 hm3 ho3 hc3 nm no nc hc5)
 ·
  by_cases h:65536≤out.size
  ·have hins:insM code inp ⟨pc,f,mem,rd,out,t,0⟩ 24 a b k=(4,⟨pc,f,mem,rd,out,t,0⟩):=if_pos h
   rw[hins]at hC
   simp only[go_sem,hw3,hi3,gw,gi,List.set_set,List.length_set,set_map,wkc_length,k_pc,k_mem,k_rd,k_st,k_fin,k_o,k_cd,k_ok,k_wd,k_in,k_ct,k_reg ja,k_reg jb,ks_pc,ks_reg ja,ks_mem,ks_rd,ks_st,ks_fin,ks_o,cellT_U32,ec,hW,hok,Int.reduceEq,Int.reduceBEq,ho3,eq_true (show (65536:Int)≤(out.size:Int) by omega)]
   repeat (refine And.intro (by omega) ?_)
   exact hC _ _ _ (kp _) (wput hlt3 hm3 ho3 hc3 nm no nc hc5)
  ·have hins:insM code inp ⟨pc,f,mem,rd,out,t,0⟩ 24 a b k=(0,⟨nxtM ⟨pc,f,mem,rd,out,t,0⟩,f,mem,rd,out.push (byteOf (f a.toNat)),t,0⟩):=if_neg h
   rw[hins]at hC
   have hby:(AV.val (.int .u8 (IntKind.u8.wrap ((f a.toNat).tmod 256))))=U8 (byteOf (f a.toNat)):=by
    have h0:=(hf a.toNat).1
    have e:=byteOf_eq (f a.toNat)
    show AV.val (.int .u8 (IntKind.u8.wrap ((f a.toNat).tmod 256)))=AV.val (.int .u8 (((byteOf (f a.toNat)).toNat:Nat):Int))
    rw[e,Int.tmod_eq_emod_of_nonneg h0,IntKind.wrap_u8,IntKind.wrap_u8,Int.emod_emod]
   have holt:=(List.getElem?_eq_some_iff.1 ho3).1
   have X1:∀ y,(H3++[y])[o]? = some ⟨s1,5,1,out.data.toList.map U8⟩:=fun y=>by rw[List.getElem?_append_left holt];exact ho3
   have X2:∀ y z,((H3++[y]).set o z)[w]? = some (wkO sw (wkc pc f (.ref m sm 0 mem.length) rd so t 0 (.ref o s1 0 out.size) (insL code) (okL code) (words code) inp (.ref c sc 0 code.length))):=fun y z=>by
    rw[List.getElem?_set,if_neg (fun e=>no e.symm),List.getElem?_append_left hlt3];exact hw3
   have X3:∀ y z u,(((H3++[y]).set o z).set w u)[w]? = some u:=fun y z u=>by rw[List.getElem?_set,if_pos rfl,if_pos (by simp;omega)]
   have X4:∀ y:VObj,(H3++[y])[w]? = some (wkO sw (wkc pc f (.ref m sm 0 mem.length) rd so t 0 (.ref o s1 0 out.size) (insL code) (okL code) (words code) inp (.ref c sc 0 code.length))):=fun y=>by
    rw[List.getElem?_append_left hlt3];exact hw3
   have X5:∀ y:VObj,(H3++[y])[H3.length]? = some y:=fun y=>by rw[List.getElem?_append_right (Nat.le_refl _),Nat.sub_self];rfl
   have hall1:∀ v,allCells [U8 v]=[U8 v]:=fun v=>rfl
   have hmx:(2000000:Nat)≤maxLen:=by decide
   have hol2:out.data.toList.length=out.size:=rfl
   have htk:(out.data.toList.map U8).take out.size=out.data.toList.map U8:=List.take_of_length_le (by rw[List.length_map];exact Nat.le_refl _)
   simp only[go_sem,hw3,hi3,gw,gi,List.set_set,List.length_set,set_map,wkc_length,k_pc,k_mem,k_rd,k_st,k_fin,k_o,k_cd,k_ok,k_wd,k_in,k_ct,k_reg ja,k_reg jb,ks_pc,ks_reg ja,ks_mem,ks_rd,ks_st,ks_fin,ks_o,cellT_U32,ec,hW,hok,Int.reduceEq,Int.reduceBEq,eq_false (show ¬ (65536:Int)≤(out.size:Int) by omega),hby,ho3,X1,X2,X3,X4,X5,hall1,htk]
   repeat (refine And.intro (by first | omega | simp) ?_)
   have hp1:(out.push (byteOf (f a.toNat))).size=out.size+1:=ByteArray.size_push ..
   have hp2:(out.push (byteOf (f a.toNat))).data.toList.map U8=out.data.toList.map U8++[U8 (byteOf (f a.toNat))]:=by
    show (out.data.push (byteOf (f a.toNat))).toList.map U8=_
    rw[Array.toList_push,List.map_append];rfl
   have hc3l:=(List.getElem?_eq_some_iff.1 hc3).1
   refine hC _ _ _ (kp3 _ _ _) ?_
   have:=wput (code:=code) (inp:=inp) (H:=(H3++[(⟨nx+1,5,1,[U8 (byteOf (f a.toNat))]⟩:VObj)]).set o ⟨nx+1+1,5,1,out.data.toList.map U8++[U8 (byteOf (f a.toNat))]⟩) (w:=w) (sw:=sw) (m:=m) (sm:=sm) (o:=o) (s1:=nx+1+1) (c:=c) (sc:=sc) (mem:=mem) (out:=out.push (byteOf (f a.toNat))) (so:=so) (cnt:=cnt.set pc.toNat (x+1)) (pc:=IntKind.i64.wrap (pc+1)) (f:=f) (rd:=rd) (st:=t) (fin:=0)
    (by simp;omega) (by rw[List.getElem?_set,if_neg (fun e=>nmo e.symm),List.getElem?_append_left hmlt];exact hm3) (by rw[hp2,List.getElem?_set,if_pos rfl,if_pos (by simp;omega)]) (by rw[List.getElem?_set,if_neg (fun e=>nco e.symm),List.getElem?_append_left hc3l];exact hc3) nm no nc hc5
   rw[hp1]at this
   exact this
 ·
  by_cases h:f a.toNat<k
  ·have hins:insM code inp ⟨pc,f,mem,rd,out,t,0⟩ 25 a b k=(0,⟨nxtM ⟨pc,f,mem,rd,out,t,0⟩,f,mem,rd,out,t,0⟩):=if_pos h
   rw[hins]at hC
   simp only[go_sem,hw3,hi3,gw,gi,List.set_set,List.length_set,set_map,wkc_length,k_pc,k_mem,k_rd,k_st,k_fin,k_o,k_cd,k_ok,k_wd,k_in,k_ct,k_reg ja,k_reg jb,ks_pc,ks_reg ja,ks_mem,ks_rd,ks_st,ks_fin,ks_o,cellT_U32,ec,hW,hok,Int.reduceEq,Int.reduceBEq,eq_false (show ¬ k≤f a.toNat by omega)]
   repeat (refine And.intro (by omega) ?_)
   exact hC _ _ _ (kp _) (wput hlt3 hm3 ho3 hc3 nm no nc hc5)
  ·have hins:insM code inp ⟨pc,f,mem,rd,out,t,0⟩ 25 a b k=(3,⟨pc,f,mem,rd,out,t,0⟩):=if_neg h
   rw[hins]at hC
   simp only[go_sem,hw3,hi3,gw,gi,List.set_set,List.length_set,set_map,wkc_length,k_pc,k_mem,k_rd,k_st,k_fin,k_o,k_cd,k_ok,k_wd,k_in,k_ct,k_reg ja,k_reg jb,ks_pc,ks_reg ja,ks_mem,ks_rd,ks_st,ks_fin,ks_o,cellT_U32,ec,hW,hok,Int.reduceEq,Int.reduceBEq,eq_true (show k≤f a.toNat by omega)]
   repeat (refine And.intro (by omega) ?_)
   exact hC _ _ _ (kp _) (wput hlt3 hm3 ho3 hc3 nm no nc hc5)
 ·
  simp only[go_sem,hw3,hi3,gw,gi,List.set_set,List.length_set,set_map,wkc_length,k_pc,k_mem,k_rd,k_st,k_fin,k_o,k_cd,k_ok,k_wd,k_in,k_ct,k_reg ja,k_reg jb,ks_pc,ks_reg ja,ks_mem,ks_rd,ks_st,ks_fin,ks_o,cellT_U32,ec,hW,hok,Int.reduceEq,Int.reduceBEq]
  repeat (refine And.intro (by omega) ?_)
  exact hC _ _ _ (kp _) (wput hlt3 hm3 ho3 hc3 nm no nc hc5)
set_option maxRecDepth 10000
open Go.V
theorem fold_stc {pc:Int} {f:Nat→Int} {m:AV} {rd:Int} {so:ByteArray} {st fin:Int}:I pc::(regs f++[m,I rd,strv so,I st,I fin])=stc pc f m rd so st fin:=rfl
theorem fold_wkc {pc:Int} {f:Nat→Int} {m:AV} {rd:Int} {so:ByteArray} {st fin:Int} {o cd ok wd ct:AV} {inp:ByteArray}:stc pc f m rd so st fin++[o,cd,ok,wd,strv inp,ct]=wkc pc f m rd so st fin o cd ok wd inp ct:=by
 simp[stc,wkc]
theorem stw17 {pc:Int} {f:Nat→Int} {m:AV} {rd:Int} {so:ByteArray} {st fin:Int} (x:AV):List.take 17 (stc pc f m rd so st fin)++x::List.drop 18 (stc pc f m rd so st fin)=stc pc f x rd so st fin:=rfl
theorem stw18 {pc:Int} {f:Nat→Int} {m:AV} {rd:Int} {so:ByteArray} {st fin:Int} (x:Int):List.take 18 (stc pc f m rd so st fin)++I x::List.drop 19 (stc pc f m rd so st fin)=stc pc f m x so st fin:=rfl
theorem stw20 {pc:Int} {f:Nat→Int} {m:AV} {rd:Int} {so:ByteArray} {st fin:Int} (x:Int):List.take 20 (stc pc f m rd so st fin)++I x::List.drop 21 (stc pc f m rd so st fin)=stc pc f m rd so x fin:=rfl
theorem stw21 {pc:Int} {f:Nat→Int} {m:AV} {rd:Int} {so:ByteArray} {st fin:Int} (x:Int):List.take 21 (stc pc f m rd so st fin)++I x::List.drop 22 (stc pc f m rd so st fin)=stc pc f m rd so st x:=rfl
theorem wkw22 {pc:Int} {f:Nat→Int} {m:AV} {rd:Int} {so:ByteArray} {st fin:Int} {o cd ok wd ct:AV} {inp:ByteArray} (x:AV):List.take 22 (wkc pc f m rd so st fin o cd ok wd inp ct)++x::List.drop 23 (wkc pc f m rd so st fin o cd ok wd inp ct)=wkc pc f m rd so st fin x cd ok wd inp ct:=rfl
theorem wkw23 {pc:Int} {f:Nat→Int} {m:AV} {rd:Int} {so:ByteArray} {st fin:Int} {o cd ok wd ct:AV} {inp:ByteArray} (x:AV):List.take 23 (wkc pc f m rd so st fin o cd ok wd inp ct)++x::List.drop 24 (wkc pc f m rd so st fin o cd ok wd inp ct)=wkc pc f m rd so st fin o x ok wd inp ct:=rfl
theorem wkw24 {pc:Int} {f:Nat→Int} {m:AV} {rd:Int} {so:ByteArray} {st fin:Int} {o cd ok wd ct:AV} {inp:ByteArray} (x:AV):List.take 24 (wkc pc f m rd so st fin o cd ok wd inp ct)++x::List.drop 25 (wkc pc f m rd so st fin o cd ok wd inp ct)=wkc pc f m rd so st fin o cd x wd inp ct:=rfl
theorem wkw25 {pc:Int} {f:Nat→Int} {m:AV} {rd:Int} {so:ByteArray} {st fin:Int} {o cd ok wd ct:AV} {inp:ByteArray} (x:AV):List.take 25 (wkc pc f m rd so st fin o cd ok wd inp ct)++x::List.drop 26 (wkc pc f m rd so st fin o cd ok wd inp ct)=wkc pc f m rd so st fin o cd ok x inp ct:=rfl
theorem wkw26 {pc:Int} {f:Nat→Int} {m:AV} {rd:Int} {so:ByteArray} {st fin:Int} {o cd ok wd ct:AV} {inp:ByteArray} (x:ByteArray):List.take 26 (wkc pc f m rd so st fin o cd ok wd inp ct)++strv x::List.drop 27 (wkc pc f m rd so st fin o cd ok wd inp ct)=wkc pc f m rd so st fin o cd ok wd x ct:=rfl
theorem wkw27 {pc:Int} {f:Nat→Int} {m:AV} {rd:Int} {so:ByteArray} {st fin:Int} {o cd ok wd ct:AV} {inp:ByteArray} (x:AV):List.take 27 (wkc pc f m rd so st fin o cd ok wd inp ct)++x::List.drop 28 (wkc pc f m rd so st fin o cd ok wd inp ct)=wkc pc f m rd so st fin o cd ok wd inp x:=rfl
theorem dps22 {pc:Int} {f:Nat→Int} {m:AV} {rd:Int} {so:ByteArray} {st fin:Int}:List.drop 22 (stc pc f m rd so st fin)=[]:=rfl
theorem dps28 {pc:Int} {f:Nat→Int} {m:AV} {rd:Int} {so:ByteArray} {st fin:Int} {o cd ok wd ct:AV} {inp:ByteArray}:List.drop 28 (wkc pc f m rd so st fin o cd ok wd inp ct)=[]:=rfl
theorem stw21' {pc:Int} {f:Nat→Int} {m:AV} {rd:Int} {so:ByteArray} {st fin:Int} (x:Int):List.take 21 (stc pc f m rd so st fin)++[I x]=stc pc f m rd so st x:=rfl
theorem wkw27' {pc:Int} {f:Nat→Int} {m:AV} {rd:Int} {so:ByteArray} {st fin:Int} {o cd ok wd ct:AV} {inp:ByteArray} (x:AV):List.take 27 (wkc pc f m rd so st fin o cd ok wd inp ct)++[x]=wkc pc f m rd so st fin o cd ok wd inp x:=rfl
theorem cntL_stays {code:List Int} {inp:ByteArray} {σ:S} {k:Nat} (h:(runN code inp σ k).fin≠0):∀ d,cntL code inp σ (k+d)=cntL code inp σ k
 | 0=>rfl
 | d+1=>by
  have hd:doneF code (runN code inp σ (k+d))=false:=by rw[runN_stays h d];simp[doneF,h]
  show cntL code inp σ (k+d+1)=_
  simp only[cntL,hd,Bool.false_eq_true,if_false]
  exact cntL_stays h d
structure RQR where
 k:Nat
 H:List VObj
 nx:Nat
theorem insM_out (code:List Int) (inp:ByteArray) (s:S) (op a b c:Int) (h:s.out.size≤65536):(insM code inp s op a b c).2.out.size≤65536:=by
 unfold insM
 iterate 8 (refine ite_ind (P:=fun p:Int × S=>p.2.out.size≤65536) (fun _=>h) fun _=>?_)
 iterate 3 (refine ite_ind (P:=fun p:Int × S=>p.2.out.size≤65536) (fun _=>ite_ind (P:=fun p:Int × S=>p.2.out.size≤65536) (fun _=>h) fun _=>h) fun _=>?_)
 refine ite_ind (P:=fun p:Int × S=>p.2.out.size≤65536) (fun _=>?_) fun _=>?_
 ·exact ite_ind (P:=fun x:S=>x.out.size≤65536) (fun _=>h) fun _=>h
 refine ite_ind (P:=fun p:Int × S=>p.2.out.size≤65536) (fun _=>ite_ind (P:=fun p:Int × S=>p.2.out.size≤65536) (fun _=>h) fun h2=>?_) fun _=>?_
 ·show (s.out.push _).size≤_
  rw[ByteArray.size_push];omega
 refine ite_ind (P:=fun p:Int × S=>p.2.out.size≤65536) (fun _=>ite_ind (P:=fun p:Int × S=>p.2.out.size≤65536) (fun _=>h) fun _=>h) fun _=>?_
 refine ite_ind (P:=fun p:Int × S=>p.2.out.size≤65536) (fun _=>h) fun _=>?_
 exact ite_ind (P:=fun p:Int × S=>p.2.out.size≤65536) (fun _=>h) fun _=>h
theorem stepR_out (code:List Int) (inp:ByteArray) (s:S) (h:s.out.size≤65536):(stepF code inp s).out.size≤65536:=by
 unfold stepF wordF
 refine ite_ind (P:=fun x:S=>x.out.size≤65536) (fun _=>?_) fun _=>h
 refine ite_ind (P:=fun x:S=>x.out.size≤65536) (fun _=>h) fun _=>?_
 refine ite_ind (P:=fun x:S=>x.out.size≤65536) (fun _=>?_) fun _=>h
 exact ite_ind (P:=fun x:S=>x.out.size≤65536) (fun _=>insM_out _ _ _ _ _ _ _ h) fun _=>insM_out _ _ _ _ _ _ _ h
theorem runR_out {code:List Int} {inp:ByteArray} {s:S} (h:s.out.size≤65536):∀ k,(runN code inp s k).out.size≤65536
 | 0=>h
 | k+1=>stepR_out _ _ _ (runR_out h k)
theorem refrun_tail (code:List Int) (inp:ByteArray) (σ:S) (fuel:Int) (w sw:Nat) (env:List (Nat × AV)) (H:List VObj) (nx:Nat) (cs:List AV) (C:AV→Prop)
 (hcode:∀ x ∈ code,In32 x) (hcl:code.length≤1000000) (hi:inp.size≤1000000000) (hws:Wf σ) (hl:σ.mem.length≤1000000) (hol:σ.out.size≤65536) (hfu:fuel≤4000000000000000000)
 (he3:get env 3=I fuel) (he8:get env 8 = .ptr 2 2 0) (he13:get env 13 = .ptr w sw 0) (hcs:cs.length=22) (h2:H[2]? = some ⟨2,87,1,cs⟩)
 (hA:WAt code inp H w sw σ ⟨#[]⟩ (cntL code inp σ 0)) (hC:C (.tup [stA (runN code inp σ fuel.toNat),ints (cntL code inp σ fuel.toNat)])) :
 VW Try.prog t_scref10_run (retQ Try.prog [.cell 8 true 22,.tmp 9] fun r H nx=>∃ y,Frz 0 H nx r y∧C y) ⟨env,H,nx⟩:=by
 have hwf:=runN_wf (code:=code) (inp:=inp) hcode hws
 have hcnt:=cntL_le code inp σ
 simp only[go_sem,t_scref10_run]
 refine VW_loop (fun q:RQR=>⟨[(3,I fuel),(8,.ptr 2 2 0),(13,.ptr w sw 0),(14,I q.k)],q.H,q.nx⟩)
  (fun q=>q.k≤fuel.toNat∧WAt code inp q.H w sw (runN code inp σ q.k) ⟨#[]⟩ (cntL code inp σ q.k)∧q.H[2]? = some ⟨2,87,1,cs⟩) (fun q=>fuel.toNat-q.k)
  ⟨0,H,nx⟩ (Wk.mk (fun p hp=>?_) ⟨[],(List.append_nil _).symm⟩ (Nat.le_refl _)) ⟨Nat.zero_le _,hA,h2⟩ ?_
 ·simp only[List.mem_cons,List.not_mem_nil,or_false]at hp
  rcases hp with rfl | rfl | rfl | rfl
  ·simpa [get_cons] using he3
  ·simpa [get_cons] using he8
  ·simpa [get_cons] using he13
  ·simp[get_cons]
 clear hA h2 he3 he8 he13
 rintro ⟨k,H,nx⟩ ⟨h1,hA,h2⟩
 simp only at h1 hA h2
 have hA':=hA
 obtain ⟨m,sm,o,s1,c,sc,hw,hm,ho,hc,hcc⟩:=hA'
 have fin_:runN code inp σ fuel.toNat=runN code inp σ k→cntL code inp σ fuel.toNat=cntL code inp σ k→(k:Int)<fuel→True:=fun _ _ _=>trivial
 have hlt:=(List.getElem?_eq_some_iff.1 hw).1
 have h2lt:=(List.getElem?_eq_some_iff.1 h2).1
 have nw2:w≠2:=fun e=>by rw[e,h2]at hw;simp at hw
 have nm2:m≠2:=fun e=>by rw[e,h2]at hm;simp at hm
 have no2:o≠2:=fun e=>by rw[e,h2]at ho;simp at ho
 have nc2:c≠2:=fun e=>by rw[e,h2]at hc;simp at hc
 have nm:w≠m:=fun e=>by rw[← e,hw]at hm;simp at hm
 have nc:w≠c:=fun e=>by rw[← e,hw]at hc;simp at hc
 have gw:∀ x,(H.set w x)[w]? = some x:=fun x=>by rw[List.getElem?_set,if_pos rfl,if_pos hlt]
 have g2:∀ x,(H.set w x)[2]? = some ⟨2,87,1,cs⟩:=fun x=>by rw[List.getElem?_set,if_neg nw2];exact h2
 have g3:∀ x y,((H.set w x).set 2 y)[w]? = some x:=fun x y=>by rw[List.getElem?_set,if_neg (fun e=>nw2 e.symm)];exact gw x
 have g4:∀ x y,((H.set w x).set 2 y)[2]? = some y:=fun x y=>by rw[List.getElem?_set,if_pos rfl,if_pos (by rw[List.length_set];exact h2lt)]
 have g5:∀ x y,((H.set w x).set 2 y)[m]? = some ⟨sm,45,1,(runN code inp σ k).mem.map U32⟩:=fun x y=>by
  rw[List.getElem?_set,if_neg (fun e=>nm2 e.symm),List.getElem?_set,if_neg nm];exact hm
 have g6:∀ x y,((H.set w x).set 2 y)[c]? = some ⟨sc,3,1,(cntL code inp σ k).map I⟩:=fun x y=>by
  rw[List.getElem?_set,if_neg (fun e=>nc2 e.symm),List.getElem?_set,if_neg nc];exact hc
 have htk:((runN code inp σ k).out.data.toList.map U8).take (runN code inp σ k).out.size=(runN code inp σ k).out.data.toList.map U8:=List.take_of_length_le (by rw[List.length_map];exact Nat.le_refl _)
 have hstr:(⟨(runN code inp σ k).out.data.toList.toArray⟩:ByteArray)=(runN code inp σ k).out:=bytes_ext (by simp)
 have hdrop:cs.drop 22=[]:=List.drop_eq_nil_of_le (by omega)
 obtain ⟨w1,w2,_⟩:=hwf k
 have w3:=runR_out (code:=code) (inp:=inp) hol k
 by_cases c1:(k:Int)<fuel
 ·by_cases c2:(runN code inp σ k).fin=0
  ·simp only[go_sem,hw,eq_true c1,eq_true c2,wkc_length,k_state,k_pc,k_fin,k_so,k_o,k_ct,ks_so,stc_length]
   refine wstep_v code inp (runN code inp σ k) ⟨#[]⟩ (cntL code inp σ k) H nx w sw _ hcode hcl hi w1 (by omega) (by omega) c2 (fun x hx=>by have:=hcnt k x hx;omega) hA fun r H' nx' hk hA'=>?_
   simp only[go_sem]
   rw[i64_in (by omega) (by omega)]
   exact ⟨⟨k+1,H',nx'⟩,⟨by simp only;omega,hA',hk 2 _ h2 rfl⟩,by simp only;omega,Wk.mk (by simp[get_cons]) ⟨[],(List.append_nil _).symm⟩ (Nat.le_refl _)⟩
  ·have e1:=runN_stays c2 (fuel.toNat-k)
   have e2:=cntL_stays c2 (fuel.toNat-k)
   rw[show k+(fuel.toNat-k)=fuel.toNat by omega]at e1 e2
   rw[e1,e2]at hC
   simp only[go_sem,hw,ho,gw,g2,g3,g4,hdrop,hcs,htk,hstr,s_all,stc_all,eq_true c1,eq_false c2,wkc_length,k_state,k_pc,k_fin,k_so,k_o,k_ct,ks_so,stc_length]
   refine ⟨?_,?_⟩
   all_goals
    refine ⟨_,Frz.tup ⟨_,_,rfl,stA_frz' (mem:=(runN code inp σ k).mem) (Frz.ref (Nat.zero_le _) (g5 _ _) rfl rfl ?_ ?_),_,_,rfl,frz_ints (l:=cntL code inp σ k) (Nat.zero_le _) (g6 _ _) hcc.symm,rfl⟩,hC⟩
    ·rw[List.all_eq_true];intro y hy;obtain ⟨x,_,rfl⟩:=List.mem_map.1 hy;rfl
    ·rw[List.drop_zero,List.take_of_length_le (by rw[List.length_map];exact Nat.le_refl _)]
     exact FrzL.pure (by rw[List.all_eq_true];intro y hy;obtain ⟨x,_,rfl⟩:=List.mem_map.1 hy;rfl)
 ·have e:fuel.toNat=k:=by omega
  rw[e]at hC
  simp only[go_sem,hw,ho,gw,g2,g3,g4,hdrop,hcs,htk,hstr,s_all,stc_all,eq_false c1,wkc_length,k_state,k_pc,k_fin,k_so,k_o,k_ct,ks_so,stc_length]
  refine ⟨?_,?_⟩
  all_goals
   refine ⟨_,Frz.tup ⟨_,_,rfl,stA_frz' (mem:=(runN code inp σ k).mem) (Frz.ref (Nat.zero_le _) (g5 _ _) rfl rfl ?_ ?_),_,_,rfl,frz_ints (l:=cntL code inp σ k) (Nat.zero_le _) (g6 _ _) hcc.symm,rfl⟩,hC⟩
   ·rw[List.all_eq_true];intro y hy;obtain ⟨x,_,rfl⟩:=List.mem_map.1 hy;rfl
   ·rw[List.drop_zero,List.take_of_length_le (by rw[List.length_map];exact Nat.le_refl _)]
    exact FrzL.pure (by rw[List.all_eq_true];intro y hy;obtain ⟨x,_,rfl⟩:=List.mem_map.1 hy;rfl)
theorem refrun_c (code:List Int) (data:Int) (inp:ByteArray) (σ:S) (fuel:Int) (hcode:∀ x ∈ code,In32 x) (hcl:code.length≤1000000) (hi:inp.size≤1000000000) (hws:Wf σ) (hl:σ.mem.length≤1000000) (hol:σ.out.size≤65536) (hfu:fuel≤4000000000000000000) :
 Contract Try.prog 57 [imgA code data,strv inp,stA σ,I fuel] (fun r=>r = .tup [stA (runN code inp σ fuel.toNat),ints (cntL code inp σ fuel.toNat)]):=by
 refine Contract.of_call (VCall.of_body hmix e_scref10_run (by simp) ?_)
 have hmx:(2000000:Nat)≤maxLen:=by decide
 have hall:allCells (σ.mem.map U32)=σ.mem.map U32:=allCells_map1 (fun _=>rfl) σ.mem
 have hrep:(List.replicate code.length [I 0]).flatten=(List.replicate code.length (0:Int)).map I:=by
  induction code.length with
  | zero=>rfl
  | succ n ih=>simp only[List.replicate_succ,List.flatten_cons,ih,List.map_cons];rfl
 simp only[go_sem,g_scref10_run,s_all,s_pc,s_regs,s_mem,s_rd,s_out,s_st,s_fin,stc_length,stc_all,regs_length,regs_all,wkc_length,wkc_all,fold_stc,fold_wkc,List.append_assoc,hall,hrep,stw17,stw18,stw20,stw21,wkw22,wkw23,wkw24,wkw25,wkw26,wkw27,dps22,dps28,stw21',wkw27']
 refine VCall.of_contract (refcode_c code data hcode hcl) (SleL.pure rfl) fun x hx=>?_
 subst hx
 simp only[go_sem,s_all,s_pc,s_regs,s_mem,s_rd,s_out,s_st,s_fin,stc_length,stc_all,regs_length,regs_all,wkc_length,wkc_all,fold_stc,fold_wkc,List.append_assoc,hall,hrep,stw17,stw18,stw20,stw21,wkw22,wkw23,wkw24,wkw25,wkw26,wkw27,dps22,dps28,stw21',wkw27']
 repeat' (with_reducible refine And.intro ?_ ?_)
 all_goals first
  | (intro y hy;obtain ⟨x,_,rfl⟩:=List.mem_map.1 hy;rfl)
  | omega
  | (refine refrun_tail code inp σ fuel _ _ _ _ _ _ (fun y=>y = .tup [stA (runN code inp σ fuel.toNat),ints (cntL code inp σ fuel.toNat)]) hcode hcl hi hws hl hol hfu rfl rfl rfl ?_ rfl ⟨_,_,_,_,_,_,rfl,rfl,rfl,rfl,cntL_len ..⟩ rfl
     rfl)
  | skip
set_option maxRecDepth 10000
open Go.V
theorem refgo_c (code:List Int) (data:Int) (inp:ByteArray) (σ:S) (fuel:Int) (hcode:∀ x ∈ code,In32 x) (hcl:code.length≤1000000) (hi:inp.size≤1000000000) (hws:Wf σ) (hl:σ.mem.length≤1000000) (hol:σ.out.size≤65536) (hfu:fuel≤4000000000000000000) :
 Contract Try.prog 34 [imgA code data,strv inp,stA σ,I fuel] (fun r=>r=stA (runN code inp σ fuel.toNat)):=by
 refine Contract.of_call (VCall.of_body hmix f_scref10_Go (by simp) ?_)
 simp only[go_sem,c_scref10_Go,s_all,s_zero,s_put,s_put',stc_length,stc_all]
 refine VCall.of_contract (refrun_c code data inp σ fuel hcode hcl hi hws hl hol hfu) (SleL.pure rfl) fun x hx=>?_
 subst hx
 simp only[go_sem,s_all,s_zero,s_put,s_put',stc_length,stc_all]
 exact ⟨_,Frz.pure rfl,rfl⟩
theorem refRun_c (code:List Int) (data:Int) (inp:ByteArray) (fuel:Int) (hcode:∀ x ∈ code,In32 x) (hcl:code.length≤1000000) (hi:inp.size≤1000000000) (hfu:fuel≤4000000000000000000) :
 Contract Try.prog 15 [imgA code data,strv inp,I fuel] (fun r=>r=runA code data inp fuel):=by
 have hs:=start_len data
 have ho:(startF data).out.size=0:=rfl
 refine Contract.of_call (VCall.of_body hmix f_scref10_Run (by simp) ?_)
 simp only[go_sem,c_scref10_Run]
 refine ECall.of (refstart_c code data) (SleL.pure rfl) ⟨_,fun _=>Iff.rfl⟩ fun x hx=>?_
 subst hx
 simp only[go_sem]
 refine ECall.of (refgo_c code data inp (startF data) fuel hcode hcl hi (wf_start data) (by omega) (by omega) (by omega)) (SleL.pure rfl) ⟨_,fun _=>Iff.rfl⟩ fun x hx=>?_
 subst hx
 show _
 unfold runA endF runF
 generalize runN code inp (startF data) fuel.toNat=ρ
 by_cases h:ρ.fin=0
 ·simp only[go_sem,s_zero,s_put,s_put',s_all,stc_length,stc_all,s_fin,s_out,s_st,ss_fin,eq_true h,if_pos h]
  exact ⟨_,Frz.pure rfl,rfl⟩
 ·simp only[go_sem,s_zero,s_put,s_put',s_all,stc_length,stc_all,s_fin,s_out,s_st,ss_fin,eq_false h,if_neg h]
  exact ⟨_,Frz.pure rfl,rfl⟩
set_option maxRecDepth 10000
open Go.V
def N27 (y:Sy):Prop:=y.1.op≠27
theorem n27_p {op a b c:Int} (h:op≠27):N27 (pY op a b c):=h
theorem n27_j {op a f t:Int} (h:op≠27):N27 (jY op a f t):=h
theorem n27_fetch (c:Cx) (v s:Int):∀ y ∈ fetchY c v s,N27 y:=fun y hy=>by
 unfold fetchY at hy;split at hy
 ·cases hy
 ·rw[List.mem_singleton.1 hy];exact n27_p (by decide)
theorem n27_keep (c:Cx) (v s:Int):∀ y ∈ keepY c v s,N27 y:=fun y hy=>by
 unfold keepY at hy;split at hy
 ·rw[List.mem_singleton.1 hy];exact n27_p (by decide)
 ·cases hy
theorem n27_ins (c:Cx) (t:Tac) (h3:t.op=3→t.k≤15):∀ y ∈ insY c t,N27 y:=by
 have f:=n27_fetch c
 have kp:=n27_keep c
 have ap:∀ {l m:List Sy},(∀ y ∈ l,N27 y)→(∀ y ∈ m,N27 y)→∀ y ∈ l++m,N27 y:=fun h1 h2 y hy=>(List.mem_append.1 hy).elim (h1 y) (h2 y)
 have on:∀ {x:Sy},N27 x→∀ y ∈ [x],N27 y:=fun h y hy=>by rw[List.mem_singleton.1 hy];exact h
 have nl:∀ y ∈ ([]:List Sy),N27 y:=fun y hy=>by cases hy
 unfold insY
 split
 ·unfold constY
  split
  ·exact kp _ _
  ·refine ap (l:=[_]) (on (n27_p (by decide))) (ap ?_ (kp _ _))
   split
   ·exact nl
   ·exact on (n27_p (by decide))
 split
 ·unfold copyY
  split
  ·exact nl
  split
  ·refine ap (f _ _) ?_
   split
   ·exact nl
   ·exact on (n27_p (by decide))
  ·exact ap (f _ _) (kp _ _)
 split
 ·rename_i e
  have:=h3 e
  exact ap (ap (ap (f _ _) (f _ _)) (on (n27_p (by omega)))) (kp _ _)
 split
 ·exact ap (on (n27_p (by decide))) (kp _ _)
 split
 ·exact ap (f _ _) (on (n27_p (by decide)))
 split
 ·exact ap (ap (ap (f _ _) (on (n27_p (by decide)))) (on (n27_p (by decide)))) (kp _ _)
 split
 ·exact ap (ap (ap (f _ _) (on (n27_p (by decide)))) (f _ _)) (on (n27_p (by decide)))
 split
 ·exact ap (on (n27_p (by decide))) (kp _ _)
 split
 ·exact ap (f _ _) (on (n27_p (by decide)))
 split
 ·exact on (n27_j (by decide))
 ·exact nl
theorem n27_end (c:Cx) (b:Bk) (n:Int):∀ y ∈ endY c b n,N27 y:=by
 have f:=n27_fetch c
 have ap:∀ {l m:List Sy},(∀ y ∈ l,N27 y)→(∀ y ∈ m,N27 y)→∀ y ∈ l++m,N27 y:=fun h1 h2 y hy=>(List.mem_append.1 hy).elim (h1 y) (h2 y)
 have on:∀ {x:Sy},N27 x→∀ y ∈ [x],N27 y:=fun h y hy=>by rw[List.mem_singleton.1 hy];exact h
 have nl:∀ y ∈ ([]:List Sy),N27 y:=fun y hy=>by cases hy
 unfold endY
 split
 ·split
  ·exact nl
  ·exact on (n27_j (by decide))
 split
 ·split
  ·exact ap (f _ _) (on (n27_j (by decide)))
  ·refine ap (ap (f _ _) (on (n27_j (by decide)))) ?_
   split
   ·exact nl
   ·exact on (n27_j (by decide))
 split
 ·split
  ·exact on (n27_p (by decide))
  ·exact ap (l:=[_]) (on (n27_p (by decide))) (on (n27_p (by decide)))
 ·exact nl
theorem n27_blks (c:Cx):∀ (l:List Bk) (j:Nat),(∀ k ∈ l,∀ t ∈ k.ins,t.op=3→t.k≤15)→∀ y ∈ blksY c j l,N27 y
 | [],_,_,y,hy=>by cases hy
 | k::l,j,h,y,hy=>by
  rcases List.mem_append.1 hy with hy | hy
  ·rcases List.mem_append.1 hy with hy | hy
   ·obtain ⟨t,ht,hy⟩:=List.mem_flatMap.1 hy
    exact n27_ins c t (h k (by simp) t ht) y hy
   ·exact n27_end c k _ y hy
  ·exact n27_blks c l (j+1) (fun x hx=>h x (by simp[hx])) y hy
theorem n27_head (c:Cx) (row:List Bool):∀ y ∈ headY c row,N27 y:=fun y hy=>by
 rcases List.mem_append.1 hy with hy | hy
 ·split at hy
  ·cases hy
  ·rw[List.mem_singleton.1 hy];exact n27_p (by decide)
 ·unfold zerosY at hy
  obtain ⟨v,_,hy⟩:=List.mem_flatMap.1 hy
  unfold zeroY at hy
  split at hy
  ·split at hy
   ·rw[List.mem_singleton.1 hy];exact n27_p (by decide)
   ·exact n27_keep c _ _ y hy
  ·cases hy
section
variable {b:BP} {ls:List (List Int)} {rw:Nat→List Bool}
theorem mem_runO {y:Sy}:∀ (o:List Nat) (S:S3),y ∈ (o.foldl (stepO b ls rw) S).l→y ∈ S.l∨∃ i ∈ o,y ∈ funY (cxO b ls i) (rw i) (fO b i)
 | [],_,h=>.inl h
 | i::o,S,h=>by
  rcases mem_runO o _ h with h | ⟨j,hj,h⟩
  ·rcases List.mem_append.1 h with h | h
   ·exact .inl h
   ·exact .inr ⟨i,by simp,h⟩
  ·exact .inr ⟨j,by simp[hj],h⟩
theorem n27_endO (h:OfH b ls rw):∀ y ∈ (endO b ls rw).l,N27 y:=fun y hy=>by
 have hw:=h.f.words
 rcases mem_runO _ _ hy with hy | ⟨i,hi,hy⟩
 ·cases hy
 have hil:i<b.funcs.length:=by
  rcases List.mem_cons.1 hi with rfl | hi
  ·omega
  ·have:=List.mem_range.1 hi;omega
 rcases List.mem_append.1 hy with hy | hy
 ·exact n27_head _ _ y hy
 ·refine n27_blks _ _ 0 (fun k hk t ht e=>?_) y hy
  have hr:=((h.f.parts hil k hk).2 t ht).2.2.2.2.2.2.2
  unfold restT at hr
  rw[if_pos e]at hr
  exact hr.2.1
theorem cd29 (h:OfH b ls rw):CdOk (cdO b ls rw):=by
 obtain ⟨hj,hok⟩:=end_jok h.f h.n h.rl
 have hR:RunP b (endO b ls rw) _ _:=RunP.all h.f h.n h.rl (b.funcs.length-1) (Nat.le_refl _)
 have hB:=tot_bound h.f (b.funcs.length-1) (Nat.le_refl _)
 have hlen:=hR.len
 refine ⟨fun i hi=>⟨hok i hi,?_⟩,?_⟩
 ·unfold cdO fxO fixY at hi
  obtain ⟨⟨ci,o⟩,hy,rfl⟩:=List.mem_map.1 hi
  have:=n27_endO h _ hy
  cases o<;>exact this
 ·have:(cdO b ls rw).length=(endO b ls rw).l.length:=fxO_len _
  omega
theorem len29 (h:OfH b ls rw):(codeO b ls rw).length≤16384:=by
 have hR:RunP b (endO b ls rw) _ _:=RunP.all h.f h.n h.rl (b.funcs.length-1) (Nat.le_refl _)
 have hB:=tot_bound h.f (b.funcs.length-1) (Nat.le_refl _)
 have hlen:=hR.len
 have e:(codeO b ls rw).length=(endO b ls rw).l.length:=by simp[codeO,fixY]
 omega
theorem code29 (h:OfH b ls rw):∀ x ∈ codeO b ls rw,In32 x:=wrds_in (cd29 h)
theorem data29 (h:OfH b ls rw):0≤dataO b ls∧dataO b ls≤32768:=by
 have hw:=h.f.words
 have h3:=h.f.tot ls.length (Nat.le_refl _)
 rw[List.take_of_length_le (Nat.le_refl _)]at h3
 have h20:=h.f.few.l
 unfold dataO;omega
theorem run29 (h:OfH b ls rw) {inp:ByteArray} (hi:inp.size≤1000000000) {fuel:Nat} (hf:fuel≤1000000000) (h5:(finB b inp fuel).en≠5) {F:Int} (hF:64*(((finB b inp fuel).st:Int)+1)≤F) :
 endF (runF (codeO b ls rw) (dataO b ls) inp F)=(resB b inp fuel).en∧(runF (codeO b ls rw) (dataO b ls) inp F).out=⟨(resB b inp fuel).out.toArray⟩:=by
 have hd:=data29 h
 obtain ⟨n,s',g1,g2,g3⟩:=sim_blocks h h5
 have hst:(finB b inp fuel).st≤fuel:=by
  have hwd:=h.f.words
  have hcp:=funF_wf (inp:=inp) (fuel:=fuel) (fnsOk h) b.funcs.length (Nat.le_refl _)
  exact (hcp (b.funcs.length-1) (by omega) (begB b) ⟨by simp[begB],fun x hx=>by rw[(List.mem_replicate.1 hx).2];exact ⟨by omega,by omega⟩,by simp[begB],Nat.zero_le _,Nat.zero_le _⟩ rfl).1.s
 obtain ⟨e1,e2,_⟩:=end_same (cd29 h) hi g2 (rs0 hd.2) (Nat.zero_le _) (by omega) (F:=F.toNat) (by omega)
 have hne:(resB b inp fuel).en≠0:=by
  unfold resB
  by_cases e0:(finB b inp fuel).en=0
  ·simp only[if_pos e0];decide
  ·simp only[if_neg e0];exact e0
 refine ⟨?_,?_⟩
 ·show (if (runN (wrds (cdO b ls rw)) inp (startF (dataO b ls)) F.toNat).fin=0 then 5 else (runN (wrds (cdO b ls rw)) inp (startF (dataO b ls)) F.toNat).fin)=_
  rw[e1,if_neg hne]
 ·have:∀ (a:ByteArray) (l:List UInt8),a.data.toList=l→a=⟨l.toArray⟩:=fun a l e=>by subst e;cases a;simp
  exact this _ _ (e2.trans g3)
end
set_option maxRecDepth 10000
open Go.V
section
variable {α:Type}
theorem plen4 (a b c d:α) (T:List α):(a::b::c::d::T).length=T.length+4:=rfl
theorem ponx (T:List α) (x:α):(T++[x]).length=T.length+1:=by simp
theorem pg0 (T:List α) (x:α):(T++[x])[T.length]? = some x:=by simp
theorem pg01 (T:List α) (x y:α):(T++[x]++[y])[T.length]? = some x:=by simp
theorem pg1 (T:List α) (x y:α):(T++[x]++[y])[T.length+1]? = some y:=by simp
theorem ps0 (T:List α) (x y:α):(T++[x]).set T.length y=T++[y]:=by simp
theorem ps1 (T:List α) (x y z:α):(T++[x]++[y]).set (T.length+1) z=T++[x]++[z]:=by
 rw[List.set_append_right _ _ (by simp)];simp
end
theorem appK {T:List VObj} {k:Nat} {ob:VObj} (h:T[k]? = some ob) (x:VObj):(T++[x])[k]? = some ob:=by
 rw[List.getElem?_append_left (List.getElem?_eq_some_iff.1 h).1];exact h
def POb (T:List VObj) (v:AV) (l:List UInt8):Prop :=
 (v=nilv∧l=[])∨∃ k s,v = .ref (k+4) s 0 l.length∧T[k]? = some ⟨s,5,1,l.map U8⟩
def KpX (q:Nat) (T T':List VObj):Prop:=∀ (k:Nat) (ob:VObj),T[k]? = some ob→ob.ty≠5→k≠q→T'[k]? = some ob
def Kpb (T T':List VObj):Prop:=∀ (k:Nat) (ob:VObj),T[k]? = some ob→ob.ty≠5→T'[k]? = some ob
theorem Kpb.refl (T:List VObj):Kpb T T:=fun _ _ h _=>h
theorem Kpb.add {T:List VObj} (x:VObj):Kpb T (T++[x]):=fun k ob h _=>appK h x
theorem Kpb.trans {T T' T'':List VObj} (h:Kpb T T') (k:Kpb T' T''):Kpb T T'':=fun i ob h1 h2=>k i ob (h i ob h1 h2) h2
theorem Kpb.x {T T':List VObj} (h:Kpb T T') (q:Nat):KpX q T T':=fun i ob h1 h2 _=>h i ob h1 h2
theorem KpX.trans {q:Nat} {T T' T'':List VObj} (h:KpX q T T') (k:KpX q T' T''):KpX q T T'':=fun i ob h1 h2 h3=>k i ob (h i ob h1 h2 h3) h2 h3
theorem KpX.put {T:List VObj} {q:Nat} (ob':VObj):KpX q T (T.set q ob'):=fun i o h1 h2 h3=>by
 rw[List.getElem?_set,if_neg (fun e=>h3 e.symm)];exact h1
theorem Kpb.put {T:List VObj} {k:Nat} {ob ob':VObj} (h:T[k]? = some ob) (ht:ob.ty=5):Kpb T (T.set k ob'):=fun i o h1 h2=>by
 have hne:k≠i:=fun e=>by subst e;rw[h]at h1;cases h1;exact h2 ht
 rw[List.getElem?_set,if_neg hne];exact h1
theorem POb.add {T:List VObj} {v:AV} {l:List UInt8} (h:POb T v l) (x:VObj):POb (T++[x]) v l:=by
 rcases h with h | ⟨k0,s,h1,h2⟩
 ·exact .inl h
 ·exact .inr ⟨k0,s,h1,appK h2 x⟩
theorem POb.put {T:List VObj} {v:AV} {l:List UInt8} (h:POb T v l) {q:Nat} {ob:VObj} (hq:T[q]? = some ob) (ht:ob.ty≠5) (ob':VObj):POb (T.set q ob') v l:=by
 rcases h with h | ⟨k0,s,h1,h2⟩
 ·exact .inl h
 ·refine .inr ⟨k0,s,h1,?_⟩
  have hne:q≠k0:=fun e=>by subst e;rw[h2]at hq;cases hq;exact ht rfl
  rw[List.getElem?_set,if_neg hne];exact h2
theorem POb.one {T:List VObj} {v:AV} {l:List UInt8} (h:POb T v l):v.one=true:=by
 rcases h with ⟨h,_⟩ | ⟨_,_,h,_⟩<;>rw[h]<;>rfl
theorem sR_sR (l:List Int) (i x y:Int):sR (sR l i x) i y=sR l i y:=by simp[sR]
abbrev fnsB (fs:List BF):AV:=.imm 2 (fs.map bfA)
abbrev hpB (o0 o1:VObj) (sw sr:Nat) (words:Int) (fs:List BF) (inp:ByteArray) (fuel n:Nat) (vo:AV) (σ:Bst) (T:List VObj):List VObj :=
 o0::o1::⟨sw,45,1,σ.ws.map U32⟩::⟨sr,83,1,[I words,fnsB fs,strv inp,I fuel,.ref 2 sw 0 n,vo,I σ.rd,I σ.st,I σ.en]⟩::T
section
variable (o0 o1:VObj) (sw sr:Nat) (words:Int) (fs:List BF) (inp:ByteArray) (fuel n:Nat)
def FunV (k:Nat):Prop:=∀ i<k,∀ (σ:Bst),WfB inp fuel n σ→σ.en=0→∀ (T:List VObj) (vo:AV) (nx:Nat) (C:AV→List VObj→Nat→Prop),POb T vo σ.out →
 (∀ T' vo' nx',Kpb T T'→POb T' vo' (funF fs inp fuel k i σ).out→C (.tup []) (hpB o0 o1 sw sr words fs inp fuel n vo' (funF fs inp fuel k i σ) T') nx') →
 VCall Try.prog 33 [.ptr 3 sr 0,I i] (hpB o0 o1 sw sr words fs inp fuel n vo σ T) nx C
theorem step_v (σ:Bst) (hf:fuel≤1000000000) (T:List VObj) (vo:AV) (nx:Nat) (hu:vo.one=true) (C:AV→List VObj→Nat→Prop)
 (hC:C (B (decide (¬ fuel≤σ.st))) (hpB o0 o1 sw sr words fs inp fuel n vo (if fuel≤σ.st then { σ with en:=5 } else { σ with st:=σ.st+1 }) T) nx) :
 VCall Try.prog 55 [.ptr 3 sr 0] (hpB o0 o1 sw sr words fs inp fuel n vo σ T) nx C:=by
 refine VCall.of_body hmix f_scref24_runner_step (by simp) ?_
 by_cases h:fuel≤σ.st
 ·rw[if_pos h,decide_eq_false (by simp[h])]at hC
  simp only[go_sem,c_scref24_runner_step,↓plen4,hu,eq_true (show (fuel:Int)≤(σ.st:Int) by omega)]
  exact hC
 ·rw[if_neg h,decide_eq_true h]at hC
  have e1:IntKind.i64.wrap ((σ.st:Int)+1)=((σ.st+1:Nat):Int):=by rw[i64_in (by omega) (by omega)];omega
  simp only[go_sem,c_scref24_runner_step,↓plen4,hu,e1,eq_false (show ¬ (fuel:Int)≤(σ.st:Int) by omega)]
  exact hC
theorem one_v (k m:Nat) (hF:FunV o0 o1 sw sr words fs inp fuel n k) (hi:inp.size≤1000000000) (hn:n≤2000000) (t:Tac) (ht:FitsT t k m n) (htn:In32 t.n) (rg:List Int) (hr:WfR m rg) (σ:Bst) (hw:WfB inp fuel n σ) (h0:σ.en=0)
 (T:List VObj) (vo:AV) (q sq nx:Nat) (hq:T[q]? = some ⟨sq,45,1,rg.map U32⟩) (hu:POb T vo σ.out) (C:AV→List VObj→Nat→Prop)
 (hC:∀ T' vo' nx',T'[q]? = some ⟨sq,45,1,(opF (funF fs inp fuel k) inp t rg σ).1.map U32⟩→KpX q T T'→POb T' vo' (opF (funF fs inp fuel k) inp t rg σ).2.out →
   C (.tup []) (hpB o0 o1 sw sr words fs inp fuel n vo' (opF (funF fs inp fuel k) inp t rg σ).2 T') nx') :
 VCall Try.prog 56 [.ptr 3 sr 0,tacA t,.ref (q+4) sq 0 m] (hpB o0 o1 sw sr words fs inp fuel n vo σ T) nx C:=by
 refine VCall.of_body hmix f_scref24_runner_one (by simp) ?_
 obtain ⟨op,d,a,b,kk,base,size,nn⟩:=t
 obtain ⟨h1,h2,h3,h4,h5,h6,h7,h8⟩:=ht
 simp only at h1 h2 h3 h4 h5 h6 h7 htn
 obtain ⟨ws,out,rd,st,en⟩:=σ
 simp only at h0 hu
 subst h0
 have hq1:=fun x=>appK hq x
 have hql:=(List.getElem?_eq_some_iff.1 hq).1
 have hu1:=hu.one
 obtain ⟨q1,q2,q3,q4,q5⟩:=hw
 simp only at q1 q2 q3 q4 q5
 have hrl:=hr.n
 have regs:∀ (x:VObj) (cs:List AV) (T':List VObj),T'=(T++[x]).set q ⟨sq,45,1,cs⟩→T'[q]? = some ⟨sq,45,1,cs⟩∧KpX q T T'∧POb T' vo out:=fun x cs T' e=>by
  subst e
  refine ⟨?_,((Kpb.add x).x q).trans (KpX.put _),(hu.add x).put (hq1 x) (by show 45≠5;decide) _⟩
  rw[List.getElem?_set,if_pos rfl,if_pos (by simp;omega)]
 have hqx:∀ x y:VObj,((T++[x]).set q y)[T.length]? = some x:=fun x y=>by rw[List.getElem?_set,if_neg (by omega)];exact pg0 T x
 have hqy:∀ x y:VObj,((T++[x]).set q y)[q]? = some y:=fun x y=>by rw[List.getElem?_set,if_pos rfl,if_pos (by simp;omega)]
 have keep:∀ (x:VObj),(T++[x])[q]? = some ⟨sq,45,1,rg.map U32⟩∧KpX q T (T++[x])∧POb (T++[x]) vo out:=fun x=>⟨hq1 x,(Kpb.add x).x q,hu.add x⟩
 have hset:∀ (l:List Int) (i v:Int),(l.map U32).set i.toNat (U32 v)=(sR l i v).map U32:=fun l i v=>set_map U32 _ _ _
 have hop:op=1∨op=2∨op=3∨op=4∨op=5∨op=6∨op=7∨op=8∨op=9∨op=10:=by omega
 rcases hop with rfl | rfl | rfl | rfl | rfl | rfl | rfl | rfl | rfl | rfl
 all_goals simp only[usesL,SetsT,restT,Int.reduceEq,or_false,or_true,false_or,true_or,or_self,if_true,if_false,List.mem_cons,List.not_mem_nil,forall_eq_or_imp,forall_eq,false_implies,implies_true,and_true]at h3 h4 h8
 ·
  simp only[go_sem,c_scref24_runner_one,↓plen4,ponx,pg0,ps0,cellT_U32,hq1,hset,hu1,Int.reduceEq,Int.reduceBEq]
  repeat ((with_reducible refine And.intro ?_ ?_);· first | omega | rfl)
  obtain ⟨r1,r2,r3⟩:=regs _ _ _ rfl
  exact hC _ _ _ r1 r2 r3
 ·
  simp only[go_sem,c_scref24_runner_one,↓plen4,ponx,pg0,ps0,pg01,pg1,ps1,cellT_U32,hq1,hset,hu1,Int.reduceEq,Int.reduceBEq]
  repeat ((with_reducible refine And.intro ?_ ?_);· first | omega | rfl)
  obtain ⟨r1,r2,r3⟩:=regs _ _ _ rfl
  exact hC _ _ _ r1 r2 r3
 ·
  have ha:=gR_in hr h4.1
  have hb:=gR_in hr h4.2
  simp only[go_sem,c_scref24_runner_one,↓plen4,ponx,pg0,ps0,pg01,pg1,ps1,cellT_U32,hq1,hset,hu1,Int.reduceEq,Int.reduceBEq]
  repeat ((with_reducible refine And.intro ?_ ?_);· first | omega | rfl)
  refine ECall.of (refapply_c kk _ _ ha hb) (SleL.pure rfl) ⟨_,fun _=>Iff.rfl⟩ fun x hx=>?_
  subst hx
  by_cases h:(applyW kk (gR rg a) (gR rg b)).2=0
  ·have hs:opF (funF fs inp fuel k) inp ⟨3,d,a,b,kk,base,size,nn⟩ rg ⟨ws,out,rd,st,0⟩=(sR rg d (applyW kk (gR rg a) (gR rg b)).1,⟨ws,out,rd,st,0⟩):=by
    show (if (applyW kk (gR rg a) (gR rg b)).2=0 then _ else _)=_
    rw[if_pos h]
   rw[hs]at hC
   simp only[go_sem,↓plen4,ponx,pg0,ps0,pg01,pg1,ps1,cellT_U32,hq1,hset,hu1,Int.reduceEq,Int.reduceBEq,h]
   repeat ((with_reducible refine And.intro ?_ ?_);· first | omega | rfl)
   obtain ⟨r1,r2,r3⟩:=regs _ _ _ rfl
   exact hC _ _ _ r1 r2 r3
  ·have hs:opF (funF fs inp fuel k) inp ⟨3,d,a,b,kk,base,size,nn⟩ rg ⟨ws,out,rd,st,0⟩=(rg,⟨ws,out,rd,st,2⟩):=by
    show (if (applyW kk (gR rg a) (gR rg b)).2=0 then _ else _)=_
    rw[if_neg h]
   rw[hs]at hC
   simp only[go_sem,↓plen4,ponx,pg0,ps0,pg01,pg1,ps1,cellT_U32,hq1,hset,hu1,Int.reduceEq,Int.reduceBEq,eq_false h]
   repeat ((with_reducible refine And.intro ?_ ?_);· first | omega | rfl)
   obtain ⟨r1,r2,r3⟩:=keep _
   exact hC _ _ _ r1 r2 r3
 ·
  simp only[go_sem,c_scref24_runner_one,↓plen4,ponx,pg0,ps0,pg01,pg1,ps1,cellT_U32,hq1,hset,hu1,Int.reduceEq,Int.reduceBEq]
  repeat ((with_reducible refine And.intro ?_ ?_);· first | omega | rfl)
  obtain ⟨r1,r2,r3⟩:=regs _ _ _ rfl
  exact hC _ _ _ r1 r2 r3
 ·
  simp only[go_sem,c_scref24_runner_one,↓plen4,ponx,pg0,ps0,pg01,pg1,ps1,cellT_U32,hq1,hset,hu1,Int.reduceEq,Int.reduceBEq]
  repeat ((with_reducible refine And.intro ?_ ?_);· first | omega | rfl)
  obtain ⟨r1,r2,r3⟩:=keep _
  exact hC _ _ _ r1 r2 r3
 ·
  have ha:=gR_in hr h4
  have ha1:=ha.1
  have ha2:=ha.2
  have e1:IntKind.u64.wrap (rg.getD a.toNat default)=gR rg a:=by show IntKind.u64.wrap (gR rg a)=_;rw[IntKind.wrap_u64];omega
  have e2:IntKind.u64.wrap size=size:=by rw[IntKind.wrap_u64];omega
  have e3:IntKind.i64.wrap (rg.getD a.toNat default)=gR rg a:=i64_in (by show -9223372036854775808≤gR rg a;omega) (by show gR rg a≤_;omega)
  by_cases h:gR rg a<size
  ·have hs:opF (funF fs inp fuel k) inp ⟨6,d,a,b,kk,base,size,nn⟩ rg ⟨ws,out,rd,st,0⟩=(sR rg d (gR ws (base+gR rg a)),⟨ws,out,rd,st,0⟩):=by
    show (if gR rg a<size then _ else _)=_
    rw[if_pos h]
   rw[hs]at hC
   simp only[go_sem,c_scref24_runner_one,↓plen4,ponx,pg0,ps0,pg01,pg1,ps1,cellT_U32,hq1,hset,hu1,Int.reduceEq,Int.reduceBEq,e1,e2,e3,i64_in (show -9223372036854775808≤base+gR rg a by omega) (show base+gR rg a≤9223372036854775807 by omega),eq_false (show ¬ size≤gR rg a by omega)]
   repeat ((with_reducible refine And.intro ?_ ?_);· first | omega | rfl)
   obtain ⟨r1,r2,r3⟩:=regs _ _ _ rfl
   exact hC _ _ _ r1 r2 r3
  ·have hs:opF (funF fs inp fuel k) inp ⟨6,d,a,b,kk,base,size,nn⟩ rg ⟨ws,out,rd,st,0⟩=(rg,⟨ws,out,rd,st,3⟩):=by
    show (if gR rg a<size then _ else _)=_
    rw[if_neg h]
   rw[hs]at hC
   simp only[go_sem,c_scref24_runner_one,↓plen4,ponx,pg0,ps0,pg01,pg1,ps1,cellT_U32,hq1,hset,hu1,Int.reduceEq,Int.reduceBEq,e1,e2,eq_true (show size≤gR rg a by omega)]
   repeat ((with_reducible refine And.intro ?_ ?_);· first | omega | rfl)
   obtain ⟨r1,r2,r3⟩:=keep _
   exact hC _ _ _ r1 r2 r3
 ·
  have ha:=gR_in hr h4.1
  have ha1:=ha.1
  have ha2:=ha.2
  have e1:IntKind.u64.wrap (rg.getD a.toNat default)=gR rg a:=by show IntKind.u64.wrap (gR rg a)=_;rw[IntKind.wrap_u64];omega
  have e2:IntKind.u64.wrap size=size:=by rw[IntKind.wrap_u64];omega
  have e3:IntKind.i64.wrap (rg.getD a.toNat default)=gR rg a:=i64_in (by show -9223372036854775808≤gR rg a;omega) (by show gR rg a≤_;omega)
  by_cases h:gR rg a<size
  ·have hs:opF (funF fs inp fuel k) inp ⟨7,d,a,b,kk,base,size,nn⟩ rg ⟨ws,out,rd,st,0⟩=(rg,⟨sR ws (base+gR rg a) (gR rg b),out,rd,st,0⟩):=by
    show (if gR rg a<size then _ else _)=_
    rw[if_pos h]
   rw[hs]at hC
   simp only[go_sem,c_scref24_runner_one,↓plen4,ponx,pg0,ps0,pg01,pg1,ps1,cellT_U32,hq1,hset,hu1,Int.reduceEq,Int.reduceBEq,e1,e2,e3,i64_in (show -9223372036854775808≤base+gR rg a by omega) (show base+gR rg a≤9223372036854775807 by omega),eq_false (show ¬ size≤gR rg a by omega)]
   repeat ((with_reducible refine And.intro ?_ ?_);· first | omega | rfl)
   obtain ⟨r1,r2,r3⟩:=keep _
   exact hC _ _ _ r1 r2 r3
  ·have hs:opF (funF fs inp fuel k) inp ⟨7,d,a,b,kk,base,size,nn⟩ rg ⟨ws,out,rd,st,0⟩=(rg,⟨ws,out,rd,st,3⟩):=by
    show (if gR rg a<size then _ else _)=_
    rw[if_neg h]
   rw[hs]at hC
   simp only[go_sem,c_scref24_runner_one,↓plen4,ponx,pg0,ps0,pg01,pg1,ps1,cellT_U32,hq1,hset,hu1,Int.reduceEq,Int.reduceBEq,e1,e2,eq_true (show size≤gR rg a by omega)]
   repeat ((with_reducible refine And.intro ?_ ?_);· first | omega | rfl)
   obtain ⟨r1,r2,r3⟩:=keep _
   exact hC _ _ _ r1 r2 r3
 ·
  have e1:IntKind.i64.wrap ((rd:Int)+1)=((rd+1:Nat):Int):=by rw[i64_in (by omega) (by omega)];omega
  have hb:IntKind.u32.wrap (byteAt inp rd)=byteAt inp rd:=w32_in (byteAt_32 _ _).1
  by_cases h:rd<inp.size
  ·have hs:opF (funF fs inp fuel k) inp ⟨8,d,a,b,kk,base,size,nn⟩ rg ⟨ws,out,rd,st,0⟩=(sR rg d (byteAt inp rd),⟨ws,out,rd+1,st,0⟩):=by
    show (if rd<inp.size then _ else _)=_
    rw[if_pos h]
   rw[hs]at hC
   simp only[go_sem,c_scref24_runner_one,↓plen4,ponx,pg0,ps0,pg01,pg1,ps1,cellT_U32,hq1,hqx,hqy,List.set_set,hset,sR_sR,sR_len,hu1,Int.reduceEq,Int.reduceBEq,e1,hb,eq_true (show (rd:Int)<(inp.size:Int) by omega)]
   repeat ((with_reducible refine And.intro ?_ ?_);· first | omega | rfl)
   exact hC _ _ _ (hqy _ _) (((Kpb.add _).x q).trans (KpX.put _)) ((hu.add _).put (hq1 _) (by show 45≠5;decide) _)
  ·have hs:opF (funF fs inp fuel k) inp ⟨8,d,a,b,kk,base,size,nn⟩ rg ⟨ws,out,rd,st,0⟩=(sR rg d 256,⟨ws,out,rd,st,0⟩):=by
    show (if rd<inp.size then _ else _)=_
    rw[if_neg h]
   rw[hs]at hC
   simp only[go_sem,c_scref24_runner_one,↓plen4,ponx,pg0,ps0,pg01,pg1,ps1,cellT_U32,hq1,hset,hu1,Int.reduceEq,Int.reduceBEq,eq_false (show ¬ (rd:Int)<(inp.size:Int) by omega)]
   repeat ((with_reducible refine And.intro ?_ ?_);· first | omega | rfl)
   obtain ⟨r1,r2,r3⟩:=regs _ _ _ rfl
   exact hC _ _ _ r1 r2 r3
 ·
  have hU8:(AV.val (.int .u8 (IntKind.u8.wrap (rg.getD a.toNat default))))=U8 (byteB (gR rg a)):=by
   show AV.val (.int .u8 (IntKind.u8.wrap (gR rg a)))=AV.val (.int .u8 ((byteB (gR rg a)).toNat:Nat))
   rw[byteB_eq]
  by_cases h:65536≤out.length
  ·have hs:opF (funF fs inp fuel k) inp ⟨9,d,a,b,kk,base,size,nn⟩ rg ⟨ws,out,rd,st,0⟩=(rg,⟨ws,out,rd,st,4⟩):=by
    show (if 65536≤out.length then _ else _)=_
    rw[if_pos h]
   rw[hs]at hC
   rcases hu with ⟨rfl,rfl⟩ | ⟨k0,so,rfl,hT⟩
   ·simp at h
   have hT2:∀ x:VObj,(T++[x])[k0]? = some ⟨so,5,1,out.map U8⟩:=fun x=>appK hT x
   simp only[go_sem,c_scref24_runner_one,↓plen4,ponx,pg0,ps0,pg01,pg1,ps1,cellT_U32,hq1,hset,hu1,Int.reduceEq,Int.reduceBEq,hT2,eq_true (show (65536:Int)≤(out.length:Int) by omega)]
   repeat ((with_reducible refine And.intro ?_ ?_);· first | omega | rfl)
   exact hC _ _ _ (hq1 _) ((Kpb.add _).x q) (POb.add (.inr ⟨k0,so,rfl,hT⟩) _)
  ·have hs:opF (funF fs inp fuel k) inp ⟨9,d,a,b,kk,base,size,nn⟩ rg ⟨ws,out,rd,st,0⟩=(rg,⟨ws,out++[byteB (gR rg a)],rd,st,0⟩):=by
    show (if 65536≤out.length then _ else _)=_
    rw[if_neg h]
   rw[hs]at hC
   have hmx:(2000000:Nat)≤maxLen:=by decide
   rcases hu with ⟨rfl,rfl⟩ | ⟨k0,so,rfl,hT⟩
   ·simp only[go_sem,c_scref24_runner_one,↓plen4,ponx,pg0,ps0,pg01,pg1,ps1,cellT_U32,hq1,hset,hu1,Int.reduceEq,Int.reduceBEq,hU8]
    repeat ((with_reducible refine And.intro ?_ ?_);· first | omega | rfl)
    refine hC _ _ _ (appK (appK (hq1 _) _) _) ((((Kpb.add _).trans (Kpb.add _)).trans (Kpb.add _)).x q) (.inr ⟨T.length+1+1,nx+1+1,rfl,?_⟩)
    have:∀ x y z:VObj,(T++[x]++[y]++[z])[T.length+1+1]? = some z:=fun x y z=>by
     rw[List.getElem?_append_right (by simp)];simp
    rw[this];rfl
   ·have hk:=(List.getElem?_eq_some_iff.1 hT).1
    have hT2:∀ x:VObj,(T++[x])[k0]? = some ⟨so,5,1,out.map U8⟩:=fun x=>appK hT x
    have hT3:∀ x y:VObj,(T++[x]++[y])[k0]? = some ⟨so,5,1,out.map U8⟩:=fun x y=>appK (appK hT x) y
    simp only[go_sem,c_scref24_runner_one,↓plen4,ponx,pg0,ps0,pg01,pg1,ps1,cellT_U32,hq1,hset,hu1,Int.reduceEq,Int.reduceBEq,hU8,hT2,hT3,eq_false (show ¬ (65536:Int)≤(out.length:Int) by omega)]
    repeat ((with_reducible refine And.intro ?_ ?_);· first | omega | rfl)
    have hne:k0≠q:=fun e=>by subst e;rw[hT]at hq;cases hq
    refine hC _ _ _ ?_ ((((Kpb.add _).trans (Kpb.add _)).trans (Kpb.put (hT3 _ _) rfl)).x q) (.inr ⟨k0,nx+1+1,by simp,?_⟩)
    ·rw[List.getElem?_set,if_neg hne];exact appK (hq1 _) _
    ·rw[List.getElem?_set,if_pos rfl,if_pos (by simp;omega),List.take_of_length_le (by simp)]
     simp
 ·
  obtain ⟨j,rfl⟩:∃ j:Nat,base=j:=⟨base.toNat,by omega⟩
  simp only[go_sem,c_scref24_runner_one,↓plen4,ponx,pg0,ps0,pg01,pg1,ps1,cellT_U32,hq1,hset,hu1,Int.reduceEq,Int.reduceBEq]
  repeat ((with_reducible refine And.intro ?_ ?_);· first | omega | rfl)
  refine hF j (by omega) ⟨ws,out,rd,st,0⟩ ⟨q1,q2,q3,q4,q5⟩ rfl _ vo _ _ (hu.add _) fun T' vo' nx' g1 g2=>?_
  simp only[go_sem,↓plen4,ponx,pg0,ps0,pg01,pg1,ps1,cellT_U32,hq1,hset,hu1,Int.reduceEq,Int.reduceBEq]
  exact hC _ _ _ (g1 _ _ (hq1 _) (by show 45≠5;decide)) (((Kpb.add _).trans g1).x q) g2
end
set_option maxRecDepth 10000
open Go.V
structure QI where
 j:Nat
 rg:List Int
 σ:Bst
 T:List VObj
 vo:AV
 nx:Nat
structure QB where
 g:Nat
 i:Nat
 rg:List Int
 σ:Bst
 T:List VObj
 vo:AV
 nx:Nat
section
variable (o0 o1:VObj) (sw sr:Nat) (words:Int) (fs:List BF) (inp:ByteArray) (fuel n:Nat)
theorem fun_v (hfu:fuel≤1000000000) (hin:inp.size≤1000000000) (hn:n≤2000000) (hfs:FnsOk fs n):∀ k,k≤fs.length→FunV o0 o1 sw sr words fs inp fuel n k
 | 0,_=>fun i hi=>absurd hi (Nat.not_lt_zero i)
 | k+1,hk=>by
  have hF:=fun_v hfu hin hn hfs k (by omega)
  have hcp:=funF_wf (inp:=inp) (fuel:=fuel) hfs k (by omega)
  intro i hi σ hw h0 T vo nx C hu hC
  have hil:i<fs.length:=by omega
  obtain ⟨f,hf⟩:∃ f,fs.getD i default=f:=⟨_,rfl⟩
  have ho:=one_parts (hfs.one i hil)
  have hfit:=hfs.fit hil (show i≤k by omega)
  have hlen:=hfs.len _ (mem_getD hil)
  obtain ⟨R,hR⟩:∃ R,funF fs inp fuel (k+1) i σ=R:=⟨_,rfl⟩
  rw[hR]at hC
  unfold funF at hR
  rw[hf]at ho hfit hlen hR
  obtain ⟨r0,r1,r2,hE⟩:=ho
  have hrr:((f.regs.toNat:Nat):Int)=f.regs:=by omega
  obtain ⟨call,hcall⟩:∃ call,funF fs inp fuel k=call:=⟨_,rfl⟩
  rw[hcall]at hR hcp
  have hmx:(2000000:Nat)≤maxLen:=by decide
  have hpos:=List.length_pos_iff.2 r2
  have hu1:=hu.one
  have hz:(List.replicate f.regs.toNat [AV.val (.int .u32 0)]).flatten=(List.replicate f.regs.toNat (0:Int)).map U32:=by rw[flat_rep];simp
  refine VCall.of_body hmix f_scref24_runner_fun (by simp) ?_
  simp only[go_sem,c_scref24_runner_fun,↓plen4,ponx,pg0,ps0,hu1,hf,hz]
  repeat ((with_reducible refine And.intro ?_ ?_);· first | omega | rfl)
  refine VW_loop (fun q:QB=>⟨[(0,.ptr 3 sr 0),(4,.ptr (T.length+4) nx 0),(5,.ref (T.length+1+4) (nx+1) 0 f.regs.toNat),(6,I q.i)],hpB o0 o1 sw sr words fs inp fuel n q.vo q.σ q.T,q.nx⟩)
   (fun q=>q.i<f.bks.length∧WfR f.regs.toNat q.rg∧WfB inp fuel n q.σ∧q.σ.en=0∧fuel<q.g+q.σ.st∧Kpb T q.T∧q.T[T.length]? = some ⟨nx,52,1,bfL f⟩∧q.T[T.length+1]? = some ⟨nx+1,45,1,q.rg.map U32⟩∧POb q.T q.vo q.σ.out ∧
     blkF call inp fuel f q.g q.i q.rg q.σ=R) (fun q=>q.g)
   ⟨fuel+1,0,List.replicate f.regs.toNat 0,σ,T++[⟨nx,52,1,bfL f⟩]++[⟨nx+1,45,1,(List.replicate f.regs.toNat (0:Int)).map U32⟩],vo,nx+2⟩ ?_ ?_ ?_
  ·exact Wk.mk (by simp[get_cons]) ⟨[],by simp⟩ (Nat.le_refl _)
  ·exact ⟨hpos,rep_wf _,hw,h0,by show fuel<fuel+1+σ.st;omega,(Kpb.add _).trans (Kpb.add _),pg01 _ _ _,pg1 _ _ _,(hu.add _).add _,hR⟩
  rintro ⟨g,a,rg,σ,T1,vo1,nx1⟩ ⟨p1,p2,p3,p4,p5,p6,p7,p8,p9,p11⟩
  simp only at p1 p2 p3 p4 p5 p6 p7 p8 p9 p11
  have hfin:∀ (σ':Bst) (T':List VObj) (vo':AV) (nx':Nat),σ'=R→Kpb T T'→POb T' vo' σ'.out→C (.tup []) (hpB o0 o1 sw sr words fs inp fuel n vo' σ' T') nx':=fun σ' T' vo' nx' e h1 h2=>by
   subst e;exact hC _ _ _ h1 h2
  obtain ⟨g,rfl⟩:∃ g',g=g'+1:=by
   cases g with
   | zero=>have:=p3.s;omega
   | succ g=>exact ⟨g,rfl⟩
  obtain ⟨bk,hbk⟩:∃ bk,f.bks.getD a default=bk:=⟨_,rfl⟩
  have hmb:f.bks.getD a default ∈ f.bks:=mem_getD p1
  rw[hbk]at hmb
  have hfb:=hfit _ hmb
  have hlb:=hlen _ hmb
  have hEb:=(hE _ hmb).1
  unfold blkF at p11
  rw[hbk]at p11
  obtain ⟨r,hr⟩:∃ r,insF call inp fuel bk.ins rg σ=r:=⟨_,rfl⟩
  rw[hr]at p11
  have hu1:=p9.one
  simp only[go_sem,↓plen4,ponx,pg0,ps0,hu1,p4,appK p7,p7,hbk]
  repeat ((with_reducible refine And.intro ?_ ?_);· first | omega | rfl)
  refine VW_loop (fun q:QI=>⟨[(0,.ptr 3 sr 0),(4,.ptr (T.length+4) nx 0),(5,.ref (T.length+1+4) (nx+1) 0 f.regs.toNat),(7,.ptr (T1.length+4) nx1 0),(8,I q.j)],hpB o0 o1 sw sr words fs inp fuel n q.vo q.σ q.T,q.nx⟩)
   (fun q=>q.j≤bk.ins.length∧WfR f.regs.toNat q.rg∧WfB inp fuel n q.σ∧q.σ.en=0∧σ.st≤q.σ.st∧Kpb T q.T∧q.T[T.length]? = some ⟨nx,52,1,bfL f⟩∧q.T[T.length+1]? = some ⟨nx+1,45,1,q.rg.map U32⟩ ∧
     q.T[T1.length]? = some ⟨nx1,49,1,bkL bk⟩∧POb q.T q.vo q.σ.out∧insF call inp fuel (bk.ins.drop q.j) q.rg q.σ=r) (fun q=>bk.ins.length-q.j)
   ⟨0,rg,σ,T1++[⟨nx1,49,1,bkL bk⟩],vo1,nx1+1⟩ ?_ ?_ ?_
  ·exact Wk.mk (by simp[get_cons]) ⟨[],by simp[p4]⟩ (Nat.le_refl _)
  ·exact ⟨Nat.zero_le _,p2,p3,p4,Nat.le_refl _,p6.trans (Kpb.add _),appK p7 _,appK p8 _,pg0 _ _,p9.add _,hr⟩
  rintro ⟨j,rg2,σ2,T2,vo2,nx2⟩ ⟨s1,s2,s3,s4,s5,s6,s7,s8,s9,s10,s12⟩
  simp only at s1 s2 s3 s4 s5 s6 s7 s8 s9 s10 s12
  have hu2:=s10.one
  have hl2:=s2.n
  by_cases hjl:j<bk.ins.length
  ·have hmt:=mem_getD hjl
   obtain ⟨ft1,ft2⟩:=hfb _ hmt
   have hdr:bk.ins.drop j=bk.ins.getD j default::bk.ins.drop (j+1):=by
    rw[List.drop_eq_getElem_cons hjl]
    simp[List.getD,List.getElem?_eq_getElem hjl]
   rw[hdr,insF_cons]at s12
   obtain ⟨t,ht⟩:∃ t,bk.ins.getD j default=t:=⟨_,rfl⟩
   rw[ht]at ft1 ft2 s12
   simp only[go_sem,↓plen4,ponx,pg0,ps0,cellT_U32,hu2,s9,eq_true (show (j:Int)<bk.ins.length by omega)]
   refine step_v o0 o1 sw sr words fs inp fuel n σ2 hfu T2 vo2 nx2 hu2 _ ?_
   by_cases h1:fuel≤σ2.st
   ·rw[if_pos h1]at s12
    rw[if_pos h1,decide_eq_false (by simp[h1])]
    simp only[go_sem,↓plen4,ponx,pg0,ps0,cellT_U32,hu2]
    subst s12
    rw[if_neg (show ¬ ((rg2,({ σ2 with en:=5 }:Bst)).2.en=0) by simp)]at p11
    exact hfin _ _ _ _ p11 s6 s10
   rw[if_neg h1]at s12
   rw[if_neg h1,decide_eq_true h1]
   simp only[go_sem,↓plen4,ponx,pg0,ps0,cellT_U32,hu2,s9,ht]
   repeat ((with_reducible refine And.intro ?_ ?_);· first | omega | rfl)
   have w2:WfB inp fuel n { σ2 with st:=σ2.st+1 }:=⟨s3.n,s3.w,s3.o,s3.r,by show σ2.st+1≤fuel;omega⟩
   have hop:=opF_wf hcp (by rw[hrr];exact ft1) ft2 s2 w2 s4
   refine one_v o0 o1 sw sr words fs inp fuel n k f.regs.toNat hF hin hn t (by rw[hrr];exact ft1) ft2 rg2 s2 { σ2 with st:=σ2.st+1 } w2 s4 T2 vo2 (T.length+1) (nx+1) nx2 s8 s10 _ fun T3 vo3 nx3 g1 g2 g3=>?_
   rw[hcall]at g1 g3 ⊢
   obtain ⟨o1',o2',o3'⟩:=hop
   replace o3':σ2.st+1≤_:=o3'
   generalize opF call inp t rg2 { σ2 with st:=σ2.st+1 }=p at *
   have hu3:=g3.one
   have kT:Kpb T T3:=fun i ob h1 h2=>g2 i ob (s6 i ob h1 h2) h2 (by have:=(List.getElem?_eq_some_iff.1 h1).1;omega)
   by_cases h2:p.2.en=0
   ·rw[if_pos h2]at s12
    simp only[go_sem,↓plen4,ponx,pg0,ps0,cellT_U32,hu3,h2]
    rw[i64_in (by omega) (by omega)]
    have n1:T.length≠T.length+1:=by omega
    have n2:T1.length≠T.length+1:=by
     have:=(List.getElem?_eq_some_iff.1 p8).1;omega
    refine ⟨⟨j+1,p.1,p.2,T3,vo3,nx3⟩,⟨by simp only;omega,o1',o2',h2,by simp only;omega,kT,g2 _ _ s7 (by show 52≠5;decide) n1,g1,g2 _ _ s9 (by show 49≠5;decide) n2,g3,s12⟩,by simp only;omega,Wk.mk (by simp[get_cons]) ⟨[],by simp[h2]⟩ (Nat.le_refl _)⟩
   ·rw[if_neg h2]at s12
    simp only[go_sem,↓plen4,ponx,pg0,ps0,cellT_U32,hu3,eq_false h2]
    subst s12
    rw[if_neg h2]at p11
    exact hfin _ _ _ _ p11 kT g3
  ·obtain rfl:j=bk.ins.length:=by omega
   have hnil:bk.ins.drop bk.ins.length=[]:=List.drop_eq_nil_of_le (Nat.le_refl _)
   rw[hnil]at s12
   subst s12
   rw[show insF call inp fuel [] rg2 σ2=(rg2,σ2) from rfl]at p11
   rw[if_pos s4]at p11
   simp only[go_sem,↓plen4,ponx,pg0,ps0,cellT_U32,hu2,s9,eq_false (show ¬ (bk.ins.length:Int)<(bk.ins.length:Int) by omega)]
   refine step_v o0 o1 sw sr words fs inp fuel n σ2 hfu T2 vo2 nx2 hu2 _ ?_
   by_cases h1:fuel≤σ2.st
   ·rw[if_pos h1]at p11
    rw[if_pos h1,decide_eq_false (by simp[h1])]
    simp only[go_sem,↓plen4,ponx,pg0,ps0,cellT_U32,hu2]
    exact hfin _ _ _ _ p11 s6 s10
   rw[if_neg h1]at p11
   rw[if_neg h1,decide_eq_true h1]
   by_cases h2:bk.e=3
   ·rw[if_pos h2]at p11
    simp only[go_sem,↓plen4,ponx,pg0,ps0,cellT_U32,hu2,s9,h2]
    exact hfin _ _ _ _ p11 s6 s10
   rw[if_neg h2]at p11
   have hgo:=goB_in hEb h2 rg2
   have hg:=ends_go hEb h2
   have w2:WfB inp fuel n { σ2 with st:=σ2.st+1 }:=⟨s3.n,s3.w,s3.o,s3.r,by show σ2.st+1≤fuel;omega⟩
   by_cases h3:bk.e=2
   ·have hv:=(hg.2.2 h3).2.2
    by_cases h4:gR rg2 bk.v=0
    ·have hgo2:goB bk rg2=bk.el:=by unfold goB;rw[if_pos ⟨h3,h4⟩]
     rw[hgo2]at hgo p11
     have h4':rg2.getD bk.v.toNat default=0:=h4
     simp only[go_sem,↓plen4,ponx,pg0,ps0,cellT_U32,hu2,s9,s8,h3,h4',Int.reduceEq]
     repeat ((with_reducible refine And.intro ?_ ?_);· first | omega | rfl)
     refine ⟨⟨g,bk.el.toNat,rg2,{ σ2 with st:=σ2.st+1 },T2,vo2,nx2⟩,⟨by simp only;omega,s2,w2,s4,by simp only;omega,s6,s7,s8,s10,p11⟩,by simp only;omega,Wk.mk (by simp[get_cons];omega) ⟨[],by simp⟩ (Nat.le_refl _)⟩
    ·have hgo2:goB bk rg2=bk.to:=by unfold goB;rw[if_neg (fun e=>h4 e.2)]
     rw[hgo2]at hgo p11
     have h4':¬ rg2.getD bk.v.toNat default=0:=h4
     simp only[go_sem,↓plen4,ponx,pg0,ps0,cellT_U32,hu2,s9,s8,h3,eq_false h4',Int.reduceEq]
     repeat ((with_reducible refine And.intro ?_ ?_);· first | omega | rfl)
     refine ⟨⟨g,bk.to.toNat,rg2,{ σ2 with st:=σ2.st+1 },T2,vo2,nx2⟩,⟨by simp only;omega,s2,w2,s4,by simp only;omega,s6,s7,s8,s10,p11⟩,by simp only;omega,Wk.mk (by simp[get_cons];omega) ⟨[],by simp⟩ (Nat.le_refl _)⟩
   ·have hgo2:goB bk rg2=bk.to:=by unfold goB;rw[if_neg (fun e=>h3 e.1)]
    rw[hgo2]at hgo p11
    simp only[go_sem,↓plen4,ponx,pg0,ps0,cellT_U32,hu2,s9,s8,eq_false h2,eq_false h3,Int.reduceEq]
    refine ⟨⟨g,bk.to.toNat,rg2,{ σ2 with st:=σ2.st+1 },T2,vo2,nx2⟩,⟨by simp only;omega,s2,w2,s4,by simp only;omega,s6,s7,s8,s10,p11⟩,by simp only;omega,Wk.mk (by simp[get_cons];omega) ⟨[],by simp⟩ (Nat.le_refl _)⟩
end
theorem run24_c (b:BP) (inp:ByteArray) (fuel:Int) (hne:b.funcs≠[]) (hw:0≤b.words∧b.words≤1048576) (hf:FnsOk b.funcs b.words.toNat) (hl:b.funcs.length≤140737488355328) (hfu:0≤fuel∧fuel≤1000000000) (hin:inp.size≤1000000000) :
 Contract Try.prog 13 [bpA b,strv inp,I fuel] (fun r=>r = .agg [I (resB b inp fuel.toNat).en,strv ⟨(resB b inp fuel.toNat).out.toArray⟩,I (resB b inp fuel.toNat).st]):=by
 refine Contract.of_call (VCall.of_body hmix f_scref24_Run (by simp) ?_)
 have hpos:=List.length_pos_iff.2 hne
 obtain ⟨fu,rfl⟩:∃ fu:Nat,fuel=fu:=⟨fuel.toNat,by omega⟩
 obtain ⟨n,hn⟩:∃ n:Nat,b.words=n:=⟨b.words.toNat,by omega⟩
 rw[hn,Int.toNat_natCast]at hf
 rw[Int.toNat_natCast]
 have hz:(List.replicate n [AV.val (.int .u32 0)]).flatten=(List.replicate n (0:Int)).map U32:=by rw[flat_rep];simp
 simp only[go_sem,c_scref24_Run,↓plen4,hn,hz,eq_false (show ¬ (b.funcs.length:Int)=0 by omega),eq_false (show ¬ (fu:Int)<0 by omega)]
 repeat ((with_reducible refine And.intro ?_ ?_);· first | omega | rfl)
 have hw1:IntKind.i64.wrap ((b.funcs.length:Int)-1)=((b.funcs.length-1:Nat):Int):=by rw[i64_in (by omega) (by omega)];omega
 rw[hw1]
 have hbeg:begB b=⟨List.replicate n 0,[],0,0,0⟩:=by unfold begB;rw[hn,Int.toNat_natCast]
 have wb:WfB inp fu n (begB b):=by
  rw[hbeg]
  exact ⟨by simp,(rep_wf n).w,by simp,Nat.zero_le _,Nat.zero_le _⟩
 have wf:=funF_wf (inp:=inp) (fuel:=fu) hf b.funcs.length (Nat.le_refl _) (b.funcs.length-1) (by omega) (begB b) wb rfl
 have fv:=fun_v ⟨0,24,1,[I n,fnsB b.funcs]⟩ ⟨1,36,1,[I 0,strv ⟨#[]⟩,I 0]⟩ 2 3 n b.funcs inp fu n (by omega) hin (by omega) hf b.funcs.length (Nat.le_refl _) (b.funcs.length-1) (by omega) (begB b) wb rfl [] nilv 4
 have hfin:finB b inp fu=funF b.funcs inp fu b.funcs.length (b.funcs.length-1) (begB b):=rfl
 rw[hbeg]at fv wf hfin
 refine fv _ (.inl ⟨rfl,rfl⟩) fun T' vo' nx' g1 g2=>?_
 have hu:=g2.one
 obtain ⟨σ,hσ⟩:∃ σ,funF b.funcs inp fu b.funcs.length (b.funcs.length-1) ⟨List.replicate n 0,[],0,0,0⟩=σ:=⟨_,rfl⟩
 rw[hσ]at g2 wf hfin ⊢
 have hb2s:∀ (ob:VObj) (l:List UInt8),(List.map U8 l).take l.length=l.map U8:=fun _ l=>List.take_of_length_le (by simp)
 have hres:∀ (σ':Bst) (x:ByteArray),x=⟨σ.out.toArray⟩→∀ e:Int,e=(if σ.en=0 then 1 else σ.en)→∀ H nx,∃ y,Frz 0 H nx (.agg [I e,strv x,I σ.st]) y∧y = .agg [I (resB b inp fu).en,strv ⟨(resB b inp fu).out.toArray⟩,I (resB b inp fu).st]:=fun σ' x hx e he H nx=>by
  subst hx;subst he
  exact ⟨_,Frz.pure rfl,by unfold resB;rw[hfin]⟩
 by_cases h:σ.en=0
 ·rcases g2 with ⟨rfl,h2⟩ | ⟨k0,s,rfl,hT⟩
  ·simp only[go_sem,↓plen4,h]
   exact hres σ _ (by rw[h2];rfl) _ (by rw[if_pos h]) _ _
  ·simp only[go_sem,↓plen4,h,hT]
   rw[hb2s default]
   simp only[go_sem,↓plen4,b2sT_U8]
   repeat ((with_reducible refine And.intro ?_ ?_);· first | omega | rfl)
   exact hres σ _ rfl _ (by rw[if_pos h]) _ _
 ·rcases g2 with ⟨rfl,h2⟩ | ⟨k0,s,rfl,hT⟩
  ·simp only[go_sem,↓plen4,eq_false h]
   exact hres σ _ (by rw[h2];rfl) _ (by rw[if_neg h]) _ _
  ·simp only[go_sem,↓plen4,eq_false h,hT]
   rw[hb2s default]
   simp only[go_sem,↓plen4,b2sT_U8]
   repeat ((with_reducible refine And.intro ?_ ?_);· first | omega | rfl)
   exact hres σ _ rfl _ (by rw[if_neg h]) _ _
set_option maxRecDepth 10000
open Go.V
theorem fuel29_c (b:BP) (ls:List (List Int)) (n:Int) (hw:0≤b.words∧b.words≤8000) (hl:∀ pl ∈ ls,pl.length≤140737488355328) (hls:ls.length≤20) (hwd:∀ i<ls.length,0≤wdsI (ls.getD i default)∧wdsI (ls.getD i default)≤4000) (ht:0≤totW ls∧totW ls≤80000) (hn:0≤n∧n≤1000000) :
 Contract Try.prog 16 [bpA b,alsA ls,I n] (fun r=>r=I ((n+1)*(64+8*(b.words+totW ls)))):=by
 refine Contract.of_call (VCall.of_body hmix f_scref29_Fuel (by simp) ?_)
 have e1:IntKind.i64.wrap (n+1)=n+1:=i64_in (by omega) (by omega)
 have e2:IntKind.i64.wrap (b.words+totW ls)=b.words+totW ls:=i64_in (by omega) (by omega)
 have e3:IntKind.i64.wrap (8*(b.words+totW ls))=8*(b.words+totW ls):=i64_in (by omega) (by omega)
 have e4:IntKind.i64.wrap (64+8*(b.words+totW ls))=64+8*(b.words+totW ls):=i64_in (by omega) (by omega)
 have hm:0≤(n+1)*(64+8*(b.words+totW ls))∧(n+1)*(64+8*(b.words+totW ls))≤1000001*800000:=⟨Int.mul_nonneg (by omega) (by omega),Int.mul_le_mul (by omega) (by omega) (by omega) (by omega)⟩
 have e5:IntKind.i64.wrap ((n+1)*(64+8*(b.words+totW ls)))=(n+1)*(64+8*(b.words+totW ls)):=i64_in (by omega) (by omega)
 simp only[go_sem,c_scref29_Fuel,e1]
 refine ECall.of (wordsL_c ls hl hls hwd) (SleL.pure rfl) ⟨_,fun _=>Iff.rfl⟩ fun x hx=>?_
 subst hx
 simp only[go_sem,e1,e2,e3,e4,e5]
 exact ⟨_,Frz.pure rfl,rfl⟩
theorem fuel_ge {st:Nat} {x:Int} (hx:0≤x):64*((st:Int)+1)≤((st:Int)+1)*(64+8*x):=by
 rw[Int.mul_comm 64]
 exact Int.mul_le_mul_of_nonneg_left (by omega) (by omega)
section
variable {b:BP} {ls:List (List Int)} {rw:Nat→List Bool}
theorem run29_c (h:OfH b ls rw) {inp:ByteArray} (hi:inp.size≤1000000000) {fuel:Nat} (hf:fuel≤1000000) (h5:(resB b inp fuel).en≠5) :
 ∃ st,Contract Try.prog 15 [imgC (codeO b ls rw) (dataO b ls),strv inp,I ((((resB b inp fuel).st:Int)+1)*(64+8*(b.words+totW ls)))] (fun r=>r = .agg [I (resB b inp fuel).en,strv ⟨(resB b inp fuel).out.toArray⟩,I st]):=by
 have hw:=h.f.words
 have h3:=h.f.tot ls.length (Nat.le_refl _)
 rw[List.take_of_length_le (Nat.le_refl _)]at h3
 have h5':(finB b inp fuel).en≠5:=fun e=>by
  apply h5
  unfold resB
  rw[e];rfl
 have hst:(resB b inp fuel).st≤fuel:=by
  have hcp:=funF_wf (inp:=inp) (fuel:=fuel) (fnsOk h) b.funcs.length (Nat.le_refl _)
  exact (hcp (b.funcs.length-1) (by omega) (begB b) ⟨by simp[begB],fun x hx=>by rw[(List.mem_replicate.1 hx).2];exact ⟨by omega,by omega⟩,by simp[begB],Nat.zero_le _,Nat.zero_le _⟩ rfl).1.s
 have hF:=fuel_ge (st:=(resB b inp fuel).st) (x:=b.words+totW ls) (by omega)
 have hm:(((resB b inp fuel).st:Int)+1)*(64+8*(b.words+totW ls))≤1000001*800000:=Int.mul_le_mul (by omega) (by omega) (by omega) (by omega)
 obtain ⟨e1,e2⟩:=run29 h hi (by omega) h5' hF
 have k:=refRun_c (codeO b ls rw) (dataO b ls) inp ((((resB b inp fuel).st:Int)+1)*(64+8*(b.words+totW ls))) (code29 h) (by have:=len29 h;omega) hi (by omega)
 unfold runA at k
 rw[e1,e2]at k
 exact ⟨_,k⟩
end
theorem ends_same (a:Int) (s:ByteArray) (m n:Int):Contract Try.prog 14 [.agg [I a,strv s,I m],.agg [I a,strv s,I n]] (fun r=>r=B true):=by
 have:=ends_c a a s s m n
 simpa using this
theorem exC_res:resB exCb ⟨#[]⟩ 10=⟨1,[65],3⟩:=by kernel_rfl
theorem ex_run {p:Int} (hp:p=1∨p = -1):∃ c d st,ContractN Try.prog 11 [bpA exCb,alsA [[p]]] (fun r=>r = .tup [imgC c d,I 0])∧Contract Try.prog 15 [imgC c d,strv ⟨#[]⟩,I 300] (fun r=>r = .agg [I 1,strv ⟨#[65]⟩,I st]):=by
 have h:=exC_of hp
 have hw:=h.f.words
 have e:(finB exCb ⟨#[]⟩ 10).st=3:=by kernel_rfl
 have e5:(finB exCb ⟨#[]⟩ 10).en≠5:=by
  have:(finB exCb ⟨#[]⟩ 10).en=0:=by kernel_rfl
  rw[this];decide
 obtain ⟨e1,e2⟩:=run29 h (inp:=⟨#[]⟩) (by decide) (fuel:=10) (by decide) e5 (F:=300) (by rw[e];decide)
 rw[exC_res]at e1 e2
 have k:=refRun_c (codeO exCb [[p]] exCr) (dataO exCb [[p]]) ⟨#[]⟩ 300 (code29 h) (by have:=len29 h;omega) (by decide) (by decide)
 unfold runA at k
 rw[e1,e2]at k
 exact ⟨_,_,_,of29N_c h,k⟩
theorem alive_c:Contract Try.prog 9 [] (fun r=>r=B true):=by
 have hq:=f_sclaw29_alive
 unfold compF compFp at hq
 obtain ⟨c1,d1,st1,n1,r1⟩:=ex_run (p:=1) (.inl rfl)
 obtain ⟨c2,d2,st2,n2,r2⟩:=ex_run (p:=-1) (.inr rfl)
 refine Contract.of_call (VCall.of_bodyS (pt:=false) (pf:=false) hmix hq (by simp) ?_)
 simp only[go_sem,c_sclaw29_alive,VWs_seq,VWs_ret,VWs_ops,VWs_cond]
 refine ⟨_,Wk.refl _,?_⟩
 simp only[go_sem,VWs_seq,VWs_ret,VWs_ops,VWs_cond]
 refine ⟨_,Wk.refl _,?_⟩
 simp only[go_sem,VWs_seq,VWs_ret,VWs_ops,VWs_cond]
 refine VCall.of_contract plain_c (SleL.pure rfl) fun x hx=>?_
 subst hx
 simp only[go_sem,VWs_seq,VWs_ret,VWs_ops,VWs_cond]
 refine VCall.of_contractN n1 ?_ fun x hx=>?_
 ·exact ⟨_,_,rfl,Frz.pure rfl,_,_,rfl,Frz.refT (n:=0) (z:=1) (yss:=[[.ref 1 1 0 1]]) (zss:=[[ints [1]]]) (Nat.zero_le _) rfl rfl rfl rfl (by simp) rfl ⟨_,_,rfl,⟨_,_,rfl,frz_ints (l:=[1]) (Nat.zero_le _) rfl rfl,rfl⟩,rfl⟩,rfl⟩
 subst hx
 simp only[go_sem,VWs_seq,VWs_ret,VWs_ops,VWs_cond]
 refine ⟨_,Wk.refl _,?_⟩
 simp only[go_sem,VWs_seq,VWs_ret,VWs_ops,VWs_cond]
 refine VCall.of_contract plain_c (SleL.pure rfl) fun x hx=>?_
 subst hx
 simp only[go_sem,VWs_seq,VWs_ret,VWs_ops,VWs_cond]
 refine VCall.of_contractN n2 ?_ fun x hx=>?_
 ·exact ⟨_,_,rfl,Frz.pure rfl,_,_,rfl,Frz.refT (n:=0) (z:=1) (yss:=[[.ref 4 4 0 1]]) (zss:=[[ints [-1]]]) (Nat.zero_le _) rfl rfl rfl rfl (by simp) rfl ⟨_,_,rfl,⟨_,_,rfl,frz_ints (l:=[-1]) (Nat.zero_le _) rfl rfl,rfl⟩,rfl⟩,rfl⟩
 subst hx
 simp only[go_sem,VWs_seq,VWs_ret,VWs_ops,VWs_cond,Int.reduceEq,Int.reduceBEq]
 refine ⟨_,Wk.refl _,?_⟩
 simp only[go_sem,VWs_seq,VWs_ret,VWs_ops,VWs_cond,Int.reduceEq,Int.reduceBEq]
 refine ECall.of r1 (SleL.pure rfl) ⟨_,fun _=>Iff.rfl⟩ fun x hx=>?_
 subst hx
 simp only[go_sem,VWs_seq,VWs_ret,VWs_ops,VWs_cond,Int.reduceEq,Int.reduceBEq,beq_self_eq_true,decide_true,Bool.and_self]
 refine ECall.of (ends_same 1 ⟨#[65]⟩ st1 0) (SleL.pure rfl) ⟨_,fun _=>Iff.rfl⟩ fun x hx=>?_
 subst hx
 simp only[go_sem,VWs_seq,VWs_ret,VWs_ops,VWs_cond,Int.reduceEq,Int.reduceBEq,beq_self_eq_true,decide_true,Bool.and_self]
 refine ECall.of r2 (SleL.pure rfl) ⟨_,fun _=>Iff.rfl⟩ fun x hx=>?_
 subst hx
 simp only[go_sem,VWs_seq,VWs_ret,VWs_ops,VWs_cond,Int.reduceEq,Int.reduceBEq,beq_self_eq_true,decide_true,Bool.and_self]
 refine ECall.of (ends_same 1 ⟨#[65]⟩ st2 0) (SleL.pure rfl) ⟨_,fun _=>Iff.rfl⟩ fun x hx=>?_
 subst hx
 simp only[go_sem,VWs_seq,VWs_ret,VWs_ops,VWs_cond,Int.reduceEq,Int.reduceBEq,beq_self_eq_true,decide_true,Bool.and_self]
 refine ⟨_,Wk.refl _,?_⟩
 simp only[go_sem,VWs_seq,VWs_ret,VWs_ops,VWs_cond]
 exact ⟨_,Frz.pure rfl,rfl⟩
end Go.Proofs.Ytkbhfokbhkmfgaa
