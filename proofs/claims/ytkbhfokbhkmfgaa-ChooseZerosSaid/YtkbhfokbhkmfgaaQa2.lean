/- Which allocations hold for a small program: contracts. No condition. Images of blocks, plainly: what is written for an instruction, a block's end, a function. No condition. -/
import Derived.Test.YtkbhfokbhkmfgaaQa1
import Derived.Test.YtkbhfokbhkmfgaaUY
set_option linter.unusedVariables false
set_option linter.unusedSimpArgs false
namespace Go.Proofs.Ytkbhfokbhkmfgaa
set_option linter.unusedSimpArgs false
set_option linter.unusedVariables false
set_option maxRecDepth 10000
open Go.V
abbrev alsA (ls:List (List Int)):AV:=.imm 1 (ls.map alA)
structure HoldP (b:BP) (ls:List (List Int)):Prop where
 len:ls.length=b.funcs.length
 al:∀ i<b.funcs.length,∃ L,Least (b.funcs.getD i default) L∧AllocP (b.funcs.getD i default) L (ls.getD i default) 8
theorem HoldP.wds {b:BP} {ls:List (List Int)} (h:HoldP b ls):∀ i<ls.length,0≤wdsI (ls.getD i default)∧wdsI (ls.getD i default)≤4000:=fun i hi=>by
 obtain ⟨L,_,hA⟩:=h.al i (by rw[← h.len];exact hi)
 refine ⟨(wdsI_pos _).1,wdsI_le (by omega) fun v hv=>?_⟩
 have:=hA.ok v (by rw[← hA.len];exact hv)
 omega
def totW (ls:List (List Int)):Int:=(ls.map wdsI).sum
theorem totW_step (ls:List (List Int)) {k:Nat} (h:k<ls.length):totW (ls.take (k+1))=totW (ls.take k)+wdsI (ls.getD k default):=by
 unfold totW
 have e:ls.take (k+1)=ls.take k++[ls.getD k default]:=by rw[List.take_add_one];simp[List.getD,List.getElem?_eq_getElem h]
 rw[e];simp
theorem wordsL_c (ls:List (List Int)) (hl:∀ pl ∈ ls,pl.length≤140737488355328) (hls:ls.length≤20) (hw:∀ i<ls.length,0≤wdsI (ls.getD i default)∧wdsI (ls.getD i default)≤4000) :
 Contract Try.prog 18 [alsA ls] (fun r=>r=I (totW ls)):=by
 refine Contract.of_call (VCall.of_body hmix f_scref29_Words (by simp) ?_)
 simp only[go_sem,c_scref29_Words]
 refine VW_loop (fun k:Nat=>⟨[(0,alsA ls),(3,I (totW (ls.take k))),(4,I k)],[],0⟩)
  (fun k=>k≤ls.length∧0≤totW (ls.take k)∧totW (ls.take k)≤4000*k) (fun k=>ls.length-k) 0
  (Wk.mk (by simp[get_cons,totW]) ⟨[],rfl⟩ (Nat.le_refl _)) ⟨Nat.zero_le _,by simp[totW],by simp[totW]⟩ ?_
 rintro k ⟨hk,h0,h1⟩
 by_cases hlt:k<ls.length
 ·have hst:=totW_step ls hlt
  have hwk:=hw k hlt
  simp only[go_sem,eq_true (show (k:Int)<ls.length by omega)]
  repeat ((with_reducible refine And.intro ?_ ?_);· first | omega | (simp;omega))
  refine VCall.of_contract (rwords_c _ (hl _ (mem_getD hlt))) (SleL.pure rfl) fun x hx=>?_
  subst hx
  simp only[go_sem]
  rw[i64_in (n:=(k:Int)+1) (by omega) (by omega),i64_in (n:=totW (ls.take k)+_) (by omega) (by omega),← hst]
  exact ⟨k+1,⟨by omega,by omega,by omega⟩,by omega,Wk.mk (by simp[get_cons]) ⟨[],rfl⟩ (Nat.le_refl _)⟩
 ·obtain rfl:k=ls.length:=by omega
  simp only[go_sem,eq_false (show ¬ (ls.length:Int)<ls.length by omega)]
  refine ⟨_,Frz.pure rfl,?_⟩
  rw[List.take_of_length_le (Nat.le_refl _)]
structure FairP (b:BP) (ls:List (List Int)):Prop where
 few:FewP b
 hold:HoldP b ls
 wds:totW ls≤600
structure Ci where
 op:Int
 a:Int
 b:Int
 c:Int
deriving Inhabited,DecidableEq
abbrev Sy:=Ci × Option (Int × Int)
abbrev Sp:=Int × Int × Int
structure Cx where
 b:BP
 ws:List Int
 back:Int
 fn:Nat
 pl:List Int
def pY (op a b c:Int):Sy:=(⟨op,a,b,c⟩,none)
def jY (op a fn to:Int):Sy:=(⟨op,a,0,0⟩,some (fn,to))
def spotL:Nat→List Sy→List Sp
 | _,[]=>[]
 | n,(_,none)::l=>spotL (n+1) l
 | n,(_,some p)::l=>((n:Int),p.1,p.2)::spotL (n+1) l
theorem spotL_append:∀ (l m:List Sy) (n:Nat),spotL n (l++m)=spotL n l++spotL (n+l.length) m
 | [],m,n=>by simp[spotL]
 | (i,none)::l,m,n=>by simp only[List.cons_append,spotL,spotL_append l m,List.length_cons];rw[show n+1+l.length=n+(l.length+1) by omega]
 | (i,some p)::l,m,n=>by simp only[List.cons_append,spotL,spotL_append l m,List.length_cons];rw[show n+1+l.length=n+(l.length+1) by omega]
theorem spotL_len:∀ (l:List Sy) (n:Nat),(spotL n l).length≤l.length
 | [],_=>by simp[spotL]
 | (i,none)::l,n=>by simp only[spotL,List.length_cons];have:=spotL_len l (n+1);omega
 | (i,some p)::l,n=>by simp only[spotL,List.length_cons];have:=spotL_len l (n+1);omega
def Cx.p (c:Cx) (v:Int):Int:=gP c.pl v.toNat
def Cx.own (c:Cx) (p:Int):Int:=gP c.ws c.fn-p-1
def fetchR (c:Cx) (v spare:Int):Int:=if 0<c.p v then c.p v else spare
def fetchY (c:Cx) (v spare:Int):List Sy:=if 0<c.p v then [] else [pY 16 spare 0 (c.own (c.p v))]
def intoR (c:Cx) (v:Int):Int:=if 0<c.p v then c.p v else 11
def keepY (c:Cx) (v r:Int):List Sy:=if c.p v<0 then [pY 17 r 0 (c.own (c.p v))] else []
def constY (c:Cx) (v n:Int):List Sy :=
 if n=0∧c.p v<0 then keepY c v 0
 else pY 1 (intoR c v) 0 (n % 65536)::((if n / 65536=0 then [] else [pY 2 (intoR c v) 0 (n / 65536)])++keepY c v (intoR c v))
def copyY (c:Cx) (d a:Int):List Sy :=
 if c.p d=c.p a then []
 else if 0<c.p d then fetchY c a (c.p d)++(if fetchR c a (c.p d)=c.p d then [] else [pY 3 (c.p d) (fetchR c a (c.p d)) 0])
 else fetchY c a 9++keepY c d (fetchR c a 9)
def insY (c:Cx) (t:Tac):List Sy :=
 if t.op=1 then constY c t.d t.n
 else if t.op=2 then copyY c t.d t.a
 else if t.op=3 then fetchY c t.a 9++fetchY c t.b 10++[pY t.k (intoR c t.d) (fetchR c t.a 9) (fetchR c t.b 10)]++keepY c t.d (intoR c t.d)
 else if t.op=4 then [pY 16 (intoR c t.d) 0 t.base]++keepY c t.d (intoR c t.d)
 else if t.op=5 then fetchY c t.a 9++[pY 17 (fetchR c t.a 9) 0 t.base]
 else if t.op=6 then fetchY c t.a 9++[pY 25 (fetchR c t.a 9) 0 t.size]++[pY 16 (intoR c t.d) (fetchR c t.a 9) t.base]++keepY c t.d (intoR c t.d)
 else if t.op=7 then fetchY c t.a 9++[pY 25 (fetchR c t.a 9) 0 t.size]++fetchY c t.b 10++[pY 17 (fetchR c t.b 10) (fetchR c t.a 9) t.base]
 else if t.op=8 then [pY 23 (intoR c t.d) 0 0]++keepY c t.d (intoR c t.d)
 else if t.op=9 then fetchY c t.a 9++[pY 24 (fetchR c t.a 9) 0 0]
 else if t.op=10 then [jY 21 12 t.base (-1)]
 else []
def endY (c:Cx) (b:Bk) (next:Int):List Sy :=
 if b.e=1 then (if b.to=next then [] else [jY 18 0 c.fn b.to])
 else if b.e=2 then
  (if b.to=next then fetchY c b.v 9++[jY 19 (fetchR c b.v 9) c.fn b.el]
   else fetchY c b.v 9++[jY 20 (fetchR c b.v 9) c.fn b.to]++(if b.el=next then [] else [jY 18 0 c.fn b.el]))
 else if b.e=3 then
  (if (c.fn:Int)=(c.b.funcs.length:Int)-1 then [pY 26 0 0 0] else [pY 16 12 0 (c.back+c.fn),pY 22 12 0 0])
 else []
def blkY (c:Cx) (b:Bk) (next:Int):List Sy:=b.ins.flatMap (insY c)++endY c b next
def blksY (c:Cx):Nat→List Bk→List Sy
 | _,[]=>[]
 | j,b::l=>blkY c b (j+1:Nat)++blksY c (j+1) l
theorem blksY_snoc (c:Cx) (b:Bk):∀ (l:List Bk) (j:Nat),blksY c j (l++[b])=blksY c j l++blkY c b (j+l.length+1:Nat)
 | [],j=>by simp[blksY]
 | x::l,j=>by
  simp only[List.cons_append,blksY,blksY_snoc c b l,List.length_cons,List.append_assoc]
  rw[show j+1+l.length+1=j+(l.length+1)+1 by omega]
def zeroY (c:Cx) (row:List Bool) (v:Nat):List Sy:=if gB row v=true then (if 0<c.p v then [pY 1 (c.p v) 0 0] else keepY c v 0) else []
def zerosY (c:Cx) (row:List Bool) (n:Nat):List Sy:=(List.range n).flatMap (zeroY c row)
theorem zerosY_succ (c:Cx) (row:List Bool) (n:Nat):zerosY c row (n+1)=zerosY c row n++zeroY c row n:=by simp[zerosY,List.range_succ]
def headY (c:Cx) (row:List Bool):List Sy:=(if (c.fn:Int)=(c.b.funcs.length:Int)-1 then [] else [pY 17 12 0 (c.back+c.fn)])++zerosY c row row.length
def funY (c:Cx) (row:List Bool) (f:BF):List Sy:=headY c row++blksY c 0 f.bks
structure CxOk (c:Cx):Prop where
 fl:c.fn<c.b.funcs.length
 fs:c.b.funcs.length≤20
 wl:c.ws.length=c.b.funcs.length
 wv:∀ i<c.ws.length,0≤gP c.ws i∧gP c.ws i≤100000
 bk:0≤c.back∧c.back≤100000
 pl:c.pl.length≤4000
 pv:∀ v<c.pl.length,(1≤gP c.pl v∧gP c.pl v≤8)∨(-4000≤gP c.pl v∧gP c.pl v≤-1)
theorem CxOk.p {c:Cx} (h:CxOk c) {v:Int} (h0:0≤v) (h1:v<c.pl.length):(1≤c.p v∧c.p v≤8)∨(-4000≤c.p v∧c.p v≤-1):=h.pv _ (by omega)
theorem CxOk.own {c:Cx} (h:CxOk c) {p:Int} (hp : -4000≤p∧p≤8) : -10≤c.own p∧c.own p≤110000:=by
 have:=h.wv c.fn (by rw[h.wl];exact h.fl)
 unfold Cx.own;omega
set_option maxRecDepth 10000
open Go.V
abbrev ciL (i:Ci):List AV:=[I i.op,I i.a,I i.b,I i.c]
abbrev spL (s:Sp):List AV:=[I s.1,I s.2.1,I s.2.2]
structure WI where
 kW:Nat
 sW:Nat
 kE:Nat
 sE:Nat
 kB:Nat
 sB:Nat
 kD:Nat
 sD:Nat
abbrev wrL (b:BP) (back fn:Int) (plv:AV) (q:WI) (cv pv:AV):List AV :=
 [I b.words,.imm 2 (b.funcs.map bfA),cv,pv,.ref q.kE q.sE 0 b.funcs.length,.ref q.kB q.sB 0 b.funcs.length,.ref q.kD q.sD 0 b.funcs.length,I back,I fn,plv]
def CV (H:List VObj) (ty sz:Nat) (cv:AV) (cs:List AV) (n:Nat):Prop:=∃ k s,cv = .ref k s 0 n∧H[k]? = some ⟨s,ty,sz,cs⟩
structure WH (b:BP) (ws:List Int) (back fn:Int) (plv:AV) (q:WI) (H:List VObj) (code:List Ci) (sp:List Sp) (en:List Int) (bl:List AV):Prop where
 w:∃ cv pv,H[q.kW]? = some ⟨q.sW,75,1,wrL b back fn plv q cv pv⟩∧CV H 115 4 cv (code.map ciL).flatten code.length∧CV H 113 3 pv (sp.map spL).flatten sp.length
 e:H[q.kE]? = some ⟨q.sE,3,1,en.map I⟩
 b:H[q.kB]? = some ⟨q.sB,53,1,bl⟩
 d:H[q.kD]? = some ⟨q.sD,3,1,ws.map I⟩
abbrev wT:List Nat:=[75,115,113]
theorem CV.keep {H H':List VObj} {ty sz:Nat} {cv:AV} {cs:List AV} {n:Nat} {ts:List Nat} (h:CV H ty sz cv cs n) (k:KeepT ts H H') (ht:ty ∉ ts):CV H' ty sz cv cs n:=by
 obtain ⟨i,s,h1,h2⟩:=h
 exact ⟨i,s,h1,k _ _ h2 ht⟩
theorem CV.one {H:List VObj} {ty sz:Nat} {cv:AV} {cs:List AV} {n:Nat} (h:CV H ty sz cv cs n):cv.one=true:=by
 obtain ⟨_,_,h,_⟩:=h;rw[h];rfl
theorem sz_flat {α:Type} (f:α→List AV) (n:Nat) (hf:∀ a,(f a).length=n):∀ l:List α,(l.map f).flatten.length=l.length*n
 | []=>by simp
 | a::l=>by simp only[List.map_cons,List.flatten_cons,List.length_append,hf,sz_flat f n hf l,List.length_cons];rw[Nat.add_mul];omega
theorem ap_old {H:List VObj} {k:Nat} {a:VObj} (h:H[k]? = some a) (R:List VObj):(H++R)[k]? = some a:=by rw[List.getElem?_append_left (List.getElem?_eq_some_iff.1 h).1];exact h
theorem ap_new (H:List VObj) (x y:VObj):(H++[x]++[y])[H.length+1]? = some y:=by rw[List.getElem?_append_right (by simp)];simp
theorem grow_old {H:List VObj} {kW k:Nat} {w w' x y z:VObj} (hw:H[kW]? = some w) (hk:H[k]? = some z) (hn:k≠kW) {ts:List Nat} (ht:w.ty ∈ ts) (hz:z.ty ∈ ts) :
 (((H++[x]).set k y).set kW w')[kW]? = some w'∧(((H++[x]).set k y).set kW w')[k]? = some y∧KeepT ts H (((H++[x]).set k y).set kW w'):=by
 have h1:(H++[x])[k]? = some z:=ap_old hk _
 have h2:((H++[x]).set k y)[kW]? = some w:=by rw[set_ne hn];exact ap_old hw _
 refine ⟨set_get h2,?_,((KeepT.app _ _ _).trans (KeepT.set h1 hz)).trans (KeepT.set h2 ht)⟩
 rw[set_ne (fun e=>hn e.symm)];exact set_get h1
theorem WH.grown {b:BP} {ws:List Int} {back fn:Int} {plv:AV} {q:WI} {H H':List VObj} {code code':List Ci} {sp sp':List Sp} {en:List Int} {bl:List AV} (h:WH b ws back fn plv q H code sp en bl) {cv pv:AV} {ts:List Nat}
 (hw:H'[q.kW]? = some ⟨q.sW,75,1,wrL b back fn plv q cv pv⟩) (hc:CV H' 115 4 cv (code'.map ciL).flatten code'.length) (hp:CV H' 113 3 pv (sp'.map spL).flatten sp'.length)
 (k:KeepT ts H H') (h1:3 ∉ ts) (h2:53 ∉ ts):WH b ws back fn plv q H' code' sp' en bl :=
 ⟨⟨_,_,hw,hc,hp⟩,k _ _ h.e h1,k _ _ h.b h2,k _ _ h.d h1⟩
theorem CV.at {H:List VObj} {ty sz k s n:Nat} {cs:List AV} (h:H[k]? = some ⟨s,ty,sz,cs⟩):CV H ty sz (.ref k s 0 n) cs n:=⟨k,s,rfl,h⟩
theorem put_v {b:BP} {ws:List Int} {back fn:Int} {plv:AV} {q:WI} {H:List VObj} {code:List Ci} {sp:List Sp} {en:List Int} {bl:List AV} (hp1:plv.one=true) (h:WH b ws back fn plv q H code sp en bl) (nx:Nat) (op a bb c:Int) (hl:code.length≤1000000)
 (C:AV→List VObj→Nat→Prop) (hC:∀ r H' nx',WH b ws back fn plv q H' (code++[⟨op,a,bb,c⟩]) sp en bl→KeepT wT H H'→C r H' nx') :
 VCall Try.prog 50 [.ptr q.kW q.sW 0,I op,I a,I bb,I c] H nx C:=by
 refine VCall.of_body hmix f_choose_writer_put (by simp) ?_
 have hmx:(200000000:Nat)≤maxLen:=by decide
 obtain ⟨cv,pv,hw,hc,hp⟩:=h.w
 have l1:=lt_of hw
 have n1:=ne_len hw
 have n2:=ne_len' hw
 obtain ⟨k,s,rfl,hk⟩:=hc
 have e1:=ty_ne hk hw (by simp)
 have e2:=ty_ne hw hk (by simp)
 have l2:=lt_of hk
 simp only[go_sem,c_choose_writer_put,hw,hk,hp.one,hp1,n1,n2,l1,l2,e1,e2,List.getElem?_set,List.getElem?_append,List.length_set,List.length_append,Nat.lt_irrefl,Nat.sub_self]
 refine ⟨by omega,by omega,?_⟩
 have e:List.take (code.length*4) (code.map ciL).flatten++[I op,I a,I bb,I c]=((code++[(⟨op,a,bb,c⟩:Ci)]).map ciL).flatten:=by
  rw[List.take_of_length_le (by rw[sz_flat _ 4 (fun _=>rfl)];exact Nat.le_refl _),List.map_append,List.flatten_append];rfl
 rw[e]
 obtain ⟨g1,g2,g3⟩:=grow_old (ts:=[75,115]) (x:=⟨nx,115,4,[I op,I a,I bb,I c]⟩) (y:=⟨nx+1,115,4,((code++[(⟨op,a,bb,c⟩:Ci)]).map ciL).flatten⟩) (w':=⟨q.sW,75,1,wrL b back fn plv q (.ref k (nx+1) 0 (code.length+1)) pv⟩) hw hk (by simpa using e1) (by simp) (by simp)
 exact hC _ _ _ (h.grown (code':=code++[⟨op,a,bb,c⟩]) g1 (by rw[List.length_append];exact CV.at g2) (hp.keep g3 (by simp)) g3 (by simp) (by simp)) (g3.mono (by simp))
theorem jump_v {b:BP} {ws:List Int} {back fn:Int} {plv:AV} {q:WI} {H:List VObj} {code:List Ci} {sp:List Sp} {en:List Int} {bl:List AV} (hp1:plv.one=true) (h:WH b ws back fn plv q H code sp en bl) (nx:Nat) (op a f to:Int) (hl:code.length≤1000000) (hsl:sp.length≤1000000)
 (C:AV→List VObj→Nat→Prop) (hC:∀ r H' nx',WH b ws back fn plv q H' (code++[⟨op,a,0,0⟩]) (sp++[((code.length:Int),f,to)]) en bl→KeepT wT H H'→C r H' nx') :
 VCall Try.prog 75 [.ptr q.kW q.sW 0,I op,I a,I f,I to] H nx C:=by
 refine VCall.of_body hmix f_choose_writer_jump (by simp) ?_
 have hmx:(200000000:Nat)≤maxLen:=by decide
 obtain ⟨cv,pv,hw,hc,hp⟩:=h.w
 have l1:=lt_of hw
 have n1:=ne_len hw
 have n2:=ne_len' hw
 have main:∀ H' nx' (C':AV→List VObj→Nat→Prop),WH b ws back fn plv q H' code (sp++[((code.length:Int),f,to)]) en bl→KeepT wT H H' →
  (∀ r H2 nx2,WH b ws back fn plv q H2 (code++[⟨op,a,0,0⟩]) (sp++[((code.length:Int),f,to)]) en bl→KeepT wT H H2→C' r H2 nx2) →
  VCall Try.prog 50 [.ptr q.kW q.sW 0,I op,I a,I 0,I 0] H' nx' C':=fun H' nx' C' h' k' hh =>
  put_v hp1 h' nx' op a 0 0 hl C' fun r H2 nx2 h2 k2=>hh r H2 nx2 h2 (k'.trans k2)
 obtain ⟨k,s,rfl,hk⟩:=hp
 have e1:=ty_ne hk hw (by simp)
 have e2:=ty_ne hw hk (by simp)
 have l2:=lt_of hk
 have e:List.take (sp.length*3) (sp.map spL).flatten++[I (code.length:Int),I f,I to]=((sp++[((code.length:Int),f,to)]).map spL).flatten:=by
  rw[List.take_of_length_le (by rw[sz_flat _ 3 (fun _=>rfl)];exact Nat.le_refl _),List.map_append,List.flatten_append];rfl
 have old:∀ cv',H[q.kW]? = some ⟨q.sW,75,1,wrL b back fn plv q cv' (.ref k s 0 sp.length)⟩→CV H 115 4 cv' (code.map ciL).flatten code.length→∀ (x y:VObj) s',y=⟨s',113,3,((sp++[((code.length:Int),f,to)]).map spL).flatten⟩ →
  WH b ws back fn plv q (((H++[x]).set k y).set q.kW ⟨q.sW,75,1,wrL b back fn plv q cv' (.ref k s' 0 (sp.length+1))⟩) code (sp++[((code.length:Int),f,to)]) en bl∧KeepT wT H (((H++[x]).set k y).set q.kW ⟨q.sW,75,1,wrL b back fn plv q cv' (.ref k s' 0 (sp.length+1))⟩):=fun cv' hw' hc' x y s' hy=>by
  subst hy
  obtain ⟨g1,g2,g3⟩:=grow_old (ts:=[75,113]) (x:=x) (y:=⟨s',113,3,((sp++[((code.length:Int),f,to)]).map spL).flatten⟩) (w':=⟨q.sW,75,1,wrL b back fn plv q cv' (.ref k s' 0 (sp.length+1))⟩) hw' hk (by simpa using e1) (by simp) (by simp)
  exact ⟨h.grown (sp':=sp++[((code.length:Int),f,to)]) g1 (hc'.keep g3 (by simp)) (by rw[List.length_append];exact CV.at g2) g3 (by simp) (by simp),g3.mono (by simp)⟩
 obtain ⟨k2,s2,rfl,hk2⟩:=hc
 simp only[go_sem,c_choose_writer_jump,hw,hk,hk2,hp1,n1,n2,l1,l2,e1,e2,List.getElem?_set,List.getElem?_append,List.length_set,List.length_append,Nat.lt_irrefl,Nat.sub_self]
 refine ⟨by omega,by omega,?_⟩
 obtain ⟨g1,g2⟩:=old _ hw (CV.at hk2) ⟨nx,113,3,[I (code.length:Int),I f,I to]⟩ ⟨nx+1,113,3,List.take (sp.length*3) (sp.map spL).flatten++[I (code.length:Int),I f,I to]⟩ (nx+1) (by rw[← e])
 refine main _ _ _ g1 g2 fun r H2 nx2 h2 k2=>?_
 simp only[go_sem]
 exact hC _ _ _ h2 k2
set_option maxRecDepth 10000
open Go.V
abbrev WC (c:Cx) (q:WI) (H:List VObj) (l:List Sy) (en:List Int) (bl:List AV):Prop:=WH c.b c.ws c.back c.fn (ints c.pl) q H (l.map (·.1)) (spotL 0 l) en bl
section
variable {c:Cx} {q:WI} {H:List VObj} {l:List Sy} {en:List Int} {bl:List AV}
theorem putY_v (h:WC c q H l en bl) (hl:l.length≤1000000) (nx:Nat) (op a b d:Int) (C:AV→List VObj→Nat→Prop)
 (hC:∀ r H' nx',WC c q H' (l++[pY op a b d]) en bl→KeepT wT H H'→C r H' nx'):VCall Try.prog 50 [.ptr q.kW q.sW 0,I op,I a,I b,I d] H nx C :=
 put_v rfl h nx op a b d (by simpa using hl) C fun r H' nx' h1 h2=>hC r H' nx' (by
  unfold WC
  rw[spotL_append,List.map_append]
  simpa [pY,spotL] using h1) h2
theorem jumpY_v (h:WC c q H l en bl) (hl:l.length≤1000000) (nx:Nat) (op a fn to:Int) (C:AV→List VObj→Nat→Prop)
 (hC:∀ r H' nx',WC c q H' (l++[jY op a fn to]) en bl→KeepT wT H H'→C r H' nx'):VCall Try.prog 75 [.ptr q.kW q.sW 0,I op,I a,I fn,I to] H nx C :=
 jump_v rfl h nx op a fn to (by simpa using hl) (by have:=spotL_len l 0;omega) C fun r H' nx' h1 h2=>hC r H' nx' (by
  unfold WC
  rw[spotL_append,List.map_append]
  simpa [jY,spotL] using h1) h2
theorem p_nat (c:Cx) (v:Nat):c.p (v:Int)=gP c.pl v:=by simp[Cx.p]
theorem own_v (h:WC c q H l en bl) (hk:CxOk c) (nx:Nat) {p:Int} (hp : -4000≤p∧p≤8) (C:AV→List VObj→Nat→Prop) (hC:∀ nx',C (I (c.own p)) H nx') :
 VCall Try.prog 70 [.ptr q.kW q.sW 0,I p] H nx C:=by
 refine VCall.of_body hmix f_choose_writer_own (by simp) ?_
 obtain ⟨cv,pv,hw,hc,hp'⟩:=h.w
 have hd:=h.d
 have hwv:=hk.wv c.fn (by rw[hk.wl];exact hk.fl)
 have hfl:=hk.fl
 have hwl:=hk.wl
 have h20:=hk.fs
 have e:c.own p=gP c.ws c.fn-p-1:=rfl
 have w1:IntKind.i64.wrap (gP c.ws c.fn-p)=gP c.ws c.fn-p:=i64_in (by omega) (by omega)
 have w2:IntKind.i64.wrap (gP c.ws c.fn-p-1)=c.own p:=by rw[i64_in (by omega) (by omega),e]
 have g:c.ws.getD c.fn default=gP c.ws c.fn:=rfl
 simp only[go_sem,c_choose_writer_own,hw,hd,hc.one,hp'.one,g,w1,w2]
 repeat ((with_reducible refine And.intro ?_ ?_);· first | omega | (simp;omega))
 exact hC _
theorem fetch_v (h:WC c q H l en bl) (hk:CxOk c) (hl:l.length≤900000) (nx:Nat) {v:Int} (spare:Int) (hv:0≤v∧v<c.pl.length) (C:AV→List VObj→Nat→Prop)
 (hC:∀ H' nx',WC c q H' (l++fetchY c v spare) en bl→KeepT wT H H'→C (I (fetchR c v spare)) H' nx'):VCall Try.prog 71 [.ptr q.kW q.sW 0,I v,I spare] H nx C:=by
 refine VCall.of_body hmix f_choose_writer_fetch (by simp) ?_
 obtain ⟨n,rfl⟩:=Int.eq_ofNat_of_zero_le hv.1
 obtain ⟨cv,pv,hw,hc,hp⟩:=h.w
 have h40:=hk.pl
 have hpp:=hk.pv n (by omega)
 have g:c.pl.getD n default=gP c.pl n:=rfl
 unfold fetchY fetchR at hC
 rw[p_nat]at hC
 by_cases h1:0<gP c.pl n
 ·rw[if_pos h1,if_pos h1,List.append_nil]at hC
  simp only[go_sem,c_choose_writer_fetch,hw,hc.one,hp.one,g,eq_true h1]
  repeat ((with_reducible refine And.intro ?_ ?_);· first | omega | (simp;omega))
  exact hC _ _ h (KeepT.refl _ _)
 ·rw[if_neg h1,if_neg h1]at hC
  simp only[go_sem,c_choose_writer_fetch,hw,hc.one,hp.one,g,eq_false h1]
  repeat ((with_reducible refine And.intro ?_ ?_);· first | omega | (simp;omega))
  refine own_v h hk _ (by omega) _ fun nx'=>?_
  simp only[go_sem]
  refine putY_v h (by omega) _ _ _ _ _ _ fun r H' nx' h2 k2=>?_
  simp only[go_sem]
  exact hC _ _ h2 k2
theorem into_v (h:WC c q H l en bl) (hk:CxOk c) (nx:Nat) {v:Int} (hv:0≤v∧v<c.pl.length) (C:AV→List VObj→Nat→Prop)
 (hC:∀ nx',C (I (intoR c v)) H nx'):VCall Try.prog 74 [.ptr q.kW q.sW 0,I v] H nx C:=by
 refine VCall.of_body hmix f_choose_writer_into (by simp) ?_
 obtain ⟨n,rfl⟩:=Int.eq_ofNat_of_zero_le hv.1
 obtain ⟨cv,pv,hw,hc,hp⟩:=h.w
 have h40:=hk.pl
 have g:c.pl.getD n default=gP c.pl n:=rfl
 unfold intoR at hC
 rw[p_nat]at hC
 by_cases h1:0<gP c.pl n
 ·rw[if_pos h1]at hC
  simp only[go_sem,c_choose_writer_into,hw,hc.one,hp.one,g,eq_true h1]
  repeat ((with_reducible refine And.intro ?_ ?_);· first | omega | (simp;omega))
  exact hC _
 ·rw[if_neg h1]at hC
  simp only[go_sem,c_choose_writer_into,hw,hc.one,hp.one,g,eq_false h1]
  repeat ((with_reducible refine And.intro ?_ ?_);· first | omega | (simp;omega))
  exact hC _
theorem keep_v (h:WC c q H l en bl) (hk:CxOk c) (hl:l.length≤900000) (nx:Nat) {v:Int} (r:Int) (hv:0≤v∧v<c.pl.length) (C:AV→List VObj→Nat→Prop)
 (hC:∀ x H' nx',WC c q H' (l++keepY c v r) en bl→KeepT wT H H'→C x H' nx'):VCall Try.prog 51 [.ptr q.kW q.sW 0,I v,I r] H nx C:=by
 refine VCall.of_body hmix f_choose_writer_keep (by simp) ?_
 obtain ⟨n,rfl⟩:=Int.eq_ofNat_of_zero_le hv.1
 obtain ⟨cv,pv,hw,hc,hp⟩:=h.w
 have h40:=hk.pl
 have hpp:=hk.pv n (by omega)
 have g:c.pl.getD n default=gP c.pl n:=rfl
 unfold keepY at hC
 rw[p_nat]at hC
 by_cases h1:gP c.pl n<0
 ·rw[if_pos h1]at hC
  simp only[go_sem,c_choose_writer_keep,hw,hc.one,hp.one,g,eq_true h1]
  repeat ((with_reducible refine And.intro ?_ ?_);· first | omega | (simp;omega))
  refine own_v h hk _ (by omega) _ fun nx'=>?_
  simp only[go_sem]
  refine putY_v h (by omega) _ _ _ _ _ _ fun r H' nx' h2 k2=>?_
  simp only[go_sem]
  exact hC _ _ _ h2 k2
 ·rw[if_neg h1,List.append_nil]at hC
  simp only[go_sem,c_choose_writer_keep,hw,hc.one,hp.one,g,eq_false h1]
  repeat ((with_reducible refine And.intro ?_ ?_);· first | omega | (simp;omega))
  exact hC _ _ _ h (KeepT.refl _ _)
end
def In32 (n:Int):Prop:=0≤n∧n<4294967296
theorem w32_in {n:Int} (h:In32 n):IntKind.u32.wrap n=n:=by
 rw[IntKind.wrap_u32];have:=h.1;have:=h.2;omega
theorem w32_ok (n:Int):In32 (IntKind.u32.wrap n):=by
 rw[IntKind.wrap_u32];constructor<;>omega
def bitsN (x n:Nat):List Int:=(List.range n).map fun i=>((x / 2 ^ i % 2:Nat):Int)
theorem bitsN_length (x n:Nat):(bitsN x n).length=n:=by simp[bitsN]
theorem bitsN_get {x n i:Nat} (h:i<n):(bitsN x n).getD i default=((x / 2 ^ i % 2:Nat):Int):=by simp[bitsN,List.getD,h]
theorem bitsN_succ (x n:Nat):bitsN x (n+1)=bitsN x n++[((x / 2 ^ n % 2:Nat):Int)]:=by simp[bitsN,List.range_succ]
theorem bitsN_cons (x n:Nat):bitsN x (n+1)=((x % 2:Nat):Int)::bitsN (x / 2) n:=by
 simp only[bitsN,List.range_succ_eq_map,List.map_cons,List.map_map,Nat.pow_zero,Nat.div_one]
 congr 1
 refine List.map_congr_left fun i _=>?_
 simp only[Function.comp,Nat.pow_succ,Nat.div_div_eq_div_mul]
 rw[Nat.mul_comm]
def numN:List Int→Nat
 | []=>0
 | b::l=>b.toNat+2*numN l
theorem numN_bits:∀ (n x:Nat),numN (bitsN x n)=x % 2 ^ n
 | 0,x=>by simp[bitsN,numN,Nat.mod_one]
 | n+1,x=>by
  rw[bitsN_cons,numN,numN_bits n,Int.toNat_natCast,Nat.pow_succ,Nat.mul_comm (2 ^ n) 2,Nat.mod_mul]
theorem bit_and (x y i:Nat):(x &&& y) / 2 ^ i % 2=if x / 2 ^ i % 2+y / 2 ^ i % 2=2 then 1 else 0:=by
 have h:=Nat.testBit_and x y i
 simp only[Nat.testBit_eq_decide_div_mod_eq]at h
 have h1:=Nat.mod_two_eq_zero_or_one (x / 2 ^ i)
 have h2:=Nat.mod_two_eq_zero_or_one (y / 2 ^ i)
 have h3:=Nat.mod_two_eq_zero_or_one ((x &&& y) / 2 ^ i)
 rcases h1 with h1 | h1<;>rcases h2 with h2 | h2<;>rcases h3 with h3 | h3<;>simp_all
theorem bit_or (x y i:Nat):(x ||| y) / 2 ^ i % 2=if x / 2 ^ i % 2+y / 2 ^ i % 2=0 then 0 else 1:=by
 have h:=Nat.testBit_or x y i
 simp only[Nat.testBit_eq_decide_div_mod_eq]at h
 have h1:=Nat.mod_two_eq_zero_or_one (x / 2 ^ i)
 have h2:=Nat.mod_two_eq_zero_or_one (y / 2 ^ i)
 have h3:=Nat.mod_two_eq_zero_or_one ((x ||| y) / 2 ^ i)
 rcases h1 with h1 | h1<;>rcases h2 with h2 | h2<;>rcases h3 with h3 | h3<;>simp_all
theorem bit_xor (x y i:Nat):(x ^^^ y) / 2 ^ i % 2=if x / 2 ^ i % 2+y / 2 ^ i % 2=1 then 1 else 0:=by
 have h:=Nat.testBit_xor x y i
 simp only[Nat.testBit_eq_decide_div_mod_eq]at h
 have h1:=Nat.mod_two_eq_zero_or_one (x / 2 ^ i)
 have h2:=Nat.mod_two_eq_zero_or_one (y / 2 ^ i)
 have h3:=Nat.mod_two_eq_zero_or_one ((x ^^^ y) / 2 ^ i)
 rcases h1 with h1 | h1<;>rcases h2 with h2 | h2<;>rcases h3 with h3 | h3<;>simp_all
theorem bv32 {a:Int} (h:In32 a):(BitVec.ofInt IntKind.u32.bits a).toNat=a.toNat:=by
 show (BitVec.ofInt 32 a).toNat=a.toNat
 rw[BitVec.toNat_ofInt]
 obtain ⟨h1,h2⟩:=h
 omega
theorem andW_eq {a b:Int} (ha:In32 a) (hb:In32 b):andW a b=((a.toNat &&& b.toNat:Nat):Int):=by
 unfold andW
 rw[BitVec.toNat_and,bv32 ha,bv32 hb]
 refine w32_in ⟨by omega,?_⟩
 have:=Nat.and_lt_two_pow (n:=32) a.toNat (y:=b.toNat) (by have:=hb.2;have:=hb.1;omega)
 omega
theorem orW_eq {a b:Int} (ha:In32 a) (hb:In32 b):orW a b=((a.toNat ||| b.toNat:Nat):Int):=by
 unfold orW
 rw[BitVec.toNat_or,bv32 ha,bv32 hb]
 refine w32_in ⟨by omega,?_⟩
 have:=Nat.or_lt_two_pow (n:=32) (x:=a.toNat) (y:=b.toNat) (by have:=ha.2;have:=ha.1;omega) (by have:=hb.2;have:=hb.1;omega)
 omega
theorem xorW_eq {a b:Int} (ha:In32 a) (hb:In32 b):xorW a b=((a.toNat ^^^ b.toNat:Nat):Int):=by
 unfold xorW
 rw[BitVec.toNat_xor,bv32 ha,bv32 hb]
 refine w32_in ⟨by omega,?_⟩
 have:=Nat.xor_lt_two_pow (n:=32) (x:=a.toNat) (y:=b.toNat) (by have:=ha.2;have:=ha.1;omega) (by have:=hb.2;have:=hb.1;omega)
 omega
theorem andW_mask {a:Int} (ha:In32 a) (k:Nat) (hk:k≤32):andW a ((2 ^ k-1:Nat):Int)=a % 2 ^ k:=by
 have hp:2 ^ k≤2 ^ 32:=Nat.pow_le_pow_right (by omega) hk
 have hp0:0<2 ^ k:=Nat.two_pow_pos k
 rw[andW_eq ha ⟨by omega,by omega⟩,Int.toNat_natCast,Nat.and_two_pow_sub_one_eq_mod]
 have:=ha.1
 rw[show a=((a.toNat:Nat):Int) by omega]
 simp
theorem shrW_eq {a:Int} (ha:In32 a) (k:Nat) (hk:k≤32):shrW a k=((a.toNat / 2 ^ k:Nat):Int):=by
 unfold shrW
 rw[Int.toNat_natCast,Nat.min_eq_left (by show k≤32;exact hk),Int.fdiv_eq_ediv_of_nonneg _ (by exact Int.le_of_lt (Int.pow_pos (by decide)))]
 have:=ha.1
 conv=>lhs;rw[show a=((a.toNat:Nat):Int) by omega]
 simp
theorem both_bits {op a b:Int} (ha:In32 a) (hb:In32 b) (ho:op=9∨op=10∨op=11):(applyW op a b).2=0∧In32 (applyW op a b).1∧∀ i,(applyW op a b).1.toNat / 2 ^ i % 2=if (a.toNat / 2 ^ i % 2+b.toNat / 2 ^ i % 2=2∧op≠11)∨(a.toNat / 2 ^ i % 2+b.toNat / 2 ^ i % 2=1∧op≠9) then 1 else 0:=by
 rcases ho with rfl | rfl | rfl
 ·refine ⟨rfl,w32_ok _,fun i=>?_⟩
  show (andW a b).toNat / _ % 2=_
  rw[andW_eq ha hb,Int.toNat_natCast,bit_and];simp
 ·refine ⟨rfl,w32_ok _,fun i=>?_⟩
  show (orW a b).toNat / _ % 2=_
  rw[orW_eq ha hb,Int.toNat_natCast,bit_or]
  have h1:=Nat.mod_two_eq_zero_or_one (a.toNat / 2 ^ i)
  have h2:=Nat.mod_two_eq_zero_or_one (b.toNat / 2 ^ i)
  rcases h1 with h1 | h1<;>rcases h2 with h2 | h2<;>simp[h1,h2]
 ·refine ⟨rfl,w32_ok _,fun i=>?_⟩
  show (xorW a b).toNat / _ % 2=_
  rw[xorW_eq ha hb,Int.toNat_natCast,bit_xor];simp
set_option maxRecDepth 10000
open Go.V
section
variable {c:Cx} {q:WI} {H:List VObj} {l:List Sy} {en:List Int} {bl:List AV}
theorem fetchY_len (c:Cx) (v s:Int):(fetchY c v s).length≤1:=by unfold fetchY;split<;>simp
theorem keepY_len (c:Cx) (v r:Int):(keepY c v r).length≤1:=by unfold keepY;split<;>simp
theorem constant_v (h:WC c q H l en bl) (hk:CxOk c) (hl:l.length≤800000) (nx:Nat) {v n:Int} (hv:0≤v∧v<c.pl.length) (hn:In32 n) (C:AV→List VObj→Nat→Prop)
 (hC:∀ x H' nx',WC c q H' (l++constY c v n) en bl→KeepT wT H H'→C x H' nx'):VCall Try.prog 72 [.ptr q.kW q.sW 0,I v,U32 n] H nx C:=by
 refine VCall.of_body hmix f_choose_writer_constant (by simp) ?_
 obtain ⟨h0,h1⟩:=hn
 obtain ⟨k,rfl⟩:=Int.eq_ofNat_of_zero_le hv.1
 obtain ⟨cv,pv,hw,hc,hp⟩:=h.w
 have h40:=hk.pl
 have hpp:=hk.pv k (by omega)
 have g:c.pl.getD k default=gP c.pl k:=rfl
 have m65:IntKind.u32.wrap (((BitVec.ofInt 32 n &&& BitVec.ofInt 32 65535).toNat:Nat):Int)=n % 65536:=andW_mask ⟨h0,h1⟩ 16 (by omega)
 have e16:n.fdiv (2 ^ min 16 32)=n / 65536:=Int.fdiv_eq_ediv_of_nonneg n (show (0:Int)≤65536 by omega)
 have e1:IntKind.i64.wrap (n % 65536)=n % 65536:=i64_in (by omega) (by omega)
 have e2:IntKind.i64.wrap (n / 65536)=n / 65536:=i64_in (by omega) (by omega)
 have m65c:IntKind.i64.wrap (IntKind.u32.wrap (((BitVec.ofInt 32 n &&& BitVec.ofInt 32 65535).toNat:Nat):Int))=n % 65536:=by rw[m65,e1]
 have rest:∀ (H':List VObj) (nx':Nat) (l':List Sy) (C':AV→List VObj→Nat→Prop),WC c q H' l' en bl→l'.length≤900000→KeepT wT H H'→l'++keepY c k (intoR c k)=l++constY c k n →
  (∀ x H2 nx2,WC c q H2 (l++constY c k n) en bl→KeepT wT H H2→C' x H2 nx2)→VCall Try.prog 51 [.ptr q.kW q.sW 0,I (k:Int),I (intoR c k)] H' nx' C':=fun H' nx' l' C' h' hl' kp e hh =>
  keep_v h' hk hl' nx' _ hv C' fun x H2 nx2 h2 k2=>hh x H2 nx2 (by rw[← e];exact h2) (kp.trans k2)
 have key:¬ (n=0∧gP c.pl k<0)→constY c k n=pY 1 (intoR c k) 0 (n % 65536)::((if n / 65536=0 then [] else [pY 2 (intoR c k) 0 (n / 65536)])++keepY c k (intoR c k)):=fun hh=>by
  unfold constY;rw[p_nat,if_neg hh]
 have main:¬ (n=0∧gP c.pl k<0)→∀ nx',VCall Try.prog 50 [.ptr q.kW q.sW 0,I 1,I (intoR c k),I 0,I (n % 65536)] H nx' fun _ H' nx' =>
  WC c q H' (l++[pY 1 (intoR c k) 0 (n % 65536)]) en bl∧KeepT wT H H':=fun _ nx'=>putY_v h (by omega) nx' _ _ _ _ _ fun r H' nx'' h2 k2=>⟨h2,k2⟩
 by_cases z:n=0
 ·by_cases p0:gP c.pl k<0
  ·simp only[go_sem,c_choose_writer_constant,hw,hc.one,hp.one,g,eq_true z,eq_true p0]
   repeat ((with_reducible refine And.intro ?_ ?_);· first | omega | (simp;omega))
   refine keep_v h hk (by omega) _ 0 hv _ fun x H' nx' h2 k2=>?_
   simp only[go_sem]
   exact hC _ _ _ (by unfold constY;rw[p_nat,if_pos ⟨z,p0⟩];exact h2) k2
  ·have hkey:=key fun e=>p0 e.2
   have z16:n / 65536=0:=by omega
   rw[if_pos z16]at hkey
   simp only[go_sem,c_choose_writer_constant,hw,hc.one,hp.one,g,eq_true z,eq_false p0,m65,e16,e1,e2]
   repeat ((with_reducible refine And.intro ?_ ?_);· first | omega | (simp;omega))
   refine into_v h hk _ hv _ fun nx'=>?_
   simp only[go_sem,m65,e16,e1,e2,z16,bne_self_eq_false]
   refine putY_v h (by omega) _ _ _ _ _ _ fun r H' nx' h2 k2=>?_
   simp only[go_sem,m65,e16,e1,e2,z16,bne_self_eq_false]
   have e3:∀ x,x=n % 65536→l++[pY 1 (intoR c k) 0 x]++keepY c k (intoR c k)=l++constY c k n:=by rintro _ rfl;rw[hkey];simp
   refine rest _ _ _ _ h2 (by simp;omega) k2 (e3 _ m65c) fun x H4 nx4 h4 k4=>?_
   simp only[go_sem]
   exact hC _ _ _ h4 k4
 ·have hkey:=key fun e=>z e.1
  by_cases z16:n / 65536=0
  ·rw[if_pos z16]at hkey
   simp only[go_sem,c_choose_writer_constant,hw,hc.one,hp.one,g,eq_false z,beq_false_of_ne z,m65,e16,e1,e2]
   repeat ((with_reducible refine And.intro ?_ ?_);· first | omega | (simp;omega))
   refine into_v h hk _ hv _ fun nx'=>?_
   simp only[go_sem,m65,e16,e1,e2,z16,bne_self_eq_false]
   refine putY_v h (by omega) _ _ _ _ _ _ fun r H' nx' h2 k2=>?_
   simp only[go_sem,m65,e16,e1,e2,z16,bne_self_eq_false]
   have e3:∀ x,x=n % 65536→l++[pY 1 (intoR c k) 0 x]++keepY c k (intoR c k)=l++constY c k n:=by rintro _ rfl;rw[hkey];simp
   refine rest _ _ _ _ h2 (by simp;omega) k2 (e3 _ m65c) fun x H4 nx4 h4 k4=>?_
   simp only[go_sem]
   exact hC _ _ _ h4 k4
  ·rw[if_neg z16]at hkey
   simp only[go_sem,c_choose_writer_constant,hw,hc.one,hp.one,g,eq_false z,beq_false_of_ne z,m65,e16,e1,e2]
   repeat ((with_reducible refine And.intro ?_ ?_);· first | omega | (simp;omega))
   refine into_v h hk _ hv _ fun nx'=>?_
   simp only[go_sem,m65,e16,e1,e2,eq_false z16,beq_false_of_ne z16]
   refine putY_v h (by omega) _ _ _ _ _ _ fun r H' nx' h2 k2=>?_
   simp only[go_sem,m65,e16,e1,e2,eq_false z16,beq_false_of_ne z16]
   refine putY_v h2 (by simp;omega) _ _ _ _ _ _ fun r H2 nx2 h3 k3=>?_
   simp only[go_sem,m65,e16,e1,e2,eq_false z16,beq_false_of_ne z16]
   have e3:∀ x y,x=n % 65536→y=n / 65536→l++[pY 1 (intoR c k) 0 x]++[pY 2 (intoR c k) 0 y]++keepY c k (intoR c k)=l++constY c k n:=by rintro _ _ rfl rfl;rw[hkey];simp
   refine rest _ _ _ _ h3 (by simp;omega) (k2.trans k3) (e3 _ _ m65c rfl) fun x H4 nx4 h4 k4=>?_
   simp only[go_sem]
   exact hC _ _ _ h4 k4
theorem copied_v (h:WC c q H l en bl) (hk:CxOk c) (hl:l.length≤800000) (nx:Nat) {d a:Int} (hd:0≤d∧d<c.pl.length) (ha:0≤a∧a<c.pl.length) (C:AV→List VObj→Nat→Prop)
 (hC:∀ x H' nx',WC c q H' (l++copyY c d a) en bl→KeepT wT H H'→C x H' nx'):VCall Try.prog 73 [.ptr q.kW q.sW 0,I d,I a] H nx C:=by
 refine VCall.of_body hmix f_choose_writer_copied (by simp) ?_
 obtain ⟨m,rfl⟩:=Int.eq_ofNat_of_zero_le hd.1
 obtain ⟨k,rfl⟩:=Int.eq_ofNat_of_zero_le ha.1
 obtain ⟨cv,pv,hw,hc,hp⟩:=h.w
 have h40:=hk.pl
 have g:∀ k,c.pl.getD k default=gP c.pl k:=fun _=>rfl
 have hfl:=fetchY_len c k
 unfold copyY at hC
 rw[p_nat,p_nat]at hC
 by_cases e:gP c.pl m=gP c.pl k
 ·rw[if_pos e,List.append_nil]at hC
  simp only[go_sem,c_choose_writer_copied,hw,hc.one,hp.one,g,eq_true e]
  repeat ((with_reducible refine And.intro ?_ ?_);· first | omega | (simp;omega))
  exact hC _ _ _ h (KeepT.refl _ _)
 rw[if_neg e]at hC
 by_cases p0:0<gP c.pl m
 ·rw[if_pos p0]at hC
  have hfl:=hfl (gP c.pl m)
  simp only[go_sem,c_choose_writer_copied,hw,hc.one,hp.one,g,eq_false e,beq_false_of_ne e,eq_true p0]
  repeat ((with_reducible refine And.intro ?_ ?_);· first | omega | (simp;omega))
  refine fetch_v h hk (by omega) _ _ ha _ fun H' nx' h2 k2=>?_
  by_cases e2:fetchR c k (gP c.pl m)=gP c.pl m
  ·rw[if_pos e2,List.append_nil]at hC
   simp only[go_sem,e2,bne_self_eq_false]
   exact hC _ _ _ h2 k2
  ·rw[if_neg e2,← List.append_assoc]at hC
   simp only[go_sem,eq_false e2,beq_false_of_ne e2]
   refine putY_v h2 (by simp;omega) _ _ _ _ _ _ fun r H3 nx3 h3 k3=>?_
   simp only[go_sem]
   exact hC _ _ _ h3 (k2.trans k3)
 ·rw[if_neg p0,← List.append_assoc]at hC
  have hfl:=hfl 9
  simp only[go_sem,c_choose_writer_copied,hw,hc.one,hp.one,g,eq_false e,beq_false_of_ne e,eq_false p0]
  repeat ((with_reducible refine And.intro ?_ ?_);· first | omega | (simp;omega))
  refine fetch_v h hk (by omega) _ _ ha _ fun H' nx' h2 k2=>?_
  simp only[go_sem]
  refine keep_v h2 hk (by simp;omega) _ _ hd _ fun r H3 nx3 h3 k3=>?_
  simp only[go_sem]
  exact hC _ _ _ h3 (k2.trans k3)
end
set_option maxRecDepth 10000
open Go.V
structure InsOk (c:Cx) (t:Tac):Prop where
 o:1≤t.op∧t.op≤10
 d:SetsT t→0≤t.d∧t.d<c.pl.length
 a:(t.op=2∨t.op=3∨t.op=5∨t.op=6∨t.op=7∨t.op=9)→0≤t.a∧t.a<c.pl.length
 b:(t.op=3∨t.op=7)→0≤t.b∧t.b<c.pl.length
 n:In32 t.n
section
variable {c:Cx} {q:WI} {H:List VObj} {l:List Sy} {en:List Int} {bl:List AV}
theorem WH.keep {b:BP} {ws:List Int} {back fn:Int} {plv:AV} {code:List Ci} {sp:List Sp} {H':List VObj} (h:WH b ws back fn plv q H code sp en bl) (k:KeepT [] H H'):WH b ws back fn plv q H' code sp en bl:=by
 obtain ⟨cv,pv,hw,hc,hp⟩:=h.w
 exact ⟨⟨cv,pv,k _ _ hw (by simp),hc.keep k (by simp),hp.keep k (by simp)⟩,k _ _ h.e (by simp),k _ _ h.b (by simp),k _ _ h.d (by simp)⟩
theorem instruction_v (h:WC c q H l en bl) (hk:CxOk c) (hl:l.length≤700000) (nx:Nat) {t:Tac} (ht:InsOk c t) (C:AV→List VObj→Nat→Prop)
 (hC:∀ x H' nx',WC c q H' (l++insY c t) en bl→KeepT wT H H'→C x H' nx'):VCall Try.prog 52 [.ptr q.kW q.sW 0,tacA t] H nx C:=by
 refine VCall.of_body hmix f_choose_writer_instruction (by simp) ?_
 obtain ⟨op,d,a,b,k,base,size,n⟩:=t
 have ho:=ht.o
 have hn:=ht.n
 have hd:=ht.d
 have ha:=ht.a
 have hbb:=ht.b
 simp only[SetsT]at ho hn hd ha hbb
 have hb:(H++[⟨nx,47,1,tacL ⟨op,d,a,b,k,base,size,n⟩⟩])[H.length]? = some ⟨nx,47,1,tacL ⟨op,d,a,b,k,base,size,n⟩⟩:=by simp
 have h1:WC c q (H++[⟨nx,47,1,tacL ⟨op,d,a,b,k,base,size,n⟩⟩]) l en bl:=h.keep (KeepT.app _ _ _)
 have fa:=fetchY_len c a 9
 have fb:=fetchY_len c b 10
 simp only[c_choose_writer_instruction]
 have hcs:op=1∨op=2∨op=3∨op=4∨op=5∨op=6∨op=7∨op=8∨op=9∨op=10:=by omega
 rcases hcs with rfl | rfl | rfl | rfl | rfl | rfl | rfl | rfl | rfl | rfl
 ·have e:insY c ⟨1,d,a,b,k,base,size,n⟩=constY c d n:=rfl
  replace hd:=hd (by decide)
  simp only[go_sem,List.getElem?_append,Nat.lt_irrefl,Nat.sub_self,Int.reduceEq,Int.reduceBEq]
  all_goals
   refine constant_v h1 hk (by first | omega | (simp only[List.length_append,List.length_cons,List.length_nil];omega)) _ hd hn _ fun r2 H2 nx2 h2 k2=>?_
   have b2:=k2 _ _ hb (by simp)
   simp only[go_sem,List.getElem?_append,Nat.lt_irrefl,Nat.sub_self,Int.reduceEq,Int.reduceBEq,b2]
  all_goals
   exact hC _ _ _ (by rw[e];simpa only [List.append_assoc,List.cons_append,List.nil_append] using h2) ((KeepT.app _ _ _).trans k2)
 ·have e:insY c ⟨2,d,a,b,k,base,size,n⟩=copyY c d a:=rfl
  replace hd:=hd (by decide)
  replace ha:=ha (by decide)
  simp only[go_sem,List.getElem?_append,Nat.lt_irrefl,Nat.sub_self,Int.reduceEq,Int.reduceBEq]
  all_goals
   refine copied_v h1 hk (by first | omega | (simp only[List.length_append,List.length_cons,List.length_nil];omega)) _ hd ha _ fun r2 H2 nx2 h2 k2=>?_
   have b2:=k2 _ _ hb (by simp)
   simp only[go_sem,List.getElem?_append,Nat.lt_irrefl,Nat.sub_self,Int.reduceEq,Int.reduceBEq,b2]
  all_goals
   exact hC _ _ _ (by rw[e];simpa only [List.append_assoc,List.cons_append,List.nil_append] using h2) ((KeepT.app _ _ _).trans k2)
 ·have e:insY c ⟨3,d,a,b,k,base,size,n⟩=fetchY c a 9++fetchY c b 10++[pY k (intoR c d) (fetchR c a 9) (fetchR c b 10)]++keepY c d (intoR c d):=rfl
  replace hd:=hd (by decide)
  replace ha:=ha (by decide)
  replace hbb:=hbb (by decide)
  simp only[go_sem,List.getElem?_append,Nat.lt_irrefl,Nat.sub_self,Int.reduceEq,Int.reduceBEq]
  repeat' (with_reducible apply And.intro)
  all_goals
   refine fetch_v h1 hk (by first | omega | (simp only[List.length_append,List.length_cons,List.length_nil];omega)) _ _ ha _ fun H2 nx2 h2 k2=>?_
   have b2:=k2 _ _ hb (by simp)
   simp only[go_sem,List.getElem?_append,Nat.lt_irrefl,Nat.sub_self,Int.reduceEq,Int.reduceBEq,b2]
  repeat' (with_reducible apply And.intro)
  all_goals
   refine fetch_v h2 hk (by first | omega | (simp only[List.length_append,List.length_cons,List.length_nil];omega)) _ _ hbb _ fun H3 nx3 h3 k3=>?_
   have b3:=k3 _ _ b2 (by simp)
   simp only[go_sem,List.getElem?_append,Nat.lt_irrefl,Nat.sub_self,Int.reduceEq,Int.reduceBEq,b3]
  repeat' (with_reducible apply And.intro)
  all_goals
   refine into_v h3 hk _ hd _ fun nx4=>?_
   simp only[go_sem,List.getElem?_append,Nat.lt_irrefl,Nat.sub_self,Int.reduceEq,Int.reduceBEq,b3]
  repeat' (with_reducible apply And.intro)
  all_goals
   refine putY_v h3 (by first | omega | (simp only[List.length_append,List.length_cons,List.length_nil];omega)) _ _ _ _ _ _ fun r5 H5 nx5 h5 k5=>?_
   have b5:=k5 _ _ b3 (by simp)
   simp only[go_sem,List.getElem?_append,Nat.lt_irrefl,Nat.sub_self,Int.reduceEq,Int.reduceBEq,b5]
  all_goals
   refine keep_v h5 hk (by first | omega | (simp only[List.length_append,List.length_cons,List.length_nil];omega)) _ _ hd _ fun r6 H6 nx6 h6 k6=>?_
   have b6:=k6 _ _ b5 (by simp)
   simp only[go_sem,List.getElem?_append,Nat.lt_irrefl,Nat.sub_self,Int.reduceEq,Int.reduceBEq,b6]
  all_goals
   exact hC _ _ _ (by rw[e];simpa only [List.append_assoc,List.cons_append,List.nil_append] using h6) (((((KeepT.app _ _ _).trans k2).trans k3).trans k5).trans k6)
 ·have e:insY c ⟨4,d,a,b,k,base,size,n⟩=[pY 16 (intoR c d) 0 base]++keepY c d (intoR c d):=rfl
  replace hd:=hd (by decide)
  simp only[go_sem,List.getElem?_append,Nat.lt_irrefl,Nat.sub_self,Int.reduceEq,Int.reduceBEq]
  all_goals
   refine into_v h1 hk _ hd _ fun nx2=>?_
   simp only[go_sem,List.getElem?_append,Nat.lt_irrefl,Nat.sub_self,Int.reduceEq,Int.reduceBEq,hb]
  all_goals
   refine putY_v h1 (by first | omega | (simp only[List.length_append,List.length_cons,List.length_nil];omega)) _ _ _ _ _ _ fun r3 H3 nx3 h3 k3=>?_
   have b3:=k3 _ _ hb (by simp)
   simp only[go_sem,List.getElem?_append,Nat.lt_irrefl,Nat.sub_self,Int.reduceEq,Int.reduceBEq,b3]
  all_goals
   refine keep_v h3 hk (by first | omega | (simp only[List.length_append,List.length_cons,List.length_nil];omega)) _ _ hd _ fun r4 H4 nx4 h4 k4=>?_
   have b4:=k4 _ _ b3 (by simp)
   simp only[go_sem,List.getElem?_append,Nat.lt_irrefl,Nat.sub_self,Int.reduceEq,Int.reduceBEq,b4]
  all_goals
   exact hC _ _ _ (by rw[e];simpa only [List.append_assoc,List.cons_append,List.nil_append] using h4) (((KeepT.app _ _ _).trans k3).trans k4)
 ·have e:insY c ⟨5,d,a,b,k,base,size,n⟩=fetchY c a 9++[pY 17 (fetchR c a 9) 0 base]:=rfl
  replace ha:=ha (by decide)
  simp only[go_sem,List.getElem?_append,Nat.lt_irrefl,Nat.sub_self,Int.reduceEq,Int.reduceBEq]
  repeat' (with_reducible apply And.intro)
  all_goals
   refine fetch_v h1 hk (by first | omega | (simp only[List.length_append,List.length_cons,List.length_nil];omega)) _ _ ha _ fun H2 nx2 h2 k2=>?_
   have b2:=k2 _ _ hb (by simp)
   simp only[go_sem,List.getElem?_append,Nat.lt_irrefl,Nat.sub_self,Int.reduceEq,Int.reduceBEq,b2]
  repeat' (with_reducible apply And.intro)
  all_goals
   refine putY_v h2 (by first | omega | (simp only[List.length_append,List.length_cons,List.length_nil];omega)) _ _ _ _ _ _ fun r3 H3 nx3 h3 k3=>?_
   have b3:=k3 _ _ b2 (by simp)
   simp only[go_sem,List.getElem?_append,Nat.lt_irrefl,Nat.sub_self,Int.reduceEq,Int.reduceBEq,b3]
  all_goals
   exact hC _ _ _ (by rw[e];simpa only [List.append_assoc,List.cons_append,List.nil_append] using h3) (((KeepT.app _ _ _).trans k2).trans k3)
 ·have e:insY c ⟨6,d,a,b,k,base,size,n⟩=fetchY c a 9++[pY 25 (fetchR c a 9) 0 size]++[pY 16 (intoR c d) (fetchR c a 9) base]++keepY c d (intoR c d):=rfl
  replace hd:=hd (by decide)
  replace ha:=ha (by decide)
  simp only[go_sem,List.getElem?_append,Nat.lt_irrefl,Nat.sub_self,Int.reduceEq,Int.reduceBEq]
  repeat' (with_reducible apply And.intro)
  all_goals
   refine fetch_v h1 hk (by first | omega | (simp only[List.length_append,List.length_cons,List.length_nil];omega)) _ _ ha _ fun H2 nx2 h2 k2=>?_
   have b2:=k2 _ _ hb (by simp)
   simp only[go_sem,List.getElem?_append,Nat.lt_irrefl,Nat.sub_self,Int.reduceEq,Int.reduceBEq,b2]
  repeat' (with_reducible apply And.intro)
  all_goals
   refine into_v h2 hk _ hd _ fun nx3=>?_
   simp only[go_sem,List.getElem?_append,Nat.lt_irrefl,Nat.sub_self,Int.reduceEq,Int.reduceBEq,b2]
  all_goals
   refine putY_v h2 (by first | omega | (simp only[List.length_append,List.length_cons,List.length_nil];omega)) _ _ _ _ _ _ fun r4 H4 nx4 h4 k4=>?_
   have b4:=k4 _ _ b2 (by simp)
   simp only[go_sem,List.getElem?_append,Nat.lt_irrefl,Nat.sub_self,Int.reduceEq,Int.reduceBEq,b4]
  all_goals
   refine putY_v h4 (by first | omega | (simp only[List.length_append,List.length_cons,List.length_nil];omega)) _ _ _ _ _ _ fun r5 H5 nx5 h5 k5=>?_
   have b5:=k5 _ _ b4 (by simp)
   simp only[go_sem,List.getElem?_append,Nat.lt_irrefl,Nat.sub_self,Int.reduceEq,Int.reduceBEq,b5]
  all_goals
   refine keep_v h5 hk (by first | omega | (simp only[List.length_append,List.length_cons,List.length_nil];omega)) _ _ hd _ fun r6 H6 nx6 h6 k6=>?_
   have b6:=k6 _ _ b5 (by simp)
   simp only[go_sem,List.getElem?_append,Nat.lt_irrefl,Nat.sub_self,Int.reduceEq,Int.reduceBEq,b6]
  all_goals
   exact hC _ _ _ (by rw[e];simpa only [List.append_assoc,List.cons_append,List.nil_append] using h6) (((((KeepT.app _ _ _).trans k2).trans k4).trans k5).trans k6)
 ·have e:insY c ⟨7,d,a,b,k,base,size,n⟩=fetchY c a 9++[pY 25 (fetchR c a 9) 0 size]++fetchY c b 10++[pY 17 (fetchR c b 10) (fetchR c a 9) base]:=rfl
  replace ha:=ha (by decide)
  replace hbb:=hbb (by decide)
  simp only[go_sem,List.getElem?_append,Nat.lt_irrefl,Nat.sub_self,Int.reduceEq,Int.reduceBEq]
  all_goals
   refine fetch_v h1 hk (by first | omega | (simp only[List.length_append,List.length_cons,List.length_nil];omega)) _ _ ha _ fun H2 nx2 h2 k2=>?_
   have b2:=k2 _ _ hb (by simp)
   simp only[go_sem,List.getElem?_append,Nat.lt_irrefl,Nat.sub_self,Int.reduceEq,Int.reduceBEq,b2]
  all_goals
   refine putY_v h2 (by first | omega | (simp only[List.length_append,List.length_cons,List.length_nil];omega)) _ _ _ _ _ _ fun r3 H3 nx3 h3 k3=>?_
   have b3:=k3 _ _ b2 (by simp)
   simp only[go_sem,List.getElem?_append,Nat.lt_irrefl,Nat.sub_self,Int.reduceEq,Int.reduceBEq,b3]
  repeat' (with_reducible apply And.intro)
  all_goals
   refine fetch_v h3 hk (by first | omega | (simp only[List.length_append,List.length_cons,List.length_nil];omega)) _ _ hbb _ fun H4 nx4 h4 k4=>?_
   have b4:=k4 _ _ b3 (by simp)
   simp only[go_sem,List.getElem?_append,Nat.lt_irrefl,Nat.sub_self,Int.reduceEq,Int.reduceBEq,b4]
  repeat' (with_reducible apply And.intro)
  all_goals
   refine putY_v h4 (by first | omega | (simp only[List.length_append,List.length_cons,List.length_nil];omega)) _ _ _ _ _ _ fun r5 H5 nx5 h5 k5=>?_
   have b5:=k5 _ _ b4 (by simp)
   simp only[go_sem,List.getElem?_append,Nat.lt_irrefl,Nat.sub_self,Int.reduceEq,Int.reduceBEq,b5]
  all_goals
   exact hC _ _ _ (by rw[e];simpa only [List.append_assoc,List.cons_append,List.nil_append] using h5) (((((KeepT.app _ _ _).trans k2).trans k3).trans k4).trans k5)
 ·have e:insY c ⟨8,d,a,b,k,base,size,n⟩=[pY 23 (intoR c d) 0 0]++keepY c d (intoR c d):=rfl
  replace hd:=hd (by decide)
  simp only[go_sem,List.getElem?_append,Nat.lt_irrefl,Nat.sub_self,Int.reduceEq,Int.reduceBEq]
  all_goals
   refine into_v h1 hk _ hd _ fun nx2=>?_
   simp only[go_sem,List.getElem?_append,Nat.lt_irrefl,Nat.sub_self,Int.reduceEq,Int.reduceBEq,hb]
  all_goals
   refine putY_v h1 (by first | omega | (simp only[List.length_append,List.length_cons,List.length_nil];omega)) _ _ _ _ _ _ fun r3 H3 nx3 h3 k3=>?_
   have b3:=k3 _ _ hb (by simp)
   simp only[go_sem,List.getElem?_append,Nat.lt_irrefl,Nat.sub_self,Int.reduceEq,Int.reduceBEq,b3]
  all_goals
   refine keep_v h3 hk (by first | omega | (simp only[List.length_append,List.length_cons,List.length_nil];omega)) _ _ hd _ fun r4 H4 nx4 h4 k4=>?_
   have b4:=k4 _ _ b3 (by simp)
   simp only[go_sem,List.getElem?_append,Nat.lt_irrefl,Nat.sub_self,Int.reduceEq,Int.reduceBEq,b4]
  all_goals
   exact hC _ _ _ (by rw[e];simpa only [List.append_assoc,List.cons_append,List.nil_append] using h4) (((KeepT.app _ _ _).trans k3).trans k4)
 ·have e:insY c ⟨9,d,a,b,k,base,size,n⟩=fetchY c a 9++[pY 24 (fetchR c a 9) 0 0]:=rfl
  replace ha:=ha (by decide)
  simp only[go_sem,List.getElem?_append,Nat.lt_irrefl,Nat.sub_self,Int.reduceEq,Int.reduceBEq]
  all_goals
   refine fetch_v h1 hk (by first | omega | (simp only[List.length_append,List.length_cons,List.length_nil];omega)) _ _ ha _ fun H2 nx2 h2 k2=>?_
   have b2:=k2 _ _ hb (by simp)
   simp only[go_sem,List.getElem?_append,Nat.lt_irrefl,Nat.sub_self,Int.reduceEq,Int.reduceBEq,b2]
  all_goals
   refine putY_v h2 (by first | omega | (simp only[List.length_append,List.length_cons,List.length_nil];omega)) _ _ _ _ _ _ fun r3 H3 nx3 h3 k3=>?_
   have b3:=k3 _ _ b2 (by simp)
   simp only[go_sem,List.getElem?_append,Nat.lt_irrefl,Nat.sub_self,Int.reduceEq,Int.reduceBEq,b3]
  all_goals
   exact hC _ _ _ (by rw[e];simpa only [List.append_assoc,List.cons_append,List.nil_append] using h3) (((KeepT.app _ _ _).trans k2).trans k3)
 ·have e:insY c ⟨10,d,a,b,k,base,size,n⟩=[jY 21 12 base (-1)]:=rfl
  simp only[go_sem,List.getElem?_append,Nat.lt_irrefl,Nat.sub_self,Int.reduceEq,Int.reduceBEq]
  all_goals
   refine jumpY_v h1 (by first | omega | (simp only[List.length_append,List.length_cons,List.length_nil];omega)) _ _ _ _ _ _ fun r2 H2 nx2 h2 k2=>?_
   have b2:=k2 _ _ hb (by simp)
   simp only[go_sem,List.getElem?_append,Nat.lt_irrefl,Nat.sub_self,Int.reduceEq,Int.reduceBEq,b2]
  all_goals
   exact hC _ _ _ (by rw[e];simpa only [List.append_assoc,List.cons_append,List.nil_append] using h2) ((KeepT.app _ _ _).trans k2)
end
set_option maxRecDepth 10000
open Go.V
section
variable {c:Cx} {q:WI} {H:List VObj} {l:List Sy} {en:List Int} {bl:List AV}
theorem end_v (h:WC c q H l en bl) (hk:CxOk c) (hl:l.length≤700000) (nx:Nat) {b:Bk} (next:Int) (hn:0≤next) (he:b.e=1∨b.e=2∨b.e=3) (hv:b.e=2→0≤b.v∧b.v<c.pl.length) (C:AV→List VObj→Nat→Prop)
 (hC:∀ x H' nx',WC c q H' (l++endY c b next) en bl→KeepT wT H H'→C x H' nx'):VCall Try.prog 53 [.ptr q.kW q.sW 0,bkA b,I next] H nx C:=by
 refine VCall.of_body hmix f_choose_writer_end (by simp) ?_
 obtain ⟨ins,e,v,to,el⟩:=b
 simp only at he hv
 have h20:=hk.fs
 have hbk:=hk.bk
 have hfl:=hk.fl
 have hb:(H++[⟨nx,49,1,bkL ⟨ins,e,v,to,el⟩⟩])[H.length]? = some ⟨nx,49,1,bkL ⟨ins,e,v,to,el⟩⟩:=by simp
 have h1:WC c q (H++[⟨nx,49,1,bkL ⟨ins,e,v,to,el⟩⟩]) l en bl:=h.keep (KeepT.app _ _ _)
 have k0:KeepT wT H (H++[⟨nx,49,1,bkL ⟨ins,e,v,to,el⟩⟩]):=KeepT.app _ _ _
 have fa:=fetchY_len c v 9
 have w1:IntKind.i64.wrap ((c.b.funcs.length:Int)-1)=(c.b.funcs.length:Int)-1:=i64_in (by omega) (by omega)
 have w2:IntKind.i64.wrap (c.back+c.fn)=c.back+c.fn:=i64_in (by omega) (by omega)
 obtain ⟨cv,pv,hw,hc,hp⟩:=h1.w
 simp only[c_choose_writer_end]
 rcases he with rfl | rfl | rfl
 ·by_cases e1:to=next
  ·subst e1
   have e:endY c ⟨ins,1,v,to,el⟩ to=[]:=by unfold endY;simp
   simp only[go_sem,List.getElem?_append,Nat.lt_irrefl,Nat.sub_self,Int.reduceEq,Int.reduceBEq,w1,w2,hw,hc.one,hp.one,bne_self_eq_false]
   exact hC _ _ _ (by rw[e,List.append_nil];exact h1) k0
  ·have e:endY c ⟨ins,1,v,to,el⟩ next=[jY 18 0 c.fn to]:=if_neg e1
   simp only[go_sem,List.getElem?_append,Nat.lt_irrefl,Nat.sub_self,Int.reduceEq,Int.reduceBEq,w1,w2,hw,hc.one,hp.one,eq_false e1,beq_false_of_ne e1]
   refine jumpY_v h1 (by first | omega | (simp only[List.length_append,List.length_cons,List.length_nil];omega)) _ _ _ _ _ _ fun r2 H2 nx2 h2 k2=>?_
   simp only[go_sem,List.getElem?_append,Nat.lt_irrefl,Nat.sub_self,Int.reduceEq,Int.reduceBEq]
   exact hC _ _ _ (by rw[e];exact h2) (k0.trans k2)
 ·replace hv:=hv rfl
  by_cases e1:to=next
  ·have e:endY c ⟨ins,2,v,to,el⟩ next=fetchY c v 9++[jY 19 (fetchR c v 9) c.fn el]:=if_pos e1
   simp only[go_sem,List.getElem?_append,Nat.lt_irrefl,Nat.sub_self,Int.reduceEq,Int.reduceBEq,w1,w2,hw,hc.one,hp.one]
   refine fetch_v h1 hk (by first | omega | (simp only[List.length_append,List.length_cons,List.length_nil];omega)) _ _ hv _ fun H2 nx2 h2 k2=>?_
   have b2:=k2 _ _ hb (by simp)
   obtain ⟨cv2,pv2,hw2,hc2,hp2⟩:=h2.w
   simp only[go_sem,List.getElem?_append,Nat.lt_irrefl,Nat.sub_self,Int.reduceEq,Int.reduceBEq,w1,w2,hw2,hc2.one,hp2.one,b2,eq_true e1]
   refine jumpY_v h2 (by first | omega | (simp only[List.length_append,List.length_cons,List.length_nil];omega)) _ _ _ _ _ _ fun r3 H3 nx3 h3 k3=>?_
   simp only[go_sem,List.getElem?_append,Nat.lt_irrefl,Nat.sub_self,Int.reduceEq,Int.reduceBEq]
   exact hC _ _ _ (by rw[e];simpa only [List.append_assoc] using h3) ((k0.trans k2).trans k3)
  ·simp only[go_sem,List.getElem?_append,Nat.lt_irrefl,Nat.sub_self,Int.reduceEq,Int.reduceBEq,w1,w2,hw,hc.one,hp.one]
   refine fetch_v h1 hk (by first | omega | (simp only[List.length_append,List.length_cons,List.length_nil];omega)) _ _ hv _ fun H2 nx2 h2 k2=>?_
   have b2:=k2 _ _ hb (by simp)
   obtain ⟨cv2,pv2,hw2,hc2,hp2⟩:=h2.w
   simp only[go_sem,List.getElem?_append,Nat.lt_irrefl,Nat.sub_self,Int.reduceEq,Int.reduceBEq,w1,w2,hw2,hc2.one,hp2.one,b2,eq_false e1,beq_false_of_ne e1]
   refine jumpY_v h2 (by first | omega | (simp only[List.length_append,List.length_cons,List.length_nil];omega)) _ _ _ _ _ _ fun r3 H3 nx3 h3 k3=>?_
   have b3:=k3 _ _ b2 (by simp)
   obtain ⟨cv3,pv3,hw3,hc3,hp3⟩:=h3.w
   by_cases e2:el=next
   ·have e:endY c ⟨ins,2,v,to,el⟩ next=fetchY c v 9++[jY 20 (fetchR c v 9) c.fn to]:=by
     unfold endY;simp only[Int.reduceEq,↓reduceIte,if_neg e1,if_pos e2,List.append_nil]
    simp only[go_sem,List.getElem?_append,Nat.lt_irrefl,Nat.sub_self,Int.reduceEq,Int.reduceBEq,w1,w2,hw3,hc3.one,hp3.one,b3,eq_true e2,e2,bne_self_eq_false]
    exact hC _ _ _ (by rw[e];simpa only [List.append_assoc] using h3) ((k0.trans k2).trans k3)
   ·have e:endY c ⟨ins,2,v,to,el⟩ next=fetchY c v 9++[jY 20 (fetchR c v 9) c.fn to]++[jY 18 0 c.fn el]:=by
     unfold endY;simp only[Int.reduceEq,↓reduceIte,if_neg e1,if_neg e2]
    simp only[go_sem,List.getElem?_append,Nat.lt_irrefl,Nat.sub_self,Int.reduceEq,Int.reduceBEq,w1,w2,hw3,hc3.one,hp3.one,b3,eq_false e2,beq_false_of_ne e2]
    refine jumpY_v h3 (by first | omega | (simp only[List.length_append,List.length_cons,List.length_nil];omega)) _ _ _ _ _ _ fun r4 H4 nx4 h4 k4=>?_
    simp only[go_sem,List.getElem?_append,Nat.lt_irrefl,Nat.sub_self,Int.reduceEq,Int.reduceBEq]
    exact hC _ _ _ (by rw[e];simpa only [List.append_assoc] using h4) (((k0.trans k2).trans k3).trans k4)
 ·by_cases e1:(c.fn:Int)=(c.b.funcs.length:Int)-1
  ·have e:endY c ⟨ins,3,v,to,el⟩ next=[pY 26 0 0 0]:=if_pos e1
   simp only[go_sem,List.getElem?_append,Nat.lt_irrefl,Nat.sub_self,Int.reduceEq,Int.reduceBEq,w1,w2,hw,hc.one,hp.one,eq_true e1,e1]
   refine putY_v h1 (by first | omega | (simp only[List.length_append,List.length_cons,List.length_nil];omega)) _ _ _ _ _ _ fun r2 H2 nx2 h2 k2=>?_
   simp only[go_sem,List.getElem?_append,Nat.lt_irrefl,Nat.sub_self,Int.reduceEq,Int.reduceBEq]
   exact hC _ _ _ (by rw[e];exact h2) (k0.trans k2)
  ·have e:endY c ⟨ins,3,v,to,el⟩ next=[pY 16 12 0 (c.back+c.fn),pY 22 12 0 0]:=if_neg e1
   simp only[go_sem,List.getElem?_append,Nat.lt_irrefl,Nat.sub_self,Int.reduceEq,Int.reduceBEq,w1,w2,hw,hc.one,hp.one,eq_false e1,beq_false_of_ne e1]
   refine putY_v h1 (by first | omega | (simp only[List.length_append,List.length_cons,List.length_nil];omega)) _ _ _ _ _ _ fun r2 H2 nx2 h2 k2=>?_
   have b2:=k2 _ _ hb (by simp)
   obtain ⟨cv2,pv2,hw2,hc2,hp2⟩:=h2.w
   simp only[go_sem,List.getElem?_append,Nat.lt_irrefl,Nat.sub_self,Int.reduceEq,Int.reduceBEq,w1,w2,hw2,hc2.one,hp2.one,b2]
   refine putY_v h2 (by first | omega | (simp only[List.length_append,List.length_cons,List.length_nil];omega)) _ _ _ _ _ _ fun r3 H3 nx3 h3 k3=>?_
   simp only[go_sem,List.getElem?_append,Nat.lt_irrefl,Nat.sub_self,Int.reduceEq,Int.reduceBEq]
   exact hC _ _ _ (by rw[e];simpa only [List.append_assoc,List.cons_append,List.nil_append] using h3) ((k0.trans k2).trans k3)
end
set_option maxRecDepth 10000
open Go.V
theorem insY_len (c:Cx) (t:Tac):(insY c t).length≤4:=by
 have f:=fun v s=>fetchY_len c v s
 have k:=fun v r=>keepY_len c v r
 have f1:=f t.a 9
 have f2:=f t.b 10
 have k1:=k t.d (intoR c t.d)
 have k2:=k t.d 0
 have k3:=k t.d (fetchR c t.a 9)
 have f3:=f t.a (c.p t.d)
 unfold insY constY copyY
 repeat' split
 all_goals first | omega | (simp only[List.length_append,List.length_cons,List.length_nil];omega)
theorem endY_len (c:Cx) (b:Bk) (n:Int):(endY c b n).length≤3:=by
 have f1:=fetchY_len c b.v 9
 unfold endY
 repeat' split
 all_goals first | omega | (simp only[List.length_append,List.length_cons,List.length_nil];omega)
theorem flatMap_len {α β:Type} (f:α→List β) (n:Nat) (hf:∀ a,(f a).length≤n):∀ l:List α,(l.flatMap f).length≤n*l.length
 | []=>by simp
 | a::l=>by
  have:=hf a
  have:=flatMap_len f n hf l
  simp only[List.flatMap_cons,List.length_append,List.length_cons]
  rw[Nat.mul_add];omega
theorem blkY_len (c:Cx) (b:Bk) (n:Int):(blkY c b n).length≤4*(b.ins.length+1):=by
 have h1:=endY_len c b n
 have h2:=flatMap_len (insY c) 4 (insY_len c) b.ins
 unfold blkY
 rw[List.length_append];omega
theorem blksY_len (c:Cx):∀ (l:List Bk) (j:Nat),(blksY c j l).length≤4*cntB l
 | [],_=>by simp[blksY,cntB]
 | b::l,j=>by
  have h1:=blkY_len c b (j+1:Nat)
  have h2:=blksY_len c l (j+1)
  simp only[blksY,List.length_append,cntB,List.map_cons,List.sum_cons]at h2 ⊢
  omega
theorem zeroY_len (c:Cx) (row:List Bool) (v:Nat):(zeroY c row v).length≤1:=by
 have:=keepY_len c v 0
 unfold zeroY
 repeat' split
 all_goals first | omega | (simp only[List.length_append,List.length_cons,List.length_nil];omega)
theorem zerosY_len (c:Cx) (row:List Bool) (n:Nat):(zerosY c row n).length≤n:=by
 have:=flatMap_len (zeroY c row) 1 (zeroY_len c row) (List.range n)
 unfold zerosY
 simpa using this
theorem headY_len (c:Cx) (row:List Bool):(headY c row).length≤row.length+1:=by
 have:=zerosY_len c row row.length
 unfold headY
 split<;>simp only[List.length_append,List.length_cons,List.length_nil]<;>omega
theorem cntB_take (l:List Bk) (k:Nat):cntB (l.take k)≤cntB l:=by
 conv=>rhs;rw[← List.take_append_drop k l]
 unfold cntB
 rw[List.map_append,List.sum_append];omega
def KeepF (q:WI) (H H':List VObj):Prop:=∀ (i:Nat) (ob:VObj),H[i]? = some ob→ob.ty ∉ wT→i≠q.kE→i≠q.kB→H'[i]? = some ob
theorem KeepF.of {q:WI} {H H':List VObj} (h:KeepT wT H H'):KeepF q H H':=fun i ob h1 h2 _ _=>h i ob h1 h2
theorem KeepF.trans {q:WI} {A B C:List VObj} (h:KeepF q A B) (k:KeepF q B C):KeepF q A C:=fun i ob h1 h2 h3 h4=>k i ob (h i ob h1 h2 h3 h4) h2 h3 h4
def tailC:Nat→VC→VC
 | n+1,.seq _ y=>tailC n y
 | _,c=>c
structure FnOk (c:Cx) (f:BF):Prop where
 fe:c.b.funcs.getD c.fn default=f
 fi:Fine f
 pl:c.pl.length=f.r
 n:cntB f.bks≤1000
 ins:∀ b ∈ f.bks,(∀ t ∈ b.ins,InsOk c t)∧(b.e=1∨b.e=2∨b.e=3)∧(b.e=2→0≤b.v∧b.v<c.pl.length)
def rowJ (c:Cx) (n0:Nat) (bks:List Bk) (j:Nat):List Int:=(List.range bks.length).map fun i=>if i<j then ((n0+(blksY c 0 (bks.take i)).length:Nat):Int) else 0
theorem rowJ_set (c:Cx) (n0:Nat) (bks:List Bk) {j:Nat} (hj:j<bks.length):(rowJ c n0 bks j).set j ((n0+(blksY c 0 (bks.take j)).length:Nat):Int)=rowJ c n0 bks (j+1):=by
 refine List.ext_getElem (by simp[rowJ]) fun i h1 h2=>?_
 rw[List.getElem_set]
 simp only[rowJ,List.getElem_map,List.getElem_range]
 by_cases e:j=i
 ·subst e;rw[if_pos rfl,if_pos (by omega)]
 ·rw[if_neg e]
  by_cases h:i<j
  ·rw[if_pos h,if_pos (by omega)]
  ·rw[if_neg h,if_neg (by omega)]
theorem rowJ_len (c:Cx) (n0:Nat) (bks:List Bk) (j:Nat):(rowJ c n0 bks j).length=bks.length:=by simp[rowJ]
structure LQ where
 j:Nat
 H:List VObj
 nx:Nat
def KeepR (kr:Nat) (H H':List VObj):Prop:=∀ (i:Nat) (ob:VObj),H[i]? = some ob→ob.ty ∉ wT→i≠kr→H'[i]? = some ob
theorem KeepR.refl (kr:Nat) (H:List VObj):KeepR kr H H:=fun _ _ h _ _=>h
theorem KeepR.trans {kr:Nat} {A B C:List VObj} (h:KeepR kr A B) (k:KeepR kr B C):KeepR kr A C:=fun i ob h1 h2 h3=>k i ob (h i ob h1 h2 h3) h2 h3
theorem KeepR.of {kr:Nat} {H H':List VObj} (h:KeepT wT H H'):KeepR kr H H':=fun i ob h1 h2 _=>h i ob h1 h2
theorem KeepR.set (kr:Nat) (H:List VObj) (o:VObj):KeepR kr H (H.set kr o):=fun i ob h1 _ h3=>by rw[set_ne (fun e=>h3 e.symm)];exact h1
theorem WH.keepR {b:BP} {ws:List Int} {back fn:Int} {plv:AV} {q:WI} {H:List VObj} {code:List Ci} {sp:List Sp} {en:List Int} {bl:List AV} (h:WH b ws back fn plv q H code sp en bl) {k:Nat} {o:VObj} {s:Nat} {cs:List AV} (ho:H[k]? = some ⟨s,3,1,cs⟩) (hE:k≠q.kE) (hD:k≠q.kD):WH b ws back fn plv q (H.set k o) code sp en bl:=by
 obtain ⟨cv,pv,hw,hc,hp⟩:=h.w
 have t:∀ {i:Nat} {ob:VObj},H[i]? = some ob→ob.ty≠3→(H.set k o)[i]? = some ob:=fun {i ob} h1 h2=>by
  rw[set_ne (fun e=>by subst e;rw[ho]at h1;cases h1;exact h2 rfl)];exact h1
 have cvk:∀ {ty sz:Nat} {v:AV} {xs:List AV} {n:Nat},CV H ty sz v xs n→ty≠3→CV (H.set k o) ty sz v xs n:=fun {ty sz v xs n} h1 h2=>by
  obtain ⟨i,s,e1,e2⟩:=h1
  exact ⟨i,s,e1,t e2 h2⟩
 exact ⟨⟨cv,pv,t hw (by simp),cvk hc (by decide),cvk hp (by decide)⟩,by rw[set_ne hE];exact h.e,t h.b (by simp),by rw[set_ne hD];exact h.d⟩
set_option maxRecDepth 10000
open Go.V
theorem cellT_at {cs:List AV} {i:Nat} {v:AV} (hi:i<cs.length) (hv:v.one=true) (e:cs.getD i .dead=v) {C:AV→Prop}:cellT cs i false 1 C .mk=C v:=by
 show (partOK cs i false 1∧C (partA cs i false 1))=C v
 unfold partOK partA
 rw[e]
 simp[hv]
 intro _;omega
set_option maxHeartbeats 1000000 in
theorem fun_E {c:Cx} {q:WI} {H0:List VObj} {l0:List Sy} {en:List Int} {bl:List AV} {f:BF} (h:WC c q H0 l0 en bl) (hk:CxOk c) (hf:FnOk c f) (hl:l0.length≤200000) {kr sr kF sF:Nat} (hbl:bl.getD c.fn .dead = .ref kr sr 0 f.bks.length) (hbn:c.fn<bl.length) (hb1:∀ x ∈ bl,x.one=true)
 (hr:H0[kr]? = some ⟨sr,3,1,(rowJ c l0.length f.bks 0).map I⟩) (hE:kr≠q.kE) (hD:kr≠q.kD) (hF:H0[kF]? = some ⟨sF,52,1,bfL f⟩) (nx0:Nat) (C:AV→List VObj→Nat→Prop)
 (hC:∀ r H' nx',WC c q H' (l0++blksY c 0 f.bks) en bl→H'[kr]? = some ⟨sr,3,1,(rowJ c l0.length f.bks f.bks.length).map I⟩→KeepR kr H0 H'→C r H' nx') :
 VWs Try.prog (tailC 7 c_choose_writer_function) (retQ Try.prog [] C) ⟨[(0,.ptr q.kW q.sW 0),(1,I c.fn),(6,.ptr kF sF 0)],H0,nx0⟩:=by
 have hfb:=hf.fi.b1
 have h20:=hk.fs
 have hfl:=hk.fl
 obtain ⟨hfe,hfi,hpl,hn,hins⟩:=hf
 have hst:∀ j,j<f.bks.length→blksY c 0 (f.bks.take (j+1))=blksY c 0 (f.bks.take j)++blkY c (f.bks.getD j default) (j+1:Nat):=fun j hj=>by
  have e:f.bks.take (j+1)=f.bks.take j++[f.bks.getD j default]:=by rw[List.take_add_one];simp[List.getD,List.getElem?_eq_getElem hj]
  rw[e,blksY_snoc];simp[Nat.min_eq_left (Nat.le_of_lt hj)]
 have hbd:∀ j,(blksY c 0 (f.bks.take j)).length≤4000:=fun j=>by
  have:=blksY_len c (f.bks.take j) 0
  have:=cntB_take f.bks j
  omega
 simp only[tailC,c_choose_writer_function,go_sem,VWs_seq,VWs_ret,VWs_ops,VWs_cond,hF]
 refine ⟨_,Wk.refl _,?_⟩
 show VW Try.prog (.block 2 _) _ _
 simp only[go_sem]
 refine VW_loop (fun x:LQ=>⟨[(0,.ptr q.kW q.sW 0),(1,I c.fn),(6,.ptr kF sF 0),(99,bksA f.bks),(100,I f.bks.length),(101,I x.j)],x.H,x.nx⟩)
  (fun x=>x.j≤f.bks.length∧WC c q x.H (l0++blksY c 0 (f.bks.take x.j)) en bl∧x.H[kr]? = some ⟨sr,3,1,(rowJ c l0.length f.bks x.j).map I⟩∧KeepR kr H0 x.H) (fun x=>f.bks.length-x.j) ⟨0,H0,nx0⟩
  (Wk.mk (by simp[get_cons]) ⟨[],by simp⟩ (Nat.le_refl _)) ⟨Nat.zero_le _,by simpa [blksY] using h,hr,KeepR.refl _ _⟩ ?_
 rintro ⟨j,H,nx⟩ ⟨hj,hw0,hrow,hkeep⟩
 simp only at hj hw0 hrow hkeep
 have hrk:kr<H.length:=(List.getElem?_eq_some_iff.1 hrow).1
 by_cases hlt:j<f.bks.length
 ·have hbm:f.bks.getD j default ∈ f.bks:=mem_getD hlt
  obtain ⟨hi1,hi2,hi3⟩:=hins _ hbm
  have hbl2:=hbd j
  have hstj:=hst j hlt
  have hblk:=blkY_len c (f.bks.getD j default) (j+1:Nat)
  have hcm:=cntB_mem hbm
  obtain ⟨cv,pv,hw,⟨k2,s2,rfl,hk2⟩,hp⟩:=hw0.w
  have hbb:=hw0.b
  have n1:=ne_len hw
  have n2:=ne_len hbb
  have n3:(H.length=kr)=False:=eq_false (by omega)
  have l1:=eq_true (show q.kW<H.length+1 by have:=(List.getElem?_eq_some_iff.1 hw).1;omega)
  have l2:=eq_true (show q.kB<H.length+1 by have:=(List.getElem?_eq_some_iff.1 hbb).1;omega)
  have l3:=eq_true (show kr<H.length+1 by omega)
  have n5:=ne_len hk2
  have n6:(kr=H.length)=False:=eq_false (by omega)
  have l4:=lt_of hk2
  have l5:(H.length<H.length+1)=True:=eq_true (by omega)
  have es:∀ x y:VObj,(H++[x]).set H.length y=H++[y]:=fun x y=>by simp
  have hset:((rowJ c l0.length f.bks j).map I).set j (I ((l0.length+(blksY c 0 (f.bks.take j)).length:Nat):Int))=(rowJ c l0.length f.bks (j+1)).map I:=by
   rw[← rowJ_set c _ _ hlt,List.map_set]
  have o1:=ty_ne hrow hw (by simp)
  have o2:=ty_ne hrow hbb (by simp)
  have o3:=ty_ne hw hrow (by simp)
  have ecl:((l0++blksY c 0 (f.bks.take j)).map (·.1)).length=l0.length+(blksY c 0 (f.bks.take j)).length:=by simp
  have hcell:∀ {C:AV→Prop},cellT bl c.fn false 1 C .mk=C (.ref kr sr 0 f.bks.length):=fun {C}=>cellT_at hbn rfl hbl
  have lB:=lt_of hbb
  have lW:=lt_of hw
  have lR:=eq_true hrk
  generalize hg:f.bks.getD j default=g at *
  simp only[go_sem,eq_true (show (j:Int)<f.bks.length by omega),hg,hw,hbb,hp.one,hcell,hrow,lB,lW,lR,hk2,n1,n2,n3,n5,n6,l4,l5,es,l1,l2,l3,o1,o2,o3,List.getElem?_set,List.getElem?_append,List.length_set,List.length_append,Nat.lt_irrefl,Nat.sub_self,rowJ_len]
  repeat ((with_reducible refine And.intro ?_ ?_);· first | omega | (simp;omega) | exact ⟨by omega,by omega,rfl,rfl⟩)
  rw[hset]
  have hY:(H++[(⟨nx,49,1,bkL g⟩:VObj)])[kr]? = some ⟨sr,3,1,(rowJ c l0.length f.bks j).map I⟩:=ap_old hrow _
  have hWX:WC c q ((H++[(⟨nx,49,1,bkL g⟩:VObj)]).set kr ⟨sr,3,1,(rowJ c l0.length f.bks (j+1)).map I⟩) (l0++blksY c 0 (f.bks.take j)) en bl:=(hw0.keep (KeepT.app _ _ _)).keepR hY hE hD
  have hRX:((H++[(⟨nx,49,1,bkL g⟩:VObj)]).set kr ⟨sr,3,1,(rowJ c l0.length f.bks (j+1)).map I⟩)[kr]? = some ⟨sr,3,1,(rowJ c l0.length f.bks (j+1)).map I⟩:=set_get hY
  have hBX:((H++[(⟨nx,49,1,bkL g⟩:VObj)]).set kr ⟨sr,3,1,(rowJ c l0.length f.bks (j+1)).map I⟩)[H.length]? = some ⟨nx,49,1,bkL g⟩:=by rw[set_ne (by omega)];simp
  have hKX:KeepR kr H ((H++[(⟨nx,49,1,bkL g⟩:VObj)]).set kr ⟨sr,3,1,(rowJ c l0.length f.bks (j+1)).map I⟩):=(KeepR.of (KeepT.app _ _ _)).trans (KeepR.set _ _ _)
  generalize (H++[(⟨nx,49,1,bkL g⟩:VObj)]).set kr ⟨sr,3,1,(rowJ c l0.length f.bks (j+1)).map I⟩=HX at *
  have him:∀ i,((g.ins.take i).flatMap (insY c)).length≤4*g.ins.length:=fun i=>by
   have:=flatMap_len (insY c) 4 (insY_len c) (g.ins.take i)
   have:(g.ins.take i).length≤g.ins.length:=by rw[List.length_take];exact Nat.min_le_right _ _
   omega
  have htk:∀ i,i<g.ins.length→(g.ins.take (i+1)).flatMap (insY c)=(g.ins.take i).flatMap (insY c)++insY c (g.ins.getD i default):=fun i hi=>by
   have e:g.ins.take (i+1)=g.ins.take i++[g.ins.getD i default]:=by rw[List.take_add_one];simp[List.getD,List.getElem?_eq_getElem hi]
   rw[e];simp
  refine VW_loop (fun x:LQ=>⟨[(0,.ptr q.kW q.sW 0),(1,I c.fn),(6,.ptr kF sF 0),(10,I j),(11,.ptr H.length nx 0),(99,bksA f.bks),(100,I f.bks.length),(101,I j),(121,inA g.ins),(122,I g.ins.length),(123,I x.j)],x.H,x.nx⟩)
   (fun x=>x.j≤g.ins.length∧WC c q x.H (l0++blksY c 0 (f.bks.take j)++(g.ins.take x.j).flatMap (insY c)) en bl∧KeepT wT HX x.H) (fun x=>g.ins.length-x.j) ⟨0,HX,nx+1⟩
   (Wk.mk (by simp[get_cons]) ⟨[],by simp⟩ (Nat.le_refl _)) ⟨Nat.zero_le _,by simpa using hWX,KeepT.refl _ _⟩ ?_
  rintro ⟨i,H1,nx1⟩ ⟨hi,hw1,hk1⟩
  simp only at hi hw1 hk1
  have hB1:=hk1 _ _ hBX (by simp)
  by_cases hil:i<g.ins.length
  ·have htm:=hi1 _ (mem_getD hil)
   have hb3:=him i
   have hti:=htk i hil
   have l6:(H1.length<H1.length+1)=True:=eq_true (by omega)
   have es1:∀ x y:VObj,(H1++[x]).set H1.length y=H1++[y]:=fun x y=>by simp
   have hg1:WC c q (H1++[⟨nx1,47,1,tacL (g.ins.getD i default)⟩]) (l0++blksY c 0 (f.bks.take j)++(g.ins.take i).flatMap (insY c)) en bl:=hw1.keep (KeepT.app _ _ _)
   generalize hgt:g.ins.getD i default=t at *
   simp only[go_sem,eq_true (show (i:Int)<g.ins.length by omega),l6,es1,hgt,List.getElem?_set,List.getElem?_append,List.length_set,List.length_append,Nat.lt_irrefl,Nat.sub_self]
   repeat ((with_reducible refine And.intro ?_ ?_);· first | omega | (simp;omega) | exact ⟨by omega,by omega,rfl,rfl⟩)
   refine instruction_v hg1 hk (by simp only[List.length_append];omega) _ htm _ fun x H2 nx2 h2 k2=>?_
   simp only[go_sem]
   rw[i64_in (n:=(i:Int)+1) (by omega) (by omega)]
   exact ⟨⟨i+1,H2,nx2⟩,⟨by simp only;omega,by simp only;rw[hti,← List.append_assoc];exact h2,(hk1.trans (KeepT.app _ _ _)).trans k2⟩,by simp only;omega,Wk.mk (by simp[get_cons]) ⟨[],by simp⟩ (Nat.le_refl _)⟩
  ·obtain rfl:i=g.ins.length:=by omega
   rw[List.take_of_length_le (Nat.le_refl _)]at hw1
   have hb3:=him g.ins.length
   rw[List.take_of_length_le (Nat.le_refl _)]at hb3
   simp only[go_sem,eq_false (show ¬ (g.ins.length:Int)<g.ins.length by omega),hB1]
   have wj:IntKind.i64.wrap ((j:Int)+1)=((j+1:Nat):Int):=by rw[i64_in (by omega) (by omega)];omega
   rw[wj]
   refine end_v hw1 hk (by simp only[List.length_append];omega) _ _ (by omega) hi2 hi3 _ fun x H2 nx2 h2 k2=>?_
   simp only[go_sem]
   rw[wj]
   refine ⟨⟨j+1,H2,nx2⟩,⟨by simp only;omega,?_,k2 _ _ (hk1 _ _ hRX (by simp)) (by simp),(hkeep.trans hKX).trans (KeepR.of (hk1.trans k2))⟩,by simp only;omega,Wk.mk (by simp[get_cons]) ⟨[],by simp⟩ (Nat.le_refl _)⟩
   simp only
   rw[hstj]
   unfold blkY
   simpa only [List.append_assoc] using h2
 ·obtain rfl:j=f.bks.length:=by omega
  rw[List.take_of_length_le (Nat.le_refl _)]at hw0
  simp only[go_sem,eq_false (show ¬ (f.bks.length:Int)<f.bks.length by omega)]
  exact hC _ _ _ hw0 hrow hkeep
set_option maxRecDepth 10000
open Go.V
theorem ba_loop (bs:ByteArray):∀ (n i:Nat) (r:List UInt8),bs.size-i=n→ByteArray.toList.loop bs i r=r.reverse++bs.data.toList.drop i:=by
 intro n
 induction n with
 | zero =>
  intro i r h
  rw[ByteArray.toList.loop,if_neg (by omega),List.drop_eq_nil_of_le (by simp;omega)];simp
 | succ n ih =>
  intro i r h
  have hi:i<bs.data.toList.length:=by simp;omega
  rw[ByteArray.toList.loop,if_pos (by omega),ih (i+1) _ (by omega),List.drop_eq_getElem_cons hi]
  have:bs.get! i=bs.data.toList[i]:=by
   have hi2:i<bs.data.size:=by simpa using hi
   rw[Array.getElem_toList hi2]
   simp only[ByteArray.get!];exact getElem!_pos bs.data i hi2
  rw[this];simp
theorem ba_toList (bs:ByteArray):bs.toList=bs.data.toList:=by
 rw[ByteArray.toList,ba_loop bs bs.size 0 [] (by omega)];simp
def vOp (op:Int):Bool:=decide (1≤op) && decide (op≤27)
def hA (op:Int):Bool:=vOp op && !(decide (op=18) || decide (op=26))
def hB (op:Int):Bool:=decide (op=3) || (decide (4≤op) && decide (op≤17)) || decide (op=27)
def cK (op:Int):Int:=if 4≤op∧op≤15 then 2 else if op=1∨op=2∨(16≤op∧op≤21)∨op=25∨op=27 then 1 else 0
def winB (v most:Int) (named:Bool):Bool:=if named then decide (0≤v) && decide (v≤most) else decide (v=0)
def okI (op a b c:Int):Bool:=vOp op && winB a 15 (hA op) && winB b 15 (hB op) && winB c (if cK op=2 then 15 else 65535) (decide (cK op≠0))
abbrev shp (nm:ByteArray) (op:Int):AV:=.agg [strv nm,B (hA op),B (hB op),I (cK op)]
abbrev insA (op a b c:Int):AV:=.agg [I op,I a,I b,I c]
theorem withinM_c (v most:Int) (named:Bool):Contract Try.prog 89 [I v,I most,B named] (fun r=>r=B (winB v most named)):=by
 refine Contract.of_call (VCall.of_body hmix f_inst_within (by simp) ?_)
 cases named with
 | false =>
  simp only[go_sem,c_inst_within]
  exact ⟨_,Frz.pure rfl,by simp[winB];rfl⟩
 | true =>
  by_cases h:0≤v
  ·simp only[go_sem,c_inst_within,eq_true h]
   exact ⟨_,Frz.pure rfl,by simp[winB,h]⟩
  ·simp only[go_sem,c_inst_within,eq_false h]
   exact ⟨_,Frz.pure rfl,by simp[winB,h]⟩
theorem shapeOf_c (op:Int):Contract Try.prog 88 [I op] (fun r=>∃ nm:ByteArray,r=shp nm op∧(nm.toList == ByteArray.toList ⟨#[]⟩) = !(vOp op)):=by
 refine Contract.of_call (VCall.of_body hmix f_inst_shapeOf (by simp) ?_)
 simp only[go_sem,c_inst_shapeOf]
 iterate 27 (refine ⟨fun h=>by subst h;exact ⟨_,Frz.pure rfl,_,rfl,by simp only[ba_toList];rfl⟩,fun _=>?_⟩)
 have h1:vOp op=false:=by simp[vOp];omega
 have h2:hA op=false:=by simp[hA,h1]
 have h3:hB op=false:=by simp[hB];omega
 have h4:cK op=0:=by unfold cK;rw[if_neg (by omega),if_neg (by omega)]
 exact ⟨_,Frz.pure rfl,⟨#[]⟩,by rw[shp,h2,h3,h4],by rw[h1];simp⟩
theorem known_c (op:Int):Contract Try.prog 87 [I op] (fun r=>r=B (vOp op)):=by
 refine Contract.of_call (VCall.of_body hmix f_inst_known (by simp) ?_)
 simp only[go_sem,c_inst_known]
 refine VCall.of_contract (shapeOf_c op) (SleL.pure rfl) fun x hx=>?_
 obtain ⟨nm,rfl,hn⟩:=hx
 simp only[go_sem,hn]
 exact ⟨_,Frz.pure rfl,by simp⟩
theorem right_c (op a b c:Int):Contract Try.prog 76 [insA op a b c] (fun r=>r=B (okI op a b c)):=by
 refine Contract.of_call (VCall.of_body hmix f_inst_Right (by simp) ?_)
 simp only[go_sem,c_inst_Right]
 refine VCall.of_contract (known_c op) (SleL.pure rfl) fun x hx=>?_
 subst hx
 cases hv:vOp op
 ·simp only[go_sem]
  exact ⟨_,Frz.pure rfl,by simp[okI,hv]⟩
 simp only[go_sem]
 refine VCall.of_contract (shapeOf_c op) (SleL.pure rfl) fun x hx=>?_
 obtain ⟨nm,rfl,hn⟩:=hx
 by_cases hk:cK op=2
 have hk':=eq_true hk
 rotate_left
 have hk':=eq_false hk
 all_goals
  simp only[go_sem,hk']
  refine VCall.of_contract (withinM_c a 15 (hA op)) (SleL.pure rfl) fun x hx=>?_
  subst hx
  cases h1:winB a 15 (hA op)
  ·simp only[go_sem]
   exact ⟨_,Frz.pure rfl,by simp[okI,h1]⟩
  simp only[go_sem]
  refine VCall.of_contract (withinM_c b 15 (hB op)) (SleL.pure rfl) fun x hx=>?_
  subst hx
  cases h2:winB b 15 (hB op)
  ·simp only[go_sem]
   exact ⟨_,Frz.pure rfl,by simp[okI,h2]⟩
  simp only[go_sem]
  refine VCall.of_contract (withinM_c c _ _) (SleL.pure rfl) fun x hx=>?_
  subst hx
  simp only[go_sem]
  refine ⟨_,Frz.pure rfl,?_⟩
  have hn:(cK op != 0)=decide (cK op≠0):=by simp[bne];rfl
  simp[okI,h1,h2,hv,hk,hn]
set_option maxRecDepth 10000
open Go.V
theorem flag_c (b:Bool):Contract Try.prog 92 [B b] (fun r=>r=U32 (if b then 1 else 0)):=by
 refine Contract.of_call (VCall.of_body hmix f_scref01_flag (by simp) ?_)
 cases b<;>simp only[go_sem,c_scref01_flag]<;>exact ⟨_,Frz.pure rfl,by simp⟩
section
variable {α:Type}
theorem obj_get (H:List α) (o:α) (tl:List α):(H++o::tl)[H.length]? = some o:=by simp
theorem obj_get1 (H:List α) (o t:α) (tl:List α):(H++o::t::tl)[H.length+1]? = some t:=by
 rw[List.getElem?_append_right (by omega)];simp
theorem obj_set (H:List α) (o x:α) (tl:List α):(H++o::tl).set H.length x=H++x::tl:=by
 rw[List.set_append_right _ _ (by omega)];simp
end
theorem bits_v (a:Int) (ha:In32 a) (H:List VObj) (nx:Nat) (C:AV→List VObj→Nat→Prop)
 (hC:∀ s nx' tl,nx≤s→s<nx'→C (.ref H.length s 0 32) (H++⟨s,3,1,(bitsN a.toNat 32).map I⟩::tl) nx'):VCall Try.prog 101 [U32 a] H nx C:=by
 refine VCall.of_body hmix f_scref01_Bits (by simp) ?_
 simp only[go_sem,c_scref01_Bits]
 have hmx:(2000000:Nat)≤maxLen:=by decide
 refine VW_loop (fun q:Nat × Nat × Nat=>⟨[(0,U32 ((a.toNat / 2 ^ q.1:Nat):Int)),(3,.ref H.length q.2.1 0 q.1),(4,I q.1)],H++[⟨q.2.1,3,1,(bitsN a.toNat q.1).map I⟩],q.2.2⟩)
  (fun q=>q.1≤32∧nx≤q.2.1∧q.2.1<q.2.2) (fun q=>32-q.1) (0,nx,nx+1)
  (Wk.virt 3 1 (by decide) ?_ ⟨H,rfl,rfl,fun j ob' ho=>⟨ob',ho,rfl,rfl,rfl,rfl,fun _=>rfl,fun i x y hx hy=>.inl (by rw[hx]at hy;exact Option.some.inj hy)⟩⟩ rfl) ⟨by simp,Nat.le_refl _,by simp⟩ ?_
 ·have:=ha.1
  simp[get_cons];omega
 rintro ⟨k,s,n⟩ ⟨hk,hs,hsn⟩
 simp only at hk hs hsn
 by_cases h1:k<32
 case neg =>
  have h1':=eq_false (show ¬ (k:Int)<32 by omega)
  have:k=32:=by omega
  subst this
  simp only[go_sem,h1']
  exact hC s n [] hs hsn
 have h1':=eq_true (show (k:Int)<32 by omega)
 have hl:=bitsN_length a.toNat k
 have hsu:((a.toNat / 2 ^ (k+1):Nat):Int)=((a.toNat / 2 ^ k / 2:Nat):Int):=by rw[Nat.pow_succ,Nat.div_div_eq_div_mul]
 have hqa:a.toNat / 2 ^ k≤a.toNat:=Nat.div_le_self _ _
 have hbs:=bitsN_succ a.toNat k
 have ha2:=ha.2
 have ha1:=ha.1
 generalize a.toNat / 2 ^ k=q at hsu hqa hbs
 have hw1:IntKind.i64.wrap ((q:Int).tmod 2)=((q % 2:Nat):Int):=by
  rw[Int.tmod_eq_emod_of_nonneg (by omega),i64_in (by omega) (by omega)];omega
 have hw2:IntKind.u32.wrap ((q:Int).tdiv 2)=((q / 2:Nat):Int):=by
  rw[Int.tdiv_eq_ediv_of_nonneg (by omega),w32_in ⟨by omega,by omega⟩];omega
 simp only[go_sem,h1',List.append_assoc,obj_get,obj_get1,obj_set,List.length_append,hw1,hw2]
 repeat (refine And.intro (by omega) ?_)
 rw[i64_in (by omega) (by omega)]
 refine ⟨(k+1,n+1,n+1+1),⟨by simp only;omega,by simp only;omega,by simp only;omega⟩,by simp only;omega,Wk.mk (by simp only[hsu];simp[get_cons]) ⟨[⟨n,3,1,[I ((q % 2:Nat):Int)]⟩],?_⟩ (Nat.le_refl _)⟩
 rw[List.take_of_length_le (by simp[hl]),hbs,List.map_append]
 simp
theorem numN_lt:∀ (l:List Int),(∀ b ∈ l,b=0∨b=1)→numN l<2 ^ l.length
 | [],_=>by simp[numN]
 | b::l,h=>by
  have:=numN_lt l fun c hc=>h c (by simp[hc])
  have:=h b (by simp)
  simp only[numN,List.length_cons,Nat.pow_succ]
  omega
theorem ofN_c (l:List Int) (hl:l.length≤32) (hb:∀ b ∈ l,b=0∨b=1):ContractN Try.prog 102 [ints l] (fun r=>r=U32 ((numN l:Nat):Int)):=by
 refine ContractN.of_call (VCall.of_body hmix f_scref01_Of (by simp) ?_)
 simp only[go_sem,c_scref01_Of]
 rw[i64_in (by omega) (by omega)]
 refine VW_loop (fun j:Nat=>⟨[(0,ints l),(3,.val (.int .u64 (numN (l.drop j):Nat))),(4,I ((j:Int)-1))],[],0⟩) (fun j=>j≤l.length) (fun j=>j) l.length
  (Wk.mk (by simp[get_cons,numN]) ⟨[],rfl⟩ (Nat.le_refl _)) (Nat.le_refl _) ?_
 intro j hj
 have hlt:=numN_lt (l.drop j) fun b hx=>hb b (List.mem_of_mem_drop hx)
 have hp:2 ^ (l.drop j).length≤2 ^ 32:=Nat.pow_le_pow_right (by omega) (by simp;omega)
 by_cases h1:j=0
 ·subst h1
  simp only[go_sem]
  rw[List.drop_zero]at hlt hp
  refine ⟨fun h=>by omega,fun _=>?_⟩
  have hm:IntKind.u32.wrap (((numN l:Nat):Int).tmod 4294967296)=((numN l:Nat):Int):=by
   rw[Int.tmod_eq_emod_of_nonneg (by omega),IntKind.wrap_u32];omega
  rw[hm]
  exact ⟨by omega,_,FrzN.val,rfl⟩
 ·have h1':=eq_true (show (0:Int)≤(j:Int)-1 by omega)
  have e1:((j:Int)-1).toNat=j-1:=by omega
  obtain ⟨i,rfl⟩:∃ i,j=i+1:=⟨j-1,by omega⟩
  have hi:i<l.length:=by omega
  have hd:=List.drop_eq_getElem_cons hi
  have hbit:=hb l[i] (List.getElem_mem hi)
  have eg:l.getD i default=l[i]:=by simp[List.getD,List.getElem?_eq_getElem hi]
  have hlt2:=numN_lt (l.drop (i+1)) fun b hx=>hb b (List.mem_of_mem_drop hx)
  simp only[go_sem,h1',e1,Nat.add_sub_cancel,eg]
  repeat (refine And.intro (by omega) ?_)
  have hw:IntKind.u64.wrap (IntKind.u64.wrap (2*((numN (l.drop (i+1)):Nat):Int))+IntKind.u64.wrap l[i])=((numN (l.drop i):Nat):Int):=by
   rw[hd,numN]
   simp only[IntKind.wrap_u64]
   omega
  rw[hw,i64_in (by omega) (by omega)]
  exact ⟨i,by omega,by omega,Wk.mk (by simp[get_cons]<;>omega) ⟨[],rfl⟩ (Nat.le_refl _)⟩
def shN (op a:Int) (k:Nat):Int:=if op=12 then ((a.toNat*2 ^ k % 4294967296:Nat):Int) else ((a.toNat / 2 ^ k:Nat):Int)
theorem refshift_c (op a b:Int) (ha:In32 a) (hb:In32 b):Contract Try.prog 91 [I op,U32 a,U32 b] (fun r=>r=U32 (if 31<b then 0 else shN op a b.toNat)):=by
 refine Contract.of_call (VCall.of_body hmix f_scref01_shift (by simp) ?_)
 obtain ⟨ha1,ha2⟩:=ha
 obtain ⟨hb1,hb2⟩:=hb
 by_cases h0:32≤b
 ·simp only[go_sem,c_scref01_shift,eq_true h0]
  exact ⟨_,Frz.pure rfl,by rw[if_pos (by omega)]⟩
 simp only[go_sem,c_scref01_shift,eq_false h0]
 have hshl:∀ k,shN op a k≤4294967295∧0≤shN op a k:=fun k=>by
  unfold shN
  split
  ·omega
  ·have:=Nat.div_le_self a.toNat (2 ^ k)
   generalize a.toNat / 2 ^ k=q at *
   omega
 have hs:∀ k,shN op a (k+1)=if op=12 then (2*shN op a k) % 4294967296 else shN op a k / 2:=fun k=>by
  unfold shN
  by_cases e:op=12
  ·simp only[if_pos e]
   rw[Nat.pow_succ,← Nat.mul_assoc]
   generalize a.toNat*2 ^ k=q
   omega
  ·simp only[if_neg e]
   rw[Nat.pow_succ,← Nat.div_div_eq_div_mul]
   generalize a.toNat / 2 ^ k=q
   omega
 have hz:shN op a 0=a:=by unfold shN;split<;>simp<;>omega
 refine VW_loop (fun k:Nat=>⟨[(0,I op),(2,U32 b),(7,.val (.int .u64 (shN op a k))),(8,U32 k)],[],0⟩) (fun k=>k≤b.toNat) (fun k=>b.toNat-k) 0
  (Wk.mk ?_ ⟨[],rfl⟩ (Nat.le_refl _)) (by omega) ?_
 ·have:IntKind.u64.wrap a=a:=by rw[IntKind.wrap_u64];omega
  simp[get_cons,hz,this]
 intro k hk
 have hk1:=hshl k
 by_cases h1:k<b.toNat
 case neg =>
  have h1':=eq_false (show ¬ (k:Int)<b by omega)
  simp only[go_sem,h1']
  have:k=b.toNat:=by omega
  subst this
  rw[w32_in ⟨hk1.2,by omega⟩]
  exact ⟨_,Frz.pure rfl,by rw[if_neg (by omega)]⟩
 have h1':=eq_true (show (k:Int)<b by omega)
 by_cases e:op=12
 case pos =>
  simp only[go_sem,h1',eq_true e]
  have hw:(IntKind.u64.wrap (2*shN op a k)).tmod 4294967296=shN op a (k+1):=by
   rw[hs,if_pos e,IntKind.wrap_u64,Int.tmod_eq_emod_of_nonneg (by omega)];omega
  refine ⟨by omega,?_⟩
  rw[hw,w32_in ⟨by omega,by omega⟩]
  exact ⟨k+1,by omega,by omega,Wk.mk (by simp[get_cons,e]) ⟨[],rfl⟩ (Nat.le_refl _)⟩
 case neg =>
  simp only[go_sem,h1',eq_false e]
  have hw:IntKind.u64.wrap ((shN op a k).tdiv 2)=shN op a (k+1):=by
   rw[hs,if_neg e,Int.tdiv_eq_ediv_of_nonneg (by omega),IntKind.wrap_u64];omega
  refine ⟨by omega,?_⟩
  rw[hw,w32_in ⟨by omega,by omega⟩]
  exact ⟨k+1,by omega,by omega,Wk.mk (by simp[get_cons]) ⟨[],rfl⟩ (Nat.le_refl _)⟩
def zL (x a k:Nat):List Int:=bitsN x k++(bitsN a 32).drop k
theorem zL_length {x a k:Nat} (h:k≤32):(zL x a k).length=32:=by simp[zL,bitsN_length];omega
theorem zL_get {x a k:Nat} (h:k<32):(zL x a k).getD k default=((a / 2 ^ k % 2:Nat):Int):=by
 have:(zL x a k).getD k default=(bitsN a 32).getD k default:=by
  unfold zL
  simp only[List.getD]
  rw[List.getElem?_append_right (by rw[bitsN_length];exact Nat.le_refl _),bitsN_length,Nat.sub_self,List.getElem?_drop,Nat.add_zero]
 rw[this,bitsN_get h]
theorem zL_set {x a k:Nat} (h:k<32):(zL x a k).set k ((x / 2 ^ k % 2:Nat):Int)=zL x a (k+1):=by
 have hk:k<(bitsN a 32).length:=by rw[bitsN_length];exact h
 unfold zL
 rw[bitsN_succ x k]
 generalize bitsN a 32=l at hk
 rw[List.set_append_right _ _ (by rw[bitsN_length];exact Nat.le_refl _),bitsN_length,Nat.sub_self,List.drop_eq_getElem_cons hk,List.set_cons_zero,List.append_assoc]
 rfl
theorem rboth_c (op a b:Int) (ho:op=9∨op=10∨op=11) (ha:In32 a) (hb:In32 b):Contract Try.prog 90 [I op,U32 a,U32 b] (fun r=>r=U32 (applyW op a b).1):=by
 refine Contract.of_call (VCall.of_body hmix f_scref01_both (by simp) ?_)
 simp only[go_sem,c_scref01_both]
 refine bits_v a ha _ _ _ fun s1 nx1 tl1 hs1 hn1=>?_
 simp only[go_sem]
 refine bits_v b hb _ _ _ fun s2 nx2 tl2 hs2 hn2=>?_
 simp only[go_sem]
 obtain ⟨_,hin,hbit⟩:=both_bits ha hb ho
 obtain ⟨x,hx⟩:∃ x,(applyW op a b).1.toNat=x:=⟨_,rfl⟩
 rw[hx]at hbit
 have hx2:(applyW op a b).1=(x:Int):=by have:=hin.1;omega
 rw[hx2]
 refine VW_loop (fun k:Nat=>⟨[(0,I op),(7,.ref 0 s1 0 32),(8,ints (bitsN b.toNat 32)),(9,I k)],[⟨s1,3,1,(zL x a.toNat k).map I⟩],nx2⟩) (fun k=>k≤32) (fun k=>32-k) 0
  (Wk.give ?_ ?_ (Nat.le_refl _)) (by omega) ?_
 ·intro p hp
  simp only[List.mem_cons,List.not_mem_nil,or_false]at hp
  rcases hp with rfl | rfl | rfl | rfl
  ·exact .inl rfl
  ·exact .inl rfl
  ·exact .inr (frz_ints (ty:=3) (by simp) (by simp) (bitsN_length _ _).symm)
  ·exact .inl rfl
 ·refine ⟨rfl,rfl,rfl,by simp,?_,by simp[OW]⟩
  simp only[zL,List.drop_zero]
  exact CW.refl _
 intro k hk
 have hzl:=zL_length (x:=x) (a:=a.toNat) hk
 have hbl:=bitsN_length b.toNat 32
 by_cases h1:k<32
 case neg =>
  have h1':=eq_false (show ¬ (k:Int)<32 by omega)
  have:k=32:=by omega
  subst this
  simp only[go_sem,h1']
  have ez:zL x a.toNat 32=bitsN x 32:=by simp[zL,bitsN_length]
  rw[ez]at hzl ⊢
  refine VCall.of_contractN (ofN_c (bitsN x 32) (by omega) fun b hb=>?_) ?_ fun r hr=>?_
  ·obtain ⟨i,_,rfl⟩:=List.mem_map.1 hb
   have:=Nat.mod_two_eq_zero_or_one (x / 2 ^ i)
   omega
  ·exact ⟨_,_,rfl,frz_ints (by omega) rfl hzl.symm,rfl⟩
  ·subst hr
   simp only[go_sem]
   refine ⟨_,Frz.pure rfl,?_⟩
   have:=hin.2
   rw[numN_bits,Nat.mod_eq_of_lt (by omega)]
 have h1':=eq_true (show (k:Int)<32 by omega)
 have g1:=zL_get (x:=x) (a:=a.toNat) h1
 have g2:=bitsN_get (x:=b.toNat) h1
 have hset:=zL_set (x:=x) (a:=a.toNat) h1
 have hb1:=hbit k
 have hxb:=Nat.mod_two_eq_zero_or_one (a.toNat / 2 ^ k)
 have hyb:=Nat.mod_two_eq_zero_or_one (b.toNat / 2 ^ k)
 generalize a.toNat / 2 ^ k % 2=u at *
 generalize b.toNat / 2 ^ k % 2=v at *
 have hw:IntKind.i64.wrap ((u:Int)+(v:Int))=((u+v:Nat):Int):=by rw[i64_in (by omega) (by omega)];omega
 by_cases hc:(u+v=2∧op≠11)∨(u+v=1∧op≠9)
 case pos =>
  rw[if_pos hc]at hb1
  rw[hb1]at hset
  have fin:∀ e,(∀ p ∈ [(0,I op),(7,AV.ref 0 s1 0 32),(8,ints (bitsN b.toNat 32)),(9,I ((k+1:Nat):Int))],get e p.1=p.2)→∃ q:Nat,q≤32∧32-q<32-k∧Wk ⟨e,[⟨s1,3,1,(((zL x a.toNat k).set k 0).set k 1).map I⟩],nx2⟩ ⟨[(0,I op),(7,.ref 0 s1 0 32),(8,ints (bitsN b.toNat 32)),(9,I q)],[⟨s1,3,1,(zL x a.toNat q).map I⟩],nx2⟩:=fun e he =>
   ⟨k+1,by omega,by omega,Wk.mk he ⟨[],by rw[List.set_set,show (1:Int)=((1:Nat):Int) from rfl,hset];simp⟩ (Nat.le_refl _)⟩
  rcases hc with ⟨hc1,hc2⟩ | ⟨hc1,hc2⟩
  ·have q1:=eq_true (show (((u+v:Nat):Int))=2 by omega)
   have q2:(op != 11)=true:=by simp[hc2]
   simp only[go_sem,undef,h1',Int.toNat_natCast,g1,g2,hw,q1,q2,set_map,hzl,List.length_set,hbl]
   repeat (refine And.intro (by omega) ?_)
   rw[i64_in (by omega) (by omega)]
   exact fin _ (by simp[get_cons])
  ·have q1:=eq_false (show ¬ (((u+v:Nat):Int))=2 by omega)
   have q3:=eq_true (show (((u+v:Nat):Int))=1 by omega)
   have q2:(op != 9)=true:=by simp[hc2]
   simp only[go_sem,undef,h1',Int.toNat_natCast,g1,g2,hw,q1,q2,q3,set_map,hzl,List.length_set,hbl]
   repeat (refine And.intro (by omega) ?_)
   rw[i64_in (by omega) (by omega)]
   exact fin _ (by simp[get_cons])
 case neg =>
  rw[if_neg hc]at hb1
  rw[hb1]at hset
  have fin:∀ e,(∀ p ∈ [(0,I op),(7,AV.ref 0 s1 0 32),(8,ints (bitsN b.toNat 32)),(9,I ((k+1:Nat):Int))],get e p.1=p.2)→∃ q:Nat,q≤32∧32-q<32-k∧Wk ⟨e,[⟨s1,3,1,((zL x a.toNat k).set k 0).map I⟩],nx2⟩ ⟨[(0,I op),(7,.ref 0 s1 0 32),(8,ints (bitsN b.toNat 32)),(9,I q)],[⟨s1,3,1,(zL x a.toNat q).map I⟩],nx2⟩:=fun e he =>
   ⟨k+1,by omega,by omega,Wk.mk he ⟨[],by rw[show (0:Int)=((0:Nat):Int) from rfl,hset];simp⟩ (Nat.le_refl _)⟩
  have hsum:u+v=0∨(u+v=1∧op=9)∨(u+v=2∧op=11):=by omega
  rcases hsum with hc1 | ⟨hc1,hc2⟩ | ⟨hc1,hc2⟩
  ·have q1:=eq_false (show ¬ (((u+v:Nat):Int))=2 by omega)
   have q3:=eq_false (show ¬ (((u+v:Nat):Int))=1 by omega)
   simp only[go_sem,undef,h1',Int.toNat_natCast,g1,g2,hw,q1,q3,set_map,hzl,List.length_set,hbl]
   repeat (refine And.intro (by omega) ?_)
   rw[i64_in (by omega) (by omega)]
   exact fin _ (by simp[get_cons])
  ·have q1:=eq_false (show ¬ (((u+v:Nat):Int))=2 by omega)
   have q3:=eq_true (show (((u+v:Nat):Int))=1 by omega)
   have q2:(op != 9)=false:=by simp[hc2]
   simp only[go_sem,undef,h1',Int.toNat_natCast,g1,g2,hw,q1,q2,q3,set_map,hzl,List.length_set,hbl]
   repeat (refine And.intro (by omega) ?_)
   rw[i64_in (by omega) (by omega)]
   exact fin _ (by simp[get_cons])
  ·have q1:=eq_true (show (((u+v:Nat):Int))=2 by omega)
   have q3:=eq_false (show ¬ (((u+v:Nat):Int))=1 by omega)
   have q2:(op != 11)=false:=by simp[hc2]
   simp only[go_sem,undef,h1',Int.toNat_natCast,g1,g2,hw,q1,q2,q3,set_map,hzl,List.length_set,hbl]
   repeat (refine And.intro (by omega) ?_)
   rw[i64_in (by omega) (by omega)]
   exact fin _ (by simp[get_cons])
set_option maxRecDepth 10000
open Go.V
theorem refapply_c (op a b:Int) (ha:In32 a) (hb:In32 b):Contract Try.prog 77 [I op,U32 a,U32 b] (fun r=>r=tup2 (applyW op a b)):=by
 refine Contract.of_call (VCall.of_body hmix f_scref01_Apply (by simp) ?_)
 have ha':=ha
 have hb':=hb
 obtain ⟨ha1,ha2⟩:=ha
 obtain ⟨hb1,hb2⟩:=hb
 have ea:IntKind.u64.wrap a=a:=by rw[IntKind.wrap_u64];omega
 have eb:IntKind.u64.wrap b=b:=by rw[IntKind.wrap_u64];omega
 have hop:op=4∨op=5∨op=6∨op=7∨op=8∨op=9∨op=10∨op=11∨op=12∨op=13∨op=14∨op=15∨(op≠4∧op≠5∧op≠6∧op≠7∧op≠8∧op≠9∧op≠10∧op≠11∧op≠12∧op≠13∧op≠14∧op≠15):=by omega
 rcases hop with rfl | rfl | rfl | rfl | rfl | rfl | rfl | rfl | rfl | rfl | rfl | rfl | ⟨h1,h2,h3,h4,h5,h6,h7,h8,h9,h10,h11,h12⟩
 ·simp only[go_sem,c_scref01_Apply,Int.reduceEq,Int.reduceBEq,ea,eb]
  have e:IntKind.u32.wrap ((IntKind.u64.wrap (a+b)).tmod 4294967296)=w32 (a+b):=by
   rw[IntKind.wrap_u64,Int.tmod_eq_emod_of_nonneg (by omega),IntKind.wrap_u32,w32,IntKind.wrap_u32];omega
  exact ⟨_,Frz.pure rfl,by rw[e];rfl⟩
 ·simp only[go_sem,c_scref01_Apply,Int.reduceEq,Int.reduceBEq,ea,eb]
  have e:IntKind.u32.wrap ((IntKind.u64.wrap (IntKind.u64.wrap (a+4294967296)-b)).tmod 4294967296)=w32 (a-b):=by
   rw[IntKind.wrap_u64,IntKind.wrap_u64,Int.tmod_eq_emod_of_nonneg (by omega),IntKind.wrap_u32,w32,IntKind.wrap_u32];omega
  exact ⟨_,Frz.pure rfl,by rw[e];rfl⟩
 ·simp only[go_sem,c_scref01_Apply,Int.reduceEq,Int.reduceBEq,ea,eb]
  have hp:=Int.mul_nonneg ha1 hb1
  have e:∀ p:Int,0≤p→IntKind.u32.wrap ((IntKind.u64.wrap p).tmod 4294967296)=w32 p:=fun p hp=>by
   rw[IntKind.wrap_u64,Int.tmod_eq_emod_of_nonneg (by omega),IntKind.wrap_u32,w32,IntKind.wrap_u32];omega
  exact ⟨_,Frz.pure rfl,by rw[e _ hp];rfl⟩
 ·simp only[go_sem,c_scref01_Apply,Int.reduceEq,Int.reduceBEq,ea,eb]
  refine ⟨fun h0=>⟨_,Frz.pure rfl,?_⟩,fun h0=>⟨h0,_,Frz.pure rfl,?_⟩⟩
  ·show _=tup2 (if b=0 then (0,14) else _);rw[if_pos h0]
  ·show _=tup2 (if b=0 then (0,14) else (IntKind.u32.wrap (a.tdiv b),0))
   rw[if_neg h0,Int.tdiv_eq_ediv_of_nonneg ha1]
   have h1:0≤a / b:=Int.ediv_nonneg ha1 hb1
   have h2:a / b≤a:=Int.ediv_le_self _ ha1
   rw[IntKind.wrap_u64,show (a / b) % 18446744073709551616=a / b by omega]
 ·simp only[go_sem,c_scref01_Apply,Int.reduceEq,Int.reduceBEq,ea,eb]
  refine ⟨fun h0=>⟨_,Frz.pure rfl,?_⟩,fun h0=>⟨h0,_,Frz.pure rfl,?_⟩⟩
  ·show _=tup2 (if b=0 then (0,14) else _);rw[if_pos h0]
  ·show _=tup2 (if b=0 then (0,14) else (a.tmod b,0))
   rw[if_neg h0,Int.tmod_eq_emod_of_nonneg ha1]
   have h1:0≤a % b:=Int.emod_nonneg _ h0
   have h2:a % b<b:=Int.emod_lt_of_pos _ (by omega)
   rw[w32_in ⟨h1,by omega⟩]
 iterate 3
  ·simp only[go_sem,c_scref01_Apply,Int.reduceEq,Int.reduceBEq,ea,eb]
   refine VCall.of_contract (rboth_c _ a b (by simp) ha' hb') (SleL.pure rfl) fun x hx=>?_
   subst hx
   simp only[go_sem]
   refine ⟨_,Frz.pure rfl,?_⟩
   have:=(both_bits (op:=_) ha' hb' (by first | exact .inl rfl | exact .inr (.inl rfl) | exact .inr (.inr rfl))).1
   rfl
 ·simp only[go_sem,c_scref01_Apply,Int.reduceEq,Int.reduceBEq,ea,eb]
  refine VCall.of_contract (refshift_c _ a b ha' hb') (SleL.pure rfl) fun x hx=>?_
  subst hx
  simp only[go_sem]
  have e:(if 31<b then 0 else shN 12 a b.toNat)=if 31<b then 0 else shlW a b:=by
   by_cases h:31<b
   ·rw[if_pos h,if_pos h]
   ·rw[if_neg h,if_neg h]
    unfold shlW shN
    rw[if_pos rfl,show min b.toNat IntKind.u32.bits=b.toNat from Nat.min_eq_left (by show b.toNat≤32;omega),w32,IntKind.wrap_u32]
    conv=>rhs;rw[show a=((a.toNat:Nat):Int) by omega]
    simp
  exact ⟨_,Frz.pure rfl,by rw[e];rfl⟩
 ·simp only[go_sem,c_scref01_Apply,Int.reduceEq,Int.reduceBEq,ea,eb]
  refine VCall.of_contract (refshift_c _ a b ha' hb') (SleL.pure rfl) fun x hx=>?_
  subst hx
  simp only[go_sem]
  have e:(if 31<b then 0 else shN 13 a b.toNat)=if 31<b then 0 else shrW a b:=by
   by_cases h:31<b
   ·rw[if_pos h,if_pos h]
   ·rw[if_neg h,if_neg h]
    unfold shN
    rw[if_neg (by decide)]
    have:=shrW_eq ha' b.toNat (by omega)
    rw[show ((b.toNat:Nat):Int)=b by omega]at this
    rw[this]
  exact ⟨_,Frz.pure rfl,by rw[e];rfl⟩
 iterate 2
  ·simp only[go_sem,c_scref01_Apply,Int.reduceEq,Int.reduceBEq,ea,eb]
   refine VCall.of_contract (flag_c _) (SleL.pure rfl) fun x hx=>?_
   subst hx
   simp only[go_sem]
   exact ⟨_,Frz.pure rfl,by simp[applyW,tup2]⟩
 ·simp only[go_sem,c_scref01_Apply,eq_false h1,eq_false h2,eq_false h3,eq_false h4,eq_false h5,eq_false h6,eq_false h7,eq_false h8,eq_false h9,eq_false h10,eq_false h11,eq_false h12]
  exact ⟨_,Frz.pure rfl,by simp[applyW,tup2,h1,h2,h3,h4,h5,h6,h7,h8,h9,h10,h11,h12]⟩
set_option maxRecDepth 10000
open Go.V
abbrev Y8M (n:Int):AV:=.val (.int .u8 n)
def hasB (s:ByteArray) (c:Int):Bool:=s.data.toList.any fun b=>((b.toNat:Nat):Int) == c
theorem hasB_step (s:ByteArray) (c:Int) {k:Nat} (h:k<s.size):(s.data.toList.drop k).any (fun b=>((b.toNat:Nat):Int) == c)=((byteAt s k == c) || (s.data.toList.drop (k+1)).any fun b=>((b.toNat:Nat):Int) == c):=by
 have hk:k<s.data.toList.length:=by simpa using h
 rw[List.drop_eq_getElem_cons hk,List.any_cons]
 congr 1
 simp only[byteAt,List.getD,List.getElem?_eq_getElem hk,Option.getD_some]
theorem has_c (s:ByteArray) (c:Int) (hs:s.size≤1000):Contract Try.prog 105 [strv s,Y8M c] (fun r=>r=B (hasB s c)):=by
 refine Contract.of_call (VCall.of_body hmix f_scref07_has (by simp) ?_)
 simp only[go_sem,c_scref07_has]
 refine VW_loop (fun k:Nat=>⟨[(0,strv s),(1,Y8M c),(5,I k)],[],0⟩) (fun k=>k≤s.size∧hasB s c=(s.data.toList.drop k).any fun b=>((b.toNat:Nat):Int) == c) (fun k=>s.size-k) 0
  (Wk.mk (by simp[get_cons]) ⟨[],rfl⟩ (Nat.le_refl _)) ⟨by omega,rfl⟩ ?_
 rintro k ⟨hk,he⟩
 simp only[go_sem]
 refine ⟨fun h=>⟨by omega,fun h2=>?_,fun h2=>?_⟩,fun h=>?_⟩
 ·refine ⟨_,Frz.pure rfl,?_⟩
  rw[he,hasB_step s c (by omega)]
  simp[h2]
 ·rw[i64_in (by omega) (by omega)]
  refine ⟨k+1,⟨by omega,?_⟩,by omega,Wk.mk (by simp[get_cons]) ⟨[],rfl⟩ (Nat.le_refl _)⟩
  rw[he,hasB_step s c (by omega)]
  simp[h2]
 ·refine ⟨_,Frz.pure rfl,?_⟩
  rw[he,List.drop_eq_nil_of_le (by simp;omega)];rfl
def PS (op:Int):ByteArray :=
 if op=1∨op=2∨op=19∨op=20∨op=21∨op=25 then ⟨#[97,99]⟩ else if op=3 then ⟨#[97,98]⟩ else if op=16∨op=17∨op=27 then ⟨#[97,98,99]⟩
 else if op=18 then ⟨#[99]⟩ else if op=22∨op=23∨op=24 then ⟨#[97]⟩ else if op=26 then ⟨#[]⟩ else if 4≤op∧op≤15 then ⟨#[97,98,114]⟩ else ⟨#[63]⟩
theorem PS_size (op:Int):(PS op).size≤3:=by
 unfold PS
 repeat' split
 all_goals decide
theorem parts_c (op:Int):Contract Try.prog 104 [I op] (fun r=>r=strv (PS op)):=by
 refine Contract.of_call (VCall.of_body hmix f_scref07_Parts (by simp) ?_)
 by_cases hv:1≤op∧op≤27
 ·have hop:op=1∨op=2∨op=3∨op=4∨op=5∨op=6∨op=7∨op=8∨op=9∨op=10∨op=11∨op=12∨op=13∨op=14∨op=15∨op=16∨op=17∨op=18∨op=19∨op=20∨op=21∨op=22∨op=23∨op=24∨op=25∨op=26∨op=27:=by omega
  rcases hop with rfl | rfl | rfl | rfl | rfl | rfl | rfl | rfl | rfl | rfl | rfl | rfl | rfl | rfl | rfl | rfl | rfl | rfl | rfl | rfl | rfl | rfl | rfl | rfl | rfl | rfl | rfl
  all_goals
   simp only[go_sem,c_scref07_Parts,Int.reduceEq,Int.reduceBEq]
   exact ⟨_,Frz.pure rfl,rfl⟩
 ·have n:∀ k:Int,1≤k→k≤27→(op=k)=False:=fun k h1 h2=>eq_false (by omega)
  have n1:=n 1 (by omega) (by omega)
  have n2:=n 2 (by omega) (by omega)
  have n3:=n 3 (by omega) (by omega)
  have n16:=n 16 (by omega) (by omega)
  have n17:=n 17 (by omega) (by omega)
  have n18:=n 18 (by omega) (by omega)
  have n19:=n 19 (by omega) (by omega)
  have n20:=n 20 (by omega) (by omega)
  have n21:=n 21 (by omega) (by omega)
  have n22:=n 22 (by omega) (by omega)
  have n23:=n 23 (by omega) (by omega)
  have n24:=n 24 (by omega) (by omega)
  have n25:=n 25 (by omega) (by omega)
  have n26:=n 26 (by omega) (by omega)
  have n27:=n 27 (by omega) (by omega)
  have e:PS op=⟨#[63]⟩:=by
   unfold PS
   rw[if_neg (by omega),if_neg (by omega),if_neg (by omega),if_neg (by omega),if_neg (by omega),if_neg (by omega),if_neg (by omega)]
  rw[e]
  by_cases h4:4≤op
  ·simp only[go_sem,c_scref07_Parts,n1,n2,n3,n16,n17,n18,n19,n20,n21,n22,n23,n24,n25,n26,n27,eq_true h4,eq_false (show ¬ op≤15 by omega)]
   exact ⟨_,Frz.pure rfl,rfl⟩
  ·simp only[go_sem,c_scref07_Parts,n1,n2,n3,n16,n17,n18,n19,n20,n21,n22,n23,n24,n25,n26,n27,eq_false h4]
   exact ⟨_,Frz.pure rfl,rfl⟩
theorem refwithin_c (v most:Int) (named:Bool):Contract Try.prog 106 [B named,I v,I most] (fun r=>r=B (winB v most named)):=by
 refine Contract.of_call (VCall.of_body hmix f_scref07_within (by simp) ?_)
 cases named with
 | false =>
  simp only[go_sem,c_scref07_within]
  exact ⟨_,Frz.pure rfl,by simp[winB];rfl⟩
 | true =>
  by_cases h:0≤v
  ·simp only[go_sem,c_scref07_within,eq_true h]
   exact ⟨_,Frz.pure rfl,by simp[winB,h]⟩
  ·simp only[go_sem,c_scref07_within,eq_false h]
   exact ⟨_,Frz.pure rfl,by simp[winB,h]⟩
def rightR (op a b c:Int):Bool:=!((PS op).toList == ByteArray.toList ⟨#[63]⟩) && winB a 15 (hasB (PS op) 97) && winB b 15 (hasB (PS op) 98) && winB c (if hasB (PS op) 114 then 15 else 65535) (hasB (PS op) 99 || hasB (PS op) 114)
theorem rightR_eq (op a b c:Int):rightR op a b c=okI op a b c:=by
 by_cases hv:1≤op∧op≤27
 ·have hop:op=1∨op=2∨op=3∨op=4∨op=5∨op=6∨op=7∨op=8∨op=9∨op=10∨op=11∨op=12∨op=13∨op=14∨op=15∨op=16∨op=17∨op=18∨op=19∨op=20∨op=21∨op=22∨op=23∨op=24∨op=25∨op=26∨op=27:=by omega
  unfold rightR
  rw[ba_toList,ba_toList]
  rcases hop with rfl | rfl | rfl | rfl | rfl | rfl | rfl | rfl | rfl | rfl | rfl | rfl | rfl | rfl | rfl | rfl | rfl | rfl | rfl | rfl | rfl | rfl | rfl | rfl | rfl | rfl | rfl
  all_goals rfl
 ·have e:PS op=⟨#[63]⟩:=by
   unfold PS
   rw[if_neg (by omega),if_neg (by omega),if_neg (by omega),if_neg (by omega),if_neg (by omega),if_neg (by omega),if_neg (by omega)]
  have h1:vOp op=false:=by simp[vOp];omega
  unfold rightR okI
  rw[e,h1];simp
set_option maxRecDepth 10000
open Go.V
theorem refright_c (op a b c:Int):Contract Try.prog 103 [insA op a b c] (fun r=>r=B (okI op a b c)):=by
 refine Contract.of_call (VCall.of_body hmix f_scref07_Right (by simp) ?_)
 have hps:(PS op).size≤1000:=by have:=PS_size op;omega
 rw[← rightR_eq]
 unfold rightR
 simp only[go_sem,c_scref07_Right]
 refine VCall.of_contract (parts_c op) (SleL.pure rfl) fun x hx=>?_
 subst hx
 generalize PS op=p at *
 simp only[go_sem]
 refine VCall.of_contract (has_c p 114 hps) (SleL.pure rfl) fun x hx=>?_
 subst hx
 cases h1:hasB p 114
 all_goals
  cases h2:(p.toList == ByteArray.toList ⟨#[63]⟩)
  rotate_left
  ·simp only[go_sem,h2]
   exact ⟨_,Frz.pure rfl,by simp⟩
  simp only[go_sem,h2]
  refine ECall.of (has_c p 97 hps) (SleL.pure rfl) ⟨_,fun _=>Iff.rfl⟩ fun x hx=>?_
  subst hx
  simp only[go_sem]
  refine ECall.of (refwithin_c a 15 _) (SleL.pure rfl) ⟨_,fun _=>Iff.rfl⟩ fun x hx=>?_
  subst hx
  cases h3:winB a 15 (hasB p 97)
  ·simp only[go_sem]
   exact ⟨_,Frz.pure rfl,by simp⟩
  simp only[go_sem]
  refine ECall.of (has_c p 98 hps) (SleL.pure rfl) ⟨_,fun _=>Iff.rfl⟩ fun x hx=>?_
  subst hx
  simp only[go_sem]
  refine ECall.of (refwithin_c b 15 _) (SleL.pure rfl) ⟨_,fun _=>Iff.rfl⟩ fun x hx=>?_
  subst hx
  cases h4:winB b 15 (hasB p 98)
  ·simp only[go_sem]
   exact ⟨_,Frz.pure rfl,by simp⟩
  simp only[go_sem]
  refine ECall.of (has_c p 99 hps) (SleL.pure rfl) ⟨_,fun _=>Iff.rfl⟩ fun x hx=>?_
  subst hx
  cases h5:hasB p 99
  all_goals
   simp only[go_sem]
   try
    refine ECall.of (has_c p 114 hps) (SleL.pure rfl) ⟨_,fun _=>Iff.rfl⟩ fun x hx=>?_
    subst hx
    simp only[go_sem,h1]
   refine ECall.of (refwithin_c c _ _) (SleL.pure rfl) ⟨_,fun _=>Iff.rfl⟩ fun x hx=>?_
   subst hx
   simp only[go_sem]
   exact ⟨_,Frz.pure rfl,by simp⟩
set_option maxRecDepth 10000
open Go.V
def opW (w:Int):Int:=w / 16777216
def raW (w:Int):Int:=w / 1048576 % 16
def rbW (w:Int):Int:=w / 65536 % 16
def kW (w:Int):Int:=w % 65536
def okW (w:Int):Bool:=okI (opW w) (raW w) (rbW w) (kW w)
def decA (w:Int):AV:=if okW w then .tup [insA (opW w) (raW w) (rbW w) (kW w),I 0] else .tup [insA 0 0 0 0,I 7]
theorem Frz.ins {n:Nat} {H:List VObj} {nx:Nat} {op a b c e:Int}:Frz n H nx (.tup [.agg [I op,I a,I b,I c],I e]) (.tup [insA op a b c,I e]):=Frz.pure rfl
theorem refdecode_c (w:Int) (hw:In32 w):Contract Try.prog 93 [U32 w] (fun r=>r=decA w):=by
 refine Contract.of_call (VCall.of_body hmix f_scref07_Decode (by simp) ?_)
 obtain ⟨h0,h1⟩:=hw
 have q:∀ k:Int,1≤k→IntKind.u32.wrap (w.tdiv k)=w / k:=fun k hk=>by
  rw[Int.tdiv_eq_ediv_of_nonneg h0]
  refine w32_in ⟨Int.ediv_nonneg h0 (by omega),?_⟩
  have:=Int.ediv_le_self k h0
  omega
 have q24:=q 16777216 (by omega)
 have q20:=q 1048576 (by omega)
 have q16:=q 65536 (by omega)
 have r20:(w / 1048576).tmod 16=w / 1048576 % 16:=Int.tmod_eq_emod_of_nonneg (by omega)
 have r16:(w / 65536).tmod 16=w / 65536 % 16:=Int.tmod_eq_emod_of_nonneg (by omega)
 have r0:w.tmod 65536=w % 65536:=Int.tmod_eq_emod_of_nonneg h0
 have e1:IntKind.i64.wrap (w / 16777216)=opW w:=i64_in (by omega) (by omega)
 have e2:IntKind.i64.wrap (w / 1048576 % 16)=raW w:=i64_in (by omega) (by omega)
 have e3:IntKind.i64.wrap (w / 65536 % 16)=rbW w:=i64_in (by omega) (by omega)
 have e4:IntKind.i64.wrap (w % 65536)=kW w:=i64_in (by omega) (by omega)
 simp only[go_sem,c_scref07_Decode,q24,q20,q16,r20,r16,r0,e1,e2,e3,e4,Int.reduceEq]
 refine VCall.of_contract (refright_c _ _ _ _) (SleL.pure rfl) fun x hx=>?_
 subst hx
 unfold decA okW
 cases h:okI (opW w) (raW w) (rbW w) (kW w)
 ·simp only[go_sem]
  exact ⟨_,Frz.ins,rfl⟩
 ·simp only[go_sem]
  exact ⟨_,Frz.ins,rfl⟩
theorem winB_in {v most:Int} {named:Bool} (h:winB v most named=true) (hm:0≤most):0≤v∧v≤most:=by
 unfold winB at h
 split at h
 ·simp at h;exact h
 ·simp at h;omega
theorem okI_in {op a b c:Int} (h:okI op a b c=true):1≤op∧op≤27∧0≤a∧a≤15∧0≤b∧b≤15∧0≤c∧c≤65535∧(cK op=2→c≤15):=by
 unfold okI at h
 simp only[Bool.and_eq_true]at h
 obtain ⟨⟨⟨h1,h2⟩,h3⟩,h4⟩:=h
 have h2:=winB_in h2 (by omega)
 have h3:=winB_in h3 (by omega)
 have h5:=winB_in h4 (by split<;>omega)
 simp[vOp]at h1
 split at h5<;>omega
set_option maxRecDepth 10000
open Go.V
def encI (op a b c:Int):Int:=op*16777216+a*1048576+b*65536+c
theorem or_hi {x y:Int} (i:Nat) (hi:i≤24) (hx:0≤x) (hx2:x*((2 ^ i:Nat):Int)<4294967296) (hy:0≤y) (hy2:y<((2 ^ i:Nat):Int)) (hy3:y<4294967296) :
 IntKind.u32.wrap (((BitVec.ofInt 32 (x*((2 ^ i:Nat):Int)) ||| BitVec.ofInt 32 y).toNat:Nat):Int)=x*((2 ^ i:Nat):Int)+y:=by
 obtain ⟨a,rfl⟩:=Int.eq_ofNat_of_zero_le hx
 obtain ⟨b,rfl⟩:=Int.eq_ofNat_of_zero_le hy
 have e:(a:Int)*((2 ^ i:Nat):Int)=((a*2 ^ i:Nat):Int):=by simp
 rw[e]at hx2 ⊢
 have h3:=orW_eq (a:=((a*2 ^ i:Nat):Int)) (b:=(b:Int)) ⟨by omega,by omega⟩ ⟨by omega,by omega⟩
 unfold orW at h3
 rw[w32]at h3
 have h4:IntKind.u32.wrap (((BitVec.ofInt 32 ((a*2 ^ i:Nat):Int) ||| BitVec.ofInt 32 (b:Int)).toNat:Nat):Int)=_:=h3
 rw[h4,Int.toNat_natCast,Int.toNat_natCast,Nat.mul_comm a,← Nat.two_pow_add_eq_or_of_lt (by omega) a]
 omega
theorem encI_c (op a b c:Int) (h:okI op a b c=true):Contract Try.prog 54 [insA op a b c] (fun r=>r = .tup [U32 (encI op a b c),I 0]):=by
 refine Contract.of_call (VCall.of_body hmix f_inst_Encode (by simp) ?_)
 have hb:=okI_in h
 have c1:IntKind.u32.wrap op=op:=w32_in ⟨by omega,by omega⟩
 have c2:IntKind.u32.wrap a=a:=w32_in ⟨by omega,by omega⟩
 have c3:IntKind.u32.wrap b=b:=w32_in ⟨by omega,by omega⟩
 have c4:IntKind.u32.wrap c=c:=w32_in ⟨by omega,by omega⟩
 have s1:IntKind.u32.wrap (op*2 ^ min 24 32)=op*16777216:=w32_in (n:=op*16777216) ⟨by omega,by omega⟩
 have s2:IntKind.u32.wrap (a*2 ^ min 20 32)=a*1048576:=w32_in (n:=a*1048576) ⟨by omega,by omega⟩
 have s3:IntKind.u32.wrap (b*2 ^ min 16 32)=b*65536:=w32_in (n:=b*65536) ⟨by omega,by omega⟩
 have o1:IntKind.u32.wrap (((BitVec.ofInt 32 (op*16777216) ||| BitVec.ofInt 32 (a*1048576)).toNat:Nat):Int)=op*16777216+a*1048576:=or_hi (x:=op) 24 (by omega) (by omega) (by omega) (by omega) (by omega) (by omega)
 have o2:IntKind.u32.wrap (((BitVec.ofInt 32 (op*16777216+a*1048576) ||| BitVec.ofInt 32 (b*65536)).toNat:Nat):Int)=op*16777216+a*1048576+b*65536:=by
  have:=or_hi (x:=op*16+a) (y:=b*65536) 20 (by omega) (by omega) (by omega) (by omega) (by omega) (by omega)
  rw[show (op*16+a)*((2 ^ 20:Nat):Int)=op*16777216+a*1048576 by omega]at this
  exact this
 have o3:IntKind.u32.wrap (((BitVec.ofInt 32 (op*16777216+a*1048576+b*65536) ||| BitVec.ofInt 32 c).toNat:Nat):Int)=op*16777216+a*1048576+b*65536+c:=by
  have:=or_hi (x:=op*256+a*16+b) (y:=c) 16 (by omega) (by omega) (by omega) (by omega) (by omega) (by omega)
  rw[show (op*256+a*16+b)*((2 ^ 16:Nat):Int)=op*16777216+a*1048576+b*65536 by omega]at this
  exact this
 simp only[go_sem,c_inst_Encode]
 refine VCall.of_contract (right_c _ _ _ _) (SleL.pure rfl) fun x hx=>?_
 subst hx
 simp only[go_sem,h,c1,c2,c3,c4,s1,s2,s3]
 refine ⟨_,Frz.pure rfl,?_⟩
 unfold encI
 rw[← o3,← o2,← o1]
 rfl
set_option maxRecDepth 10000
open Go.V
theorem flat_at {α:Type} [Inhabited α] (f:α→List AV) (n:Nat) (hf:∀ a,(f a).length=n):∀ (l:List α) (k:Nat),k<l.length→(((l.map f).flatten).drop (k*n)).take n=f (l.getD k default)
 | [],k,h=>absurd h (Nat.not_lt_zero _)
 | a::l,0,_=>by simp[hf,List.take_append_of_le_length (Nat.le_of_eq (hf a).symm),List.take_of_length_le (Nat.le_of_eq (hf a))]
 | a::l,k+1,h=>by
  have:=flat_at f n hf l k (by simpa using h)
  simp only[List.map_cons,List.flatten_cons,List.getD_cons_succ]
  rw[← this,List.drop_append,show (k+1)*n-(f a).length=k*n by rw[hf,Nat.add_mul];omega,List.drop_eq_nil_of_le (by rw[hf,Nat.add_mul];omega),List.nil_append]
theorem cellT_flat {α:Type} [Inhabited α] {f:α→List AV} {n:Nat} (hf:∀ a,(f a).length=n) {l:List α} {k:Nat} {C:AV→Prop} (hk:k<l.length):cellT (l.map f).flatten (k*n) true n C .mk=C (.agg (f (l.getD k default))):=by
 show (partOK _ _ _ _∧C (partA _ _ _ _))=_
 have hl:(l.map f).flatten.length=l.length*n:=sz_flat f n hf l
 have:partOK (l.map f).flatten (k*n) true n:=⟨by rw[hl];have:=Nat.mul_le_mul_right n (show k+1≤l.length by omega);rw[Nat.add_mul]at this;omega,.inl rfl⟩
 rw[show partA (l.map f).flatten (k*n) true n = .agg (f (l.getD k default)) by unfold partA;rw[if_pos rfl,flat_at f n hf l k hk]]
 simp[this]
theorem ci_set:∀ (l:List Ci) (k:Nat) (x:Int),k<l.length→((l.map ciL).flatten).set (k*4+3) (I x)=((l.set k { l.getD k default with c:=x }).map ciL).flatten
 | [],k,x,h=>absurd h (Nat.not_lt_zero _)
 | i::l,0,x,_=>by simp
 | i::l,k+1,x,h=>by
  have:=ci_set l k x (by simpa using h)
  simp only[List.map_cons,List.flatten_cons,List.getD_cons_succ,List.set_cons_succ]
  rw[← this,List.set_append_right _ _ (by simp only[List.length_cons,List.length_nil];omega)]
  simp only[List.length_cons,List.length_nil]
  rw[show (k+1)*4+3-(0+1+1+1+1)=k*4+3 by omega]
def tgt (en:List Int) (rows:List (List Int)) (p:Int × Int):Int:=if 0≤p.2 then (rows.getD p.1.toNat []).getD p.2.toNat default else en.getD p.1.toNat default
def patch (en:List Int) (rows:List (List Int)):List Ci→List Sp→List Ci
 | code,[]=>code
 | code,s::t=>patch en rows (code.set s.1.toNat { code.getD s.1.toNat default with c:=tgt en rows s.2 }) t
def fixY (en:List Int) (rows:List (List Int)) (l:List Sy):List Ci:=l.map fun y=>match y.2 with
 | none=>y.1
 | some p=>{ y.1 with c:=tgt en rows p }
theorem patch_spot (en:List Int) (rows:List (List Int)):∀ (l:List Sy) (pre:List Ci),patch en rows (pre++l.map (·.1)) (spotL pre.length l)=pre++fixY en rows l
 | [],pre=>by simp[spotL,patch,fixY]
 | (i,none)::l,pre=>by
  have:=patch_spot en rows l (pre++[i])
  simp only[List.length_append,List.length_cons,List.length_nil,List.append_assoc,List.cons_append,List.nil_append,Nat.zero_add]at this
  simpa [spotL,fixY] using this
 | (i,some p)::l,pre=>by
  have:=patch_spot en rows l (pre++[{ i with c:=tgt en rows p }])
  simp only[List.length_append,List.length_cons,List.length_nil,List.append_assoc,List.cons_append,List.nil_append,Nat.zero_add]at this
  simp only[List.map_cons,spotL,patch,fixY]at this ⊢
  rw[Int.toNat_natCast,show (pre++i::l.map (·.1)).getD pre.length default=i by simp[List.getD],show (pre++i::l.map (·.1)).set pre.length { i with c:=tgt en rows (p.1,p.2) }=pre++{ i with c:=tgt en rows p }::l.map (·.1) by simp]
  exact this
theorem spotL_mem:∀ (l:List Sy) (n:Nat) (s:Sp),s ∈ spotL n l→(n:Int)≤s.1∧s.1<((n+l.length:Nat):Int)∧∃ i,(i,some s.2) ∈ l
 | [],n,s,h=>by simp[spotL]at h
 | (i,none)::l,n,s,h=>by
  obtain ⟨h1,h2,j,h3⟩:=spotL_mem l (n+1) s h
  exact ⟨by omega,by simp only[List.length_cons];omega,j,List.mem_cons_of_mem _ h3⟩
 | (i,some p)::l,n,s,h=>by
  simp only[spotL,List.mem_cons]at h
  rcases h with rfl | h
  ·exact ⟨by simp,by simp only[List.length_cons];omega,i,List.mem_cons_self⟩
  ·obtain ⟨h1,h2,j,h3⟩:=spotL_mem l (n+1) s h
   exact ⟨by omega,by simp only[List.length_cons];omega,j,List.mem_cons_of_mem _ h3⟩
structure RowsH (H:List VObj) (bl:List AV) (rows:List (List Int)):Prop where
 len:bl.length=rows.length
 row:∀ i<rows.length,∃ kr sr,bl.getD i .dead = .ref kr sr 0 (rows.getD i []).length∧H[kr]? = some ⟨sr,3,1,(rows.getD i []).map I⟩
structure FQ2 where
 k:Nat
 code:List Ci
 H:List VObj
 nx:Nat
def JOk (en:List Int) (rows:List (List Int)) (l:List Sy):Prop:=∀ i p,(i,some p) ∈ l→0≤p.1∧p.1<en.length∧p.1<rows.length∧p.2<(rows.getD p.1.toNat []).length
def wlJ (fx:List Ci) (i:Nat):List Int:=(List.range fx.length).map fun j=>if j<i then encI (fx.getD j default).op (fx.getD j default).a (fx.getD j default).b (fx.getD j default).c else 0
theorem wlJ_zero (fx:List Ci):wlJ fx 0=List.replicate fx.length 0:=List.ext_getElem (by simp[wlJ]) fun i h1 h2=>by simp[wlJ]
theorem wlJ_len (fx:List Ci) (i:Nat):(wlJ fx i).length=fx.length:=by simp[wlJ]
theorem wlJ_set (fx:List Ci) {i:Nat} (hi:i<fx.length):(wlJ fx i).set i (encI (fx.getD i default).op (fx.getD i default).a (fx.getD i default).b (fx.getD i default).c)=wlJ fx (i+1):=by
 refine List.ext_getElem (by simp[wlJ]) fun j h1 h2=>?_
 rw[List.getElem_set]
 simp only[wlJ,List.getElem_map,List.getElem_range]
 by_cases e:i=j
 ·subst e;rw[if_pos rfl,if_pos (by omega)]
 ·rw[if_neg e]
  by_cases h:j<i
  ·rw[if_pos h,if_pos (by omega)]
  ·rw[if_neg h,if_neg (by omega)]
theorem wlJ_all (fx:List Ci) {i:Nat} (hi:fx.length≤i):wlJ fx i=fx.map fun t=>encI t.op t.a t.b t.c:=by
 refine List.ext_getElem (by simp[wlJ]) fun j h1 h2=>?_
 have hj:j<fx.length:=by simpa [wlJ] using h1
 simp only[wlJ,List.getElem_map,List.getElem_range]
 rw[if_pos (by omega)]
 simp[List.getD,List.getElem?_eq_getElem hj]
abbrev fT:List Nat:=[115]
abbrev encW (i:Ci):Int:=encI i.op i.a i.b i.c
theorem WH.setC {b:BP} {ws:List Int} {back fn:Int} {plv:AV} {q:WI} {H:List VObj} {code code':List Ci} {sp:List Sp} {en:List Int} {bl:List AV} (h:WH b ws back fn plv q H code sp en bl) {k s:Nat} {pv:AV} (hw:H[q.kW]? = some ⟨q.sW,75,1,wrL b back fn plv q (.ref k s 0 code.length) pv⟩)
 (hk:H[k]? = some ⟨s,115,4,(code.map ciL).flatten⟩) (hl:code'.length=code.length):WH b ws back fn plv q (H.set k ⟨s,115,4,(code'.map ciL).flatten⟩) code' sp en bl:=by
 obtain ⟨cv',pv',hw',hc,⟨k2,s2,e2,hp⟩⟩:=h.w
 rw[hw]at hw'
 simp only[Option.some.injEq,VObj.mk.injEq,List.cons.injEq,true_and,and_true]at hw'
 obtain ⟨rfl,rfl⟩:=hw'
 have t:∀ {i:Nat} {ob:VObj} {o:VObj},H[i]? = some ob→ob.ty≠115→(H.set k o)[i]? = some ob:=fun {i ob o} h1 h2=>by
  rw[set_ne (fun e=>by subst e;rw[hk]at h1;cases h1;exact h2 rfl)];exact h1
 exact ⟨⟨_,_,t hw (by simp),⟨k,s,by rw[hl],set_get hk⟩,⟨k2,s2,e2,t hp (by simp)⟩⟩,t h.e (by simp),t h.b (by simp),t h.d (by simp)⟩
set_option maxHeartbeats 1000000 in
theorem finish_v {b:BP} {ws:List Int} {back fn:Int} {plv:AV} {q:WI} {H0:List VObj} {l:List Sy} {en:List Int} {bl:List AV} {rows:List (List Int)} (hp1:plv.one=true) (h:WH b ws back fn plv q H0 (l.map (·.1)) (spotL 0 l) en bl) (hr:RowsH H0 bl rows) (hnf:bl.length=b.funcs.length) (hen:en.length=b.funcs.length) (h20:b.funcs.length≤20)
 (hj:JOk en rows l) (hl:l.length≤100000) (hok:∀ i ∈ fixY en rows l,okI i.op i.a i.b i.c=true) (nx0:Nat) (C:AV→List VObj→Nat→Prop)
 (hC:∀ H' nx' k s,H'[k]? = some ⟨s,45,1,((fixY en rows l).map encW).map U32⟩→KeepT wT H0 H'→C (.tup [.ref k s 0 l.length,I 0]) H' nx') :
 VCall Try.prog 32 [.ptr q.kW q.sW 0] H0 nx0 C:=by
 refine VCall.of_body hmix f_choose_writer_finish (by simp) ?_
 have hmx:(200000000:Nat)≤maxLen:=by decide
 have hsl:=spotL_len l 0
 obtain ⟨cv,pv,hw,⟨kC,sC,rfl,hkC⟩,⟨kP,sP,rfl,hkP⟩⟩:=h.w
 simp only[go_sem,c_choose_writer_finish,hw,hkP,hp1]
 refine VW_loop (fun x:FQ2=>⟨[(0,.ptr q.kW q.sW 0),(15,.ref kP sP 0 (spotL 0 l).length),(16,I (spotL 0 l).length),(17,I x.k)],x.H,x.nx⟩)
  (fun x=>x.k≤(spotL 0 l).length∧WH b ws back fn plv q x.H x.code (spotL 0 l) en bl∧x.H[kP]? = some ⟨sP,113,3,((spotL 0 l).map spL).flatten⟩∧patch en rows x.code ((spotL 0 l).drop x.k)=fixY en rows l∧x.code.length=l.length∧KeepT fT H0 x.H) (fun x=>(spotL 0 l).length-x.k) ⟨0,l.map (·.1),H0,nx0⟩
  (Wk.mk (by simp[get_cons]) ⟨[],by simp⟩ (Nat.le_refl _)) ⟨Nat.zero_le _,h,hkP,by simpa using patch_spot en rows l [],by simp,KeepT.refl _ _⟩ ?_
 rintro ⟨k,code,H,nx⟩ ⟨hk,hwh,hP,hpa,hcl,hkp⟩
 simp only at hk hwh hP hpa hcl hkp
 by_cases hlt:k<(spotL 0 l).length
 ·have hsm:(spotL 0 l).getD k default ∈ spotL 0 l:=mem_getD hlt
  obtain ⟨a1,a2,i0,a3⟩:=spotL_mem l 0 _ hsm
  have hdrop:(spotL 0 l).drop k=(spotL 0 l).getD k default::(spotL 0 l).drop (k+1):=by
   rw[List.drop_eq_getElem_cons hlt];simp[List.getD,List.getElem?_eq_getElem hlt]
  rw[hdrop,patch]at hpa
  obtain ⟨b1,b2,b3,b4⟩:=hj _ _ a3
  have hcF:∀ {C:AV→Prop},cellT ((spotL 0 l).map spL).flatten (k*3) true 3 C .mk=C (.agg (spL ((spotL 0 l).getD k default))):=fun {C}=>cellT_flat (f:=spL) (n:=3) (fun _=>rfl) hlt
  generalize hs:(spotL 0 l).getD k default=s at *
  obtain ⟨at',fn',to'⟩:=s
  simp only at a1 a2 b1 b2 b3 b4
  obtain ⟨cv2,pv2,hw2,⟨k2,s2,rfl,hk2⟩,hp2⟩:=hwh.w
  have he:=hwh.e
  have hb:=hwh.b
  have n1:=ne_len hP
  have n2:=ne_len hw2
  have n3:=ne_len he
  have n4:=ne_len hb
  have n5:=ne_len hk2
  have l1:=lt_of hP
  have l2:=lt_of hw2
  have l3:=lt_of he
  have l4:=lt_of hb
  have l5:=lt_of hk2
  have l6:(H.length<H.length+1)=True:=eq_true (by omega)
  have es:∀ x y:VObj,(H++[x]).set H.length y=H++[y]:=fun x y=>by simp
  obtain ⟨kr,sr,hrow1,hrow0⟩:=hr.row fn'.toNat (by omega)
  have hrow2:=hkp _ _ hrow0 (by simp)
  have hcell:∀ {C:AV→Prop},cellT bl fn'.toNat false 1 C .mk=C (.ref kr sr 0 (rows.getD fn'.toNat []).length):=fun {C}=>cellT_at (by have:=hr.len;omega) rfl hrow1
  have n6:=ne_len hrow2
  have l7:=lt_of hrow2
  have hci:∀ x:Int,((code.map ciL).flatten).set (at'.toNat*4+3) (I x)=((code.set at'.toNat { code.getD at'.toNat default with c:=x }).map ciL).flatten:=fun x=>ci_set code _ x (by omega)
  have hla:(code.map ciL).flatten.length=code.length*4:=sz_flat ciL 4 (fun _=>rfl) code
  by_cases h0:0≤to'
  ·have htg:tgt en rows (fn',to')=(rows.getD fn'.toNat []).getD to'.toNat default:=if_pos h0
   simp only[go_sem,hp1,hp2.one,eq_true (show (k:Int)<(spotL 0 l).length by omega),hs,hP,hcF,hw2,he,hb,hk2,hrow2,hcell,n1,n2,n3,n4,n5,n6,l1,l2,l3,l4,l5,l6,l7,es,eq_true h0,List.getElem?_set,List.getElem?_append,List.length_set,List.length_append,Nat.lt_irrefl,Nat.sub_self]
   repeat ((with_reducible refine And.intro ?_ ?_);· first | omega | (simp;omega))
   rw[hci,← htg,i64_in (n:=(k:Int)+1) (by omega) (by omega)]
   exact ⟨⟨k+1,code.set at'.toNat { code.getD at'.toNat default with c:=tgt en rows (fn',to') },(H++[(⟨nx,113,1,[I at',I fn',I to']⟩:VObj)]).set k2 ⟨s2,115,4,((code.set at'.toNat { code.getD at'.toNat default with c:=tgt en rows (fn',to') }).map ciL).flatten⟩,nx+1⟩,
    ⟨by simp only;omega,(hwh.keep (KeepT.app _ _ _)).setC (ap_old hw2 _) (ap_old hk2 _) (by simp),by simp only;rw[set_ne (fun e=>by rw[e,hP]at hk2;simp at hk2)];exact ap_old hP _,hpa,by simp[hcl],hkp.trans ((KeepT.app _ _ _).trans (KeepT.set (ap_old hk2 _) (by simp)))⟩,by simp only;omega,Wk.mk (by simp[get_cons]) ⟨[],by simp⟩ (Nat.le_refl _)⟩
  ·have htg:tgt en rows (fn',to')=en.getD fn'.toNat default:=if_neg h0
   simp only[go_sem,hp1,hp2.one,eq_true (show (k:Int)<(spotL 0 l).length by omega),hs,hP,hcF,hw2,he,hb,hk2,hrow2,hcell,n1,n2,n3,n4,n5,n6,l1,l2,l3,l4,l5,l6,l7,es,eq_false h0,List.getElem?_set,List.getElem?_append,List.length_set,List.length_append,Nat.lt_irrefl,Nat.sub_self]
   repeat ((with_reducible refine And.intro ?_ ?_);· first | omega | (simp;omega))
   rw[hci,← htg,i64_in (n:=(k:Int)+1) (by omega) (by omega)]
   exact ⟨⟨k+1,code.set at'.toNat { code.getD at'.toNat default with c:=tgt en rows (fn',to') },(H++[(⟨nx,113,1,[I at',I fn',I to']⟩:VObj)]).set k2 ⟨s2,115,4,((code.set at'.toNat { code.getD at'.toNat default with c:=tgt en rows (fn',to') }).map ciL).flatten⟩,nx+1⟩,
    ⟨by simp only;omega,(hwh.keep (KeepT.app _ _ _)).setC (ap_old hw2 _) (ap_old hk2 _) (by simp),by simp only;rw[set_ne (fun e=>by rw[e,hP]at hk2;simp at hk2)];exact ap_old hP _,hpa,by simp[hcl],hkp.trans ((KeepT.app _ _ _).trans (KeepT.set (ap_old hk2 _) (by simp)))⟩,by simp only;omega,Wk.mk (by simp[get_cons]) ⟨[],by simp⟩ (Nat.le_refl _)⟩
 ·obtain rfl:k=(spotL 0 l).length:=by omega
  rw[List.drop_length,patch]at hpa
  subst hpa
  obtain ⟨cv2,pv2,hw2,⟨k2,s2,rfl,hk2⟩,hp2⟩:=hwh.w
  have n2:=ne_len hw2
  have n5:=ne_len hk2
  have l2:=lt_of hw2
  have l5:=lt_of hk2
  rw[hcl]at hw2
  simp only[go_sem,hp1,hp2.one,eq_false (show ¬ ((spotL 0 l).length:Int)<(spotL 0 l).length by omega),hw2,hk2,n2,n5,l2,l5,List.getElem?_set,List.getElem?_append,List.length_set,List.length_append,Nat.lt_irrefl,Nat.sub_self]
  repeat ((with_reducible refine And.intro ?_ ?_);· first | omega | (simp;omega))
  rw[flat_rep,show List.replicate l.length (AV.val (.int .u32 0))=(wlJ (fixY en rows l) 0).map U32 by rw[wlJ_zero,hcl,List.map_replicate]]
  refine VW_loop (fun x:LQ=>⟨[(7,.ref H.length nx 0 l.length),(63,.ref k2 s2 0 l.length),(64,I l.length),(65,I x.j)],x.H,x.nx⟩)
   (fun x=>x.j≤l.length∧x.H[k2]? = some ⟨s2,115,4,((fixY en rows l).map ciL).flatten⟩∧x.H[H.length]? = some ⟨nx,45,1,(wlJ (fixY en rows l) x.j).map U32⟩∧KeepR H.length H x.H) (fun x=>l.length-x.j) ⟨0,H++[⟨nx,45,1,(wlJ (fixY en rows l) 0).map U32⟩],nx+1⟩
   (Wk.mk (by simp[get_cons]) ⟨[],by simp⟩ (Nat.le_refl _)) ⟨Nat.zero_le _,ap_old hk2 _,by simp,KeepR.of (KeepT.app _ _ _)⟩ ?_
  rintro ⟨i,H1,nx1⟩ ⟨hi,hc1,hr1,hk1⟩
  simp only at hi hc1 hr1 hk1
  generalize hfx:fixY en rows l=fx at *
  by_cases hil:i<l.length
  ·have hm1:=hok _ (mem_getD (show i<fx.length by omega))
   have hcF:∀ {C:AV→Prop},cellT (fx.map ciL).flatten (i*4) true 4 C .mk=C (.agg (ciL (fx.getD i default))):=fun {C}=>cellT_flat (f:=ciL) (n:=4) (fun _=>rfl) (by omega)
   have hsw:=wlJ_set fx (show i<fx.length by omega)
   generalize hs:fx.getD i default=t at *
   have n6:=ne_len hc1
   have n7:=ne_len hr1
   have l6:=lt_of hc1
   have l7:=lt_of hr1
   have l8:(H1.length<H1.length+1)=True:=eq_true (by omega)
   have es:∀ x y:VObj,(H1++[x]).set H1.length y=H1++[y]:=fun x y=>by simp
   simp only[go_sem,eq_true (show (i:Int)<l.length by omega),hs,hc1,hcF,n6,n7,l6,l7,l8,es,List.getElem?_set,List.getElem?_append,List.length_set,List.length_append,Nat.lt_irrefl,Nat.sub_self]
   repeat ((with_reducible refine And.intro ?_ ?_);· first | omega | (simp;omega))
   refine VCall.of_contract (encI_c t.op t.a t.b t.c hm1) (SleL.pure rfl) fun x hx=>?_
   subst hx
   simp only[go_sem,hr1,n7,l7,List.getElem?_set,List.getElem?_append,List.length_append,Int.reduceEq,bne_self_eq_false]
   refine ⟨hil,by rw[wlJ_len];omega,?_⟩
   rw[show ((wlJ fx i).map U32).set i (U32 (encI t.op t.a t.b t.c))=(wlJ fx (i+1)).map U32 by rw[← hsw,List.map_set],i64_in (n:=(i:Int)+1) (by omega) (by omega)]
   exact ⟨⟨i+1,(H1++[(⟨nx1,115,1,ciL t⟩:VObj)]).set H.length ⟨nx,45,1,(wlJ fx (i+1)).map U32⟩,nx1+1⟩,⟨by simp only;omega,by simp only;rw[set_ne (fun e=>by rw[← e,hr1]at hc1;simp at hc1)];exact ap_old hc1 _,set_get (ap_old hr1 _),(hk1.trans (KeepR.of (KeepT.app _ _ _))).trans (KeepR.set _ _ _)⟩,by simp only;omega,Wk.mk (by simp[get_cons]) ⟨[],by simp⟩ (Nat.le_refl _)⟩
  ·obtain rfl:i=l.length:=by omega
   simp only[go_sem,eq_false (show ¬ (l.length:Int)<l.length by omega)]
   rw[wlJ_all fx (by omega)]at hr1
   exact hC _ _ _ _ hr1 fun a ob g1 g2=>by
    have g3:=hkp a ob g1 (fun e=>g2 (by simp at e;simp[e]))
    exact hk1 a ob g3 g2 (by have:=(List.getElem?_eq_some_iff.1 g3).1;omega)
set_option maxRecDepth 10000
open Go.V
theorem parts_of {f:BF} {number words:Int} (h:oneB f number words=true):∀ b ∈ f.bks,EndsP b f.bks.length f.regs∧∀ t ∈ b.ins,FitsT t number f.regs words:=by
 unfold oneB at h
 simp only[Bool.and_eq_true,decide_eq_true_eq,List.all_eq_true]at h
 intro b hb
 have h5:=h.2 b hb
 unfold blkB endsB insB fitsT at h5
 simp only[Bool.and_eq_true,decide_eq_true_eq,List.all_eq_true]at h5
 exact h5
section
variable {op a b c:Int}
theorem ok_num (ho:op=16∨op=17) (ha:0≤a∧a≤15) (hb:0≤b∧b≤15) (hc:0≤c∧c≤65535):okI op a b c=true:=by
 rcases ho with rfl | rfl<;>simp[okI,vOp,winB,hA,hB,cK]<;>omega
theorem ok_one (ho:op=1∨op=2∨op=19∨op=20∨op=21∨op=25) (ha:0≤a∧a≤15) (hc:0≤c∧c≤65535):okI op a 0 c=true:=by
 rcases ho with rfl | rfl | rfl | rfl | rfl | rfl<;>simp[okI,vOp,winB,hA,hB,cK]<;>omega
theorem ok_jmp (hc:0≤c∧c≤65535):okI 18 0 0 c=true:=by simp[okI,vOp,winB,hA,hB,cK];omega
theorem ok_reg (ho:op=22∨op=23∨op=24) (ha:0≤a∧a≤15):okI op a 0 0=true:=by
 rcases ho with rfl | rfl | rfl<;>simp[okI,vOp,winB,hA,hB,cK]<;>omega
theorem ok_mov (ha:0≤a∧a≤15) (hb:0≤b∧b≤15):okI 3 a b 0=true:=by simp[okI,vOp,winB,hA,hB,cK];omega
theorem ok_halt:okI 26 0 0 0=true:=by decide
theorem ok_op (ho:4≤op∧op≤15) (ha:0≤a∧a≤15) (hb:0≤b∧b≤15) (hc:0≤c∧c≤15):okI op a b c=true:=by
 have h1:op≠18:=by omega
 have h2:op≠26:=by omega
 have e1:vOp op=true:=by simp[vOp];omega
 have e2:hA op=true:=by simp[hA,e1,h1,h2]
 have e3:hB op=true:=by simp[hB];omega
 have e4:cK op=2:=by unfold cK;rw[if_pos ho]
 simp[okI,e1,e2,e3,e4,winB];omega
end
def SyOk (b:BP) (y:Sy):Prop:=(y.2=none→okI y.1.op y.1.a y.1.b y.1.c=true) ∧
 ∀ p,y.2=some p→(∀ x,0≤x∧x≤65535→okI y.1.op y.1.a y.1.b x=true)∧0≤p.1∧p.1<b.funcs.length∧p.2<((b.funcs.getD p.1.toNat default).bks.length:Int)
theorem SyOk.p {b:BP} {op a bb c:Int} (h:okI op a bb c=true):SyOk b (pY op a bb c):=⟨fun _=>h,fun p hp=>by simp[pY]at hp⟩
theorem SyOk.j {b:BP} {op a f to:Int} (h:∀ x,0≤x∧x≤65535→okI op a 0 x=true) (h0:0≤f) (h1:f<b.funcs.length) (h2:to<((b.funcs.getD f.toNat default).bks.length:Int)):SyOk b (jY op a f to) :=
 ⟨fun e=>by simp[jY]at e,fun p hp=>by simp only[jY,Option.some.injEq]at hp;subst hp;exact ⟨h,h0,h1,h2⟩⟩
structure CxS (c:Cx):Prop where
 ok:CxOk c
 ws:gP c.ws c.fn≤60000
 bk:c.back+c.fn≤65535
section
variable {c:Cx}
theorem CxS.own (h:CxS c) {p:Int} (hp : -4000≤p∧p≤-1):0≤c.own p∧c.own p≤65535:=by
 have h1:=h.ok.wv c.fn (by rw[h.ok.wl];exact h.ok.fl)
 have h2:=h.ws
 unfold Cx.own;omega
theorem CxS.reg (h:CxS c) {v s:Int} (hv:0≤v∧v<c.pl.length) (hs:0≤s∧s≤15):0≤fetchR c v s∧fetchR c v s≤15:=by
 have:=h.ok.p hv.1 hv.2
 unfold fetchR;split<;>omega
theorem CxS.int (h:CxS c) {v:Int} (hv:0≤v∧v<c.pl.length):0≤intoR c v∧intoR c v≤15:=by
 have:=h.ok.p hv.1 hv.2
 unfold intoR;split<;>omega
theorem fetch_ok (h:CxS c) {v s:Int} (hv:0≤v∧v<c.pl.length) (hs:0≤s∧s≤15):∀ y ∈ fetchY c v s,SyOk c.b y:=by
 have:=h.ok.p hv.1 hv.2
 intro y hy
 unfold fetchY at hy
 split at hy
 ·simp at hy
 ·simp only[List.mem_singleton]at hy
  subst hy
  exact SyOk.p (ok_num (.inl rfl) hs ⟨by omega,by omega⟩ (h.own (by omega)))
theorem keep_ok (h:CxS c) {v r:Int} (hv:0≤v∧v<c.pl.length) (hr:0≤r∧r≤15):∀ y ∈ keepY c v r,SyOk c.b y:=by
 have:=h.ok.p hv.1 hv.2
 intro y hy
 unfold keepY at hy
 split at hy
 ·simp only[List.mem_singleton]at hy
  subst hy
  exact SyOk.p (ok_num (.inr rfl) hr ⟨by omega,by omega⟩ (h.own (by omega)))
 ·simp at hy
theorem all_app {P:Sy→Prop} {l m:List Sy} (h1:∀ y ∈ l,P y) (h2:∀ y ∈ m,P y):∀ y ∈ l++m,P y:=fun y hy=>(List.mem_append.1 hy).elim (h1 y) (h2 y)
theorem all_one {P:Sy→Prop} {x:Sy} (h:P x):∀ y ∈ [x],P y:=fun y hy=>by rw[List.mem_singleton.1 hy];exact h
theorem all_nil {P:Sy→Prop}:∀ y ∈ ([]:List Sy),P y:=fun y hy=>by cases hy
theorem const_ok (h:CxS c) {v n:Int} (hv:0≤v∧v<c.pl.length) (hn:In32 n):∀ y ∈ constY c v n,SyOk c.b y:=by
 obtain ⟨h0,h1⟩:=hn
 have hi:=h.int hv
 unfold constY
 split
 ·exact keep_ok h hv ⟨by omega,by omega⟩
 ·refine all_app (l:=[_]) (all_one (SyOk.p (ok_one (.inl rfl) hi ⟨by omega,by omega⟩))) (all_app ?_ (keep_ok h hv hi))
  split
  ·exact all_nil
  ·exact all_one (SyOk.p (ok_one (.inr (.inl rfl)) hi ⟨by omega,by omega⟩))
theorem copy_ok (h:CxS c) {d a:Int} (hd:0≤d∧d<c.pl.length) (ha:0≤a∧a<c.pl.length):∀ y ∈ copyY c d a,SyOk c.b y:=by
 have hp:=h.ok.p hd.1 hd.2
 unfold copyY
 split
 ·exact all_nil
 split
 ·refine all_app (fetch_ok h ha ⟨by omega,by omega⟩) ?_
  split
  ·exact all_nil
  ·exact all_one (SyOk.p (ok_mov ⟨by omega,by omega⟩ (h.reg ha ⟨by omega,by omega⟩)))
 ·exact all_app (fetch_ok h ha ⟨by omega,by omega⟩) (keep_ok h hd (h.reg ha ⟨by omega,by omega⟩))
theorem ins_ok (h:CxS c) {t:Tac} (ht:InsOk c t) {words regs:Int} (hf:FitsT t c.fn regs words) (hw:words≤60000) (hb:∀ i<c.b.funcs.length,0<(c.b.funcs.getD i default).bks.length):∀ y ∈ insY c t,SyOk c.b y:=by
 obtain ⟨_,_,_,_,_,_,_,hr⟩:=hf
 have ho:=ht.o
 have hfl:=h.ok.fl
 obtain ⟨op,d,a,b,k,base,size,n⟩:=t
 have hd:=ht.d
 have ha:=ht.a
 have hbb:=ht.b
 have hn:=ht.n
 simp only[SetsT,restT]at ho hd ha hbb hn hr
 have r9:(0:Int)≤9∧(9:Int)≤15:=⟨by omega,by omega⟩
 have r10:(0:Int)≤10∧(10:Int)≤15:=⟨by omega,by omega⟩
 have r0:(0:Int)≤0∧(0:Int)≤15:=⟨by omega,by omega⟩
 have hcs:op=1∨op=2∨op=3∨op=4∨op=5∨op=6∨op=7∨op=8∨op=9∨op=10:=by omega
 rcases hcs with rfl | rfl | rfl | rfl | rfl | rfl | rfl | rfl | rfl | rfl<;>simp only[Int.reduceEq,or_false,or_true,false_or,true_or,or_self,↓reduceIte,forall_const,false_implies,and_true]at hd ha hbb hr
 ·exact const_ok h hd hn
 ·exact copy_ok h hd ha
 ·exact all_app (all_app (all_app (fetch_ok h ha r9) (fetch_ok h hbb r10)) (all_one (SyOk.p (ok_op ⟨hr.1,hr.2.1⟩ (h.int hd) (h.reg ha r9) (h.reg hbb r10))))) (keep_ok h hd (h.int hd))
 ·exact all_app (all_one (SyOk.p (ok_num (.inl rfl) (h.int hd) r0 ⟨by first | omega | (dsimp only;omega),by first | omega | (dsimp only;omega)⟩))) (keep_ok h hd (h.int hd))
 ·exact all_app (fetch_ok h ha r9) (all_one (SyOk.p (ok_num (.inr rfl) (h.reg ha r9) r0 ⟨by first | omega | (dsimp only;omega),by first | omega | (dsimp only;omega)⟩)))
 ·exact all_app (all_app (all_app (fetch_ok h ha r9) (all_one (SyOk.p (ok_one (by omega) (h.reg ha r9) ⟨by first | omega | (dsimp only;omega),by first | omega | (dsimp only;omega)⟩)))) (all_one (SyOk.p (ok_num (.inl rfl) (h.int hd) (h.reg ha r9) ⟨by first | omega | (dsimp only;omega),by first | omega | (dsimp only;omega)⟩)))) (keep_ok h hd (h.int hd))
 ·exact all_app (all_app (all_app (fetch_ok h ha r9) (all_one (SyOk.p (ok_one (by omega) (h.reg ha r9) ⟨by first | omega | (dsimp only;omega),by first | omega | (dsimp only;omega)⟩)))) (fetch_ok h hbb r10)) (all_one (SyOk.p (ok_num (.inr rfl) (h.reg hbb r10) (h.reg ha r9) ⟨by first | omega | (dsimp only;omega),by first | omega | (dsimp only;omega)⟩)))
 ·exact all_app (all_one (SyOk.p (ok_reg (by omega) (h.int hd)))) (keep_ok h hd (h.int hd))
 ·exact all_app (fetch_ok h ha r9) (all_one (SyOk.p (ok_reg (by omega) (h.reg ha r9))))
 ·exact all_one (SyOk.j (fun x hx=>ok_one (by omega) ⟨by first | omega | (dsimp only;omega),by first | omega | (dsimp only;omega)⟩ hx) hr.2.1 (by dsimp only;omega) (by have:=hb base.toNat (by omega);dsimp only;omega))
theorem ends_ok (h:CxS c) {f:BF} (hf:c.b.funcs.getD c.fn default=f) {b:Bk} (hE:EndsP b f.bks.length f.regs) (hr:f.regs≤c.pl.length) (n:Int):∀ y ∈ endY c b n,SyOk c.b y:=by
 have hfl:=h.ok.fl
 have hbk:=h.ok.bk
 have hbk2:=h.bk
 have e:(c.b.funcs.getD ((c.fn:Int)).toNat default).bks.length=f.bks.length:=by rw[Int.toNat_natCast,hf]
 have jm:∀ to:Int,to<f.bks.length→SyOk c.b (jY 18 0 c.fn to):=fun to hto=>SyOk.j (fun x hx=>ok_jmp hx) (by omega) (by omega) (by rw[e];exact hto)
 unfold EndsP at hE
 unfold endY
 split
 ·rename_i h1
  rw[if_pos h1]at hE
  split
  ·exact all_nil
  ·exact all_one (jm _ hE.2.1)
 split
 ·rename_i h1 h2
  rw[if_neg h1,if_pos h2]at hE
  have hv:0≤b.v∧b.v<c.pl.length:=⟨hE.2.2.2.2.1,by omega⟩
  have r9:(0:Int)≤9∧(9:Int)≤15:=⟨by omega,by omega⟩
  split
  ·exact all_app (fetch_ok h hv r9) (all_one (SyOk.j (fun x hx=>ok_one (by omega) (h.reg hv r9) hx) (by omega) (by omega) (by rw[e];exact hE.2.2.2.1)))
  ·refine all_app (all_app (fetch_ok h hv r9) (all_one (SyOk.j (fun x hx=>ok_one (by omega) (h.reg hv r9) hx) (by omega) (by omega) (by rw[e];exact hE.2.1)))) ?_
   split
   ·exact all_nil
   ·exact all_one (jm _ hE.2.2.2.1)
 split
 ·split
  ·exact all_one (SyOk.p ok_halt)
  ·exact all_app (l:=[_]) (all_one (SyOk.p (ok_num (.inl rfl) ⟨by omega,by omega⟩ ⟨by omega,by omega⟩ ⟨by omega,by omega⟩))) (all_one (SyOk.p (ok_reg (by omega) ⟨by omega,by omega⟩)))
 ·exact all_nil
end
set_option maxRecDepth 10000
open Go.V
def wsO (b:BP) (ls:List (List Int)):List Int:=(List.range b.funcs.length).map fun i=>b.words+totW (ls.take i)
def cxO (b:BP) (ls:List (List Int)) (i:Nat):Cx:=⟨b,wsO b ls,b.words+totW ls,i,ls.getD i default⟩
def fO (b:BP) (i:Nat):BF:=b.funcs.getD i default
structure S3 where
 l:List Sy
 en:List Int
 rows:List (List Int)
def stepO (b:BP) (ls:List (List Int)) (rw:Nat→List Bool) (S:S3) (i:Nat):S3 :=
 ⟨S.l++funY (cxO b ls i) (rw i) (fO b i),S.en.set i (S.l.length:Nat),S.rows.set i (rowJ (cxO b ls i) (S.l++headY (cxO b ls i) (rw i)).length (fO b i).bks (fO b i).bks.length)⟩
def runO (b:BP) (ls:List (List Int)) (rw:Nat→List Bool) (ord:List Nat):S3:=ord.foldl (stepO b ls rw) ⟨[],List.replicate b.funcs.length 0,List.replicate b.funcs.length []⟩
def ordJ (n j:Nat):List Nat:=(n-1)::List.range j
def endO (b:BP) (ls:List (List Int)) (rw:Nat→List Bool):S3:=runO b ls rw (ordJ b.funcs.length (b.funcs.length-1))
def codeO (b:BP) (ls:List (List Int)) (rw:Nat→List Bool):List Int:=(fixY (endO b ls rw).en (endO b ls rw).rows (endO b ls rw).l).map encW
def dataO (b:BP) (ls:List (List Int)):Int:=b.words+totW ls+((b.funcs.length:Int)-1)
theorem runO_snoc (b:BP) (ls:List (List Int)) (rw:Nat→List Bool) (o:List Nat) (i:Nat):runO b ls rw (o++[i])=stepO b ls rw (runO b ls rw o) i:=by unfold runO;rw[List.foldl_append];rfl
theorem ordJ_succ (n j:Nat):ordJ n (j+1)=ordJ n j++[j]:=by unfold ordJ;rw[List.range_succ];rfl
theorem totW_le {ls:List (List Int)} (hw:∀ i<ls.length,0≤wdsI (ls.getD i default)∧wdsI (ls.getD i default)≤4000):∀ k,k≤ls.length→0≤totW (ls.take k)∧totW (ls.take k)≤4000*k
 | 0,_=>by simp[totW]
 | k+1,hk=>by
  have h1:=totW_le hw k (by omega)
  have h2:=hw k (by omega)
  rw[totW_step ls (by omega)]
  omega
theorem totW_mono {ls:List (List Int)} (hw:∀ i<ls.length,0≤wdsI (ls.getD i default)∧wdsI (ls.getD i default)≤4000):∀ k d,k+d≤ls.length→totW (ls.take k)≤totW (ls.take (k+d))
 | k,0,_=>Int.le_refl _
 | k,d+1,h=>by
  have h1:=totW_mono hw k d (by omega)
  have h2:=hw (k+d) (by omega)
  rw[← Nat.add_assoc,totW_step ls (by omega)]
  omega
section
variable {b:BP} {ls:List (List Int)}
theorem FairP.words (h:FairP b ls):0≤b.words∧b.words≤8000∧0<b.funcs.length:=by
 have hr:=h.few.r
 unfold rightB at hr
 simp only[Bool.and_eq_true,decide_eq_true_eq]at hr
 have:=h.few.w
 exact ⟨hr.1.1,this,List.length_pos_iff.2 hr.1.2.2⟩
theorem FairP.tot (h:FairP b ls) (k:Nat) (hk:k≤ls.length):0≤totW (ls.take k)∧totW (ls.take k)≤600:=by
 have h1:=totW_le h.hold.wds k hk
 have h2:=totW_mono h.hold.wds k (ls.length-k) (by omega)
 rw[show k+(ls.length-k)=ls.length by omega,List.take_of_length_le (Nat.le_refl _)]at h2
 have:=h.wds
 omega
theorem FairP.cx (h:FairP b ls) {i:Nat} (hi:i<b.funcs.length):CxS (cxO b ls i):=by
 have hw:=h.words
 have hl:=h.hold.len
 have h20:=h.few.l
 obtain ⟨hf,hr,ho⟩:=h.few.fine hi
 obtain ⟨L,hL,hA⟩:=h.hold.al i hi
 have hT:=h.tot ls.length (Nat.le_refl _)
 rw[List.take_of_length_le (Nat.le_refl _)]at hT
 have hwl:(wsO b ls).length=b.funcs.length:=by simp[wsO]
 have hg:∀ k<b.funcs.length,gP (wsO b ls) k=b.words+totW (ls.take k):=fun k hk=>by simp[gP,wsO,List.getD,hk]
 have hpl:(ls.getD i default).length=(b.funcs.getD i default).r:=hA.len
 refine ⟨⟨hi,h20,hwl,fun k hk=>?_,?_,?_,fun v hv=>?_⟩,?_,?_⟩
 ·rw[show (cxO b ls i).ws=wsO b ls from rfl]at hk ⊢
  rw[hwl]at hk
  have:=h.tot k (by omega)
  rw[hg k hk];omega
 ·show 0≤b.words+totW ls∧b.words+totW ls≤100000
  omega
 ·show (ls.getD i default).length≤4000
  omega
 ·exact hA.ok v (by rw[← hpl];exact hv)
 ·show gP (wsO b ls) i≤60000
  have:=h.tot i (by omega)
  rw[hg i hi];omega
 ·show b.words+totW ls+(i:Int)≤65535
  omega
theorem FairP.parts (h:FairP b ls) {i:Nat} (hi:i<b.funcs.length):∀ k ∈ (fO b i).bks,EndsP k (fO b i).bks.length (fO b i).regs∧∀ t ∈ k.ins,FitsT t i (fO b i).regs b.words:=parts_of (h.few.fine hi).2.2
theorem FairP.pl (h:FairP b ls) {i:Nat} (hi:i<b.funcs.length):((cxO b ls i).pl.length:Int)=(fO b i).regs∧(cxO b ls i).pl.length=(fO b i).r:=by
 obtain ⟨hf,hr,ho⟩:=h.few.fine hi
 obtain ⟨L,hL,hA⟩:=h.hold.al i hi
 have h0:=hf.r0
 have e:(cxO b ls i).pl.length=(fO b i).r:=hA.len
 refine ⟨?_,e⟩
 rw[e];unfold fO BF.r;omega
theorem FairP.insOk (h:FairP b ls) (hn:∀ f ∈ b.funcs,∀ k ∈ f.bks,∀ t ∈ k.ins,In32 t.n) {i:Nat} (hi:i<b.funcs.length) {k:Bk} (hk:k ∈ (fO b i).bks) {t:Tac} (ht:t ∈ k.ins):InsOk (cxO b ls i) t:=by
 obtain ⟨o1,o2,hd,hu,_,_,_,_⟩:=(h.parts hi k hk).2 t ht
 have hp:=(h.pl hi).1
 refine ⟨⟨o1,o2⟩,fun hs=>?_,fun ha=>?_,fun hb=>?_,hn _ (mem_getD hi) k hk t ht⟩
 ·rw[if_pos hs]at hd;rw[hp];exact hd
 ·rw[hp]
  refine hu t.a ?_
  unfold usesL
  by_cases c1:t.op=2∨t.op=5∨t.op=6∨t.op=9
  ·rw[if_pos c1];simp
  ·rw[if_neg c1,if_pos (by omega)];simp
 ·rw[hp]
  refine hu t.b ?_
  unfold usesL
  rw[if_neg (by omega),if_pos (by omega)];simp
theorem FairP.fn (h:FairP b ls) (hn:∀ f ∈ b.funcs,∀ k ∈ f.bks,∀ t ∈ k.ins,In32 t.n) {i:Nat} (hi:i<b.funcs.length):FnOk (cxO b ls i) (fO b i):=by
 have hp:=(h.pl hi).1
 have htot:=h.few.n
 have hm:=totF_mem (mem_getD hi)
 refine ⟨rfl,(h.few.fine hi).1,(h.pl hi).2,by unfold fO;omega,fun k hk=>?_⟩
 have hE:=(h.parts hi k hk).1
 unfold EndsP at hE
 refine ⟨fun t ht=>h.insOk hn hi hk ht,?_,fun e2=>?_⟩
 ·by_cases e1:k.e=1
  ·exact .inl e1
  ·rw[if_neg e1]at hE
   by_cases e2:k.e=2
   ·exact .inr (.inl e2)
   ·rw[if_neg e2]at hE;exact .inr (.inr hE.1)
 ·rw[if_neg (by omega),if_pos e2]at hE
  rw[hp];exact ⟨hE.2.2.2.2.1,hE.2.2.2.2.2⟩
theorem blks_ok {c:Cx}:∀ (l:List Bk) (j:Nat),(∀ k ∈ l,(∀ t ∈ k.ins,∀ y ∈ insY c t,SyOk c.b y)∧∀ n,∀ y ∈ endY c k n,SyOk c.b y)→∀ y ∈ blksY c j l,SyOk c.b y
 | [],_,_=>all_nil
 | k::l,j,h=>by
  refine all_app (all_app (fun y hy=>?_) ((h k (List.mem_cons_self)).2 _)) (blks_ok l (j+1) fun x hx=>h x (List.mem_cons_of_mem _ hx))
  obtain ⟨t,ht,hy⟩:=List.mem_flatMap.1 hy
  exact (h k List.mem_cons_self).1 t ht y hy
theorem head_ok {c:Cx} (h:CxS c) {row:List Bool} (hrow:row.length≤c.pl.length):∀ y ∈ headY c row,SyOk c.b y:=by
 have hbk:=h.ok.bk
 have hbk2:=h.bk
 unfold headY
 refine all_app ?_ fun y hy=>?_
 ·split
  ·exact all_nil
  ·exact all_one (SyOk.p (ok_num (.inr rfl) ⟨by omega,by omega⟩ ⟨by omega,by omega⟩ ⟨by omega,by omega⟩))
 ·obtain ⟨v,hv,hy⟩:=List.mem_flatMap.1 hy
  have hv':=List.mem_range.1 hv
  have hvp:0≤(v:Int)∧(v:Int)<c.pl.length:=⟨by omega,by omega⟩
  have hp:=h.ok.p hvp.1 hvp.2
  unfold zeroY at hy
  split at hy
  ·split at hy
   ·exact all_one (SyOk.p (ok_one (.inl rfl) ⟨by omega,by omega⟩ ⟨by omega,by omega⟩)) y hy
   ·exact keep_ok h hvp ⟨by omega,by omega⟩ y hy
  ·cases hy
theorem FairP.funOk (h:FairP b ls) (hn:∀ f ∈ b.funcs,∀ k ∈ f.bks,∀ t ∈ k.ins,In32 t.n) {i:Nat} (hi:i<b.funcs.length) {row:List Bool} (hrow:row.length≤(fO b i).r):∀ y ∈ funY (cxO b ls i) row (fO b i),SyOk b y:=by
 have hc:=h.cx hi
 have hp:=h.pl hi
 have hw:=h.words
 refine all_app (head_ok hc (by rw[hp.2];exact hrow)) (blks_ok (c:=cxO b ls i) _ 0 fun k hk=>⟨fun t ht=>?_,fun n=>?_⟩)
 ·refine ins_ok hc (h.insOk hn hi hk ht) ((h.parts hi k hk).2 t ht) (by omega) fun j hj=>?_
  have:=(h.few.fine hj).1.b0
  exact List.length_pos_iff.2 this
 ·exact ends_ok hc rfl (h.parts hi k hk).1 (by rw[hp.1];exact Int.le_refl _) n
structure RunP (b:BP) (S:S3) (o:List Nat) (N:Nat):Prop where
 en:S.en.length=b.funcs.length
 rows:S.rows.length=b.funcs.length
 ok:∀ y ∈ S.l,SyOk b y
 len:S.l.length≤N
 env:∀ x ∈ S.en,0≤x∧x≤(S.l.length:Int)
 rwv:∀ r ∈ S.rows,∀ x ∈ r,0≤x∧x≤(S.l.length:Int)
 rwl:∀ i ∈ o,(S.rows.getD i []).length=(fO b i).bks.length
theorem funY_len (c:Cx) (row:List Bool) (f:BF):(funY c row f).length≤row.length+1+4*cntB f.bks:=by
 have h1:=headY_len c row
 have h2:=blksY_len c f.bks 0
 unfold funY
 rw[List.length_append];omega
theorem RunP.step (h:FairP b ls) (hn:∀ f ∈ b.funcs,∀ k ∈ f.bks,∀ t ∈ k.ins,In32 t.n) {rw:Nat→List Bool} (hrw:∀ i<b.funcs.length,(rw i).length≤(fO b i).r) {S:S3} {o:List Nat} {N i:Nat} (hS:RunP b S o N) (hi:i<b.funcs.length) :
 RunP b (stepO b ls rw S i) (o++[i]) (N+(31+4*cntB (fO b i).bks)):=by
 have hfl:=funY_len (cxO b ls i) (rw i) (fO b i)
 have hr:=hrw i hi
 have hr2:(fO b i).r≤30:=(h.few.fine hi).2.1
 have hSl:=hS.len
 have hrow:∀ x ∈ rowJ (cxO b ls i) (S.l++headY (cxO b ls i) (rw i)).length (fO b i).bks (fO b i).bks.length,0≤x∧x≤((S.l++funY (cxO b ls i) (rw i) (fO b i)).length:Int):=fun x hx=>by
  unfold rowJ at hx
  obtain ⟨k,hk,rfl⟩:=List.mem_map.1 hx
  have hk':=List.mem_range.1 hk
  rw[if_pos hk']
  have e:blksY (cxO b ls i) 0 (fO b i).bks=blksY (cxO b ls i) 0 ((fO b i).bks.take k)++blksY (cxO b ls i) (0+((fO b i).bks.take k).length) ((fO b i).bks.drop k):=by
   have:∀ (l m:List Bk) (j:Nat),blksY (cxO b ls i) j (l++m)=blksY (cxO b ls i) j l++blksY (cxO b ls i) (j+l.length) m:=by
    intro l
    induction l with
    | nil=>intro m j;simp[blksY]
    | cons a l ih=>intro m j;simp only[List.cons_append,blksY,ih,List.append_assoc,List.length_cons];rw[show j+1+l.length=j+(l.length+1) by omega]
   rw[← this,List.take_append_drop]
  unfold funY
  rw[e]
  simp only[List.length_append]
  omega
 refine ⟨by simp[stepO,hS.en],by simp[stepO,hS.rows],all_app hS.ok (h.funOk hn hi hr),?_,fun x hx=>?_,fun r hr x hx=>?_,fun k hk=>?_⟩
 ·simp only[stepO,List.length_append];omega
 ·simp only[stepO]at hx ⊢
  rw[List.length_append]
  rcases List.mem_or_eq_of_mem_set hx with hx | rfl
  ·have:=hS.env x hx;omega
  ·omega
 ·simp only[stepO]at hr ⊢
  rcases List.mem_or_eq_of_mem_set hr with hr | rfl
  ·have:=hS.rwv r hr x hx
   rw[List.length_append];omega
  ·exact hrow x hx
 ·simp only[stepO]
  by_cases e:i=k
  ·subst e
   rw[List.getD,List.getElem?_set_self (by rw[hS.rows];exact hi)]
   exact rowJ_len _ _ _ _
  ·rw[List.getD,List.getElem?_set_ne e]
   rcases List.mem_append.1 hk with hk | hk
   ·exact hS.rwl k hk
   ·exact absurd (List.mem_singleton.1 hk).symm e
theorem RunP.all (h:FairP b ls) (hn:∀ f ∈ b.funcs,∀ k ∈ f.bks,∀ t ∈ k.ins,In32 t.n) {rw:Nat→List Bool} (hrw:∀ i<b.funcs.length,(rw i).length≤(fO b i).r):∀ j,j≤b.funcs.length-1 →
 RunP b (runO b ls rw (ordJ b.funcs.length j)) (ordJ b.funcs.length j) (31*(j+1)+4*(cntB (fO b (b.funcs.length-1)).bks+totF (b.funcs.take j)))
 | 0,_=>by
  have hw:=h.words
  have h0:RunP b ⟨[],List.replicate b.funcs.length 0,List.replicate b.funcs.length []⟩ [] 0:=⟨by simp,by simp,fun y hy=>(by cases hy),by simp,fun x hx=>(by rw[(List.mem_replicate.1 hx).2];simp),fun r hr x hx=>(by rw[(List.mem_replicate.1 hr).2]at hx;cases hx),fun i hi=>(by cases hi)⟩
  have:=RunP.step h hn hrw h0 (i:=b.funcs.length-1) (by omega)
  simpa [ordJ,runO,totF] using this
 | j+1,hj=>by
  have h1:=RunP.all h hn hrw j (by omega)
  have h2:=RunP.step h hn hrw h1 (i:=j) (by omega)
  rw[ordJ_succ,runO_snoc]
  have e:=totF_step b.funcs (show j<b.funcs.length by omega)
  rw[e]
  have:31*(j+1)+4*(cntB (fO b (b.funcs.length-1)).bks+totF (b.funcs.take j))+(31+4*cntB (fO b j).bks)=31*(j+1+1)+4*(cntB (fO b (b.funcs.length-1)).bks+(totF (b.funcs.take j)+cntB (b.funcs.getD j default).bks)):=by unfold fO;omega
  rw[← this];exact h2
theorem ordJ_mem {n i:Nat} (hi:i<n):i ∈ ordJ n (n-1):=by
 unfold ordJ
 by_cases e:i=n-1
 ·subst e;exact List.mem_cons_self
 ·exact List.mem_cons_of_mem _ (List.mem_range.2 (by omega))
theorem tot_bound (h:FairP b ls) (j:Nat) (hj:j≤b.funcs.length-1):31*(j+1)+4*(cntB (fO b (b.funcs.length-1)).bks+totF (b.funcs.take j))≤6000:=by
 have hw:=h.words
 have h20:=h.few.l
 have hn:=h.few.n
 have e:=totF_step b.funcs (show b.funcs.length-1<b.funcs.length by omega)
 rw[show b.funcs.length-1+1=b.funcs.length by omega,List.take_of_length_le (Nat.le_refl _)]at e
 have hm:totF (b.funcs.take j)≤totF (b.funcs.take (b.funcs.length-1)):=by
  have:b.funcs.take (b.funcs.length-1)=b.funcs.take j++(b.funcs.take (b.funcs.length-1)).drop j:=by
   conv=>lhs;rw[← List.take_append_drop j (b.funcs.take (b.funcs.length-1))]
   rw[List.take_take,Nat.min_eq_left hj]
  rw[this]
  unfold totF
  rw[List.map_append,List.sum_append];omega
 unfold fO
 omega
theorem end_jok (h:FairP b ls) (hn:∀ f ∈ b.funcs,∀ k ∈ f.bks,∀ t ∈ k.ins,In32 t.n) {rw:Nat→List Bool} (hrw:∀ i<b.funcs.length,(rw i).length≤(fO b i).r) :
 JOk (endO b ls rw).en (endO b ls rw).rows (endO b ls rw).l∧∀ i ∈ fixY (endO b ls rw).en (endO b ls rw).rows (endO b ls rw).l,okI i.op i.a i.b i.c=true:=by
 have hR:RunP b (endO b ls rw) _ _:=RunP.all h hn hrw (b.funcs.length-1) (Nat.le_refl _)
 have hB:=tot_bound h (b.funcs.length-1) (Nat.le_refl _)
 have hlen:=hR.len
 have hj:JOk (endO b ls rw).en (endO b ls rw).rows (endO b ls rw).l:=fun i p hp=>by
  obtain ⟨_,h1⟩:=hR.ok _ hp
  obtain ⟨_,a1,a2,a3⟩:=h1 p rfl
  refine ⟨a1,by rw[show (endO b ls rw).en.length=_ from hR.en];exact a2,by rw[show (endO b ls rw).rows.length=_ from hR.rows];exact a2,?_⟩
  rw[show ((endO b ls rw).rows.getD p.1.toNat []).length=_ from hR.rwl p.1.toNat (ordJ_mem (by omega))]
  exact a3
 refine ⟨hj,fun i hi=>?_⟩
 unfold fixY at hi
 obtain ⟨⟨ci,o⟩,hy,rfl⟩:=List.mem_map.1 hi
 obtain ⟨k1,k2⟩:=hR.ok _ hy
 cases o with
 | none=>exact k1 rfl
 | some p =>
  obtain ⟨g1,g2,g3,g4⟩:=k2 p rfl
  obtain ⟨j1,j2,j3,j4⟩:=hj ci p hy
  have key:0≤tgt (endO b ls rw).en (endO b ls rw).rows p∧tgt (endO b ls rw).en (endO b ls rw).rows p≤65535:=by
   unfold tgt
   by_cases h0:0≤p.2
   ·rw[if_pos h0]
    have hr:=hR.rwv ((endO b ls rw).rows.getD p.1.toNat []) (by rw[List.getD,List.getElem?_eq_getElem (by omega)];exact List.getElem_mem _) (((endO b ls rw).rows.getD p.1.toNat []).getD p.2.toNat default) (mem_getD (by omega))
    omega
   ·rw[if_neg h0]
    have hr:=hR.env ((endO b ls rw).en.getD p.1.toNat default) (mem_getD (by omega))
    omega
  exact g1 _ key
end
set_option maxRecDepth 10000
open Go.V
theorem WH.setB {b:BP} {ws:List Int} {back fn:Int} {plv:AV} {q:WI} {H:List VObj} {code:List Ci} {sp:List Sp} {en:List Int} {bl:List AV} (h:WH b ws back fn plv q H code sp en bl) (bl':List AV):WH b ws back fn plv q (H.set q.kB ⟨q.sB,53,1,bl'⟩) code sp en bl':=by
 obtain ⟨cv,pv,hw,⟨k1,s1,e1,hc⟩,⟨k2,s2,e2,hp⟩⟩:=h.w
 have hb:=h.b
 have t:∀ {i:Nat} {ob:VObj},H[i]? = some ob→ob.ty≠53→(H.set q.kB ⟨q.sB,53,1,bl'⟩)[i]? = some ob:=fun {i ob} h1 h2=>by
  rw[set_ne (fun e=>by subst e;rw[hb]at h1;cases h1;exact h2 rfl)];exact h1
 exact ⟨⟨cv,pv,t hw (by simp),⟨k1,s1,e1,t hc (by simp)⟩,⟨k2,s2,e2,t hp (by simp)⟩⟩,t h.e (by simp),set_get hb,t h.d (by simp)⟩
theorem rowJ_zero (c:Cx) (n0:Nat) (bks:List Bk):rowJ c n0 bks 0=List.replicate bks.length 0:=by
 unfold rowJ
 refine List.ext_getElem (by simp) fun i h1 h2=>by simp
theorem fun_D {c:Cx} {q:WI} {H:List VObj} {l:List Sy} {en:List Int} {bl:List AV} {f:BF} (h:WC c q H l en bl) (hk:CxOk c) (hf:FnOk c f) (hl:l.length≤200000) (hbl:bl.length=c.b.funcs.length) (hb1:∀ x ∈ bl,x.one=true)
 {kF sF:Nat} (hF:H[kF]? = some ⟨sF,52,1,bfL f⟩) (nx:Nat) (C:AV→List VObj→Nat→Prop)
 (hC:∀ r H' nx' kr sr,WC c q H' (l++blksY c 0 f.bks) en (bl.set c.fn (.ref kr sr 0 f.bks.length))→H'[kr]? = some ⟨sr,3,1,(rowJ c l.length f.bks f.bks.length).map I⟩→kr≠q.kE→KeepF q H H'→C r H' nx') :
 VWs Try.prog (tailC 6 c_choose_writer_function) (retQ Try.prog [] C) ⟨[(0,.ptr q.kW q.sW 0),(1,I c.fn),(6,.ptr kF sF 0)],H,nx⟩:=by
 have hmx:(200000:Nat)≤maxLen:=by decide
 have hfb:=hf.fi.b1
 have hfl:=hk.fl
 obtain ⟨cv,pv,hw,⟨k2,s2,rfl,hk2⟩,hp⟩:=h.w
 have hbb:=h.b
 have n1:=ne_len hw
 have n2:=ne_len hbb
 have n3:=ne_len hF
 have l1:=lt_of hw
 have l2:=lt_of hbb
 have l3:=lt_of hF
 simp only[tailC,c_choose_writer_function,go_sem,VWs_seq,VWs_ret,VWs_ops,VWs_cond,hF,hw,hbb,hp.one,n1,n2,n3,l1,l2,l3,List.getElem?_set,List.getElem?_append,List.length_set,List.length_append,Nat.lt_irrefl,Nat.sub_self]
 repeat ((with_reducible refine And.intro ?_ ?_);· first | omega | (simp;omega) | exact ⟨by omega,by omega,rfl,rfl⟩)
 have hfx:bl.length=c.b.funcs.length:=hbl
 have eR:(List.replicate f.bks.length [AV.val (.int .i64 0)]).flatten=(rowJ c l.length f.bks 0).map I:=by rw[flat_rep,rowJ_zero,List.map_replicate]
 rw[eR]
 have hfin:=fun_E (kr:=H.length) (sr:=nx) (kF:=kF) (sF:=sF) (f:=f) (H0:=(H++[(⟨nx,3,1,(rowJ c l.length f.bks 0).map I⟩:VObj)]).set q.kB ⟨q.sB,53,1,bl.set c.fn (.ref H.length nx 0 f.bks.length)⟩) ((h.keep (KeepT.app _ _ _)).setB (bl.set c.fn (.ref H.length nx 0 f.bks.length))) hk hf hl
  (by rw[List.getD,List.getElem?_set_self (by omega)];rfl) (by rw[List.length_set];omega) (fun x hx=>by rcases List.mem_or_eq_of_mem_set hx with hx | rfl;exact hb1 x hx;rfl) (by rw[set_ne (by have:=of_eq_true l2;omega)];simp) (by have:=(List.getElem?_eq_some_iff.1 h.e).1;omega) (by have:=(List.getElem?_eq_some_iff.1 h.d).1;omega)
  (by rw[set_ne (fun e=>by rw[e]at hbb;rw[hF]at hbb;cases hbb)];exact ap_old hF _) (nx+1) C (fun r H' nx' h1 h2 h3=>hC r H' nx' H.length nx h1 h2 (by have:=(List.getElem?_eq_some_iff.1 h.e).1;omega) fun i ob i1 i2 i3 i4=>h3 i ob (by rw[set_ne (fun e=>i4 e.symm)];exact ap_old i1 _) i2 (by have:=(List.getElem?_eq_some_iff.1 i1).1;omega))
 simp only[tailC,c_choose_writer_function]at hfin
 refine ⟨_,?_,hfin⟩
 exact Wk.mk (by simp[get_cons]) ⟨[],by simp⟩ (Nat.le_refl _)
theorem fun_C {c:Cx} {q:WI} {H0:List VObj} {l:List Sy} {en:List Int} {bl:List AV} {f:BF} (h:WC c q H0 l en bl) (hk:CxOk c) (hf:FnOk c f) (hr:f.r≤64) {L:LD} (hL:Least f L) (hl:l.length≤110000) (hbl:bl.length=c.b.funcs.length) (hb1:∀ x ∈ bl,x.one=true)
 {kF sF:Nat} (hF:H0[kF]? = some ⟨sF,52,1,bfL f⟩) (nx0:Nat) (C:AV→List VObj→Nat→Prop)
 (hC:∀ r H' nx' kr sr,WC c q H' (l++zerosY c (L.inn.getD 0 default) (L.inn.getD 0 default).length++blksY c 0 f.bks) en (bl.set c.fn (.ref kr sr 0 f.bks.length))→H'[kr]? = some ⟨sr,3,1,(rowJ c (l++zerosY c (L.inn.getD 0 default) (L.inn.getD 0 default).length).length f.bks f.bks.length).map I⟩→kr≠q.kE→KeepF q H0 H'→C r H' nx') :
 VWs Try.prog (tailC 5 c_choose_writer_function) (retQ Try.prog [] C) ⟨[(0,.ptr q.kW q.sW 0),(1,I c.fn),(6,.ptr kF sF 0)],H0,nx0⟩:=by
 have hfi:=hf.fi
 have hn0:0<f.n:=List.length_pos_iff.2 hfi.b0
 have hil:L.inn.length=f.n:=hL.cl.sz.i
 have hrow:(L.inn.getD 0 default).length=f.r:=hL.cl.sz.il hn0
 have hpl:=hf.pl
 have h40:=hk.pl
 simp only[tailC,c_choose_writer_function,go_sem,VWs_seq,VWs_ret,VWs_ops,VWs_cond,hF]
 refine VCall.of_contract (live_of_c f hfi hr L hL) (SleL.pure rfl) fun x hx=>?_
 subst hx
 simp only[go_sem,VWs_seq,VWs_ret,VWs_ops,VWs_cond]
 refine ⟨by omega,?_⟩
 generalize L.inn.getD 0 default=row at *
 refine VW_loop (fun x:LQ=>⟨[(0,.ptr q.kW q.sW 0),(1,I c.fn),(6,.ptr kF sF 0),(63,bools row),(64,I row.length),(65,I x.j)],x.H,x.nx⟩)
  (fun x=>x.j≤row.length∧WC c q x.H (l++zerosY c row x.j) en bl∧KeepT wT H0 x.H) (fun x=>row.length-x.j) ⟨0,H0,nx0⟩
  (Wk.mk (by simp[get_cons]) ⟨[],by simp⟩ (Nat.le_refl _)) ⟨Nat.zero_le _,by simpa [zerosY] using h,KeepT.refl _ _⟩ ?_
 rintro ⟨j,H,nx⟩ ⟨hj,hw0,hkp⟩
 simp only at hj hw0 hkp
 have hzl:=zerosY_len c row j
 by_cases hlt:j<row.length
 ·have hzs:=zerosY_succ c row j
  have hz1:=zeroY_len c row j
  obtain ⟨cv,pv,hw,⟨k2,s2,rfl,hk2⟩,hp⟩:=hw0.w
  have hpv:=hk.pv j (by omega)
  have g:c.pl.getD j default=gP c.pl j:=rfl
  have wj:IntKind.i64.wrap ((j:Int)+1)=(j:Int)+1:=i64_in (by omega) (by omega)
  have hvj:0≤(j:Int)∧(j:Int)<c.pl.length:=⟨by omega,by omega⟩
  have next:∀ H' nx',WC c q H' (l++zerosY c row j++zeroY c row j) en bl→KeepT wT H H'→∃ s':LQ,(s'.j≤row.length∧WC c q s'.H (l++zerosY c row s'.j) en bl∧KeepT wT H0 s'.H)∧row.length-s'.j<row.length-j∧s'=⟨j+1,H',nx'⟩:=fun H' nx' h1 h2 =>
   ⟨⟨j+1,H',nx'⟩,⟨by simp only;omega,by simp only;rw[hzs,← List.append_assoc];exact h1,hkp.trans h2⟩,by simp only;omega,rfl⟩
  by_cases hb:gB row j=true
  ·have hzy:zeroY c row j=if 0<gP c.pl j then [pY 1 (gP c.pl j) 0 0] else keepY c j 0:=by unfold zeroY;rw[if_pos hb,p_nat]
   by_cases h0:0<gP c.pl j
   ·rw[if_pos h0]at hzy
    simp only[go_sem,eq_true (show (j:Int)<row.length by omega),hw,hp.one,gB_getD,hb,g,eq_true h0]
    repeat ((with_reducible refine And.intro ?_ ?_);· first | omega | (simp;omega))
    refine putY_v hw0 (by rw[List.length_append];omega) _ _ _ _ _ _ fun r H2 nx2 h2 k2=>?_
    simp only[go_sem,wj]
    obtain ⟨s',a1,a2,rfl⟩:=next H2 nx2 (by rw[hzy];exact h2) k2
    exact ⟨_,a1,a2,Wk.mk (by simp[get_cons]) ⟨[],by simp⟩ (Nat.le_refl _)⟩
   ·rw[if_neg h0]at hzy
    simp only[go_sem,eq_true (show (j:Int)<row.length by omega),hw,hp.one,gB_getD,hb,g,eq_false h0]
    repeat ((with_reducible refine And.intro ?_ ?_);· first | omega | (simp;omega))
    refine keep_v hw0 hk (by rw[List.length_append];omega) _ _ hvj _ fun r H2 nx2 h2 k2=>?_
    simp only[go_sem,wj]
    obtain ⟨s',a1,a2,rfl⟩:=next H2 nx2 (by rw[hzy];exact h2) k2
    exact ⟨_,a1,a2,Wk.mk (by simp[get_cons]) ⟨[],by simp⟩ (Nat.le_refl _)⟩
  ·have hzy:zeroY c row j=[]:=by unfold zeroY;rw[if_neg hb]
   have hbf:gB row j=false:=by simpa using hb
   simp only[go_sem,eq_true (show (j:Int)<row.length by omega),hw,hp.one,gB_getD,hbf,g]
   repeat ((with_reducible refine And.intro ?_ ?_);· first | omega | (simp;omega))
   rw[wj]
   obtain ⟨s',a1,a2,rfl⟩:=next H nx (by rw[hzy,List.append_nil];exact hw0) (KeepT.refl _ _)
   exact ⟨_,a1,a2,Wk.mk (by simp[get_cons]) ⟨[],by simp⟩ (Nat.le_refl _)⟩
 ·obtain rfl:j=row.length:=by omega
  simp only[go_sem,VWs_seq,VWs_ret,VWs_ops,VWs_cond,eq_false (show ¬ (row.length:Int)<row.length by omega)]
  have hfin:=fun_D hw0 hk hf (by rw[List.length_append];omega) hbl hb1 (hkp _ _ hF (by simp)) nx C (fun r H' nx' kr sr h1 h2 h3 h4=>hC r H' nx' kr sr h1 h2 h3 ((KeepF.of hkp).trans h4))
  simp only[tailC,c_choose_writer_function]at hfin
  refine ⟨_,?_,hfin⟩
  exact Wk.mk (by simp[get_cons]) ⟨[],by simp⟩ (Nat.le_refl _)
theorem fun_B {c:Cx} {q:WI} {H0:List VObj} {l:List Sy} {en:List Int} {bl:List AV} {f:BF} (h:WC c q H0 l en bl) (hk:CxOk c) (hf:FnOk c f) (hr:f.r≤64) {L:LD} (hL:Least f L) (hl:l.length≤100000) (hbl:bl.length=c.b.funcs.length) (hb1:∀ x ∈ bl,x.one=true)
 {kF sF:Nat} (hF:H0[kF]? = some ⟨sF,52,1,bfL f⟩) (nx0:Nat) (C:AV→List VObj→Nat→Prop)
 (hC:∀ r H' nx' kr sr,WC c q H' (l++funY c (L.inn.getD 0 default) f) en (bl.set c.fn (.ref kr sr 0 f.bks.length))→H'[kr]? = some ⟨sr,3,1,(rowJ c (l++headY c (L.inn.getD 0 default)).length f.bks f.bks.length).map I⟩→kr≠q.kE→KeepF q H0 H'→C r H' nx') :
 VWs Try.prog (tailC 4 c_choose_writer_function) (retQ Try.prog [] C) ⟨[(0,.ptr q.kW q.sW 0),(1,I c.fn),(6,.ptr kF sF 0)],H0,nx0⟩:=by
 have h20:=hk.fs
 have hfl:=hk.fl
 have hbk:=hk.bk
 have w1:IntKind.i64.wrap ((c.b.funcs.length:Int)-1)=(c.b.funcs.length:Int)-1:=i64_in (by omega) (by omega)
 have w2:IntKind.i64.wrap (c.back+c.fn)=c.back+c.fn:=i64_in (by omega) (by omega)
 obtain ⟨cv,pv,hw,hcc,hp⟩:=h.w
 generalize hrow:L.inn.getD 0 default=row at *
 by_cases hlast:(c.fn:Int)=(c.b.funcs.length:Int)-1
 ·have eh:headY c row=zerosY c row row.length:=by unfold headY;rw[if_pos hlast];rfl
  simp only[tailC,c_choose_writer_function,go_sem,VWs_seq,VWs_ret,VWs_ops,VWs_cond,hF,hw,hcc.one,hp.one,w1,w2,eq_true hlast,show ((c.fn:Int) != (c.b.funcs.length:Int)-1)=false from by simp[hlast]]
  have hfin:=fun_C h hk hf hr hL (by omega) hbl hb1 hF nx0 C (fun r H' nx' kr sr h1 h2 h3 h4=>by
   rw[hrow]at h1 h2
   rw[← eh]at h1 h2
   exact hC r H' nx' kr sr (by unfold funY;rw[← List.append_assoc];exact h1) h2 h3 h4)
  simp only[tailC,c_choose_writer_function]at hfin
  refine ⟨_,?_,hfin⟩
  exact Wk.mk (by simp[get_cons]) ⟨[],by simp⟩ (Nat.le_refl _)
 ·have eh:headY c row=[pY 17 12 0 (c.back+c.fn)]++zerosY c row row.length:=by unfold headY;rw[if_neg hlast]
  simp only[tailC,c_choose_writer_function,go_sem,VWs_seq,VWs_ret,VWs_ops,VWs_cond,hF,hw,hcc.one,hp.one,w1,w2,eq_false hlast,beq_false_of_ne hlast]
  refine putY_v h (by omega) _ _ _ _ _ _ fun r H2 nx2 h2 k2=>?_
  simp only[go_sem,VWs_seq,VWs_ret,VWs_ops,VWs_cond]
  have hfin:=fun_C h2 hk hf hr hL (by simp;omega) hbl hb1 (k2 _ _ hF (by simp)) nx2 C (fun r H' nx' kr sr h1 h2 h3 h4=>by
   rw[hrow]at h1 h2
   rw[List.append_assoc l,← eh]at h1 h2
   exact hC r H' nx' kr sr (by unfold funY;rw[← List.append_assoc];exact h1) h2 h3 ((KeepF.of k2).trans h4))
  simp only[tailC,c_choose_writer_function]at hfin
  refine ⟨_,?_,hfin⟩
  exact Wk.mk (by simp[get_cons]) ⟨[],by simp⟩ (Nat.le_refl _)
theorem WH.setW {b:BP} {ws:List Int} {back fn fn':Int} {plv plv':AV} {q:WI} {H:List VObj} {code:List Ci} {sp:List Sp} {en:List Int} {bl:List AV} (h:WH b ws back fn plv q H code sp en bl) {cv pv:AV} (hw:H[q.kW]? = some ⟨q.sW,75,1,wrL b back fn plv q cv pv⟩) :
 WH b ws back fn' plv' q (H.set q.kW ⟨q.sW,75,1,wrL b back fn' plv' q cv pv⟩) code sp en bl:=by
 obtain ⟨cv',pv',hw',⟨k1,s1,e1,hc⟩,⟨k2,s2,e2,hp⟩⟩:=h.w
 rw[hw]at hw'
 simp only[Option.some.injEq,VObj.mk.injEq,List.cons.injEq,true_and,and_true]at hw'
 obtain ⟨rfl,rfl⟩:=hw'
 have t:∀ {i:Nat} {ob:VObj} {o:VObj},H[i]? = some ob→ob.ty≠75→(H.set q.kW o)[i]? = some ob:=fun {i ob o} h1 h2=>by
  rw[set_ne (fun e=>by subst e;rw[hw]at h1;cases h1;exact h2 rfl)];exact h1
 exact ⟨⟨cv,pv,set_get hw,⟨k1,s1,e1,t hc (by simp)⟩,⟨k2,s2,e2,t hp (by simp)⟩⟩,t h.e (by simp),t h.b (by simp),t h.d (by simp)⟩
theorem WH.setE {b:BP} {ws:List Int} {back fn:Int} {plv:AV} {q:WI} {H:List VObj} {code:List Ci} {sp:List Sp} {en:List Int} {bl:List AV} (h:WH b ws back fn plv q H code sp en bl) (hD:q.kE≠q.kD) (en':List Int) :
 WH b ws back fn plv q (H.set q.kE ⟨q.sE,3,1,en'.map I⟩) code sp en' bl:=by
 obtain ⟨cv,pv,hw,⟨k1,s1,e1,hc⟩,⟨k2,s2,e2,hp⟩⟩:=h.w
 have he:=h.e
 have t:∀ {i:Nat} {ob:VObj} {o:VObj},H[i]? = some ob→ob.ty≠3→(H.set q.kE o)[i]? = some ob:=fun {i ob o} h1 h2=>by
  rw[set_ne (fun e=>by subst e;rw[he]at h1;cases h1;exact h2 rfl)];exact h1
 exact ⟨⟨cv,pv,t hw (by simp),⟨k1,s1,e1,t hc (by simp)⟩,⟨k2,s2,e2,t hp (by simp)⟩⟩,set_get he,t h.b (by simp),by rw[set_ne hD];exact h.d⟩
theorem function_v {fn0:Int} {plv0:AV} {c:Cx} {q:WI} {H:List VObj} {l:List Sy} {en:List Int} {bl:List AV} {f:BF} (h0:plv0.one=true) (h:WH c.b c.ws c.back fn0 plv0 q H (l.map (·.1)) (spotL 0 l) en bl) (hk:CxOk c) (hf:FnOk c f) (hr:f.r≤64) {L:LD} (hL:Least f L) (hl:l.length≤100000)
 (hen:en.length=c.b.funcs.length) (hbl:bl.length=c.b.funcs.length) (hb1:∀ x ∈ bl,x.one=true) (hED:q.kE≠q.kD) (nx:Nat) (C:AV→List VObj→Nat→Prop)
 (hC:∀ r H' nx' kr sr,WC c q H' (l++funY c (L.inn.getD 0 default) f) (en.set c.fn (l.length:Nat)) (bl.set c.fn (.ref kr sr 0 f.bks.length))→H'[kr]? = some ⟨sr,3,1,(rowJ c (l++headY c (L.inn.getD 0 default)).length f.bks f.bks.length).map I⟩→kr≠q.kE→KeepF q H H'→C r H' nx') :
 VCall Try.prog 31 [.ptr q.kW q.sW 0,I c.fn,alA c.pl] H nx C:=by
 have hq:=f_choose_writer_function
 unfold compF compFp at hq
 refine VCall.of_bodyS (pt:=false) (pf:=false) hmix hq (by simp) ?_
 have hfl:=hk.fl
 obtain ⟨cv,pv,hw,hcc,hp⟩:=h.w
 have n1:=ne_len hw
 have n2:=ne_len' hw
 have l1:=lt_of hw
 simp only[c_choose_writer_function,go_sem,VWs_seq,VWs_ret,VWs_ops,VWs_cond]
 refine ⟨_,Wk.refl _,?_⟩
 simp only[go_sem,VWs_seq,VWs_ret,VWs_ops,VWs_cond,n1,l1,hw,hcc.one,hp.one,h0,hf.fe,List.getElem?_set,List.getElem?_append,List.length_set,List.length_append,Nat.lt_irrefl,Nat.sub_self]
 refine ⟨hfl,?_⟩
 have eH:∀ x y z:VObj,(H++[x]++[y]).set (H.length+1) z=H++[x]++[z]:=fun x y z=>by simp
 rw[eH]
 have hA:(H++[(⟨nx,55,1,[ints c.pl]⟩:VObj)]++[⟨nx+1,52,1,bfL f⟩])[H.length]? = some ⟨nx,55,1,[ints c.pl]⟩:=ap_old (by simp) _
 have hF:(H++[(⟨nx,55,1,[ints c.pl]⟩:VObj)]++[⟨nx+1,52,1,bfL f⟩])[H.length+1]? = some ⟨nx+1,52,1,bfL f⟩:=ap_new _ _ _
 have hK:KeepT [] H (H++[(⟨nx,55,1,[ints c.pl]⟩:VObj)]++[⟨nx+1,52,1,bfL f⟩]):=(KeepT.app _ _ _).trans (KeepT.app _ _ _)
 have hW1:=h.keep hK
 have hw1:=hK _ _ hw (by simp)
 generalize (H++[(⟨nx,55,1,[ints c.pl]⟩:VObj)]++[⟨nx+1,52,1,bfL f⟩])=H1 at *
 refine ⟨⟨[(0,.ptr q.kW q.sW 0),(1,I c.fn),(5,.ptr H.length nx 0),(6,.ptr (H.length+1) (nx+1) 0)],H1,nx+1+1⟩,Wk.mk (by simp[get_cons]) ⟨[],by simp⟩ (Nat.le_refl _),?_⟩
 generalize H.length=kA at *
 have l2:=lt_of hw1
 have o1:=ty_ne hw1 hA (by simp)
 have o2:=ty_ne hA hw1 (by simp)
 simp only[go_sem,VWs_seq,VWs_ret,VWs_ops,VWs_cond,l2,o1,o2,hw1,hA,hcc.one,hp.one,h0,List.getElem?_set,List.length_set]
 have hW2:WC c q (H1.set q.kW ⟨q.sW,75,1,wrL c.b c.back c.fn (ints c.pl) q cv pv⟩) l en bl:=hW1.setW hw1
 have hF2:(H1.set q.kW ⟨q.sW,75,1,wrL c.b c.back c.fn (ints c.pl) q cv pv⟩)[kA+1]? = some ⟨nx+1,52,1,bfL f⟩:=by
  rw[set_ne (fun e=>by rw[e]at hw1;rw[hF]at hw1;simp at hw1)];exact hF
 have hK2:KeepT wT H (H1.set q.kW ⟨q.sW,75,1,wrL c.b c.back c.fn (ints c.pl) q cv pv⟩):=(hK.mono (by simp)).trans (KeepT.set hw1 (by simp))
 have fin:VWs Try.prog (tailC 3 c_choose_writer_function) (retQ Try.prog [] C) ⟨[(0,.ptr q.kW q.sW 0),(1,I c.fn),(6,.ptr (kA+1) (nx+1) 0)],H1.set q.kW ⟨q.sW,75,1,wrL c.b c.back c.fn (ints c.pl) q cv pv⟩,nx+1+1⟩:=by
  generalize H1.set q.kW ⟨q.sW,75,1,wrL c.b c.back c.fn (ints c.pl) q cv pv⟩=H2 at *
  obtain ⟨cw,pw,hw2,⟨k2,s2,rfl,hk2⟩,hp2⟩:=hW2.w
  have he2:=hW2.e
  have l3:=lt_of he2
  have l4:=lt_of hw2
  simp only[tailC,c_choose_writer_function,go_sem,VWs_seq,VWs_ret,VWs_ops,VWs_cond,l3,l4,he2,hw2,hp2.one,hk2,List.getElem?_set,List.length_set]
  repeat ((with_reducible refine And.intro ?_ ?_);· first | omega | (simp;omega) | exact ⟨by omega,by omega,rfl,rfl⟩)
  rw[← List.map_set]
  have hfin:=fun_B (f:=f) (kF:=kA+1) (sF:=nx+1) (H0:=H2.set q.kE ⟨q.sE,3,1,(en.set c.fn (l.length:Nat)).map I⟩) (hW2.setE hED (en.set c.fn (l.length:Nat))) hk hf hr hL hl hbl hb1 (by rw[set_ne (fun e=>by rw[e]at he2;rw[hF2]at he2;simp at he2)];exact hF2) (nx+1+1) C (fun r H' nx' kr sr h1 h2 h3 h4=>hC r H' nx' kr sr h1 h2 h3 fun i ob i1 i2 i3 i4=>h4 i ob (by rw[set_ne (fun e=>i3 e.symm)];exact hK2 _ _ i1 i2) i2 i3 i4)
  simp only[tailC,c_choose_writer_function]at hfin
  refine ⟨_,?_,hfin⟩
  exact Wk.mk (by simp[get_cons]) ⟨[],by simp⟩ (Nat.le_refl _)
 simp only[tailC,c_choose_writer_function]at fin
 constructor
 all_goals
  rw[List.set_set]
  refine ⟨_,?_,fin⟩
  exact Wk.mk (by simp[get_cons]) ⟨[],by simp⟩ (Nat.le_refl _)
set_option maxRecDepth 10000
open Go.V
theorem frzN_words {H:List VObj} {nx id s ty:Nat} {l:List Int} {len:Nat} (ho:H[id]? = some ⟨s,ty,1,l.map U32⟩) (hlen:len=l.length):FrzN H nx (.ref id s 0 len) (.imm 1 (l.map U32)) :=
 frzN_map (f:=fun n=>.int .u32 n) ho hlen fun _=>rfl
abbrev imgC (code:List Int) (data:Int):AV:=.agg [.imm 1 (code.map U32),I data]
abbrev ofA (b:BP) (ls:List (List Int)) (rw:Nat→List Bool):AV:=.tup [imgC (codeO b ls rw) (dataO b ls),I 0]
abbrev ofC (b:BP) (ls:List (List Int)) (rw:Nat→List Bool):AV→List VObj→Nat→Prop:=fun r H nx=>∃ y,FrzN H nx r y∧y=ofA b ls rw
structure OfH (b:BP) (ls:List (List Int)) (rw:Nat→List Bool):Prop where
 f:FairP b ls
 n:∀ f ∈ b.funcs,∀ k ∈ f.bks,∀ t ∈ k.ins,In32 t.n
 r:∀ i<b.funcs.length,∃ L,Least (fO b i) L∧rw i=L.inn.getD 0 default
 p:∀ pl ∈ ls,pl.length≤140737488355328
theorem OfH.rl {b:BP} {ls:List (List Int)} {rw:Nat→List Bool} (h:OfH b ls rw):∀ i<b.funcs.length,(rw i).length≤(fO b i).r:=fun i hi=>by
 obtain ⟨L,hL,e⟩:=h.r i hi
 rw[e,show (L.inn.getD 0 default).length=(fO b i).r from hL.cl.sz.il (List.length_pos_iff.2 (h.f.few.fine hi).1.b0)]
 exact Nat.le_refl _
structure OI (b:BP) (ls:List (List Int)) (rw:Nat→List Bool) (q:WI) (H:List VObj) (bl:List AV) (o:List Nat):Prop where
 w:∃ fn plv,plv.one=true∧WH b (wsO b ls) (b.words+totW ls) fn plv q H ((runO b ls rw o).l.map (·.1)) (spotL 0 (runO b ls rw o).l) (runO b ls rw o).en bl
 bln:bl.length=b.funcs.length
 one:∀ x ∈ bl,x.one=true
 rows:∀ i ∈ o,∃ kr sr,bl.getD i .dead = .ref kr sr 0 ((runO b ls rw o).rows.getD i []).length∧H[kr]? = some ⟨sr,3,1,((runO b ls rw o).rows.getD i []).map I⟩∧kr≠q.kE
 im:H[1]? = some ⟨1,30,1,[nilv,I 0]⟩
section
variable {b:BP} {ls:List (List Int)} {rw:Nat→List Bool}
set_option maxHeartbeats 1000000 in
theorem of_E (h:OfH b ls rw) {q:WI} {H:List VObj} {bl:List AV} (hO:OI b ls rw q H bl (ordJ b.funcs.length (b.funcs.length-1))) (nx:Nat) :
 VWs Try.prog (tailC 11 c_choose_Of) (retQ Try.prog [.cell 4 true 2,.tmp 5] (ofC b ls rw)) ⟨[(4,.ptr 1 1 0),(6,.ptr q.kW q.sW 0),(7,I (dataO b ls))],H,nx⟩:=by
 obtain ⟨hj,hok⟩:=end_jok h.f h.n h.rl
 obtain ⟨fn,plv,hp1,hw⟩:=hO.w
 have hR:RunP b (endO b ls rw) _ _:=RunP.all h.f h.n h.rl (b.funcs.length-1) (Nat.le_refl _)
 have hB:=tot_bound h.f (b.funcs.length-1) (Nat.le_refl _)
 have hlen:=hR.len
 have hrows:RowsH H bl (endO b ls rw).rows:=⟨by rw[hO.bln,hR.rows],fun i hi=>by
  obtain ⟨kr,sr,e1,e2,_⟩:=hO.rows i (ordJ_mem (by rw[← hR.rows];exact hi))
  exact ⟨kr,sr,e1,e2⟩⟩
 have him:=hO.im
 simp only[tailC,c_choose_Of,go_sem,VWs_seq,VWs_ret,VWs_ops,VWs_cond]
 refine finish_v (l:=(endO b ls rw).l) (en:=(endO b ls rw).en) (rows:=(endO b ls rw).rows) hp1 hw hrows hO.bln hR.en h.f.few.l hj (by omega) hok nx _ fun H' nx' k s hk kp=>?_
 have him':=kp _ _ him (by simp)
 simp only[go_sem,VWs_seq,VWs_ret,VWs_ops,VWs_cond]
 refine ⟨_,Wk.refl _,?_⟩
 simp only[go_sem,VWs_seq,VWs_ret,VWs_ops,VWs_cond,Int.reduceEq,bne_self_eq_false]
 refine ⟨_,Wk.refl _,?_⟩
 have l1:=lt_of him'
 simp only[go_sem,VWs_seq,VWs_ret,VWs_ops,VWs_cond,him',l1,List.getElem?_set]
 have hk1:(H'.set 1 ⟨1,30,1,[.ref k s 0 (endO b ls rw).l.length,I (dataO b ls)]⟩)[k]? = some ⟨s,45,1,(codeO b ls rw).map U32⟩:=by
  rw[set_ne (fun e=>by rw[← e,him']at hk;simp at hk)];exact hk
 have hk2:(H'.set 1 ⟨1,30,1,[.ref k s 0 (endO b ls rw).l.length,I (dataO b ls)]⟩)[1]? = some ⟨1,30,1,[.ref k s 0 (endO b ls rw).l.length,I (dataO b ls)]⟩:=set_get him'
 have hcl:(endO b ls rw).l.length=(codeO b ls rw).length:=by simp[codeO,fixY]
 generalize H'.set 1 ⟨1,30,1,[.ref k s 0 (endO b ls rw).l.length,I (dataO b ls)]⟩=HX at *
 refine ⟨_,Wk.refl _,?_⟩
 simp only[go_sem,VWs_seq,VWs_ret,VWs_ops,VWs_cond,hk2]
 exact ⟨_,FrzN.tup ⟨_,_,rfl,FrzN.agg ⟨_,_,rfl,frzN_words hk1 hcl,_,_,rfl,FrzN.val,rfl⟩,_,_,rfl,FrzN.val,rfl⟩,rfl⟩
structure OfQ where
 j:Nat
 H:List VObj
 nx:Nat
 bl:List AV
theorem OI.step (h:OfH b ls rw) {q:WI} {H:List VObj} {bl:List AV} {o:List Nat} (hO:OI b ls rw q H bl o) (hED:q.kE≠q.kD) (h1B:1≠q.kB) (h1E:1≠q.kE) {i:Nat} (hi:i<b.funcs.length) (hol:(runO b ls rw o).l.length≤100000) (hoe:(runO b ls rw o).en.length=b.funcs.length) (hor:(runO b ls rw o).rows.length=b.funcs.length) (nx:Nat) (C:AV→List VObj→Nat→Prop)
 (hC:∀ r H' nx' bl',OI b ls rw q H' bl' (o++[i])→H'[0]? = H'[0]?→(∀ ob,H[0]? = some ob→ob.ty ∉ wT→0≠q.kE→0≠q.kB→H'[0]? = some ob)→C r H' nx') :
 VCall Try.prog 31 [.ptr q.kW q.sW 0,I (i:Nat),alA (ls.getD i default)] H nx C:=by
 obtain ⟨fn,plv,hp1,hw⟩:=hO.w
 obtain ⟨L,hL,hrow⟩:=h.r i hi
 have hcx:=h.f.cx hi
 refine function_v (c:=cxO b ls i) hp1 hw hcx.ok (h.f.fn h.n hi) (by have:=(h.f.few.fine hi).2.1;show (b.funcs.getD i default).r≤64;omega) hL hol hoe hO.bln hO.one hED nx C fun r H' nx' kr sr w1 w2 w3 w4=>?_
 rw[← hrow]at w1 w2
 have hrowlen:(rowJ (cxO b ls i) ((runO b ls rw o).l++headY (cxO b ls i) (rw i)).length (fO b i).bks (fO b i).bks.length).length=(fO b i).bks.length:=rowJ_len _ _ _ _
 refine hC r H' nx' _ ⟨⟨_,_,rfl,by rw[runO_snoc];exact w1⟩,by rw[List.length_set];exact hO.bln,fun x hx=>?_,fun j hj=>?_,w4 _ _ hO.im (by simp) h1E h1B⟩ rfl fun ob g1 g2 g3 g4=>w4 _ _ g1 g2 g3 g4
 ·rcases List.mem_or_eq_of_mem_set hx with hx | rfl
  ·exact hO.one x hx
  ·rfl
 ·rw[runO_snoc]
  simp only[stepO]
  by_cases e:i=j
  ·subst e
   refine ⟨kr,sr,?_,?_,w3⟩
   ·have eb:(bl.set (cxO b ls i).fn (AV.ref kr sr 0 (fO b i).bks.length)).getD i .dead = .ref kr sr 0 (fO b i).bks.length:=by
     show ((bl.set i _)[i]?).getD _=_
     rw[List.getElem?_set_self (by rw[hO.bln];exact hi)];rfl
    rw[eb,List.getD,List.getElem?_set_self (by rw[hor];exact hi),Option.getD_some,hrowlen]
   ·rw[List.getD,List.getElem?_set_self (by rw[hor];exact hi),Option.getD_some];exact w2
  ·have hj':j ∈ o:=by
    rcases List.mem_append.1 hj with hj | hj
    ·exact hj
    ·exact absurd (List.mem_singleton.1 hj).symm e
   obtain ⟨kr',sr',e1,e2,e3⟩:=hO.rows j hj'
   refine ⟨kr',sr',?_,?_,e3⟩
   ·have eb:(bl.set (cxO b ls i).fn (AV.ref kr sr 0 (fO b i).bks.length)).getD j .dead=bl.getD j .dead:=by
     show ((bl.set i _)[j]?).getD _=_
     rw[List.getElem?_set_ne e];rfl
    rw[eb,e1,List.getD,List.getD,List.getElem?_set_ne e]
   ·rw[List.getD,List.getElem?_set_ne e]
    exact w4 _ _ e2 (by simp) e3 (fun eb=>by
     obtain ⟨_,_,_,hww⟩:=hO.w
     have hb:=hww.b
     rw[← eb,e2]at hb;simp at hb)
set_option maxHeartbeats 1000000 in
theorem of_D (h:OfH b ls rw) {q:WI} {H0:List VObj} {bl0:List AV} (hO:OI b ls rw q H0 bl0 (ordJ b.funcs.length 0)) (hED:q.kE≠q.kD) (h1B:1≠q.kB) (h1E:1≠q.kE) (nx0:Nat) :
 VWs Try.prog (tailC 9 c_choose_Of) (retQ Try.prog [.cell 4 true 2,.tmp 5] (ofC b ls rw)) ⟨[(1,alsA ls),(4,.ptr 1 1 0),(6,.ptr q.kW q.sW 0),(7,I (dataO b ls)),(9,I ((b.funcs.length:Int)-1))],H0,nx0⟩:=by
 have h20:=h.f.few.l
 have hw0:=h.f.words
 have hll:=h.f.hold.len
 simp only[tailC,c_choose_Of,go_sem,VWs_seq,VWs_ret,VWs_ops,VWs_cond]
 refine VW_loop (fun x:OfQ=>⟨[(1,alsA ls),(4,.ptr 1 1 0),(6,.ptr q.kW q.sW 0),(7,I (dataO b ls)),(9,I ((b.funcs.length:Int)-1)),(10,I x.j)],x.H,x.nx⟩)
  (fun x=>x.j≤b.funcs.length-1∧OI b ls rw q x.H x.bl (ordJ b.funcs.length x.j)) (fun x=>b.funcs.length-1-x.j) ⟨0,H0,nx0,bl0⟩
  (Wk.mk (by simp[get_cons]) ⟨[],by simp⟩ (Nat.le_refl _)) ⟨Nat.zero_le _,hO⟩ ?_
 rintro ⟨j,H,nx,bl⟩ ⟨hj,hO⟩
 simp only at hj hO
 have hR:=RunP.all h.f h.n h.rl j hj
 have hB:=tot_bound h.f j hj
 have hlen:=hR.len
 by_cases hlt:j<b.funcs.length-1
 ·simp only[go_sem,eq_true (show (j:Int)<(b.funcs.length:Int)-1 by omega)]
  repeat ((with_reducible refine And.intro ?_ ?_);· first | omega | (simp;omega))
  refine hO.step h hED h1B h1E (by omega) (by omega) hR.en hR.rows _ _ fun r H' nx' bl' hO' _ _=>?_
  have hR':=RunP.all h.f h.n h.rl (j+1) (by omega)
  have hB':=tot_bound h.f (j+1) (by omega)
  have hlen':=hR'.len
  rw[← ordJ_succ]at hO'
  obtain ⟨fn,plv,hp1,hw⟩:=hO'.w
  obtain ⟨cv,pv,hww,⟨kC,sC,rfl,hkC⟩,hp⟩:=hw.w
  have hml:((runO b ls rw (ordJ b.funcs.length (j+1))).l.map (·.1)).length=(runO b ls rw (ordJ b.funcs.length (j+1))).l.length:=by simp
  simp only[go_sem,hww,hkC,hp1,hp.one,eq_false (show ¬ 16384<(((runO b ls rw (ordJ b.funcs.length (j+1))).l.length:Nat):Int) by omega)]
  rw[i64_in (n:=(j:Int)+1) (by omega) (by omega)]
  exact ⟨⟨j+1,H',nx',bl'⟩,⟨by simp only;omega,hO'⟩,by simp only;omega,Wk.mk (by simp[get_cons]) ⟨[],by simp⟩ (Nat.le_refl _)⟩
 ·obtain rfl:j=b.funcs.length-1:=by omega
  simp only[go_sem,VWs_seq,VWs_ret,VWs_ops,VWs_cond,eq_false (show ¬ ((b.funcs.length-1:Nat):Int)<(b.funcs.length:Int)-1 by omega)]
  refine ⟨_,Wk.refl _,?_⟩
  obtain ⟨fn,plv,hp1,hw⟩:=hO.w
  obtain ⟨cv,pv,hww,⟨kC,sC,rfl,hkC⟩,hp⟩:=hw.w
  simp only[go_sem,VWs_seq,VWs_ret,VWs_ops,VWs_cond,hww,hkC,hp1,hp.one,eq_false (show ¬ 16384<(((runO b ls rw (ordJ b.funcs.length (b.funcs.length-1))).l.length:Nat):Int) by omega)]
  have hfin:=of_E h hO nx
  simp only[tailC,c_choose_Of]at hfin
  refine ⟨_,?_,hfin⟩
  exact Wk.mk (by simp[get_cons]) ⟨[],by simp⟩ (Nat.le_refl _)
end
set_option maxRecDepth 10000
open Go.V
section
variable {b:BP} {ls:List (List Int)} {rw:Nat→List Bool}
theorem of_C (h:OfH b ls rw) {q:WI} {H:List VObj} {bl:List AV} (hO:OI b ls rw q H bl []) (hED:q.kE≠q.kD) (h1B:1≠q.kB) (h1E:1≠q.kE) (h0:H[0]? = some ⟨0,24,1,[I b.words,.imm 2 (b.funcs.map bfA)]⟩) (nx:Nat) :
 VWs Try.prog (tailC 7 c_choose_Of) (retQ Try.prog [.cell 4 true 2,.tmp 5] (ofC b ls rw)) ⟨[(1,alsA ls),(2,.ptr 0 0 0),(4,.ptr 1 1 0),(6,.ptr q.kW q.sW 0),(7,I (dataO b ls))],H,nx⟩:=by
 have h20:=h.f.few.l
 have hw0:=h.f.words
 have hll:=h.f.hold.len
 have w1:IntKind.i64.wrap ((b.funcs.length:Int)-1)=(b.funcs.length:Int)-1:=i64_in (by omega) (by omega)
 have e1:((b.funcs.length:Int)-1).toNat=b.funcs.length-1:=by omega
 have e2:(b.funcs.length:Int)-1=((b.funcs.length-1:Nat):Int):=by omega
 simp only[tailC,c_choose_Of,go_sem,VWs_seq,VWs_ret,VWs_ops,VWs_cond,h0,w1]
 refine ⟨_,Wk.refl _,?_⟩
 simp only[go_sem,VWs_seq,VWs_ret,VWs_ops,VWs_cond,w1,e1]
 repeat ((with_reducible refine And.intro ?_ ?_);· first | omega | (simp;omega))
 rw[e2]
 refine hO.step h hED h1B h1E (i:=b.funcs.length-1) (by omega) (by simp[runO]) (by simp[runO]) (by simp[runO]) _ _ fun r H' nx' bl' hO' _ _=>?_
 have hfin:=of_D h (show OI b ls rw q H' bl' (ordJ b.funcs.length 0) from hO') hED h1B h1E nx'
 rw[e2]at hfin
 simp only[go_sem,VWs_seq,VWs_ret,VWs_ops,VWs_cond]
 simp only[tailC,c_choose_Of]at hfin
 refine ⟨_,?_,hfin⟩
 exact Wk.mk (by simp[get_cons]) ⟨[],by simp⟩ (Nat.le_refl _)
def wsJ (b:BP) (ls:List (List Int)) (k:Nat):List Int:=(List.range b.funcs.length).map fun i=>if i<k then b.words+totW (ls.take i) else 0
theorem wsJ_len (k:Nat):(wsJ b ls k).length=b.funcs.length:=by simp[wsJ]
theorem wsJ_set {k:Nat} (hk:k<b.funcs.length):(wsJ b ls k).set k (b.words+totW (ls.take k))=wsJ b ls (k+1):=by
 refine List.ext_getElem (by simp[wsJ]) fun j h1 h2=>?_
 rw[List.getElem_set]
 simp only[wsJ,List.getElem_map,List.getElem_range]
 by_cases e:k=j
 ·subst e;rw[if_pos rfl,if_pos (by omega)]
 ·rw[if_neg e]
  by_cases h:j<k
  ·rw[if_pos h,if_pos (by omega)]
  ·rw[if_neg h,if_neg (by omega)]
theorem wsJ_all:wsJ b ls b.funcs.length=wsO b ls:=List.ext_getElem (by simp[wsJ,wsO]) fun j h1 h2=>by
 have hj:j<b.funcs.length:=by simpa [wsJ] using h1
 simp[wsJ,wsO,hj]
theorem wsJ_zero:wsJ b ls 0=List.replicate b.funcs.length 0:=List.ext_getElem (by simp[wsJ]) fun j h1 h2=>by simp[wsJ]
theorem WH.setD {ws ws':List Int} {back fn:Int} {plv:AV} {q:WI} {H:List VObj} {code:List Ci} {sp:List Sp} {en:List Int} {bl:List AV} (h:WH b ws back fn plv q H code sp en bl) (hD:q.kE≠q.kD):WH b ws' back fn plv q (H.set q.kD ⟨q.sD,3,1,ws'.map I⟩) code sp en bl:=by
 obtain ⟨cv,pv,hw,⟨k1,s1,e1,hc⟩,⟨k2,s2,e2,hp⟩⟩:=h.w
 have hd:=h.d
 have t:∀ {i:Nat} {ob:VObj} {o:VObj},H[i]? = some ob→ob.ty≠3→(H.set q.kD o)[i]? = some ob:=fun {i ob o} h1 h2=>by
  rw[set_ne (fun e=>by subst e;rw[hd]at h1;cases h1;exact h2 rfl)];exact h1
 exact ⟨⟨cv,pv,t hw (by simp),⟨k1,s1,e1,t hc (by simp)⟩,⟨k2,s2,e2,t hp (by simp)⟩⟩,by rw[set_ne (fun e=>hD e.symm)];exact h.e,t h.b (by simp),set_get hd⟩
theorem WH.setBack {ws:List Int} {back back' fn:Int} {plv:AV} {q:WI} {H:List VObj} {code:List Ci} {sp:List Sp} {en:List Int} {bl:List AV} (h:WH b ws back fn plv q H code sp en bl) {cv pv:AV} (hw:H[q.kW]? = some ⟨q.sW,75,1,wrL b back fn plv q cv pv⟩) :
 WH b ws back' fn plv q (H.set q.kW ⟨q.sW,75,1,wrL b back' fn plv q cv pv⟩) code sp en bl:=by
 obtain ⟨cv',pv',hw',⟨k1,s1,e1,hc⟩,⟨k2,s2,e2,hp⟩⟩:=h.w
 rw[hw]at hw'
 simp only[Option.some.injEq,VObj.mk.injEq,List.cons.injEq,true_and,and_true]at hw'
 obtain ⟨rfl,rfl⟩:=hw'
 have t:∀ {i:Nat} {ob:VObj} {o:VObj},H[i]? = some ob→ob.ty≠75→(H.set q.kW o)[i]? = some ob:=fun {i ob o} h1 h2=>by
  rw[set_ne (fun e=>by subst e;rw[hw]at h1;cases h1;exact h2 rfl)];exact h1
 exact ⟨⟨cv,pv,set_get hw,⟨k1,s1,e1,t hc (by simp)⟩,⟨k2,s2,e2,t hp (by simp)⟩⟩,t h.e (by simp),t h.b (by simp),t h.d (by simp)⟩
set_option maxHeartbeats 1000000 in
theorem of_B (h:OfH b ls rw) {q:WI} {H0:List VObj} (hW:WH b (List.replicate b.funcs.length 0) 0 0 nilv q H0 [] [] (List.replicate b.funcs.length 0) (List.replicate b.funcs.length nilv)) (hED:q.kE≠q.kD) (h1B:1≠q.kB) (h1E:1≠q.kE) (h1D:1≠q.kD) (h0D:0≠q.kD)
 (h0:H0[0]? = some ⟨0,24,1,[I b.words,.imm 2 (b.funcs.map bfA)]⟩) (h1:H0[1]? = some ⟨1,30,1,[nilv,I 0]⟩) (nx0:Nat) :
 VWs Try.prog (tailC 2 c_choose_Of) (retQ Try.prog [.cell 4 true 2,.tmp 5] (ofC b ls rw)) ⟨[(1,alsA ls),(2,.ptr 0 0 0),(4,.ptr 1 1 0),(6,.ptr q.kW q.sW 0)],H0,nx0⟩:=by
 have h20:=h.f.few.l
 have hw0:=h.f.words
 have hll:=h.f.hold.len
 simp only[tailC,c_choose_Of,go_sem,VWs_seq,VWs_ret,VWs_ops,VWs_cond,h0]
 refine ⟨_,Wk.refl _,?_⟩
 simp only[go_sem,VWs_seq,VWs_ret,VWs_ops,VWs_cond,h0]
 refine VW_loop (fun x:LQ=>⟨[(1,alsA ls),(2,.ptr 0 0 0),(4,.ptr 1 1 0),(6,.ptr q.kW q.sW 0),(7,I (b.words+totW (ls.take x.j))),(31,I b.funcs.length),(32,I x.j)],x.H,x.nx⟩)
  (fun x=>x.j≤b.funcs.length∧WH b (wsJ b ls x.j) 0 0 nilv q x.H [] [] (List.replicate b.funcs.length 0) (List.replicate b.funcs.length nilv)∧x.H[0]? = some ⟨0,24,1,[I b.words,.imm 2 (b.funcs.map bfA)]⟩∧x.H[1]? = some ⟨1,30,1,[nilv,I 0]⟩) (fun x=>b.funcs.length-x.j) ⟨0,H0,nx0⟩
  (Wk.mk (by simp[get_cons,totW]) ⟨[],by simp⟩ (Nat.le_refl _)) ⟨Nat.zero_le _,by rw[wsJ_zero];exact hW,h0,h1⟩ ?_
 rintro ⟨j,H,nx⟩ ⟨hj,hwj,g0,g1⟩
 simp only at hj hwj g0 g1
 obtain ⟨cv,pv,hw,hcc,hp⟩:=hwj.w
 have hd:=hwj.d
 have l1:=lt_of hd
 have ht:=h.f.tot j (by omega)
 by_cases hlt:j<b.funcs.length
 ·have hst:=totW_step ls (show j<ls.length by omega)
  have ht':=h.f.tot (j+1) (by omega)
  have hwd:=h.f.hold.wds j (by omega)
  simp only[go_sem,eq_true (show (j:Int)<b.funcs.length by omega),hw,hd,l1,hcc.one,hp.one,wsJ_len]
  repeat ((with_reducible refine And.intro ?_ ?_);· first | omega | (simp;omega) | exact ⟨by omega,by omega,rfl,rfl⟩)
  refine VCall.of_contract (awords_c (ls.getD j default) (h.p _ (mem_getD (by omega)))) (SleL.pure rfl) fun x hx=>?_
  subst hx
  simp only[go_sem]
  rw[i64_in (n:=(j:Int)+1) (by omega) (by omega),i64_in (n:=b.words+totW (ls.take j)+_) (by omega) (by omega),show ((wsJ b ls j).map I).set j (I (b.words+totW (ls.take j)))=(wsJ b ls (j+1)).map I by rw[← wsJ_set hlt,List.map_set]]
  refine ⟨⟨j+1,H.set q.kD ⟨q.sD,3,1,(wsJ b ls (j+1)).map I⟩,nx⟩,⟨by simp only;omega,hwj.setD hED,by simp only;rw[set_ne (fun e=>h0D e.symm)];exact g0,by simp only;rw[set_ne (fun e=>h1D e.symm)];exact g1⟩,by simp only;omega,?_⟩
  exact Wk.mk (by simp[get_cons,hst];omega) ⟨[],by simp⟩ (Nat.le_refl _)
 ·obtain rfl:j=b.funcs.length:=by omega
  rw[wsJ_all]at hwj
  have htT:totW (ls.take b.funcs.length)=totW ls:=by rw[List.take_of_length_le (by omega)]
  rw[htT]at ht
  have lW:=lt_of hw
  have hwb:=hwj.setBack (back':=b.words+totW ls) hw
  have w1:IntKind.i64.wrap ((b.funcs.length:Int)-1)=(b.funcs.length:Int)-1:=i64_in (by omega) (by omega)
  have w2:IntKind.i64.wrap (b.words+totW ls+((b.funcs.length:Int)-1))=dataO b ls:=by unfold dataO;exact i64_in (by omega) (by omega)
  have o0:(q.kW=0)=False:=eq_false (fun e=>by rw[e,g0]at hw;simp at hw)
  simp only[go_sem,VWs_seq,VWs_ret,VWs_ops,VWs_cond,eq_false (show ¬ (b.funcs.length:Int)<b.funcs.length by omega),hw,htT,hcc.one,hp.one,lW]
  refine ⟨_,Wk.refl _,?_⟩
  simp only[go_sem,VWs_seq,VWs_ret,VWs_ops,VWs_cond,hw,htT,hcc.one,hp.one,lW]
  have hdO:dataO b ls=b.words+totW ls+((b.funcs.length:Int)-1):=rfl
  have g0':(H.set q.kW ⟨q.sW,75,1,wrL b (b.words+totW ls) 0 nilv q cv pv⟩)[0]? = some ⟨0,24,1,[I b.words,.imm 2 (b.funcs.map bfA)]⟩:=by
   rw[set_ne (fun e=>by rw[e,g0]at hw;simp at hw)];exact g0
  have g1':(H.set q.kW ⟨q.sW,75,1,wrL b (b.words+totW ls) 0 nilv q cv pv⟩)[1]? = some ⟨1,30,1,[nilv,I 0]⟩:=by
   rw[set_ne (fun e=>by rw[e,g1]at hw;simp at hw)];exact g1
  generalize H.set q.kW ⟨q.sW,75,1,wrL b (b.words+totW ls) 0 nilv q cv pv⟩=HX at *
  refine ⟨_,Wk.refl _,?_⟩
  simp only[go_sem,VWs_seq,VWs_ret,VWs_ops,VWs_cond,g0',w1,w2]
  refine ⟨_,Wk.refl _,?_⟩
  simp only[go_sem,VWs_seq,VWs_ret,VWs_ops,VWs_cond,g0',w1,w2,eq_false (show ¬ 32768<dataO b ls by omega)]
  have hO:OI b ls rw q HX (List.replicate b.funcs.length nilv) []:=⟨⟨0,nilv,rfl,hwb⟩,by simp,fun x hx=>by rw[(List.mem_replicate.1 hx).2];rfl,fun i hi=>(by cases hi),g1'⟩
  have hfin:=of_C h hO hED h1B h1E g0' nx
  simp only[tailC,c_choose_Of]at hfin
  refine ⟨_,?_,hfin⟩
  exact Wk.mk (by simp[get_cons]) ⟨[],by simp⟩ (Nat.le_refl _)
end
set_option maxRecDepth 10000
open Go.V
section
variable {b:BP} {ls:List (List Int)} {rw:Nat→List Bool}
theorem wr_virt1 (b:BP) (q:WI) (r:AV):∀ (j:Nat) x y,(wrL b 0 0 nilv q nilv nilv)[j]? = some x→(wrL b 0 0 nilv q r nilv)[j]? = some y→x=y∨(x = .val (.slice none 0 0)∧y=r):=fun j x y hx hy=>by
 rcases j with _ | _ | _ | j
 ·simp at hx hy;left;rw[← hx,← hy]
 ·simp at hx hy;left;rw[← hx,← hy]
 ·simp at hx hy;right;exact ⟨hx.symm,hy.symm⟩
 ·simp only[List.getElem?_cons_succ]at hx hy;left;rw[hx]at hy;exact Option.some.inj hy
theorem wr_virt2 (b:BP) (q:WI) (r s:AV):∀ (j:Nat) x y,(wrL b 0 0 nilv q r nilv)[j]? = some x→(wrL b 0 0 nilv q r s)[j]? = some y→x=y∨(x = .val (.slice none 0 0)∧y=s):=fun j x y hx hy=>by
 rcases j with _ | _ | _ | _ | j
 ·simp at hx hy;left;rw[← hx,← hy]
 ·simp at hx hy;left;rw[← hx,← hy]
 ·simp at hx hy;left;rw[← hx,← hy]
 ·simp at hx hy;right;exact ⟨hx.symm,hy.symm⟩
 ·simp only[List.getElem?_cons_succ]at hx hy;left;rw[hx]at hy;exact Option.some.inj hy
theorem of_A (h:OfH b ls rw) {env:List (Nat × AV)} {H:List VObj} {kW kE kB kD:Nat} (g1:get env 1=alsA ls) (g2:get env 2 = .ptr 0 0 0) (g4:get env 4 = .ptr 1 1 0) (g6:get env 6 = .ptr kW kW 0)
 (h0:H[0]? = some ⟨0,24,1,[I b.words,.imm 2 (b.funcs.map bfA)]⟩) (h1:H[1]? = some ⟨1,30,1,[nilv,I 0]⟩) (hl:H.length=6)
 (hW:H[kW]? = some ⟨kW,75,1,wrL b 0 0 nilv ⟨kW,kW,kE,kE,kB,kB,kD,kD⟩ nilv nilv⟩)
 (hE:H[kE]? = some ⟨kE,3,1,List.replicate b.funcs.length (I 0)⟩) (hB:H[kB]? = some ⟨kB,53,1,List.replicate b.funcs.length nilv⟩) (hD:H[kD]? = some ⟨kD,3,1,List.replicate b.funcs.length (I 0)⟩)
 (hED:kE≠kD) (h1B:1≠kB) (h1E:1≠kE) (h1D:1≠kD) (h0D:0≠kD) :
 ∃ st'',Wk ⟨env,H,6⟩ st''∧VWs Try.prog (tailC 2 c_choose_Of) (retQ Try.prog [.cell 4 true 2,.tmp 5] (ofC b ls rw)) st'':=by
 have hkW:kW<H.length:=(List.getElem?_eq_some_iff.1 hW).1
 have v1:=virt_at (env:=[(1,alsA ls),(2,.ptr 0 0 0),(4,.ptr 1 1 0),(6,.ptr kW kW 0)]) (H:=H) (nx:=6) (i:=kW) (cs':=wrL b 0 0 nilv ⟨kW,kW,kE,kE,kB,kB,kD,kD⟩ (.ref H.length 6 0 0) nilv) 115 4 (by decide) (by simp[get_cons]) hW (by simp) rfl (wr_virt1 b _ _)
 have hW1:(H.set kW ⟨kW,75,1,wrL b 0 0 nilv ⟨kW,kW,kE,kE,kB,kB,kD,kD⟩ (.ref H.length 6 0 0) nilv⟩++[(⟨6,115,4,[]⟩:VObj)])[kW]? = some ⟨kW,75,1,wrL b 0 0 nilv ⟨kW,kW,kE,kE,kB,kB,kD,kD⟩ (.ref H.length 6 0 0) nilv⟩:=ap_old (set_get hW) _
 have hL1:(H.set kW ⟨kW,75,1,wrL b 0 0 nilv ⟨kW,kW,kE,kE,kB,kB,kD,kD⟩ (.ref H.length 6 0 0) nilv⟩++[(⟨6,115,4,[]⟩:VObj)]).length=H.length+1:=by simp
 have hI1:(H.set kW ⟨kW,75,1,wrL b 0 0 nilv ⟨kW,kW,kE,kE,kB,kB,kD,kD⟩ (.ref H.length 6 0 0) nilv⟩++[(⟨6,115,4,[]⟩:VObj)])[H.length]? = some ⟨6,115,4,[]⟩:=by
  rw[List.getElem?_append_right (by simp)];simp
 have t1:∀ {i:Nat} {ob:VObj},H[i]? = some ob→i≠kW→(H.set kW ⟨kW,75,1,wrL b 0 0 nilv ⟨kW,kW,kE,kE,kB,kB,kD,kD⟩ (.ref H.length 6 0 0) nilv⟩++[(⟨6,115,4,[]⟩:VObj)])[i]? = some ob:=fun {i ob} a1 a2=>ap_old (by rw[set_ne (fun e=>a2 e.symm)];exact a1) _
 generalize (H.set kW ⟨kW,75,1,wrL b 0 0 nilv ⟨kW,kW,kE,kE,kB,kB,kD,kD⟩ (.ref H.length 6 0 0) nilv⟩++[(⟨6,115,4,[]⟩:VObj)])=H1 at *
 have v2:=virt_at (env:=[(1,alsA ls),(2,.ptr 0 0 0),(4,.ptr 1 1 0),(6,.ptr kW kW 0)]) (H:=H1) (nx:=7) (i:=kW) (cs':=wrL b 0 0 nilv ⟨kW,kW,kE,kE,kB,kB,kD,kD⟩ (.ref H.length 6 0 0) (.ref H1.length 7 0 0)) 113 3 (by decide) (by simp[get_cons]) hW1 (by simp) rfl (wr_virt2 b _ _ _)
 have t2:∀ {i:Nat} {ob:VObj},H1[i]? = some ob→i≠kW→(H1.set kW ⟨kW,75,1,wrL b 0 0 nilv ⟨kW,kW,kE,kE,kB,kB,kD,kD⟩ (.ref H.length 6 0 0) (.ref H1.length 7 0 0)⟩++[(⟨7,113,3,[]⟩:VObj)])[i]? = some ob:=fun {i ob} a1 a2=>ap_old (by rw[set_ne (fun e=>a2 e.symm)];exact a1) _
 have hW2:(H1.set kW ⟨kW,75,1,wrL b 0 0 nilv ⟨kW,kW,kE,kE,kB,kB,kD,kD⟩ (.ref H.length 6 0 0) (.ref H1.length 7 0 0)⟩++[(⟨7,113,3,[]⟩:VObj)])[kW]? = some ⟨kW,75,1,wrL b 0 0 nilv ⟨kW,kW,kE,kE,kB,kB,kD,kD⟩ (.ref H.length 6 0 0) (.ref H1.length 7 0 0)⟩:=ap_old (set_get hW1) _
 have hI2:(H1.set kW ⟨kW,75,1,wrL b 0 0 nilv ⟨kW,kW,kE,kE,kB,kB,kD,kD⟩ (.ref H.length 6 0 0) (.ref H1.length 7 0 0)⟩++[(⟨7,113,3,[]⟩:VObj)])[H1.length]? = some ⟨7,113,3,[]⟩:=by
  rw[List.getElem?_append_right (by simp)];simp
 generalize (H1.set kW ⟨kW,75,1,wrL b 0 0 nilv ⟨kW,kW,kE,kE,kB,kB,kD,kD⟩ (.ref H.length 6 0 0) (.ref H1.length 7 0 0)⟩++[(⟨7,113,3,[]⟩:VObj)])=H2 at *
 have ne:∀ {i:Nat} {ob:VObj},H[i]? = some ob→ob.ty≠75→i≠kW:=fun {i ob} a1 a2 e=>by subst e;rw[hW]at a1;cases a1;exact a2 rfl
 have tt:∀ {i:Nat} {ob:VObj},H[i]? = some ob→ob.ty≠75→H2[i]? = some ob:=fun a1 a2=>t2 (t1 a1 (ne a1 a2)) (ne a1 a2)
 have er:List.replicate b.funcs.length (I 0)=(List.replicate b.funcs.length (0:Int)).map I:=by rw[List.map_replicate]
 rw[er]at hE hD
 have hWH:WH b (List.replicate b.funcs.length 0) 0 0 nilv ⟨kW,kW,kE,kE,kB,kB,kD,kD⟩ H2 [] [] (List.replicate b.funcs.length 0) (List.replicate b.funcs.length nilv) :=
  ⟨⟨_,_,hW2,⟨H.length,6,rfl,t2 hI1 (by omega)⟩,⟨H1.length,7,rfl,hI2⟩⟩,tt hE (by simp),tt hB (by simp),tt hD (by simp)⟩
 have v0:Wk ⟨env,H,6⟩ ⟨[(1,alsA ls),(2,.ptr 0 0 0),(4,.ptr 1 1 0),(6,.ptr kW kW 0)],H,6⟩:=by
  refine Wk.mk (fun p hp=>?_) ⟨[],by simp⟩ (Nat.le_refl _)
  simp only[List.mem_cons,List.not_mem_nil,or_false]at hp
  rcases hp with rfl | rfl | rfl | rfl
  ·exact g1
  ·exact g2
  ·exact g4
  ·exact g6
 exact ⟨_,v0.trans (v1.trans v2),of_B h hWH hED h1B h1E h1D h0D (tt h0 (by simp)) (tt h1 (by simp)) _⟩
set_option maxHeartbeats 4000000 in
theorem of29N_c (h:OfH b ls rw):ContractN Try.prog 11 [bpA b,alsA ls] (fun r=>r=ofA b ls rw):=by
 have hq:=f_choose_Of
 unfold compF compFp at hq
 refine ContractN.of_call (VCall.of_bodyS (pt:=false) (pf:=false) hmix hq (by simp) ?_)
 have h20:=h.f.few.l
 have hmx:(200000:Nat)≤maxLen:=by decide
 have key:=fun env H kW kE kB kD=>of_A h (env:=env) (H:=H) (kW:=kW) (kE:=kE) (kB:=kB) (kD:=kD)
 simp only[tailC,c_choose_Of]at key
 simp only[c_choose_Of,go_sem,VWs_seq,VWs_ret,VWs_ops,VWs_cond]
 refine ⟨⟨[(1,alsA ls),(2,.ptr 0 0 0),(4,.ptr 1 1 0)],[⟨0,24,1,[I b.words,.imm 2 (b.funcs.map bfA)]⟩,⟨1,30,1,[nilv,I 0]⟩],2⟩,Wk.mk (by simp[get_cons]) ⟨[],by simp⟩ (Nat.le_refl _),?_⟩
 simp only[go_sem,VWs_seq,VWs_ret,VWs_ops,VWs_cond,flat_rep]
 repeat' (with_reducible apply And.intro)
 all_goals try omega
 ·exact key _ _ 5 2 3 4 rfl rfl rfl rfl rfl rfl rfl rfl rfl rfl rfl (by decide) (by decide) (by decide) (by decide) (by decide)
 ·exact key _ _ 4 2 3 5 rfl rfl rfl rfl rfl rfl rfl rfl rfl rfl rfl (by decide) (by decide) (by decide) (by decide) (by decide)
 ·exact key _ _ 5 2 4 3 rfl rfl rfl rfl rfl rfl rfl rfl rfl rfl rfl (by decide) (by decide) (by decide) (by decide) (by decide)
 ·exact key _ _ 4 2 5 3 rfl rfl rfl rfl rfl rfl rfl rfl rfl rfl rfl (by decide) (by decide) (by decide) (by decide) (by decide)
 ·exact key _ _ 3 2 4 5 rfl rfl rfl rfl rfl rfl rfl rfl rfl rfl rfl (by decide) (by decide) (by decide) (by decide) (by decide)
 ·exact key _ _ 3 2 5 4 rfl rfl rfl rfl rfl rfl rfl rfl rfl rfl rfl (by decide) (by decide) (by decide) (by decide) (by decide)
 ·exact key _ _ 5 3 2 4 rfl rfl rfl rfl rfl rfl rfl rfl rfl rfl rfl (by decide) (by decide) (by decide) (by decide) (by decide)
 ·exact key _ _ 4 3 2 5 rfl rfl rfl rfl rfl rfl rfl rfl rfl rfl rfl (by decide) (by decide) (by decide) (by decide) (by decide)
 ·exact key _ _ 5 4 2 3 rfl rfl rfl rfl rfl rfl rfl rfl rfl rfl rfl (by decide) (by decide) (by decide) (by decide) (by decide)
 ·exact key _ _ 4 5 2 3 rfl rfl rfl rfl rfl rfl rfl rfl rfl rfl rfl (by decide) (by decide) (by decide) (by decide) (by decide)
 ·exact key _ _ 3 4 2 5 rfl rfl rfl rfl rfl rfl rfl rfl rfl rfl rfl (by decide) (by decide) (by decide) (by decide) (by decide)
 ·exact key _ _ 3 5 2 4 rfl rfl rfl rfl rfl rfl rfl rfl rfl rfl rfl (by decide) (by decide) (by decide) (by decide) (by decide)
 ·exact key _ _ 5 3 4 2 rfl rfl rfl rfl rfl rfl rfl rfl rfl rfl rfl (by decide) (by decide) (by decide) (by decide) (by decide)
 ·exact key _ _ 4 3 5 2 rfl rfl rfl rfl rfl rfl rfl rfl rfl rfl rfl (by decide) (by decide) (by decide) (by decide) (by decide)
 ·exact key _ _ 5 4 3 2 rfl rfl rfl rfl rfl rfl rfl rfl rfl rfl rfl (by decide) (by decide) (by decide) (by decide) (by decide)
 ·exact key _ _ 4 5 3 2 rfl rfl rfl rfl rfl rfl rfl rfl rfl rfl rfl (by decide) (by decide) (by decide) (by decide) (by decide)
 ·exact key _ _ 3 4 5 2 rfl rfl rfl rfl rfl rfl rfl rfl rfl rfl rfl (by decide) (by decide) (by decide) (by decide) (by decide)
 ·exact key _ _ 3 5 4 2 rfl rfl rfl rfl rfl rfl rfl rfl rfl rfl rfl (by decide) (by decide) (by decide) (by decide) (by decide)
 ·exact key _ _ 2 3 4 5 rfl rfl rfl rfl rfl rfl rfl rfl rfl rfl rfl (by decide) (by decide) (by decide) (by decide) (by decide)
 ·exact key _ _ 2 3 5 4 rfl rfl rfl rfl rfl rfl rfl rfl rfl rfl rfl (by decide) (by decide) (by decide) (by decide) (by decide)
 ·exact key _ _ 2 4 3 5 rfl rfl rfl rfl rfl rfl rfl rfl rfl rfl rfl (by decide) (by decide) (by decide) (by decide) (by decide)
 ·exact key _ _ 2 5 3 4 rfl rfl rfl rfl rfl rfl rfl rfl rfl rfl rfl (by decide) (by decide) (by decide) (by decide) (by decide)
 ·exact key _ _ 2 4 5 3 rfl rfl rfl rfl rfl rfl rfl rfl rfl rfl rfl (by decide) (by decide) (by decide) (by decide) (by decide)
 ·exact key _ _ 2 5 4 3 rfl rfl rfl rfl rfl rfl rfl rfl rfl rfl rfl (by decide) (by decide) (by decide) (by decide) (by decide)
theorem of29_c (h:OfH b ls rw):Contract Try.prog 11 [bpA b,alsA ls] (fun r=>r=ofA b ls rw):=(of29N_c h).old
end
set_option maxRecDepth 10000
open Go.V
def exC:BF:=⟨1,[⟨[⟨1,0,0,0,0,0,0,65⟩,⟨9,0,0,0,0,0,0,0⟩],3,0,0,0⟩]⟩
def exCb:BP:=⟨0,[exC]⟩
def exCl:LD:=⟨[[false]],[[false]]⟩
abbrev exCr:Nat→List Bool:=fun _=>[false]
theorem exC_fine:Fine exC:=one_fine (number:=0) (words:=0) (by decide) (by decide) (by decide)
theorem exC_least:Least exC exCl:=by
 refine ⟨(checkB_iff exC_fine exCl).1 (by decide),fun I O h b hb v hv=>?_⟩
 have hb':b=0:=by have:exC.n=1:=rfl;omega
 have hv':v=0:=by have:exC.r=1:=rfl;omega
 subst hb';subst hv'
 exact ⟨fun e=>absurd e (by decide),fun e=>absurd e (by decide)⟩
theorem exC_few:FewP exCb:=⟨by decide,by decide,by decide,by decide,by decide⟩
theorem exC_of {p:Int} (hp:p=1∨p = -1):OfH exCb [[p]] exCr:=by
 have hA:AllocP exC exCl [p] 8:=(allocB_iff exC_fine exCl [p] 8).1 (by rcases hp with rfl | rfl<;>decide)
 refine ⟨⟨exC_few,⟨rfl,fun i hi=>?_⟩,by rcases hp with rfl | rfl<;>decide⟩,fun f hf k hk t ht=>?_,fun i hi=>?_,fun pl h=>?_⟩
 ·have:i=0:=by have:exCb.funcs.length=1:=rfl;omega
  subst this
  exact ⟨exCl,exC_least,hA⟩
 ·obtain rfl:=List.mem_singleton.1 hf
  obtain rfl:=List.mem_singleton.1 hk
  rcases List.mem_cons.1 ht with rfl | ht
  ·exact ⟨by decide,by decide⟩
  ·obtain rfl:=List.mem_singleton.1 ht
   exact ⟨by decide,by decide⟩
 ·have:i=0:=by have:exCb.funcs.length=1:=rfl;omega
  subst this
  exact ⟨exCl,exC_least,rfl⟩
 ·rw[List.mem_singleton.1 h];simp
theorem plain_c:Contract Try.prog 28 [] (fun r=>r=bpA exCb):=by
 refine Contract.of_call (VCall.of_body hmix f_sclaw29_plain (by simp) ?_)
 simp only[go_sem,c_sclaw29_plain]
 have hI:Frz 0 [⟨0,24,1,[I 0,.ref 3 3 0 1]⟩,⟨1,47,8,((exC.bks.getD 0 default).ins.map tacL).flatten⟩,⟨2,49,5,[.ref 1 1 0 2,I 3,I 0,I 0,I 0]⟩,⟨3,52,2,[I 1,.ref 2 2 0 1]⟩] 4 (.ref 1 1 0 2) (inA (exC.bks.getD 0 default).ins):=frz_ins _ rfl rfl rfl rfl rfl
 have hB:=frz_bks (H:=[⟨0,24,1,[I 0,.ref 3 3 0 1]⟩,⟨1,47,8,((exC.bks.getD 0 default).ins.map tacL).flatten⟩,⟨2,49,5,[.ref 1 1 0 2,I 3,I 0,I 0,I 0]⟩,⟨3,52,2,[I 1,.ref 2 2 0 1]⟩]) (nx:=4) (id:=2) (s:=2) (len:=1) exC.bks [.ref 1 1 0 2] rfl (fun i hi=>by
  have:i=0:=by have:exC.bks.length=1:=rfl;omega
  subst this
  exact hI) rfl rfl rfl rfl rfl
 have hF:=Frz.refT (n:=0) (H:=[⟨0,24,1,[I 0,.ref 3 3 0 1]⟩,⟨1,47,8,((exC.bks.getD 0 default).ins.map tacL).flatten⟩,⟨2,49,5,[.ref 1 1 0 2,I 3,I 0,I 0,I 0]⟩,⟨3,52,2,[I 1,.ref 2 2 0 1]⟩]) (nx:=4) (id:=3) (s:=3) (len:=1) (z:=2) (yss:=[[I 1,.ref 2 2 0 1]]) (zss:=[bfL exC]) (Nat.zero_le _) rfl rfl rfl rfl (by simp) rfl ⟨_,_,rfl,⟨_,_,rfl,Frz.pure rfl,_,_,rfl,hB,rfl⟩,rfl⟩
 exact ⟨_,Frz.agg ⟨_,_,rfl,Frz.pure rfl,_,_,rfl,hF,rfl⟩,rfl⟩
theorem ends_c (a b:Int) (s t:ByteArray) (m n:Int):Contract Try.prog 14 [.agg [I a,.val (.string s),I m],.agg [I b,.val (.string t),I n]] (fun r=>r=B (decide (a=b) && (s.toList == t.toList))):=by
 refine Contract.of_call (VCall.of_body hmix f_scref10_Ends (by simp) ?_)
 by_cases h:a=b
 ·simp only[go_sem,c_scref10_Ends,eq_true h]
  exact ⟨_,Frz.pure rfl,by simp[h]⟩
 ·simp only[go_sem,c_scref10_Ends,eq_false h]
  exact ⟨_,Frz.pure rfl,by simp[h]⟩
structure Bst where
 ws:List Int
 out:List UInt8
 rd:Nat
 st:Nat
 en:Int
deriving Inhabited
def byteB (r:Int):UInt8:=UInt8.ofNat (IntKind.u8.wrap r).toNat
theorem byteB_eq (r:Int):((byteB r).toNat:Int)=IntKind.u8.wrap r:=by
 unfold byteB
 rw[IntKind.wrap_u8]
 simp only[UInt8.toNat_ofNat']
 omega
def gR (rg:List Int) (i:Int):Int:=rg.getD i.toNat default
def sR (rg:List Int) (i x:Int):List Int:=rg.set i.toNat x
def opF (call:Nat→Bst→Bst) (inp:ByteArray) (t:Tac) (rg:List Int) (σ:Bst):List Int × Bst :=
 if t.op=1 then (sR rg t.d t.n,σ)
 else if t.op=2 then (sR rg t.d (gR rg t.a),σ)
 else if t.op=3 then (if (applyW t.k (gR rg t.a) (gR rg t.b)).2=0 then (sR rg t.d (applyW t.k (gR rg t.a) (gR rg t.b)).1,σ) else (rg,{ σ with en:=2 }))
 else if t.op=4 then (sR rg t.d (gR σ.ws t.base),σ)
 else if t.op=5 then (rg,{ σ with ws:=sR σ.ws t.base (gR rg t.a) })
 else if t.op=6 then (if gR rg t.a<t.size then (sR rg t.d (gR σ.ws (t.base+gR rg t.a)),σ) else (rg,{ σ with en:=3 }))
 else if t.op=7 then (if gR rg t.a<t.size then (rg,{ σ with ws:=sR σ.ws (t.base+gR rg t.a) (gR rg t.b) }) else (rg,{ σ with en:=3 }))
 else if t.op=8 then (if σ.rd<inp.size then (sR rg t.d (byteAt inp σ.rd),{ σ with rd:=σ.rd+1 }) else (sR rg t.d 256,σ))
 else if t.op=9 then (if 65536≤σ.out.length then (rg,{ σ with en:=4 }) else (rg,{ σ with out:=σ.out++[byteB (gR rg t.a)] }))
 else if t.op=10 then (rg,call t.base.toNat σ)
 else (rg,σ)
def insF (call:Nat→Bst→Bst) (inp:ByteArray) (fuel:Nat):List Tac→List Int→Bst→List Int × Bst
 | [],rg,σ=>(rg,σ)
 | t::l,rg,σ =>
  if fuel≤σ.st then (rg,{ σ with en:=5 })
  else if (opF call inp t rg { σ with st:=σ.st+1 }).2.en=0 then insF call inp fuel l (opF call inp t rg { σ with st:=σ.st+1 }).1 (opF call inp t rg { σ with st:=σ.st+1 }).2
  else opF call inp t rg { σ with st:=σ.st+1 }
def goB (k:Bk) (rg:List Int):Int:=if k.e=2∧gR rg k.v=0 then k.el else k.to
def blkF (call:Nat→Bst→Bst) (inp:ByteArray) (fuel:Nat) (f:BF):Nat→Nat→List Int→Bst→Bst
 | 0,_,_,σ=>σ
 | g+1,i,rg,σ =>
  if (insF call inp fuel (f.bks.getD i default).ins rg σ).2.en=0 then
   (if fuel≤(insF call inp fuel (f.bks.getD i default).ins rg σ).2.st then { (insF call inp fuel (f.bks.getD i default).ins rg σ).2 with en:=5 }
   else if (f.bks.getD i default).e=3 then { (insF call inp fuel (f.bks.getD i default).ins rg σ).2 with st:=(insF call inp fuel (f.bks.getD i default).ins rg σ).2.st+1 }
   else blkF call inp fuel f g (goB (f.bks.getD i default) (insF call inp fuel (f.bks.getD i default).ins rg σ).1).toNat (insF call inp fuel (f.bks.getD i default).ins rg σ).1
    { (insF call inp fuel (f.bks.getD i default).ins rg σ).2 with st:=(insF call inp fuel (f.bks.getD i default).ins rg σ).2.st+1 })
  else (insF call inp fuel (f.bks.getD i default).ins rg σ).2
theorem insF_cons (call:Nat→Bst→Bst) (inp:ByteArray) (fuel:Nat) (t:Tac) (l:List Tac) (rg:List Int) (σ:Bst):insF call inp fuel (t::l) rg σ=(if fuel≤σ.st then (rg,{ σ with en:=5 })
 else if (opF call inp t rg { σ with st:=σ.st+1 }).2.en=0 then insF call inp fuel l (opF call inp t rg { σ with st:=σ.st+1 }).1 (opF call inp t rg { σ with st:=σ.st+1 }).2
 else opF call inp t rg { σ with st:=σ.st+1 }):=rfl
theorem blkF_succ (call:Nat→Bst→Bst) (inp:ByteArray) (fuel:Nat) (f:BF) (g i:Nat) (rg:List Int) (σ:Bst):blkF call inp fuel f (g+1) i rg σ =
 (if (insF call inp fuel (f.bks.getD i default).ins rg σ).2.en=0 then
   (if fuel≤(insF call inp fuel (f.bks.getD i default).ins rg σ).2.st then { (insF call inp fuel (f.bks.getD i default).ins rg σ).2 with en:=5 }
   else if (f.bks.getD i default).e=3 then { (insF call inp fuel (f.bks.getD i default).ins rg σ).2 with st:=(insF call inp fuel (f.bks.getD i default).ins rg σ).2.st+1 }
   else blkF call inp fuel f g (goB (f.bks.getD i default) (insF call inp fuel (f.bks.getD i default).ins rg σ).1).toNat (insF call inp fuel (f.bks.getD i default).ins rg σ).1
    { (insF call inp fuel (f.bks.getD i default).ins rg σ).2 with st:=(insF call inp fuel (f.bks.getD i default).ins rg σ).2.st+1 })
 else (insF call inp fuel (f.bks.getD i default).ins rg σ).2):=rfl
def funF (fs:List BF) (inp:ByteArray) (fuel:Nat):Nat→Nat→Bst→Bst
 | 0,_,σ=>σ
 | k+1,i,σ=>blkF (funF fs inp fuel k) inp fuel (fs.getD i default) (fuel+1) 0 (List.replicate (fs.getD i default).regs.toNat 0) σ
structure BRes where
 en:Int
 out:List UInt8
 st:Nat
deriving Inhabited,DecidableEq
def begB (b:BP):Bst:=⟨List.replicate b.words.toNat 0,[],0,0,0⟩
def finB (b:BP) (inp:ByteArray) (fuel:Nat):Bst:=funF b.funcs inp fuel b.funcs.length (b.funcs.length-1) (begB b)
def resB (b:BP) (inp:ByteArray) (fuel:Nat):BRes:=⟨if (finB b inp fuel).en=0 then 1 else (finB b inp fuel).en,(finB b inp fuel).out,(finB b inp fuel).st⟩
structure WfB (inp:ByteArray) (fuel:Nat) (n:Nat) (σ:Bst):Prop where
 n:σ.ws.length=n
 w:∀ x ∈ σ.ws,In32 x
 o:σ.out.length≤65536
 r:σ.rd≤inp.size
 s:σ.st≤fuel
structure WfR (m:Nat) (rg:List Int):Prop where
 n:rg.length=m
 w:∀ x ∈ rg,In32 x
theorem gR_in {m:Nat} {rg:List Int} (h:WfR m rg) {i:Int} (hi:0≤i∧i<m):In32 (gR rg i):=h.w _ (mem_getD (by rw[h.n];omega))
theorem sR_wf {m:Nat} {rg:List Int} (h:WfR m rg) (i:Int) {x:Int} (hx:In32 x):WfR m (sR rg i x) :=
 ⟨by unfold sR;rw[List.length_set];exact h.n,fun y hy=>by
   rcases List.mem_or_eq_of_mem_set hy with h1 | h1
   ·exact h.w y h1
   ·rw[h1];exact hx⟩
theorem sR_in {ws:List Int} (h:∀ x ∈ ws,In32 x) (i:Int) {x:Int} (hx:In32 x):∀ y ∈ sR ws i x,In32 y:=fun y hy=>by
 rcases List.mem_or_eq_of_mem_set hy with h1 | h1
 ·exact h y h1
 ·rw[h1];exact hx
theorem sR_len (ws:List Int) (i x:Int):(sR ws i x).length=ws.length:=by simp[sR]
theorem byteAt_32 (s:ByteArray) (k:Nat):In32 (byteAt s k)∧byteAt s k≤255:=by
 have:=(s.data.toList.getD k 0).toNat_lt
 unfold byteAt
 exact ⟨⟨by omega,by omega⟩,by omega⟩
theorem w32_32 (n:Int):In32 (w32 n):=w32_ok n
theorem applyW_in {op a b:Int} (ha:In32 a) (hb:In32 b):In32 (applyW op a b).1:=by
 obtain ⟨a1,a2⟩:=ha
 obtain ⟨b1,b2⟩:=hb
 have z:In32 0:=⟨by omega,by omega⟩
 have o:In32 1:=⟨by omega,by omega⟩
 unfold applyW
 by_cases h4:op=4
 ·rw[if_pos h4]
  exact w32_32 _
 rw[if_neg h4]
 by_cases h5:op=5
 ·rw[if_pos h5]
  exact w32_32 _
 rw[if_neg h5]
 by_cases h6:op=6
 ·rw[if_pos h6]
  exact w32_32 _
 rw[if_neg h6]
 by_cases h7:op=7
 ·rw[if_pos h7]
  by_cases hb:b=0
  ·rw[if_pos hb];exact z
  ·rw[if_neg hb];exact w32_32 _
 rw[if_neg h7]
 by_cases h8:op=8
 ·rw[if_pos h8]
  by_cases hb:b=0
  ·rw[if_pos hb];exact z
  ·rw[if_neg hb]
   exact ⟨Int.tmod_nonneg _ a1,by have:=Int.tmod_lt_of_pos a (show 0<b by omega);show a.tmod b<_;omega⟩
 rw[if_neg h8]
 by_cases h9:op=9
 ·rw[if_pos h9]
  exact w32_32 _
 rw[if_neg h9]
 by_cases h10:op=10
 ·rw[if_pos h10]
  exact w32_32 _
 rw[if_neg h10]
 by_cases h11:op=11
 ·rw[if_pos h11]
  exact w32_32 _
 rw[if_neg h11]
 by_cases h12:op=12
 ·rw[if_pos h12]
  show In32 (if 31<b then 0 else shlW a b)
  by_cases hb:31<b
  ·rw[if_pos hb];exact z
  ·rw[if_neg hb];exact w32_32 _
 rw[if_neg h12]
 by_cases h13:op=13
 ·rw[if_pos h13]
  show In32 (if 31<b then 0 else shrW a b)
  by_cases hb:31<b
  ·rw[if_pos hb];exact z
  ·rw[if_neg hb]
   unfold shrW
   have hp:(0:Int)<2 ^ (min b.toNat IntKind.u32.bits):=Int.pow_pos (by decide)
   rw[Int.fdiv_eq_ediv_of_nonneg _ (Int.le_of_lt hp)]
   exact ⟨Int.ediv_nonneg a1 (Int.le_of_lt hp),by have:=Int.ediv_le_self (2 ^ (min b.toNat IntKind.u32.bits)) a1;omega⟩
 rw[if_neg h13]
 by_cases h14:op=14
 ·rw[if_pos h14]
  show In32 (if a<b then 1 else 0)
  by_cases hb:a<b
  ·rw[if_pos hb];exact o
  ·rw[if_neg hb];exact z
 rw[if_neg h14]
 by_cases h15:op=15
 ·rw[if_pos h15]
  show In32 (if a=b then 1 else 0)
  by_cases hb:a=b
  ·rw[if_pos hb];exact o
  ·rw[if_neg hb];exact z
 rw[if_neg h15]
 exact z
def CallP (inp:ByteArray) (fuel n k:Nat) (call:Nat→Bst→Bst):Prop:=∀ i<k,∀ σ,WfB inp fuel n σ→σ.en=0→WfB inp fuel n (call i σ)∧σ.st≤(call i σ).st
theorem opF_wf {call:Nat→Bst→Bst} {inp:ByteArray} {fuel n k m:Nat} {t:Tac} {rg:List Int} {σ:Bst} (hc:CallP inp fuel n k call) (ht:FitsT t k m n) (hn:In32 t.n) (hr:WfR m rg) (hw:WfB inp fuel n σ) (h0:σ.en=0) :
 WfR m (opF call inp t rg σ).1∧WfB inp fuel n (opF call inp t rg σ).2∧σ.st≤(opF call inp t rg σ).2.st:=by
 obtain ⟨op,d,a,b,kk,base,size,nn⟩:=t
 obtain ⟨h1,h2,h3,h4,h5,h6,h7,h8⟩:=ht
 simp only at h1 h2 h3 h4 h5 h6 h7 hn
 obtain ⟨q1,q2,q3,q4,q5⟩:=hw
 have hop:op=1∨op=2∨op=3∨op=4∨op=5∨op=6∨op=7∨op=8∨op=9∨op=10:=by omega
 rcases hop with rfl | rfl | rfl | rfl | rfl | rfl | rfl | rfl | rfl | rfl
 all_goals simp only[usesL,SetsT,restT,Int.reduceEq,or_false,or_true,false_or,true_or,or_self,if_true,if_false,List.mem_cons,List.not_mem_nil,forall_eq_or_imp,forall_eq,false_implies,implies_true,and_true]at h3 h4 h8
 all_goals simp only[opF,Int.reduceEq,if_true,if_false]
 ·exact ⟨sR_wf hr _ hn,⟨q1,q2,q3,q4,q5⟩,Nat.le_refl _⟩
 ·exact ⟨sR_wf hr _ (gR_in hr h4),⟨q1,q2,q3,q4,q5⟩,Nat.le_refl _⟩
 ·split
  ·exact ⟨sR_wf hr _ (applyW_in (gR_in hr h4.1) (gR_in hr h4.2)),⟨q1,q2,q3,q4,q5⟩,Nat.le_refl _⟩
  ·exact ⟨hr,⟨q1,q2,q3,q4,q5⟩,Nat.le_refl _⟩
 ·exact ⟨sR_wf hr _ (q2 _ (mem_getD (by omega))),⟨q1,q2,q3,q4,q5⟩,Nat.le_refl _⟩
 ·exact ⟨hr,⟨(sR_len _ _ _).trans q1,sR_in q2 _ (gR_in hr h4),q3,q4,q5⟩,Nat.le_refl _⟩
 ·have:=gR_in hr h4
  have g1:=this.1
  split
  ·exact ⟨sR_wf hr _ (q2 _ (mem_getD (by omega))),⟨q1,q2,q3,q4,q5⟩,Nat.le_refl _⟩
  ·exact ⟨hr,⟨q1,q2,q3,q4,q5⟩,Nat.le_refl _⟩
 ·split
  ·exact ⟨hr,⟨(sR_len _ _ _).trans q1,sR_in q2 _ (gR_in hr h4.2),q3,q4,q5⟩,Nat.le_refl _⟩
  ·exact ⟨hr,⟨q1,q2,q3,q4,q5⟩,Nat.le_refl _⟩
 ·split
  ·exact ⟨sR_wf hr _ (byteAt_32 _ _).1,⟨q1,q2,q3,by show σ.rd+1≤_;omega,q5⟩,Nat.le_refl _⟩
  ·exact ⟨sR_wf hr _ ⟨by omega,by omega⟩,⟨q1,q2,q3,q4,q5⟩,Nat.le_refl _⟩
 ·split
  ·exact ⟨hr,⟨q1,q2,q3,q4,q5⟩,Nat.le_refl _⟩
  ·exact ⟨hr,⟨q1,q2,by simp only[List.length_append,List.length_cons,List.length_nil];omega,q4,q5⟩,Nat.le_refl _⟩
 ·obtain ⟨g1,g2⟩:=hc base.toNat (by omega) σ ⟨q1,q2,q3,q4,q5⟩ h0
  exact ⟨hr,g1,g2⟩
theorem insF_wf {call:Nat→Bst→Bst} {inp:ByteArray} {fuel n k m:Nat} (hc:CallP inp fuel n k call):∀ (l:List Tac) (rg:List Int) (σ:Bst),(∀ t ∈ l,FitsT t k m n∧In32 t.n)→WfR m rg→WfB inp fuel n σ→σ.en=0 →
 WfR m (insF call inp fuel l rg σ).1∧WfB inp fuel n (insF call inp fuel l rg σ).2∧σ.st≤(insF call inp fuel l rg σ).2.st
 | [],rg,σ,_,hr,hw,_=>⟨hr,hw,Nat.le_refl _⟩
 | t::l,rg,σ,ht,hr,hw,h0=>by
  have h1:=ht t (by simp)
  rw[insF_cons]
  by_cases hf:fuel≤σ.st
  ·rw[if_pos hf]
   exact ⟨hr,⟨hw.n,hw.w,hw.o,hw.r,hw.s⟩,Nat.le_refl _⟩
  ·rw[if_neg hf]
   obtain ⟨a1,a2,a3⟩:=opF_wf hc h1.1 h1.2 hr (σ:={ σ with st:=σ.st+1 }) ⟨hw.n,hw.w,hw.o,hw.r,by show σ.st+1≤fuel;omega⟩ h0
   replace a3:σ.st+1≤_:=a3
   split
   ·rename_i h2
    obtain ⟨b1,b2,b3⟩:=insF_wf hc l _ _ (fun t ht'=>ht t (by simp[ht'])) a1 a2 h2
    exact ⟨b1,b2,by omega⟩
   ·exact ⟨a1,a2,by omega⟩
theorem one_parts {f:BF} {number words:Int} (h:oneB f number words=true):0≤f.regs∧f.regs≤4000∧f.bks≠[]∧∀ b ∈ f.bks,EndsP b f.bks.length f.regs∧∀ t ∈ b.ins,FitsT t number f.regs words:=by
 unfold oneB at h
 simp only[Bool.and_eq_true,decide_eq_true_eq,List.all_eq_true]at h
 obtain ⟨⟨h1,h2,h3⟩,h4⟩:=h
 refine ⟨h1,h2,h3,fun b hb=>?_⟩
 have h5:=h4 b hb
 unfold blkB endsB insB fitsT at h5
 simp only[Bool.and_eq_true,decide_eq_true_eq,List.all_eq_true]at h5
 exact h5
theorem FitsT.mono {t:Tac} {a b regs words:Int} (h:FitsT t a regs words) (hab:a≤b):FitsT t b regs words:=by
 obtain ⟨h1,h2,h3,h4,h5,h6,h7,h8⟩:=h
 refine ⟨h1,h2,h3,h4,h5,h6,h7,?_⟩
 unfold restT at h8 ⊢
 repeat' split
 all_goals simp_all
 all_goals omega
theorem ends_go {b:Bk} {n r:Int} (h:EndsP b n r) (h3:b.e≠3):0≤b.to∧b.to<n∧(b.e=2→0≤b.el∧b.el<n∧0≤b.v∧b.v<r):=by
 unfold EndsP at h
 by_cases h1:b.e=1
 ·rw[if_pos h1]at h;exact ⟨h.1,h.2.1,fun e=>by omega⟩
 ·rw[if_neg h1]at h
  by_cases h2:b.e=2
  ·rw[if_pos h2]at h;exact ⟨h.1,h.2.1,fun _=>⟨h.2.2.1,h.2.2.2.1,h.2.2.2.2⟩⟩
  ·rw[if_neg h2]at h;exact absurd h.1 h3
theorem goB_in {b:Bk} {n r:Int} (h:EndsP b n r) (h3:b.e≠3) (rg:List Int):0≤goB b rg∧goB b rg<n:=by
 obtain ⟨h1,h2,h4⟩:=ends_go h h3
 unfold goB
 split
 ·rename_i h5;have:=h4 h5.1;exact ⟨this.1,this.2.1⟩
 ·exact ⟨h1,h2⟩
structure FnsOk (fs:List BF) (n:Nat):Prop where
 one:∀ i<fs.length,oneB (fs.getD i default) i n=true
 len:∀ f ∈ fs,∀ b ∈ f.bks,b.ins.length≤140737488355328
 w:∀ f ∈ fs,∀ b ∈ f.bks,∀ t ∈ b.ins,In32 t.n
theorem FnsOk.fit {fs:List BF} {n:Nat} (h:FnsOk fs n) {i:Nat} (hi:i<fs.length) {k:Nat} (hk:i≤k):∀ b ∈ (fs.getD i default).bks,∀ t ∈ b.ins,FitsT t k (fs.getD i default).regs n∧In32 t.n:=fun b hb t ht =>
 ⟨(((one_parts (h.one i hi)).2.2.2 b hb).2 t ht).mono (by omega),h.w _ (mem_getD hi) b hb t ht⟩
theorem blkF_wf {call:Nat→Bst→Bst} {inp:ByteArray} {fuel n k:Nat} (hc:CallP inp fuel n k call) {f:BF} (hr0:0≤f.regs) (hf:∀ b ∈ f.bks,EndsP b f.bks.length f.regs∧∀ t ∈ b.ins,FitsT t k f.regs n∧In32 t.n) :
 ∀ (g i:Nat) (rg:List Int) (σ:Bst),i<f.bks.length→WfR f.regs.toNat rg→WfB inp fuel n σ→σ.en=0→WfB inp fuel n (blkF call inp fuel f g i rg σ)∧σ.st≤(blkF call inp fuel f g i rg σ).st
 | 0,_,_,σ,_,_,hw,_=>⟨hw,Nat.le_refl _⟩
 | g+1,i,rg,σ,hi,hr,hw,h0=>by
  have hm:f.bks.getD i default ∈ f.bks:=mem_getD hi
  obtain ⟨hE,hT⟩:=hf _ hm
  have hrr:((f.regs.toNat:Nat):Int)=f.regs:=by omega
  obtain ⟨w1,w2,w3⟩:=insF_wf hc (f.bks.getD i default).ins rg σ (fun t ht=>by rw[hrr];exact hT t ht) hr hw h0
  rw[blkF_succ]
  generalize insF call inp fuel (f.bks.getD i default).ins rg σ=p at *
  split
  ·split
   ·exact ⟨⟨w2.n,w2.w,w2.o,w2.r,w2.s⟩,w3⟩
   ·have hs:WfB inp fuel n { p.2 with st:=p.2.st+1 }:=⟨w2.n,w2.w,w2.o,w2.r,by show p.2.st+1≤fuel;omega⟩
    split
    ·exact ⟨hs,by show σ.st≤p.2.st+1;omega⟩
    ·rename_i h1 h2 h3
     have hg:=goB_in hE h3 p.1
     obtain ⟨a1,a2⟩:=blkF_wf hc hr0 hf g (goB (f.bks.getD i default) p.1).toNat p.1 { p.2 with st:=p.2.st+1 } (by omega) w1 hs h1
     replace a2:p.2.st+1≤_:=a2
     exact ⟨a1,by omega⟩
  ·exact ⟨w2,w3⟩
theorem rep_wf (m:Nat):WfR m (List.replicate m 0):=⟨by simp,fun x hx=>by rw[(List.mem_replicate.1 hx).2];exact ⟨by omega,by omega⟩⟩
theorem funF_wf {fs:List BF} {inp:ByteArray} {fuel n:Nat} (hf:FnsOk fs n):∀ k,k≤fs.length→CallP inp fuel n k (funF fs inp fuel k)
 | 0,_=>fun i hi=>absurd hi (Nat.not_lt_zero i)
 | k+1,hk=>fun i hi σ hw h0=>by
  have ho:=one_parts (hf.one i (by omega))
  exact blkF_wf (funF_wf hf k (by omega)) ho.1 (fun b hb=>⟨(ho.2.2.2 b hb).1,hf.fit (by omega) (by omega) b hb⟩) _ 0 _ σ (List.length_pos_iff.2 ho.2.2.1) (rep_wf _) hw h0
structure Mc where
 pc:Int
 rg:Nat→Int
 me:List Int
 rd:Nat
 out:List UInt8
def byteM (r:Int):UInt8:=UInt8.ofNat (IntKind.u8.wrap r).toNat
def upM (f:Nat→Int) (j:Nat) (v:Int):Nat→Int:=fun k=>if k=j then v else f k
def stM (s:Mc) (a v:Int):Mc:={ s with rg:=upM s.rg a.toNat v,pc:=s.pc+1 }
def adM (s:Mc) (b c:Int):Int:=w32 (s.rg b.toNat+c)
def mI (inp:ByteArray) (s:Mc) (i:Ci):Mc × Int :=
 if i.op=18 then ({ s with pc:=i.c },0)
 else if i.op=19 then ({ s with pc:=if s.rg i.a.toNat=0 then i.c else s.pc+1 },0)
 else if i.op=20 then ({ s with pc:=if s.rg i.a.toNat=0 then s.pc+1 else i.c },0)
 else if i.op=21 then ({ s with rg:=upM s.rg i.a.toNat (s.pc+1),pc:=i.c },0)
 else if i.op=22 then ({ s with pc:=s.rg i.a.toNat },0)
 else if i.op=1 then (stM s i.a i.c,0)
 else if i.op=2 then (stM s i.a (s.rg i.a.toNat % 65536+i.c*65536),0)
 else if i.op=3 then (stM s i.a (s.rg i.b.toNat),0)
 else if i.op=16 then (if adM s i.b i.c<s.me.length then (stM s i.a (s.me.getD (adM s i.b i.c).toNat default),0) else (s,8))
 else if i.op=17 then (if adM s i.b i.c<s.me.length then ({ s with me:=s.me.set (adM s i.b i.c).toNat (s.rg i.a.toNat),pc:=s.pc+1 },0) else (s,8))
 else if i.op=23 then (if s.rd<inp.size then ({ stM s i.a (byteAt inp s.rd) with rd:=s.rd+1 },0) else (stM s i.a 256,0))
 else if i.op=24 then (if 65536≤s.out.length then (s,4) else ({ s with out:=s.out++[byteM (s.rg i.a.toNat)],pc:=s.pc+1 },0))
 else if i.op=25 then (if s.rg i.a.toNat<i.c then ({ s with pc:=s.pc+1 },0) else (s,3))
 else if i.op=26 then (s,1)
 else if (applyW i.op (s.rg i.b.toNat) (s.rg i.c.toNat)).2=0 then (stM s i.a (applyW i.op (s.rg i.b.toNat) (s.rg i.c.toNat)).1,0) else (s,2)
def Mx (code:List Ci) (inp:ByteArray):Nat→Mc→Mc→Prop
 | 0,s,s'=>s=s'
 | n+1,s,s'=>0≤s.pc∧s.pc<code.length∧(mI inp s (code.getD s.pc.toNat default)).2=0∧Mx code inp n (mI inp s (code.getD s.pc.toNat default)).1 s'
def Mn (code:List Ci) (inp:ByteArray) (n:Nat) (s:Mc) (e:Int) (s':Mc):Prop:=∃ s1,Mx code inp n s s1∧0≤s1.pc∧s1.pc<code.length∧mI inp s1 (code.getD s1.pc.toNat default)=(s',e)∧e≠0
theorem Mx.trans {code:List Ci} {inp:ByteArray}:∀ {n m:Nat} {a b c:Mc},Mx code inp n a b→Mx code inp m b c→Mx code inp (n+m) a c
 | 0,m,a,b,c,h,k=>by rw[show a=b from h,Nat.zero_add];exact k
 | n+1,m,a,b,c,h,k=>by
  rw[show n+1+m=(n+m)+1 by omega]
  exact ⟨h.1,h.2.1,h.2.2.1,Mx.trans h.2.2.2 k⟩
theorem Mx.end_ {code:List Ci} {inp:ByteArray} {n m:Nat} {a b c:Mc} {e:Int} (h:Mx code inp n a b) (k:Mn code inp m b e c):Mn code inp (n+m) a e c:=by
 obtain ⟨s1,k1,k2,k3,k4,k5⟩:=k
 exact ⟨s1,h.trans k1,k2,k3,k4,k5⟩
def At (code:List Ci) (k:Nat) (l:List Ci):Prop:=∀ i<l.length,code[k+i]? = l[i]?
theorem At.app {code:List Ci} {k:Nat} {l m:List Ci} (h:At code k (l++m)):At code k l∧At code (k+l.length) m:=by
 refine ⟨fun i hi=>?_,fun i hi=>?_⟩
 ·rw[h i (by rw[List.length_append];omega),List.getElem?_append_left hi]
 ·rw[Nat.add_assoc,h (l.length+i) (by rw[List.length_append];omega),List.getElem?_append_right (by omega)]
  congr 1;omega
theorem At.one {code:List Ci} {k:Nat} {i:Ci} (h:At code k [i]):k<code.length∧code.getD k default=i:=by
 have:=h 0 (by simp)
 simp only[Nat.add_zero,List.getElem?_cons_zero]at this
 exact ⟨(List.getElem?_eq_some_iff.1 this).1,by rw[List.getD,this];rfl⟩
theorem Mx.one {code:List Ci} {inp:ByteArray} {k:Nat} {i:Ci} {s s':Mc} (h:At code k [i]) (hp:s.pc=k) (hm:mI inp s i=(s',0)):Mx code inp 1 s s':=by
 obtain ⟨h1,h2⟩:=h.one
 have e:s.pc.toNat=k:=by omega
 refine ⟨by omega,by omega,?_,?_⟩
 ·rw[e,h2,hm]
 ·rw[e,h2,hm];rfl
theorem Mn.one {code:List Ci} {inp:ByteArray} {k:Nat} {i:Ci} {s s':Mc} {e:Int} (h:At code k [i]) (hp:s.pc=k) (hm:mI inp s i=(s',e)) (he:e≠0):Mn code inp 0 s e s':=by
 obtain ⟨h1,h2⟩:=h.one
 have ek:s.pc.toNat=k:=by omega
 exact ⟨s,rfl,by omega,by omega,by rw[ek,h2,hm],he⟩
theorem mI_ld (inp:ByteArray) (s:Mc) (a b c:Int) (h:0≤s.rg b.toNat+c∧s.rg b.toNat+c<4294967296) (hl:s.rg b.toNat+c<s.me.length):mI inp s ⟨16,a,b,c⟩=(stM s a (s.me.getD (s.rg b.toNat+c).toNat default),0):=by
 have e:adM s b c=s.rg b.toNat+c:=w32_in h
 simp only[mI,Int.reduceEq,if_false,if_true,e,if_pos hl]
theorem mI_st (inp:ByteArray) (s:Mc) (a b c:Int) (h:0≤s.rg b.toNat+c∧s.rg b.toNat+c<4294967296) (hl:s.rg b.toNat+c<s.me.length):mI inp s ⟨17,a,b,c⟩=({ s with me:=s.me.set (s.rg b.toNat+c).toNat (s.rg a.toNat),pc:=s.pc+1 },0):=by
 have e:adM s b c=s.rg b.toNat+c:=w32_in h
 simp only[mI,Int.reduceEq,if_false,if_true,e,if_pos hl]
theorem mI_li (inp:ByteArray) (s:Mc) (a b c:Int):mI inp s ⟨1,a,b,c⟩=(stM s a c,0):=by simp[mI]
theorem mI_lui (inp:ByteArray) (s:Mc) (a b c:Int):mI inp s ⟨2,a,b,c⟩=(stM s a (s.rg a.toNat % 65536+c*65536),0):=by simp[mI]
theorem mI_mov (inp:ByteArray) (s:Mc) (a b c:Int):mI inp s ⟨3,a,b,c⟩=(stM s a (s.rg b.toNat),0):=by simp[mI]
def valM (c:Cx) (s:Mc) (p:Int):Int:=if 0<p then s.rg p.toNat else s.me.getD (c.own p).toNat default
structure MemOk (c:Cx) (W E n:Nat):Prop where
 cs:CxS c
 le:n≤40000
 en:E≤n
 ww:W≤E
 own:∀ v<c.pl.length,gP c.pl v<0→(W:Int)≤c.own (gP c.pl v)∧c.own (gP c.pl v)<E
structure Sm (s s':Mc):Prop where
 r:∀ k≤8,s'.rg k=s.rg k
 m:s'.me=s.me
 o:s'.out=s.out
 d:s'.rd=s.rd
theorem Sm.refl (s:Mc):Sm s s:=⟨fun _ _=>rfl,rfl,rfl,rfl⟩
theorem Sm.trans {a b c:Mc} (h:Sm a b) (k:Sm b c):Sm a c:=⟨fun i hi=>(k.r i hi).trans (h.r i hi),k.m.trans h.m,k.o.trans h.o,k.d.trans h.d⟩
theorem Sm.val {c:Cx} {s s':Mc} (h:Sm s s') {p:Int} (hp:p≤8):valM c s' p=valM c s p:=by
 unfold valM
 by_cases h0:0<p
 ·rw[if_pos h0,if_pos h0];exact h.r _ (by omega)
 ·rw[if_neg h0,if_neg h0,h.m]
section
variable {code:List Ci} {inp:ByteArray} {c:Cx} {k W E:Nat} {s:Mc}
theorem fetch_m (h:MemOk c W E s.me.length) (z:s.rg 0=0) {v sp:Int} (hv:0≤v∧v<c.pl.length) (hs:9≤sp∧sp≤15) (ha:At code k ((fetchY c v sp).map (·.1))) (hp:s.pc=k) :
 ∃ n s',n≤1∧Mx code inp n s s'∧s'.pc=k+(fetchY c v sp).length∧Sm s s'∧s'.rg (fetchR c v sp).toNat=valM c s (c.p v)∧(∀ j,j≠sp.toNat→s'.rg j=s.rg j):=by
 have hpp:=h.cs.ok.p hv.1 hv.2
 unfold fetchY fetchR valM at *
 by_cases h0:0<c.p v
 ·rw[if_pos h0]at ha ⊢
  rw[if_pos h0,if_pos h0]
  exact ⟨0,s,by omega,rfl,by simpa using hp,Sm.refl s,rfl,fun _ _=>rfl⟩
 ·rw[if_neg h0]at ha ⊢
  rw[if_neg h0,if_neg h0]
  have hown:=h.cs.own (p:=c.p v) (by omega)
  have hen:=h.en
  have hlt:=h.own v.toNat (by omega) (by have:c.p v=gP c.pl v.toNat:=rfl;omega)
  rw[show gP c.pl v.toNat=c.p v from rfl]at hlt
  have hz:s.rg (0:Int).toNat=0:=z
  have hm:=mI_ld inp s sp 0 (c.own (c.p v)) (by rw[hz];omega) (by rw[hz];omega)
  refine ⟨1,_,by omega,Mx.one ha hp hm,by simp[stM,hp],⟨fun j hj=>?_,rfl,rfl,rfl⟩,?_,fun j hj=>?_⟩
  ·simp only[stM,upM];rw[if_neg (by omega)]
  ·simp only[stM,upM,if_true];rw[hz,Int.zero_add]
  ·simp only[stM,upM];rw[if_neg hj]
theorem keep_m (h:MemOk c W E s.me.length) (z:s.rg 0=0) {v:Int} {r:Int} (hv:0≤v∧v<c.pl.length) (ha:At code k ((keepY c v r).map (·.1))) (hp:s.pc=k) (hr:0<c.p v→r=c.p v) :
 ∃ n s',n≤1∧Mx code inp n s s'∧s'.pc=k+(keepY c v r).length∧valM c s' (c.p v)=s.rg r.toNat∧(∀ j,s'.rg j=s.rg j)∧s'.out=s.out∧s'.rd=s.rd∧s'.me.length=s.me.length ∧
  (∀ a,(c.p v<0→a≠(c.own (c.p v)).toNat)→s'.me.getD a default=s.me.getD a default):=by
 have hpp:=h.cs.ok.p hv.1 hv.2
 unfold keepY valM at *
 by_cases h0:c.p v<0
 ·rw[if_pos h0]at ha ⊢
  have hown:=h.cs.own (p:=c.p v) (by omega)
  have hen:=h.en
  have hlt:=h.own v.toNat (by omega) h0
  rw[show gP c.pl v.toNat=c.p v from rfl]at hlt
  have hz:s.rg (0:Int).toNat=0:=z
  have hm:=mI_st inp s r 0 (c.own (c.p v)) (by rw[hz];omega) (by rw[hz];omega)
  refine ⟨1,_,by omega,Mx.one ha hp hm,by simp[hp],?_,fun _=>rfl,rfl,rfl,by simp,fun a ha=>?_⟩
  ·rw[if_neg (by omega),hz,Int.zero_add]
   show (s.me.set (c.own (c.p v)).toNat (s.rg r.toNat)).getD _ _=_
   simp only[List.getD]
   rw[List.getElem?_set_self (by omega)];rfl
  ·have:=ha h0
   show (s.me.set _ _).getD a default=_
   rw[hz,Int.zero_add]
   simp only[List.getD]
   rw[List.getElem?_set_ne (fun e=>this e.symm)]
 ·rw[if_neg h0]at ha ⊢
  have hr':=hr (by omega)
  refine ⟨0,s,by omega,rfl,by simpa using hp,?_,fun _=>rfl,rfl,rfl,rfl,fun _ _=>rfl⟩
  rw[if_pos (by omega),hr']
end
structure Rl (c:Cx) (W N:Nat) (M:Nat→Bool) (rg:List Int) (σ:Bst) (s:Mc):Prop where
 z:s.rg 0=0
 v:∀ u<c.pl.length,M u=true→valM c s (gP c.pl u)=rg.getD u default
 w:∀ a<W,s.me.getD a default=σ.ws.getD a default
 o:s.out=σ.out
 d:s.rd=σ.rd
 n:s.me.length=N
theorem Rl.sm {c:Cx} {W N:Nat} {M:Nat→Bool} {rg:List Int} {σ:Bst} {s s':Mc} (h:Rl c W N M rg σ s) (hk:CxOk c) (k:Sm s s'):Rl c W N M rg σ s' :=
 ⟨by rw[k.r 0 (by omega)];exact h.z,fun u hu hm=>by rw[k.val (by have:=hk.pv u hu;omega)];exact h.v u hu hm,fun a ha=>by rw[k.m];exact h.w a ha,k.o.trans h.o,k.d.trans h.d,by rw[k.m];exact h.n⟩
theorem Rl.mono {c:Cx} {W N:Nat} {M M':Nat→Bool} {rg:List Int} {σ:Bst} {s:Mc} (h:Rl c W N M rg σ s) (hM:∀ u<c.pl.length,M' u=true→M u=true):Rl c W N M' rg σ s :=
 ⟨h.z,fun u hu hm=>h.v u hu (hM u hu hm),h.w,h.o,h.d,h.n⟩
def FrM (E:Nat) (s s':Mc):Prop:=∀ a,E≤a→s'.me.getD a default=s.me.getD a default
theorem FrM.refl (E:Nat) (s:Mc):FrM E s s:=fun _ _=>rfl
theorem FrM.trans {E:Nat} {a b c:Mc} (h:FrM E a b) (k:FrM E b c):FrM E a c:=fun i hi=>(k i hi).trans (h i hi)
theorem Sm.fr {E:Nat} {s s':Mc} (h:Sm s s'):FrM E s s':=fun a _=>by rw[h.m]
theorem own_inj {c:Cx} {p q:Int} (h:p≠q):c.own p≠c.own q:=by unfold Cx.own;omega
section
variable {code:List Ci} {inp:ByteArray} {c:Cx} {k W E N:Nat} {s0 s1:Mc} {M M':Nat→Bool} {rg:List Int} {σ σ':Bst}
theorem fin_set (hm:MemOk c W E N) (h:Rl c W N M' rg σ s0) {d r x:Int} (hd:0≤d∧d<c.pl.length) (hrl:rg.length=c.pl.length) (hM:∀ u<c.pl.length,M u=true→u≠d.toNat→M' u=true)
 (hap:∀ u<c.pl.length,M u=true→u≠d.toNat→gP c.pl u≠gP c.pl d.toNat) (hx:s1.rg r.toNat=x) (hr:0<c.p d→r=c.p d) (hg:∀ j≤8,(0<c.p d→j≠(c.p d).toNat)→s1.rg j=s0.rg j)
 (hme:s1.me=s0.me) (hws:σ'.ws=σ.ws) (ho:s1.out=σ'.out) (hrd:s1.rd=σ'.rd) (ha:At code k ((keepY c d r).map (·.1))) (hp:s1.pc=k) :
 ∃ n s',n≤1∧Mx code inp n s1 s'∧s'.pc=k+(keepY c d r).length∧Rl c W N M (sR rg d x) σ' s'∧FrM E s0 s':=by
 have hpd:=hm.cs.ok.p hd.1 hd.2
 have hcp:c.p d=gP c.pl d.toNat:=rfl
 have z1:s1.rg 0=0:=by rw[hg 0 (by omega) (fun _=>by omega)];exact h.z
 have hml:s1.me.length=N:=by rw[hme];exact h.n
 obtain ⟨n,s',n1,n2,n3,n4,n5,n6,n7,n8,n9⟩:=keep_m (code:=code) (inp:=inp) (k:=k) (s:=s1) (W:=W) (E:=E) (c:=c) (by rw[hml];exact hm) z1 hd ha hp hr
 have hown:gP c.pl d.toNat<0→(W:Int)≤c.own (gP c.pl d.toNat)∧c.own (gP c.pl d.toNat)<E:=fun e=>hm.own d.toNat (by omega) e
 refine ⟨n,s',n1,n2,n3,⟨by rw[n5];exact z1,fun u hu hu1=>?_,fun a haw=>?_,by rw[n6];exact ho,by rw[n7];exact hrd,by rw[n8];exact hml⟩,fun a haE=>?_⟩
 ·unfold sR
  rw[show (rg.set d.toNat x).getD u default=if d.toNat=u then x else rg.getD u default by
   simp only[List.getD]
   by_cases e:d.toNat=u
   ·subst e;rw[if_pos rfl,List.getElem?_set_self (by omega)];rfl
   ·rw[if_neg e,List.getElem?_set_ne e]]
  by_cases e:d.toNat=u
  ·subst e
   rw[if_pos rfl,← hcp,n4,hx]
  ·rw[if_neg e]
   have e':u≠d.toNat:=fun e2=>e e2.symm
   have hne:=hap u hu hu1 e'
   have hpu:=hm.cs.ok.pv u hu
   rw[← h.v u hu (hM u hu hu1 e')]
   unfold valM
   by_cases h0:0<gP c.pl u
   ·rw[if_pos h0,if_pos h0,n5]
    exact hg _ (by omega) (fun hq=>by omega)
   ·rw[if_neg h0,if_neg h0,n9 _ (fun hq=>?_),hme]
    have h1:=hm.own u hu (by omega)
    have h2:=hown (by omega)
    have:=own_inj (c:=c) hne
    rw[hcp];omega
 ·rw[n9 a (fun hq=>by have:=hown (by omega);rw[hcp];omega),hme,hws];exact h.w a haw
 ·rw[n9 a (fun hq=>by have:=hown (by omega);rw[hcp];omega),hme]
end
theorem gds {α:Type} {l:List α} {i j:Nat} {x d:α} (hj:j<l.length):(l.set i x).getD j d=if i=j then x else l.getD j d:=by
 simp only[List.getD]
 rw[List.getElem?_set]
 by_cases h:i=j
 ·subst h;simp[hj]
 ·rw[if_neg h,if_neg h]
theorem gds_self {α:Type} {l:List α} {i:Nat} {x d:α} (h:i<l.length):(l.set i x).getD i d=x:=by simp[List.getD,h]
theorem gds_ne {α:Type} {l:List α} {i j:Nat} {x d:α} (h:i≠j):(l.set i x).getD j d=l.getD j d:=by simp[List.getD,List.getElem?_set_ne h]
def GoM (code:List Ci) (inp:ByteArray) (c:Cx) (W E N:Nat) (M:Nat→Bool) (k:Nat) (s:Mc) (rg':List Int) (σ':Bst) (len:Nat):Prop :=
 ∃ n s',n≤5∧Mx code inp n s s'∧s'.pc=((k+len:Nat):Int)∧Rl c W N M rg' σ' s'∧FrM E s s'
def EnM (code:List Ci) (inp:ByteArray) (s:Mc) (σ':Bst):Prop:=∃ n s',n≤4∧Mn code inp n s σ'.en s'∧s'.out=σ'.out
theorem bk1_use {t:Tac} {u:Int} {x:Bool} (h0:0≤u) (h:u ∈ usesL t):bk1 t u.toNat x=true:=by
 show (if ((u.toNat:Nat):Int) ∈ usesL t then true else _)=true
 rw[if_pos (by rw[Int.toNat_of_nonneg h0];exact h)]
theorem bk1_keep {t:Tac} {u:Nat} {x:Bool} (hx:x=true) (h:SetsT t→u≠t.d.toNat) (hd:SetsT t→0≤t.d):bk1 t u x=true:=by
 show (if (u:Int) ∈ usesL t then true else if setsL t=(u:Int) then false else x)=true
 by_cases e:(u:Int) ∈ usesL t
 ·rw[if_pos e]
 ·rw[if_neg e,if_neg,hx]
  intro e2
  unfold setsL at e2
  by_cases hs:SetsT t
  ·rw[if_pos hs]at e2
   have:=h hs
   have:=hd hs
   omega
  ·rw[if_neg hs]at e2;omega
theorem mI_movr (inp:ByteArray) (s:Mc) (op a b c:Int) (h:4≤op∧op≤15):mI inp s ⟨op,a,b,c⟩=if (applyW op (s.rg b.toNat) (s.rg c.toNat)).2=0 then (stM s a (applyW op (s.rg b.toNat) (s.rg c.toNat)).1,0) else (s,2):=by
 have h1:op≠18:=by omega
 have h2:op≠19:=by omega
 have h3:op≠20:=by omega
 have h4:op≠21:=by omega
 have h5:op≠22:=by omega
 have h6:op≠1:=by omega
 have h7:op≠2:=by omega
 have h8:op≠3:=by omega
 have h9:op≠16:=by omega
 have h10:op≠17:=by omega
 have h11:op≠23:=by omega
 have h12:op≠24:=by omega
 have h13:op≠25:=by omega
 have h14:op≠26:=by omega
 simp only[mI,if_neg h1,if_neg h2,if_neg h3,if_neg h4,if_neg h5,if_neg h6,if_neg h7,if_neg h8,if_neg h9,if_neg h10,if_neg h11,if_neg h12,if_neg h13,if_neg h14]
theorem mI_put (inp:ByteArray) (s:Mc) (a:Int):mI inp s ⟨24,a,0,0⟩=if 65536≤s.out.length then (s,4) else ({ s with out:=s.out++[byteM (s.rg a.toNat)],pc:=s.pc+1 },0):=by simp[mI]
theorem mI_gets (inp:ByteArray) (s:Mc) (a:Int):mI inp s ⟨23,a,0,0⟩=if s.rd<inp.size then ({ stM s a (byteAt inp s.rd) with rd:=s.rd+1 },0) else (stM s a 256,0):=by simp[mI]
theorem mI_chks (inp:ByteArray) (s:Mc) (a c:Int):mI inp s ⟨25,a,0,c⟩=if s.rg a.toNat<c then ({ s with pc:=s.pc+1 },0) else (s,3):=by simp[mI]
section
variable {code:List Ci} {inp:ByteArray} {c:Cx} {k W E N:Nat} {s s2 s3:Mc} {M M':Nat→Bool} {rg:List Int} {σ σ':Bst} {t:Tac} {l:List Ci}
theorem fetch_r (hm:MemOk c W E N) (h:Rl c W N M' rg σ s) {v sp:Int} (hv:0≤v∧v<c.pl.length) (hM:M' v.toNat=true) (hs:9≤sp∧sp≤15) (ha:At code k ((fetchY c v sp).map (·.1)++l)) (hp:s.pc=k) :
 ∃ n s',n≤1∧Mx code inp n s s'∧s'.pc=((k+(fetchY c v sp).length:Nat):Int)∧Sm s s'∧s'.rg (fetchR c v sp).toNat=gR rg v∧(∀ j,j≠sp.toNat→s'.rg j=s.rg j)∧At code (k+(fetchY c v sp).length) l:=by
 obtain ⟨a1,a2⟩:=ha.app
 rw[List.length_map]at a2
 obtain ⟨n,s',h1,h2,h3,h4,h5,h6⟩:=fetch_m (inp:=inp) (s:=s) (W:=W) (E:=E) (by rw[h.n];exact hm) h.z hv hs a1 hp
 refine ⟨n,s',h1,h2,by rw[h3];omega,h4,?_,h6,a2⟩
 rw[h5]
 exact h.v v.toNat (by omega) hM
theorem fetchR_le (hm:MemOk c W E N) {v sp:Int} (hv:0≤v∧v<c.pl.length):fetchR c v sp=sp∨(1≤fetchR c v sp∧fetchR c v sp≤8):=by
 have:=hm.cs.ok.p hv.1 hv.2
 unfold fetchR
 split
 ·right;omega
 ·left;rfl
theorem set_go (hm:MemOk c W E N) (h:Rl c W N (fun u=>bk1 t u (M u)) rg σ s) (hd:0≤t.d∧t.d<c.pl.length) (hrl:rg.length=c.pl.length) (hap:∀ u<c.pl.length,M u=true→u≠t.d.toNat→gP c.pl u≠gP c.pl t.d.toNat) {n2 k2:Nat} {ci:Ci} {x:Int} {len:Nat} (hn:n2≤3) (hx:Mx code inp n2 s s2) (hsm:Sm s s2) (hp2:s2.pc=k2) (ha:At code k2 ([ci]++(keepY c t.d (intoR c t.d)).map (·.1)))
 (hmi:mI inp s2 ci=(s3,0)) (e1:s3.rg=upM s2.rg (intoR c t.d).toNat x) (e2:s3.me=s2.me) (e3:s3.pc=s2.pc+1) (e4:s3.out=σ'.out) (e5:s3.rd=σ'.rd) (e6:σ'.ws=σ.ws) (hl:k2+(1+(keepY c t.d (intoR c t.d)).length)=k+len) :
 GoM code inp c W E N M k s (sR rg t.d x) σ' len:=by
 obtain ⟨a1,a2⟩:=ha.app
 have x1:=Mx.one a1 hp2 hmi
 have hpd:=hm.cs.ok.p hd.1 hd.2
 obtain ⟨n,s',q1,q2,q3,q4,q5⟩:=fin_set (code:=code) (inp:=inp) (k:=k2+1) (s1:=s3) (M:=M) (σ':=σ') hm h (d:=t.d) (r:=intoR c t.d) (x:=x) hd hrl (fun u hu hu1 hne=>bk1_keep hu1 (fun _=>hne) (fun _=>hd.1)) hap (by rw[e1];simp[upM]) (fun h0=>by unfold intoR;rw[if_pos h0]) (fun j hj hne=>by
  rw[e1];simp only[upM];rw[if_neg,hsm.r j hj]
  unfold intoR;split
  ·rename_i h0;exact hne h0
  ·omega) (e2.trans hsm.m) e6 e4 e5 a2 (by rw[e3,hp2];omega)
 exact ⟨n2+(1+n),s',by omega,hx.trans (x1.trans q2),by rw[q3];omega,q4,q5⟩
theorem store_go (hm:MemOk c W E N) (h:Rl c W N M' rg σ s) (hM:∀ u<c.pl.length,M u=true→M' u=true) (hwl:σ.ws.length=W) (hsm:Sm s s2) {a:Nat} {x:Int} (ha:a<W) (e1:s3.rg=s2.rg) (e2:s3.me=s2.me.set a x) (e4:s3.out=s2.out) (e5:s3.rd=s2.rd) :
 Rl c W N M rg { σ with ws:=σ.ws.set a x } s3∧FrM E s s3:=by
 have h2:=h.sm hm.cs.ok hsm
 have hww:=hm.ww
 have hen:=hm.en
 have hl:s2.me.length=N:=h2.n
 refine ⟨⟨by rw[e1];exact h2.z,fun u hu hu1=>?_,fun b hb=>?_,by rw[e4];exact h2.o,by rw[e5];exact h2.d,by rw[e2,List.length_set];exact hl⟩,fun b hb=>?_⟩
 ·rw[← h2.v u hu (hM u hu hu1)]
  unfold valM
  by_cases h0:0<gP c.pl u
  ·rw[if_pos h0,if_pos h0,e1]
  ·have hpu:=hm.cs.ok.pv u hu
   have:=hm.own u hu (by omega)
   rw[if_neg h0,if_neg h0,e2,gds_ne (by omega)]
 ·rw[e2]
  by_cases e:a=b
  ·subst e
   rw[gds_self (by omega)]
   exact (gds_self (by omega)).symm
  ·rw[gds_ne e]
   exact (h2.w b hb).trans (gds_ne e).symm
 ·rw[e2,gds_ne (by omega),hsm.m]
theorem sim_const (hm:MemOk c W E N) (h:Rl c W N (fun u=>bk1 t u (M u)) rg σ s) (hd:0≤t.d∧t.d<c.pl.length) (hn:In32 t.n) (hrl:rg.length=c.pl.length) (hap:∀ u<c.pl.length,M u=true→u≠t.d.toNat→gP c.pl u≠gP c.pl t.d.toNat) (hp:s.pc=k) (ha:At code k ((constY c t.d t.n).map (·.1))) :
 GoM code inp c W E N M k s (sR rg t.d t.n) σ (constY c t.d t.n).length:=by
 have hpd:=hm.cs.ok.p hd.1 hd.2
 obtain ⟨n0,n1⟩:=hn
 have hMk:∀ u<c.pl.length,M u=true→u≠t.d.toNat→bk1 t u (M u)=true:=fun u hu hu1 hne=>bk1_keep hu1 (fun _=>hne) (fun _=>hd.1)
 unfold constY at *
 by_cases e:t.n=0∧c.p t.d<0
 ·rw[if_pos e]at ha ⊢
  obtain ⟨n,s',q1,q2,q3,q4,q5⟩:=fin_set (code:=code) (inp:=inp) (k:=k) (s1:=s) (M:=M) (σ':=σ) hm h (d:=t.d) (r:=0) (x:=t.n) hd hrl hMk hap (by rw[e.1];exact h.z) (fun h0=>by omega) (fun j hj hne=>rfl) rfl rfl h.o h.d ha hp
  exact ⟨n,s',by omega,q2,by rw[q3];omega,q4,q5⟩
 ·rw[if_neg e]at ha ⊢
  have hz:(0:Int)≤t.n % 65536:=by omega
  by_cases e2:t.n / 65536=0
  ·rw[if_pos e2]at ha ⊢
   rw[List.nil_append]at ha ⊢
   have en:t.n % 65536=t.n:=by omega
   rw[en]at ha ⊢
   rw[List.map_cons]at ha
   exact set_go (n2:=0) (k2:=k) (x:=t.n) hm h hd hrl hap (by omega) rfl (Sm.refl s) hp ha (mI_li inp s _ 0 t.n) rfl rfl rfl h.o h.d rfl (by simp only[List.length_cons];omega)
  ·rw[if_neg e2]at ha ⊢
   simp only[List.map_cons,List.cons_append,List.nil_append]at ha
   have a1:=(At.app (l:=[_]) ha).1
   have a2:=(At.app (l:=[_]) ha).2
   have x1:=Mx.one a1 hp (mI_li inp s (intoR c t.d) 0 (t.n % 65536))
   have a3:=(At.app (l:=[_]) a2).1
   have a4:=(At.app (l:=[_]) a2).2
   have p1:(stM s (intoR c t.d) (t.n % 65536)).pc=((k+1:Nat):Int):=by simp only[stM];omega
   have x2:=Mx.one a3 p1 (mI_lui inp (stM s (intoR c t.d) (t.n % 65536)) (intoR c t.d) 0 (t.n / 65536))
   have hv:(stM s (intoR c t.d) (t.n % 65536)).rg (intoR c t.d).toNat % 65536+t.n / 65536*65536=t.n:=by
    simp only[stM,upM,if_true];omega
   rw[hv]at x2
   obtain ⟨n,s',q1,q2,q3,q4,q5⟩:=fin_set (code:=code) (inp:=inp) (k:=k+1+1) (s1:=stM (stM s (intoR c t.d) (t.n % 65536)) (intoR c t.d) t.n) (M:=M) (σ':=σ) hm h (d:=t.d) (r:=intoR c t.d) (x:=t.n) hd hrl hMk hap (by simp[stM,upM]) (fun h0=>by unfold intoR;rw[if_pos h0]) (fun j hj hne=>by
    have hj2:j≠(intoR c t.d).toNat:=by
     unfold intoR;split
     ·rename_i h0;exact hne h0
     ·omega
    simp only[stM,upM];rw[if_neg hj2,if_neg hj2]) rfl rfl h.o h.d a4 (by simp only[stM];omega)
   exact ⟨1+(1+n),s',by omega,x1.trans (x2.trans q2),by rw[q3];simp only[List.length_cons,List.length_append,List.length_nil];omega,q4,q5⟩
theorem sim_copy (hm:MemOk c W E N) (ht:t.op=2) (h:Rl c W N (fun u=>bk1 t u (M u)) rg σ s) (hd:0≤t.d∧t.d<c.pl.length) (hta:0≤t.a∧t.a<c.pl.length) (hrl:rg.length=c.pl.length) (hap:∀ u<c.pl.length,M u=true→u≠t.d.toNat→gP c.pl u≠gP c.pl t.d.toNat) (hp:s.pc=k) (ha:At code k ((copyY c t.d t.a).map (·.1))) :
 GoM code inp c W E N M k s (sR rg t.d (gR rg t.a)) σ (copyY c t.d t.a).length:=by
 have hpd:=hm.cs.ok.p hd.1 hd.2
 have hpa:=hm.cs.ok.p hta.1 hta.2
 have hMa:bk1 t t.a.toNat (M t.a.toNat)=true:=bk1_use hta.1 (by simp[usesL,ht])
 have hva:valM c s (c.p t.a)=gR rg t.a:=h.v t.a.toNat (by omega) hMa
 have hMk:∀ u<c.pl.length,M u=true→u≠t.d.toNat→bk1 t u (M u)=true:=fun u hu hu1 hne=>bk1_keep hu1 (fun _=>hne) (fun _=>hd.1)
 unfold copyY at *
 by_cases e:c.p t.d=c.p t.a
 ·rw[if_pos e]at ha ⊢
  refine ⟨0,s,by omega,rfl,by rw[hp];rfl,⟨h.z,fun u hu hu1=>?_,h.w,h.o,h.d,h.n⟩,FrM.refl E s⟩
  unfold sR
  rw[gds (by omega)]
  by_cases e2:t.d.toNat=u
  ·rw[if_pos e2,← e2,← hva,← e];rfl
  ·rw[if_neg e2];exact h.v u hu (hMk u hu hu1 (fun e3=>e2 e3.symm))
 ·rw[if_neg e]at ha ⊢
  by_cases h0:0<c.p t.d
  ·rw[if_pos h0]at ha ⊢
   have hk0:keepY c t.d (c.p t.d)=[]:=by unfold keepY;rw[if_neg (by omega)]
   have hi:intoR c t.d=c.p t.d:=by unfold intoR;rw[if_pos h0]
   by_cases h1:0<c.p t.a
   ·have hf:fetchY c t.a (c.p t.d)=[]:=by unfold fetchY;rw[if_pos h1]
    have hr:fetchR c t.a (c.p t.d)=c.p t.a:=by unfold fetchR;rw[if_pos h1]
    rw[hf,hr,if_neg (fun e2=>e e2.symm)]at ha ⊢
    have hv2:s.rg (c.p t.a).toNat=gR rg t.a:=by rw[← hva];unfold valM;rw[if_pos h1]
    refine set_go (n2:=0) (k2:=k) (x:=gR rg t.a) (ci:=⟨3,c.p t.d,c.p t.a,0⟩) hm h hd hrl hap (by omega) rfl (Sm.refl s) hp ?_ (mI_mov inp s _ _ 0) (by rw[hi,hv2];rfl) rfl rfl h.o h.d rfl (by rw[hi,hk0];rfl)
    rw[hi,hk0];exact ha
   ·have hf:fetchY c t.a (c.p t.d)=[pY 16 (c.p t.d) 0 (c.own (c.p t.a))]:=by unfold fetchY;rw[if_neg h1]
    have hr:fetchR c t.a (c.p t.d)=c.p t.d:=by unfold fetchR;rw[if_neg h1]
    rw[hf,hr,if_pos rfl]at ha ⊢
    have hz:s.rg (0:Int).toNat=0:=h.z
    have hown:=hm.cs.own (p:=c.p t.a) (by omega)
    have hlt:=hm.own t.a.toNat (by omega) (by have:c.p t.a=gP c.pl t.a.toNat:=rfl;omega)
    rw[show gP c.pl t.a.toNat=c.p t.a from rfl]at hlt
    have hen:=hm.en
    have hN:=h.n
    have hv2:s.me.getD (s.rg (0:Int).toNat+c.own (c.p t.a)).toNat default=gR rg t.a:=by rw[← hva];unfold valM;rw[if_neg h1,hz,Int.zero_add]
    have hmm:=mI_ld inp s (c.p t.d) 0 (c.own (c.p t.a)) (by rw[hz];omega) (by rw[hz];omega)
    rw[hv2]at hmm
    refine set_go (n2:=0) (k2:=k) (x:=gR rg t.a) (ci:=⟨16,c.p t.d,0,c.own (c.p t.a)⟩) hm h hd hrl hap (by omega) rfl (Sm.refl s) hp ?_ hmm (by rw[hi];rfl) rfl rfl h.o h.d rfl (by rw[hi,hk0];rfl)
    rw[hi,hk0];exact ha
  ·rw[if_neg h0]at ha ⊢
   rw[List.map_append]at ha
   obtain ⟨n,s1,g1,g2,g3,g4,g5,g6,g7⟩:=fetch_r (inp:=inp) hm h hta hMa ⟨by omega,by omega⟩ ha hp
   have h1:=h.sm hm.cs.ok g4
   obtain ⟨n2,s',q1,q2,q3,q4,q5⟩:=fin_set (code:=code) (inp:=inp) (s0:=s) (s1:=s1) (M:=M) (σ':=σ) hm h (d:=t.d) (r:=fetchR c t.a 9) (x:=gR rg t.a) hd hrl hMk hap g5 (fun h1=>absurd h1 h0) (fun j hj _=>g4.r j hj) g4.m rfl h1.o h1.d g7 g3
   exact ⟨n+n2,s',by omega,g2.trans q2,by rw[q3,List.length_append];omega,q4,q5⟩
theorem sim_bin (hm:MemOk c W E N) (ht:t.op=3) (h:Rl c W N (fun u=>bk1 t u (M u)) rg σ s) (hd:0≤t.d∧t.d<c.pl.length) (hta:0≤t.a∧t.a<c.pl.length) (htb:0≤t.b∧t.b<c.pl.length) (hk:4≤t.k∧t.k≤15) (hrl:rg.length=c.pl.length) (hap:∀ u<c.pl.length,M u=true→u≠t.d.toNat→gP c.pl u≠gP c.pl t.d.toNat) (hp:s.pc=k) (ha:At code k ((insY c t).map (·.1))) :
 ((applyW t.k (gR rg t.a) (gR rg t.b)).2=0→GoM code inp c W E N M k s (sR rg t.d (applyW t.k (gR rg t.a) (gR rg t.b)).1) σ (insY c t).length)∧((applyW t.k (gR rg t.a) (gR rg t.b)).2≠0→EnM code inp s { σ with en:=2 }):=by
 have hMa:bk1 t t.a.toNat (M t.a.toNat)=true:=bk1_use hta.1 (by simp[usesL,ht])
 have hMb:bk1 t t.b.toNat (M t.b.toNat)=true:=bk1_use htb.1 (by simp[usesL,ht])
 have ei:insY c t=fetchY c t.a 9++fetchY c t.b 10++[pY t.k (intoR c t.d) (fetchR c t.a 9) (fetchR c t.b 10)]++keepY c t.d (intoR c t.d):=by simp[insY,ht]
 rw[ei]at ha ⊢
 simp only[List.map_append,List.append_assoc]at ha
 obtain ⟨n,s1,g1,g2,g3,g4,g5,g6,g7⟩:=fetch_r (inp:=inp) hm h hta hMa ⟨by omega,by omega⟩ ha hp
 have h1:=h.sm hm.cs.ok g4
 obtain ⟨m,s2,f1,f2,f3,f4,f5,f6,f7⟩:=fetch_r (inp:=inp) hm h1 htb hMb ⟨by omega,by omega⟩ g7 g3
 have h2:=h1.sm hm.cs.ok f4
 have hra:=fetchR_le hm (v:=t.a) (sp:=9) hta
 have va:s2.rg (fetchR c t.a 9).toNat=gR rg t.a:=by rw[f6 _ (by omega)];exact g5
 have hmi:=mI_movr inp s2 t.k (intoR c t.d) (fetchR c t.a 9) (fetchR c t.b 10) hk
 rw[va,f5]at hmi
 refine ⟨fun e=>?_,fun e=>?_⟩
 ·rw[if_pos e]at hmi
  exact set_go (n2:=n+m) (x:=(applyW t.k (gR rg t.a) (gR rg t.b)).1) hm h hd hrl hap (by omega) (g2.trans f2) (g4.trans f4) f3 f7 hmi rfl rfl rfl h2.o h2.d rfl (by simp only[List.length_append,List.length_cons,List.length_nil]<;>omega)
 ·rw[if_neg e]at hmi
  exact ⟨n+m,s2,by omega,(g2.trans f2).end_ (Mn.one (At.app f7).1 f3 hmi (by decide)),h2.o⟩
theorem sim_load (hm:MemOk c W E N) (ht:t.op=4) (h:Rl c W N (fun u=>bk1 t u (M u)) rg σ s) (hd:0≤t.d∧t.d<c.pl.length) (hb:0≤t.base∧t.base<W) (hrl:rg.length=c.pl.length) (hap:∀ u<c.pl.length,M u=true→u≠t.d.toNat→gP c.pl u≠gP c.pl t.d.toNat) (hp:s.pc=k) (ha:At code k ((insY c t).map (·.1))) :
 GoM code inp c W E N M k s (sR rg t.d (gR σ.ws t.base)) σ (insY c t).length:=by
 have ei:insY c t=[pY 16 (intoR c t.d) 0 t.base]++keepY c t.d (intoR c t.d):=by simp[insY,ht]
 rw[ei]at ha ⊢
 rw[List.map_append]at ha
 have hz:s.rg (0:Int).toNat=0:=h.z
 have hww:=hm.ww
 have hen:=hm.en
 have hle:=hm.le
 have hN:=h.n
 have hmi:=mI_ld inp s (intoR c t.d) 0 t.base (by rw[hz];omega) (by rw[hz];omega)
 rw[hz,Int.zero_add,h.w t.base.toNat (by omega)]at hmi
 exact set_go (n2:=0) (k2:=k) (x:=gR σ.ws t.base) hm h hd hrl hap (by omega) rfl (Sm.refl s) hp ha hmi rfl rfl rfl h.o h.d rfl (by simp only[List.length_append,List.length_cons,List.length_nil]<;>omega)
theorem sim_store (hm:MemOk c W E N) (ht:t.op=5) (h:Rl c W N (fun u=>bk1 t u (M u)) rg σ s) (hta:0≤t.a∧t.a<c.pl.length) (hb:0≤t.base∧t.base<W) (hwl:σ.ws.length=W) (hp:s.pc=k) (ha:At code k ((insY c t).map (·.1))) :
 GoM code inp c W E N M k s rg { σ with ws:=sR σ.ws t.base (gR rg t.a) } (insY c t).length:=by
 have hMa:bk1 t t.a.toNat (M t.a.toNat)=true:=bk1_use hta.1 (by simp[usesL,ht])
 have ei:insY c t=fetchY c t.a 9++[pY 17 (fetchR c t.a 9) 0 t.base]:=by simp[insY,ht]
 rw[ei]at ha ⊢
 rw[List.map_append]at ha
 obtain ⟨n,s1,g1,g2,g3,g4,g5,g6,g7⟩:=fetch_r (inp:=inp) hm h hta hMa ⟨by omega,by omega⟩ ha hp
 have h1:=h.sm hm.cs.ok g4
 have hz:s1.rg (0:Int).toNat=0:=h1.z
 have hww:=hm.ww
 have hen:=hm.en
 have hle:=hm.le
 have hN:=h1.n
 have hmi:=mI_st inp s1 (fetchR c t.a 9) 0 t.base (by rw[hz];omega) (by rw[hz];omega)
 rw[hz,Int.zero_add,g5]at hmi
 have hns:¬ SetsT t:=by simp[SetsT,ht]
 obtain ⟨q1,q2⟩:=store_go (M:=M) (s3:={ s1 with me:=s1.me.set t.base.toNat (gR rg t.a),pc:=s1.pc+1 }) hm h (fun u hu hu1=>bk1_keep hu1 (fun e=>absurd e hns) (fun e=>absurd e hns)) hwl g4 (a:=t.base.toNat) (x:=gR rg t.a) (by omega) rfl rfl rfl rfl
 exact ⟨n+1,_,by omega,g2.trans (Mx.one g7 g3 hmi),by simp only[List.length_append,List.length_cons,List.length_nil];rw[g3];omega,q1,q2⟩
theorem sim_aload (hm:MemOk c W E N) (ht:t.op=6) (h:Rl c W N (fun u=>bk1 t u (M u)) rg σ s) (hd:0≤t.d∧t.d<c.pl.length) (hta:0≤t.a∧t.a<c.pl.length) (hb:1≤t.size∧t.size≤4096∧0≤t.base∧t.base≤W-t.size) (h0:0≤gR rg t.a) (hrl:rg.length=c.pl.length) (hap:∀ u<c.pl.length,M u=true→u≠t.d.toNat→gP c.pl u≠gP c.pl t.d.toNat) (hp:s.pc=k) (ha:At code k ((insY c t).map (·.1))) :
 (gR rg t.a<t.size→GoM code inp c W E N M k s (sR rg t.d (gR σ.ws (t.base+gR rg t.a))) σ (insY c t).length)∧(¬ gR rg t.a<t.size→EnM code inp s { σ with en:=3 }):=by
 have hMa:bk1 t t.a.toNat (M t.a.toNat)=true:=bk1_use hta.1 (by simp[usesL,ht])
 have ei:insY c t=fetchY c t.a 9++[pY 25 (fetchR c t.a 9) 0 t.size]++[pY 16 (intoR c t.d) (fetchR c t.a 9) t.base]++keepY c t.d (intoR c t.d):=by simp[insY,ht]
 rw[ei]at ha ⊢
 simp only[List.map_append,List.append_assoc]at ha
 obtain ⟨n,s1,g1,g2,g3,g4,g5,g6,g7⟩:=fetch_r (inp:=inp) hm h hta hMa ⟨by omega,by omega⟩ ha hp
 have h1:=h.sm hm.cs.ok g4
 obtain ⟨b1,b2⟩:=At.app (l:=[_]) g7
 have hmi:=mI_chks inp s1 (fetchR c t.a 9) t.size
 rw[g5]at hmi
 have hww:=hm.ww
 have hen:=hm.en
 have hle:=hm.le
 have hN:=h1.n
 refine ⟨fun e=>?_,fun e=>?_⟩
 ·rw[if_pos e]at hmi
  have x1:=Mx.one b1 g3 hmi
  have hsm:Sm s { s1 with pc:=s1.pc+1 }:=g4.trans ⟨fun _ _=>rfl,rfl,rfl,rfl⟩
  have hm2:=mI_ld inp { s1 with pc:=s1.pc+1 } (intoR c t.d) (fetchR c t.a 9) t.base (by simp only;rw[g5];omega) (by simp only;rw[g5];omega)
  simp only at hm2
  rw[g5,h1.w (gR rg t.a+t.base).toNat (by omega),show gR rg t.a+t.base=t.base+gR rg t.a by omega]at hm2
  exact set_go (n2:=n+1) (k2:=k+(fetchY c t.a 9).length+1) (x:=gR σ.ws (t.base+gR rg t.a)) hm h hd hrl hap (by omega) (g2.trans x1) hsm (by simp only;rw[g3];omega) b2 hm2 rfl rfl rfl h1.o h1.d rfl (by simp only[List.length_append,List.length_cons,List.length_nil]<;>omega)
 ·rw[if_neg e]at hmi
  exact ⟨n,s1,by omega,g2.end_ (Mn.one b1 g3 hmi (by decide)),h1.o⟩
theorem sim_astore (hm:MemOk c W E N) (ht:t.op=7) (h:Rl c W N (fun u=>bk1 t u (M u)) rg σ s) (hta:0≤t.a∧t.a<c.pl.length) (htb:0≤t.b∧t.b<c.pl.length) (hb:1≤t.size∧t.size≤4096∧0≤t.base∧t.base≤W-t.size) (h0:0≤gR rg t.a) (hwl:σ.ws.length=W) (hp:s.pc=k) (ha:At code k ((insY c t).map (·.1))) :
 (gR rg t.a<t.size→GoM code inp c W E N M k s rg { σ with ws:=sR σ.ws (t.base+gR rg t.a) (gR rg t.b) } (insY c t).length)∧(¬ gR rg t.a<t.size→EnM code inp s { σ with en:=3 }):=by
 have hMa:bk1 t t.a.toNat (M t.a.toNat)=true:=bk1_use hta.1 (by simp[usesL,ht])
 have hMb:bk1 t t.b.toNat (M t.b.toNat)=true:=bk1_use htb.1 (by simp[usesL,ht])
 have ei:insY c t=fetchY c t.a 9++[pY 25 (fetchR c t.a 9) 0 t.size]++fetchY c t.b 10++[pY 17 (fetchR c t.b 10) (fetchR c t.a 9) t.base]:=by simp[insY,ht]
 rw[ei]at ha ⊢
 simp only[List.map_append,List.append_assoc]at ha
 obtain ⟨n,s1,g1,g2,g3,g4,g5,g6,g7⟩:=fetch_r (inp:=inp) hm h hta hMa ⟨by omega,by omega⟩ ha hp
 have h1:=h.sm hm.cs.ok g4
 obtain ⟨b1,b2⟩:=At.app (l:=[_]) g7
 have hmi:=mI_chks inp s1 (fetchR c t.a 9) t.size
 rw[g5]at hmi
 have hww:=hm.ww
 have hen:=hm.en
 have hle:=hm.le
 refine ⟨fun e=>?_,fun e=>?_⟩
 ·rw[if_pos e]at hmi
  have x1:=Mx.one b1 g3 hmi
  have hsm:Sm s { s1 with pc:=s1.pc+1 }:=g4.trans ⟨fun _ _=>rfl,rfl,rfl,rfl⟩
  have hh:=h.sm hm.cs.ok hsm
  obtain ⟨m,s2,f1,f2,f3,f4,f5,f6,f7⟩:=fetch_r (inp:=inp) (k:=k+(fetchY c t.a 9).length+1) hm hh htb hMb ⟨by omega,by omega⟩ b2 (by simp only;rw[g3];omega)
  have h2:=hh.sm hm.cs.ok f4
  have hN:=h2.n
  have hra:=fetchR_le hm (v:=t.a) (sp:=9) hta
  have va:s2.rg (fetchR c t.a 9).toNat=gR rg t.a:=by rw[f6 _ (by omega)];exact g5
  have hm2:=mI_st inp s2 (fetchR c t.b 10) (fetchR c t.a 9) t.base (by rw[va];omega) (by rw[va];omega)
  rw[va,f5,show gR rg t.a+t.base=t.base+gR rg t.a by omega]at hm2
  have hns:¬ SetsT t:=by simp[SetsT,ht]
  obtain ⟨q1,q2⟩:=store_go (M:=M) (s3:={ s2 with me:=s2.me.set (t.base+gR rg t.a).toNat (gR rg t.b),pc:=s2.pc+1 }) hm h (fun u hu hu1=>bk1_keep hu1 (fun e=>absurd e hns) (fun e=>absurd e hns)) hwl (hsm.trans f4) (a:=(t.base+gR rg t.a).toNat) (x:=gR rg t.b) (by omega) rfl rfl rfl rfl
  exact ⟨n+1+(m+1),_,by omega,(g2.trans x1).trans (f2.trans (Mx.one f7 f3 hm2)),by simp only[List.length_append,List.length_cons,List.length_nil];rw[f3];omega,q1,q2⟩
 ·rw[if_neg e]at hmi
  exact ⟨n,s1,by omega,g2.end_ (Mn.one b1 g3 hmi (by decide)),h1.o⟩
theorem sim_get (hm:MemOk c W E N) (ht:t.op=8) (h:Rl c W N (fun u=>bk1 t u (M u)) rg σ s) (hd:0≤t.d∧t.d<c.pl.length) (hrl:rg.length=c.pl.length) (hap:∀ u<c.pl.length,M u=true→u≠t.d.toNat→gP c.pl u≠gP c.pl t.d.toNat) (hp:s.pc=k) (ha:At code k ((insY c t).map (·.1))) :
 (σ.rd<inp.size→GoM code inp c W E N M k s (sR rg t.d (byteAt inp σ.rd)) { σ with rd:=σ.rd+1 } (insY c t).length)∧(¬ σ.rd<inp.size→GoM code inp c W E N M k s (sR rg t.d 256) σ (insY c t).length):=by
 have ei:insY c t=[pY 23 (intoR c t.d) 0 0]++keepY c t.d (intoR c t.d):=by simp[insY,ht]
 rw[ei]at ha ⊢
 rw[List.map_append]at ha
 have hmi:=mI_gets inp s (intoR c t.d)
 rw[h.d]at hmi
 refine ⟨fun e=>?_,fun e=>?_⟩
 ·rw[if_pos e]at hmi
  exact set_go (n2:=0) (k2:=k) (x:=byteAt inp σ.rd) hm h hd hrl hap (by omega) rfl (Sm.refl s) hp ha hmi rfl rfl rfl h.o rfl rfl (by simp only[List.length_append,List.length_cons,List.length_nil]<;>omega)
 ·rw[if_neg e]at hmi
  exact set_go (n2:=0) (k2:=k) (x:=256) hm h hd hrl hap (by omega) rfl (Sm.refl s) hp ha hmi rfl rfl rfl h.o h.d rfl (by simp only[List.length_append,List.length_cons,List.length_nil]<;>omega)
theorem sim_put (hm:MemOk c W E N) (ht:t.op=9) (h:Rl c W N (fun u=>bk1 t u (M u)) rg σ s) (hta:0≤t.a∧t.a<c.pl.length) (hp:s.pc=k) (ha:At code k ((insY c t).map (·.1))) :
 (65536≤σ.out.length→EnM code inp s { σ with en:=4 })∧(¬ 65536≤σ.out.length→GoM code inp c W E N M k s rg { σ with out:=σ.out++[byteB (gR rg t.a)] } (insY c t).length):=by
 have hMa:bk1 t t.a.toNat (M t.a.toNat)=true:=bk1_use hta.1 (by simp[usesL,ht])
 have ei:insY c t=fetchY c t.a 9++[pY 24 (fetchR c t.a 9) 0 0]:=by simp[insY,ht]
 rw[ei]at ha ⊢
 rw[List.map_append]at ha
 obtain ⟨n,s1,g1,g2,g3,g4,g5,g6,g7⟩:=fetch_r (inp:=inp) hm h hta hMa ⟨by omega,by omega⟩ ha hp
 have h1:=h.sm hm.cs.ok g4
 have hmi:=mI_put inp s1 (fetchR c t.a 9)
 rw[g5,h1.o]at hmi
 have hns:¬ SetsT t:=by simp[SetsT,ht]
 refine ⟨fun e=>?_,fun e=>?_⟩
 ·rw[if_pos e]at hmi
  exact ⟨n,s1,by omega,g2.end_ (Mn.one g7 g3 hmi (by decide)),h1.o⟩
 ·rw[if_neg e]at hmi
  refine ⟨n+1,_,by omega,g2.trans (Mx.one g7 g3 hmi),by simp only[List.length_append,List.length_cons,List.length_nil];rw[g3];omega,⟨h1.z,fun u hu hu1=>?_,h1.w,rfl,h1.d,h1.n⟩,fun a ha=>by rw[← g4.m]⟩
  exact h1.v u hu (bk1_keep hu1 (fun e=>absurd e hns) (fun e=>absurd e hns))
theorem sim_op {call:Nat→Bst→Bst} {f:Int} (hm:MemOk c W E N) (ht:InsOk c t) (hr:restT t f W) (hne:t.op≠10) (hR:WfR c.pl.length rg) (hw:σ.ws.length=W) (h0:σ.en=0) (h:Rl c W N (fun u=>bk1 t u (M u)) rg σ s)
 (hap:SetsT t→∀ u<c.pl.length,M u=true→u≠t.d.toNat→gP c.pl u≠gP c.pl t.d.toNat) (hp:s.pc=k) (ha:At code k ((insY c t).map (·.1))) :
 ((opF call inp t rg σ).2.en=0→GoM code inp c W E N M k s (opF call inp t rg σ).1 (opF call inp t rg σ).2 (insY c t).length)∧((opF call inp t rg σ).2.en≠0→EnM code inp s (opF call inp t rg σ).2):=by
 have ho:=ht.o
 have hop:t.op=1∨t.op=2∨t.op=3∨t.op=4∨t.op=5∨t.op=6∨t.op=7∨t.op=8∨t.op=9:=by omega
 have go:∀ {P:Prop},P→(σ.en=0→P)∧(σ.en≠0→EnM code inp s σ):=fun p=>⟨fun _=>p,fun e=>absurd h0 e⟩
 unfold restT at hr
 unfold opF
 rcases hop with e | e | e | e | e | e | e | e | e<;>simp only[e,Int.reduceEq,if_true,if_false,or_false,or_true,or_self,false_or,true_or]at hr ⊢
 ·have hs:SetsT t:=by simp[SetsT,e]
  refine ⟨fun _=>?_,fun e=>absurd h0 e⟩
  have ei:insY c t=constY c t.d t.n:=by simp[insY,e]
  rw[ei]at ha ⊢
  exact sim_const hm h (ht.d hs) ht.n hR.n (hap hs) hp ha
 ·have hs:SetsT t:=by simp[SetsT,e]
  refine ⟨fun _=>?_,fun e=>absurd h0 e⟩
  have ei:insY c t=copyY c t.d t.a:=by simp[insY,e]
  rw[ei]at ha ⊢
  exact sim_copy hm e h (ht.d hs) (ht.a (by omega)) hR.n (hap hs) hp ha
 ·have hs:SetsT t:=by simp[SetsT,e]
  obtain ⟨k1,k2⟩:=sim_bin (code:=code) (inp:=inp) hm e h (ht.d hs) (ht.a (by omega)) (ht.b (by omega)) ⟨hr.1,hr.2.1⟩ hR.n (hap hs) hp ha
  by_cases q:(applyW t.k (gR rg t.a) (gR rg t.b)).2=0
  ·simp only[if_pos q];exact ⟨fun _=>k1 q,fun e=>absurd h0 e⟩
  ·simp only[if_neg q];exact ⟨fun e=>absurd e (by decide),fun _=>k2 q⟩
 ·have hs:SetsT t:=by simp[SetsT,e]
  exact ⟨fun _=>sim_load hm e h (ht.d hs) ⟨hr.2.1,hr.2.2.1⟩ hR.n (hap hs) hp ha,fun e=>absurd h0 e⟩
 ·exact ⟨fun _=>sim_store hm e h (ht.a (by omega)) ⟨hr.2.1,hr.2.2.1⟩ hw hp ha,fun e=>absurd h0 e⟩
 ·have hs:SetsT t:=by simp[SetsT,e]
  have hta:=ht.a (by omega)
  obtain ⟨k1,k2⟩:=sim_aload (code:=code) (inp:=inp) hm e h (ht.d hs) hta hr.2 (gR_in hR hta).1 hR.n (hap hs) hp ha
  by_cases q:gR rg t.a<t.size
  ·simp only[if_pos q];exact ⟨fun _=>k1 q,fun e=>absurd h0 e⟩
  ·simp only[if_neg q];exact ⟨fun e=>absurd e (by decide),fun _=>k2 q⟩
 ·have hta:=ht.a (by omega)
  obtain ⟨k1,k2⟩:=sim_astore (code:=code) (inp:=inp) (M:=M) hm e h hta (ht.b (by omega)) hr.2 (gR_in hR hta).1 hw hp ha
  by_cases q:gR rg t.a<t.size
  ·simp only[if_pos q];exact ⟨fun _=>k1 q,fun e=>absurd h0 e⟩
  ·simp only[if_neg q];exact ⟨fun e=>absurd e (by decide),fun _=>k2 q⟩
 ·have hs:SetsT t:=by simp[SetsT,e]
  obtain ⟨k1,k2⟩:=sim_get (code:=code) (inp:=inp) hm e h (ht.d hs) hR.n (hap hs) hp ha
  by_cases q:σ.rd<inp.size
  ·simp only[if_pos q];exact ⟨fun _=>k1 q,fun e=>absurd h0 e⟩
  ·simp only[if_neg q];exact ⟨fun _=>k2 q,fun e=>absurd h0 e⟩
 ·obtain ⟨k1,k2⟩:=sim_put (code:=code) (inp:=inp) (M:=M) hm e h (ht.a (by omega)) hp ha
  by_cases q:65536≤σ.out.length
  ·simp only[if_pos q];exact ⟨fun e=>absurd e (by decide),fun _=>k1 q⟩
  ·simp only[if_neg q];exact ⟨fun _=>k2 q,fun e=>absurd h0 e⟩
end
end Go.Proofs.Ytkbhfokbhkmfgaa
