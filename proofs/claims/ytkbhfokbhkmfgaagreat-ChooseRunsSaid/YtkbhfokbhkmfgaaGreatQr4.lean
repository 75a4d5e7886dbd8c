/- The machine's states as data: their cells, what is read of them and written to them. No condition. The machine's runner: contracts, part 1: jumps, the input. No condition. -/
import Derived.Test.YtkbhfokbhkmfgaaGreatQr3
import Derived.Test.YtkbhfokbhkmfgaaGreatUH
import Derived.Test.YtkbhfokbhkmfgaaGreatUG
import Derived.SizedLaws
import Derived.Test.YtkbhfokbhkmfgaaGreatUCode
set_option linter.unusedVariables false
set_option linter.unusedSimpArgs false
namespace Go.Proofs.YtkbhfokbhkmfgaaGreat
set_option linter.unusedSimpArgs false
set_option linter.unusedVariables false
set_option maxRecDepth 10000
open Go.V
abbrev words (l:List Int):AV:=.imm 1 (l.map U32)
def regs (f:Nat→Int):List AV:=(List.range 16).map fun k=>U32 (f k)
def stc (pc:Int) (f:Nat→Int) (m:AV) (rd:Int) (out:ByteArray) (st fin:Int):List AV:=I pc::(regs f++[m,I rd,a2W out,I st,I fin])
def rnc (code:AV) (inp:ByteArray) (pc:Int) (f:Nat→Int) (m:AV) (rd:Int) (out:ByteArray) (st fin:Int) (own:Bool) (more:AV):List AV :=
 code::a2W inp::I pc::(regs f++[m,I rd,a2W out,I st,I fin,B own,more])
def b9D (f:Nat→Int) (j:Nat) (v:Int):Nat→Int:=fun k=>if k=j then v else f k
theorem a1Z (f:Nat→Int):(regs f).length=16:=rfl
theorem b2o (f:Nat→Int):(regs f).all AV.one=true:=rfl
theorem b9E {f:Nat→Int} {j:Nat} (h:j<16):(regs f).getD j .dead=U32 (f j):=by
 simp[regs,List.getD,h]
theorem b9F {f:Nat→Int} {j:Nat} {v:Int} (h:j<16):(regs f).set j (U32 v)=regs (b9D f j v):=by
 refine List.ext_getElem (by simp[regs]) fun i h1 h2=>?_;rw[List.getElem_set];simp only[regs,List.getElem_map,List.getElem_range,b9D];by_cases e:j=i
 ·subst e;simp
 ·rw[if_neg e,if_neg (fun h=>e h.symm)]
section
variable {pc:Int} {f:Nat→Int} {m:AV} {rd:Int} {out:ByteArray} {st fin:Int} {C:AV→Prop}
theorem a0t:(stc pc f m rd out st fin).length=22:=rfl
theorem a1o:(stc pc f m rd out st fin).all AV.one=m.one:=by
 simp[stc,b2o];simp[AV.one,Value.oneCell']
theorem a3Y:a0D (stc pc f m rd out st fin) 0 true 22 C .mk=C (.agg (stc pc f m rd out st fin)):=by
 simp only[a0D,a1E,a0F,a1f];rw[a0t];simp;rw[List.take_of_length_le (by rw[a0t];exact Nat.le_refl _)]
theorem c9J:a0D (stc pc f m rd out st fin) 0 false 1 C .mk=C (I pc):=by
 simp only[a0D,a1E,a0F,a1f,a0t];simp[stc,AV.one,Value.oneCell']
theorem c5a:a0D (stc pc f m rd out st fin) 1 true 16 C .mk=C (.agg (regs f)):=by
 simp only[a0D,a1E,a0F,a1f,a0t];simp only[stc,if_true,List.drop_succ_cons,List.drop_zero];rw[List.take_append_of_le_length (by rw[a1Z];exact Nat.le_refl _),List.take_of_length_le (by rw[a1Z];exact Nat.le_refl _)];simp
theorem c8q:a0D (stc pc f m rd out st fin) 17 false 1 C .mk=(m.one=true∧C m):=by
 have e:(stc pc f m rd out st fin).getD 17 .dead=m:=rfl;simp only[a0D,a1E,a0F,a1f,a0t,e];simp
theorem c9K:a0D (stc pc f m rd out st fin) 18 false 1 C .mk=C (I rd):=by
 have e:(stc pc f m rd out st fin).getD 18 .dead=I rd:=rfl;simp only[a0D,a1E,a0F,a1f,a0t,e];simp[AV.one,Value.oneCell']
theorem c0C:a0D (stc pc f m rd out st fin) 19 false 1 C .mk=C (a2W out):=by
 have e:(stc pc f m rd out st fin).getD 19 .dead=a2W out:=rfl;simp only[a0D,a1E,a0F,a1f,a0t,e];simp[AV.one,Value.oneCell']
theorem c7f:a0D (stc pc f m rd out st fin) 20 false 1 C .mk=C (I st):=by
 have e:(stc pc f m rd out st fin).getD 20 .dead=I st:=rfl;simp only[a0D,a1E,a0F,a1f,a0t,e];simp[AV.one,Value.oneCell']
theorem c0D:a0D (stc pc f m rd out st fin) 21 false 1 C .mk=C (I fin):=by
 have e:(stc pc f m rd out st fin).getD 21 .dead=I fin:=rfl;simp only[a0D,a1E,a0F,a1f,a0t,e];simp[AV.one,Value.oneCell']
theorem b4D {x:AV}:(stc pc f m rd out st fin).set 17 x=stc pc f x rd out st fin:=rfl
theorem b9G {x:Int}:(stc pc f m rd out st fin).set 21 (I x)=stc pc f m rd out st x:=rfl
theorem a5t:([.val (.int .i64 0),.val (.int .u32 0),.val (.int .u32 0),.val (.int .u32 0),.val (.int .u32 0),.val (.int .u32 0),.val (.int .u32 0),.val (.int .u32 0),.val (.int .u32 0),.val (.int .u32 0),.val (.int .u32 0),.val (.int .u32 0),.val (.int .u32 0),.val (.int .u32 0),.val (.int .u32 0),.val (.int .u32 0),.val (.int .u32 0),.val (.slice none 0 0),.val (.int .i64 0),.val (.string ⟨#[]⟩),.val (.int .i64 0),.val (.int .i64 0)]:List AV)
 = stc 0 (fun _=>0) a0T 0 ⟨#[]⟩ 0 0:=rfl
theorem b0w {pc':Int} {f':Nat→Int} {m':AV} {rd':Int} {out':ByteArray} {st' fin':Int}:(stc pc f m rd out st fin).take 0++stc pc' f' m' rd' out' st' fin'++(stc pc f m rd out st fin).drop (0+22)=stc pc' f' m' rd' out' st' fin':=by
 rw[List.drop_eq_nil_of_le (by rw[a0t];exact Nat.le_refl _)];simp
theorem a5u {pc':Int} {f':Nat→Int} {m':AV} {rd':Int} {out':ByteArray} {st' fin':Int}:stc pc' f' m' rd' out' st' fin'++(stc pc f m rd out st fin).drop 22=stc pc' f' m' rd' out' st' fin':=by
 rw[List.drop_eq_nil_of_le (by rw[a0t];exact Nat.le_refl _)];simp
variable {code:AV} {inp:ByteArray} {own:Bool} {more:AV}
theorem a0d:(rnc code inp pc f m rd out st fin own more).length=26:=rfl
theorem a0X:a0D (rnc code inp pc f m rd out st fin own more) 0 false 1 C .mk=(code.one=true∧C code):=by
 have e:(rnc code inp pc f m rd out st fin own more).getD 0 .dead=code:=rfl;simp only[a0D,a1E,a0F,a1f,a0d,e];simp
theorem c6E:a0D (rnc code inp pc f m rd out st fin own more) 1 false 1 C .mk=C (a2W inp):=by
 have e:(rnc code inp pc f m rd out st fin own more).getD 1 .dead=a2W inp:=rfl;simp only[a0D,a1E,a0F,a1f,a0d,e];simp[AV.one,Value.oneCell']
theorem c6F:a0D (rnc code inp pc f m rd out st fin own more) 2 true 22 C .mk=C (.agg (stc pc f m rd out st fin)):=by
 have e:((rnc code inp pc f m rd out st fin own more).drop 2).take 22=stc pc f m rd out st fin:=rfl;simp only[a0D,a1E,a0F,a1f,a0d,if_true,e];simp
theorem a3G:a0D (rnc code inp pc f m rd out st fin own more) 2 false 1 C .mk=C (I pc):=by
 have e:(rnc code inp pc f m rd out st fin own more).getD 2 .dead=I pc:=rfl;simp only[a0D,a1E,a0F,a1f,a0d,e];simp[AV.one,Value.oneCell']
theorem a0P {j:Nat} (h:j<16):a0D (rnc code inp pc f m rd out st fin own more) (3+j) false 1 C .mk=C (U32 (f j)):=by
 have e:(rnc code inp pc f m rd out st fin own more).getD (3+j) .dead=U32 (f j):=by
  rw[← b9E (f:=f) h,rnc,Nat.add_comm,List.getD_cons_succ,List.getD_cons_succ,List.getD_cons_succ];simp only[List.getD,List.getElem?_append_left (show j<(regs f).length by rw[a1Z];exact h)]
 simp only[a0D,a1E,a0F,a1f,a0d,e];simp[AV.one,Value.oneCell'];omega
theorem a1F:a0D (rnc code inp pc f m rd out st fin own more) 19 false 1 C .mk=(m.one=true∧C m):=by
 have e:(rnc code inp pc f m rd out st fin own more).getD 19 .dead=m:=rfl;simp only[a0D,a1E,a0F,a1f,a0d,e];simp
theorem c9w:a0D (rnc code inp pc f m rd out st fin own more) 20 false 1 C .mk=C (I rd):=by
 have e:(rnc code inp pc f m rd out st fin own more).getD 20 .dead=I rd:=rfl;simp only[a0D,a1E,a0F,a1f,a0d,e];simp[AV.one,Value.oneCell']
theorem a2z:a0D (rnc code inp pc f m rd out st fin own more) 21 false 1 C .mk=C (a2W out):=by
 have e:(rnc code inp pc f m rd out st fin own more).getD 21 .dead=a2W out:=rfl;simp only[a0D,a1E,a0F,a1f,a0d,e];simp[AV.one,Value.oneCell']
theorem c2H:a0D (rnc code inp pc f m rd out st fin own more) 22 false 1 C .mk=C (I st):=by
 have e:(rnc code inp pc f m rd out st fin own more).getD 22 .dead=I st:=rfl;simp only[a0D,a1E,a0F,a1f,a0d,e];simp[AV.one,Value.oneCell']
theorem b2d:a0D (rnc code inp pc f m rd out st fin own more) 23 false 1 C .mk=C (I fin):=by
 have e:(rnc code inp pc f m rd out st fin own more).getD 23 .dead=I fin:=rfl;simp only[a0D,a1E,a0F,a1f,a0d,e];simp[AV.one,Value.oneCell']
theorem a1G:a0D (rnc code inp pc f m rd out st fin own more) 24 false 1 C .mk=C (B own):=by
 have e:(rnc code inp pc f m rd out st fin own more).getD 24 .dead=B own:=rfl;simp only[a0D,a1E,a0F,a1f,a0d,e];simp[AV.one,Value.oneCell']
theorem a1r:a0D (rnc code inp pc f m rd out st fin own more) 25 false 1 C .mk=(more.one=true∧C more):=by
 have e:(rnc code inp pc f m rd out st fin own more).getD 25 .dead=more:=rfl;simp only[a0D,a1E,a0F,a1f,a0d,e];simp
theorem a1K {x:Int}:(rnc code inp pc f m rd out st fin own more).set 2 (I x)=rnc code inp x f m rd out st fin own more:=rfl
theorem a1e {j:Nat} {v:Int} (h:j<16):(rnc code inp pc f m rd out st fin own more).set (3+j) (U32 v)=rnc code inp pc (b9D f j v) m rd out st fin own more:=by
 rw[rnc,Nat.add_comm,List.set_cons_succ,List.set_cons_succ,List.set_cons_succ,List.set_append_left _ _ (by rw[a1Z];exact h),b9F h];rfl
theorem a0Y {x:AV}:(rnc code inp pc f m rd out st fin own more).set 19 x=rnc code inp pc f x rd out st fin own more:=rfl
theorem c6G {x:Int}:(rnc code inp pc f m rd out st fin own more).set 20 (I x)=rnc code inp pc f m x out st fin own more:=rfl
theorem c2I {x:ByteArray}:(rnc code inp pc f m rd out st fin own more).set 21 (a2W x)=rnc code inp pc f m rd x st fin own more:=rfl
theorem b3u {x:Int}:(rnc code inp pc f m rd out st fin own more).set 22 (I x)=rnc code inp pc f m rd out x fin own more:=rfl
theorem a7M {x:Int}:(rnc code inp pc f m rd out st fin own more).set 23 (I x)=rnc code inp pc f m rd out st x own more:=rfl
theorem a0Z {x:Bool}:(rnc code inp pc f m rd out st fin own more).set 24 (B x)=rnc code inp pc f m rd out st fin x more:=rfl
theorem a1c {x:AV}:(rnc code inp pc f m rd out st fin own more).set 25 x=rnc code inp pc f m rd out st fin own x:=rfl
end
structure S where
 pc:Int
 reg:Nat→Int
 mem:List Int
 rd:Int
 out:ByteArray
 st:Int
 fin:Int
abbrev stA (s:S):AV:=.agg (stc s.pc s.reg (words s.mem) s.rd s.out s.st s.fin)
theorem b5C {n:Nat} {H:List VObj} {nx:Nat} {pc:Int} {f:Nat→Int} {m:AV} {mem:List Int} {rd:Int} {out:ByteArray} {st fin:Int} (h:Frz n H nx m (words mem)):Frz n H nx (.agg (stc pc f m rd out st fin)) (stA ⟨pc,f,mem,rd,out,st,fin⟩):=by
 refine Frz.agg ?_;refine ⟨_,_,rfl,Frz.pure rfl,?_⟩;have app:∀ {xs ys xs' ys':List AV},FrzL n H nx xs xs'→FrzL n H nx ys ys'→FrzL n H nx (xs++ys) (xs'++ys'):=fun {xs ys xs' ys'} h1 h2=>by
  induction xs generalizing xs' with
  | nil=>simp only[FrzL]at h1;subst h1;exact h2
  | cons x xs ih =>
   obtain ⟨y,ys2,rfl,h3,h4⟩:=h1;exact ⟨y,_,rfl,h3,ih h4⟩
 refine app (FrzL.pure rfl) ⟨_,_,rfl,h,FrzL.pure rfl⟩
set_option maxRecDepth 10000
open Go.V
section
variable {α:Type}
theorem og0 (L:List α) (o:α) (T:List α):(L++o::T)[L.length]? = some o:=by simp
theorem os0 (L:List α) (o x:α) (T:List α):(L++o::T).set L.length x=L++x::T:=by
 rw[List.set_append_right _ _ (Nat.le_refl _)];simp
theorem ogk (L:List α) (o:α) (T:List α) (k:Nat):(L++o::T)[L.length+(k+1)]? = T[k]?:=by
 rw[List.getElem?_append_right (by omega)];simp
theorem osk (L:List α) (o x:α) (T:List α) (k:Nat):(L++o::T).set (L.length+(k+1)) x=L++o::T.set k x:=by
 rw[List.set_append_right _ _ (by omega)];simp
theorem ogn (T:List α) (x:α) (R:List α):(T++x::R)[T.length]? = some x:=by simp
theorem osn (T:List α) (x y:α) (R:List α):(T++x::R).set T.length y=T++y::R:=by
 rw[List.set_append_right _ _ (Nat.le_refl _)];simp
theorem a3J (L:List α) (o:α) (T:List α) (x:α):(L++o::T)++[x]=L++o::(T++[x]):=by simp
theorem olen (L:List α) (o:α) (T:List α):(L++o::T).length=L.length+(T.length+1):=by simp
theorem onx (T:List α) (x:α):(T++[x]).length=T.length+1:=by simp
end
def b5K (s:S):Int:=IntKind.i64.wrap (s.pc+1)
def setR (s:S) (a v:Int):S:={ s with reg:=b9D s.reg a.toNat v,pc:=b5K s }
def atW (s:S) (b c:Int):Int:=w32 (s.reg b.toNat+c)
def a3H (r:Int):UInt8:=UInt8.ofNat (IntKind.u8.wrap r).toNat
def a1C (code:List Int) (inp:ByteArray) (s:S) (op a b c:Int):Int × S :=
 if op=18 then (0,{ s with pc:=c })
 else if op=19 then (0,{ s with pc:=if s.reg a.toNat=0 then c else b5K s })
 else if op=20 then (0,{ s with pc:=if s.reg a.toNat=0 then b5K s else c })
 else if op=21 then (0,{ s with reg:=b9D s.reg a.toNat (w32 (b5K s)),pc:=c })
 else if op=22 then (0,{ s with pc:=s.reg a.toNat })
 else if op=1 then (0,setR s a c)
 else if op=2 then (0,setR s a (s.reg a.toNat % 65536+c*65536))
 else if op=3 then (0,setR s a (s.reg b.toNat))
 else if op=16 then (if atW s b c<s.mem.length then (0,setR s a (s.mem.getD (atW s b c).toNat default)) else (8,s))
 else if op=17 then (if atW s b c<s.mem.length then (0,{ s with mem:=s.mem.set (atW s b c).toNat (s.reg a.toNat),pc:=b5K s }) else (8,s))
 else if op=27 then (if atW s b c<code.length then (0,setR s a (code.getD (atW s b c).toNat default)) else (8,s))
 else if op=23 then (0,if s.rd<0∨(inp.size:Int)≤s.rd then setR s a 256 else setR { s with rd:=IntKind.i64.wrap (s.rd+1) } a (a1v inp s.rd.toNat))
 else if op=24 then (if 65536≤s.out.size then (4,s) else (0,{ s with out:=s.out.push (a3H (s.reg a.toNat)),pc:=b5K s }))
 else if op=25 then (if s.reg a.toNat<c then (0,{ s with pc:=b5K s }) else (3,s))
 else if op=26 then (1,s)
 else if (a0R op (s.reg b.toNat) (s.reg c.toNat)).2=0 then (0,setR s a (a0R op (s.reg b.toNat) (s.reg c.toNat)).1) else (2,s)
section
variable (code:List Int) (inp:ByteArray) (pc:Int) (f:Nat→Int) (m:AV) (rd:Int) (out:ByteArray) (st fin:Int) (own:Bool) (more:AV) (L T:List VObj) (s nx:Nat)
abbrev rob (s:Nat) (cs:List AV):VObj:=⟨s,144,1,cs⟩
theorem c6H (op a b c:Int) (ho:op=18∨op=19∨op=20∨op=21∨op=22) (ha:0≤a∧a≤15) (hf:∀ k,a1b (f k)) (C:AV→List VObj→Nat→Prop)
 (hC:∀ r T' nx',C r (L++rob s (rnc (words code) inp (a1C code inp ⟨pc,f,[],rd,out,st,fin⟩ op a b c).2.pc (a1C code inp ⟨pc,f,[],rd,out,st,fin⟩ op a b c).2.reg m rd out st fin own more)::(T++T')) nx') :
 VCall Tryz.prog 93 [.ptr L.length s 0,c2X op a b c] (L++rob s (rnc (words code) inp pc f m rd out st fin own more)::T) nx C:=by
 refine VCall.of_body a1g a7z (by simp) ?_;obtain ⟨ha1,ha2⟩:=ha;have hj:a.toNat<16:=by omega
 have hw:IntKind.i64.wrap (f a.toNat)=f a.toNat:=by
  have:=hf a.toNat;exact a0e (by have:=this.1;omega) (by have:=this.2;omega)
 rcases ho with rfl | rfl | rfl | rfl | rfl
 ·simp only[go_sem,a0G,olen,a3J,og0,os0,ogk,osk,ogn,osn,a0d,a3G,a0P hj,a1K,a1e hj,Int.reduceEq,Int.reduceBEq]
  repeat (refine And.intro (by omega) ?_)
  exact hC _ [_] _
 ·by_cases h:f a.toNat=0
  ·simp only[go_sem,a0G,olen,a3J,og0,os0,ogk,osk,ogn,osn,a0d,a3G,a0P hj,a1K,a1e hj,Int.reduceEq,Int.reduceBEq,eq_true h]
   repeat (refine And.intro (by omega) ?_)
   have:=hC (AV.tup []) [⟨nx,121,1,[I 19,I a,I b,I c]⟩] (nx+1);rw[show (a1C code inp ⟨pc,f,[],rd,out,st,fin⟩ 19 a b c).2=⟨c,f,[],rd,out,st,fin⟩ by show (S.mk (if f a.toNat=0 then c else _) f [] rd out st fin)=_;rw[if_pos h]]at this;exact this
  ·simp only[go_sem,a0G,olen,a3J,og0,os0,ogk,osk,ogn,osn,a0d,a3G,a0P hj,a1K,a1e hj,Int.reduceEq,Int.reduceBEq,eq_false h]
   repeat (refine And.intro (by omega) ?_)
   have:=hC (AV.tup []) [⟨nx,121,1,[I 19,I a,I b,I c]⟩] (nx+1);rw[show (a1C code inp ⟨pc,f,[],rd,out,st,fin⟩ 19 a b c).2=⟨IntKind.i64.wrap (pc+1),f,[],rd,out,st,fin⟩ by show (S.mk (if f a.toNat=0 then c else _) f [] rd out st fin)=_;rw[if_neg h];rfl]at this;exact this
 ·by_cases h:f a.toNat=0
  ·simp only[go_sem,a0G,olen,a3J,og0,os0,ogk,osk,ogn,osn,a0d,a3G,a0P hj,a1K,a1e hj,Int.reduceEq,Int.reduceBEq,eq_true h,not_true_eq_false]
   repeat (refine And.intro (by omega) ?_)
   have:=hC (AV.tup []) [⟨nx,121,1,[I 20,I a,I b,I c]⟩] (nx+1);rw[show (a1C code inp ⟨pc,f,[],rd,out,st,fin⟩ 20 a b c).2=⟨IntKind.i64.wrap (pc+1),f,[],rd,out,st,fin⟩ by show (S.mk (if f a.toNat=0 then _ else c) f [] rd out st fin)=_;rw[if_pos h];rfl]at this;exact this
  ·simp only[go_sem,a0G,olen,a3J,og0,os0,ogk,osk,ogn,osn,a0d,a3G,a0P hj,a1K,a1e hj,Int.reduceEq,Int.reduceBEq,eq_false h,not_false_eq_true]
   repeat (refine And.intro (by omega) ?_)
   have:=hC (AV.tup []) [⟨nx,121,1,[I 20,I a,I b,I c]⟩] (nx+1);rw[show (a1C code inp ⟨pc,f,[],rd,out,st,fin⟩ 20 a b c).2=⟨c,f,[],rd,out,st,fin⟩ by show (S.mk (if f a.toNat=0 then _ else c) f [] rd out st fin)=_;rw[if_neg h]]at this;exact this
 ·simp only[go_sem,a0G,olen,a3J,og0,os0,ogk,osk,ogn,osn,a0d,a3G,a0P hj,a1K,a1e hj,Int.reduceEq,Int.reduceBEq]
  repeat (refine And.intro (by omega) ?_)
  exact hC _ [_] _
 ·simp only[go_sem,a0G,olen,a3J,og0,os0,ogk,osk,ogn,osn,a0d,a3G,a0P hj,a1K,a1e hj,Int.reduceEq,Int.reduceBEq,hw]
  repeat (refine And.intro (by omega) ?_)
  have e1:(a1C code inp ⟨pc,f,[],rd,out,st,fin⟩ 22 a b c).2=⟨f a.toNat,f,[],rd,out,st,fin⟩:=rfl;rw[e1]at hC;exact hC _ [_] _
theorem c9x (a:Int) (ha:0≤a∧a≤15) (hi:inp.size≤1000000000) (C:AV→List VObj→Nat→Prop)
 (hC:∀ r,C r (L++rob s (rnc (words code) inp pc (b9D f a.toNat (if rd<0∨(inp.size:Int)≤rd then 256 else a1v inp rd.toNat)) m (if rd<0∨(inp.size:Int)≤rd then rd else IntKind.i64.wrap (rd+1)) out st fin own more)::T) nx) :
 VCall Tryz.prog 95 [.ptr L.length s 0,I a] (L++rob s (rnc (words code) inp pc f m rd out st fin own more)::T) nx C:=by
 refine VCall.of_body a1g a8c (by simp) ?_;obtain ⟨ha1,ha2⟩:=ha;have hj:a.toNat<16:=by omega
 by_cases h1:rd<0
 ·simp only[if_pos (show rd<0∨(inp.size:Int)≤rd from .inl h1)]at hC;simp only[go_sem,a1H,olen,a3J,og0,os0,ogk,osk,ogn,osn,a0d,a3G,a0P hj,a1K,a1e hj,Int.reduceEq,Int.reduceBEq,c6E,c9w,c6G,eq_true h1]
  repeat (refine And.intro (by omega) ?_)
  exact hC _
 by_cases h2:(inp.size:Int)≤rd
 ·simp only[if_pos (show rd<0∨(inp.size:Int)≤rd from .inr h2)]at hC;simp only[go_sem,a1H,olen,a3J,og0,os0,ogk,osk,ogn,osn,a0d,a3G,a0P hj,a1K,a1e hj,Int.reduceEq,Int.reduceBEq,c6E,c9w,c6G,eq_false h1,eq_true h2]
  repeat (refine And.intro (by omega) ?_)
  exact hC _
 ·simp only[if_neg (show ¬ (rd<0∨(inp.size:Int)≤rd) from fun q=>q.elim h1 h2)]at hC;have hb:IntKind.u32.wrap (a1v inp rd.toNat)=a1v inp rd.toNat:=by
   refine a1I ⟨?_,?_⟩<;>unfold a1v
   ·omega
   ·have:=(inp.data.toList.getD rd.toNat 0).toNat_lt;omega
  simp only[go_sem,a1H,olen,a3J,og0,os0,ogk,osk,ogn,osn,a0d,a3G,a0P hj,a1K,a1e hj,Int.reduceEq,Int.reduceBEq,c6E,c9w,c6G,eq_false h1,eq_false h2,hb]
  repeat (refine And.intro (by omega) ?_)
  exact hC _
end
set_option maxRecDepth 10000
open Go.V
def MemAt (L T:List VObj) (m:AV) (own:Bool) (mem:List Int):Prop :=
 (own=false∧m=words mem)∨(own=true∧∃ k sm,m = .ref (L.length+(k+1)) sm 0 mem.length∧T[k]? = some ⟨sm,93,1,mem.map U32⟩)
def MoreAt (L T:List VObj) (m:AV) (bs:List UInt8):Prop :=
 (m=a0T∧bs=[])∨∃ k sm,m = .ref (L.length+(k+1)) sm 0 bs.length∧T[k]? = some ⟨sm,5,1,bs.map U8⟩
theorem MemAt.add {L T:List VObj} {m:AV} {own:Bool} {mem:List Int} (h:MemAt L T m own mem) (R:List VObj):MemAt L (T++R) m own mem:=by
 rcases h with h | ⟨h1,k,sm,h2,h3⟩
 ·exact .inl h
 ·exact .inr ⟨h1,k,sm,h2,by rw[List.getElem?_append_left (List.getElem?_eq_some_iff.1 h3).1];exact h3⟩
theorem MoreAt.add {L T:List VObj} {m:AV} {bs:List UInt8} (h:MoreAt L T m bs) (R:List VObj):MoreAt L (T++R) m bs:=by
 rcases h with h | ⟨k,sm,h2,h3⟩
 ·exact .inl h
 ·exact .inr ⟨k,sm,h2,by rw[List.getElem?_append_left (List.getElem?_eq_some_iff.1 h3).1];exact h3⟩
def Keep (T T':List VObj):Prop:=∀ (k:Nat) (ob:VObj),T[k]? = some ob→(ob.sz=0∨(ob.ty≠93∧ob.ty≠5))→T'[k]? = some ob
theorem Keep.refl (T:List VObj):Keep T T:=fun _ _ h _=>h
theorem Keep.add {T:List VObj} (R:List VObj):Keep T (T++R):=fun k ob h _=>by rw[List.getElem?_append_left (List.getElem?_eq_some_iff.1 h).1];exact h
theorem Keep.trans {T T' T'':List VObj} (h:Keep T T') (k:Keep T' T''):Keep T T'':=fun i ob h1 h2=>k i ob (h i ob h1 h2) h2
theorem Keep.put {T:List VObj} {k:Nat} {ob ob':VObj} (h:T[k]? = some ob) (hz:ob.sz≠0) (ht:ob.ty=93∨ob.ty=5) (R:List VObj):Keep T ((T++R).set k ob'):=fun i o h1 h2=>by
 have hne:k≠i:=fun e=>by
  subst e;rw[h]at h1;cases h1;rcases h2 with h2 | ⟨h2,h3⟩
  ·exact hz h2
  rcases ht with e | e
  ·exact h2 e
  ·exact h3 e
 rw[List.getElem?_set,if_neg hne,List.getElem?_append_left (List.getElem?_eq_some_iff.1 h1).1];exact h1
theorem MemAt.one {L T:List VObj} {m:AV} {own:Bool} {mem:List Int} (h:MemAt L T m own mem):m.one=true:=by
 rcases h with ⟨_,h⟩ | ⟨_,k,sm,h,_⟩<;>rw[h]<;>rfl
theorem MoreAt.one {L T:List VObj} {m:AV} {bs:List UInt8} (h:MoreAt L T m bs):m.one=true:=by
 rcases h with ⟨h,_⟩ | ⟨k,sm,h,_⟩<;>rw[h]<;>rfl
theorem MoreAt.put {L T:List VObj} {m:AV} {bs:List UInt8} (h:MoreAt L T m bs) {k sm:Nat} {cs cs':List AV} (hk:T[k]? = some ⟨sm,93,1,cs⟩) (R:List VObj):MoreAt L ((T++R).set k ⟨sm,93,1,cs'⟩) m bs:=by
 rcases h with h | ⟨j,s2,h2,h3⟩
 ·exact .inl h
 ·refine .inr ⟨j,s2,h2,?_⟩;have hne:k≠j:=fun e=>by
   subst e;rw[hk]at h3;simp only[Option.some.injEq,VObj.mk.injEq]at h3;exact absurd h3.2.1 (by decide)
  rw[List.getElem?_set,if_neg hne,List.getElem?_append_left (List.getElem?_eq_some_iff.1 h3).1];exact h3
theorem c6I (l:List Int) (hl:l≠[]) (hn:l.length≤1000000) (H:List VObj) (nx:Nat) (C:AV→List VObj→Nat→Prop)
 (hC:∀ sm nx',C (.ref H.length sm 0 l.length) (H++[⟨sm,93,1,l.map U32⟩]) nx'):VCall Tryz.prog 100 [words l] H nx C:=by
 refine VCall.of_body a1g a3V (by simp) ?_;have hall:a2N (l.map U32)=l.map U32:=a5B (fun _=>rfl) l;have hmx:(2000000:Nat)≤maxLen:=by decide
 simp only[go_sem,a1S,ogn,osn,hall];refine ⟨by simpa using hl,?_⟩
 repeat (refine And.intro (by first | omega | (intro y hy;obtain ⟨x,_,rfl⟩:=List.mem_map.1 hy;rfl)) ?_)
 exact hC _ _
section
variable (code:List Int) (inp:ByteArray) (pc:Int) (f:Nat→Int) (m:AV) (mem:List Int) (rd:Int) (out outT:ByteArray) (st fin:Int) (own:Bool) (more:AV) (L T:List VObj) (s nx:Nat)
theorem c8r (op a b c:Int) (ho:op=16∨op=17∨op=27) (ha:0≤a∧a≤15) (hb:0≤b∧b≤15) (hc:0≤c∧c≤65535) (hm:MemAt L T m own mem) (hl:mem.length≤1000000) (C:AV→List VObj→Nat→Prop)
 (hC:∀ T' m' own' nx',MemAt L T' m' own' (a1C code inp ⟨pc,f,mem,rd,outT,st,fin⟩ op a b c).2.mem→(∀ mo bs,MoreAt L T mo bs→MoreAt L T' mo bs)→Keep T T' →
   C (B (decide ((a1C code inp ⟨pc,f,mem,rd,outT,st,fin⟩ op a b c).1=0))) (L++rob s (rnc (words code) inp pc (a1C code inp ⟨pc,f,mem,rd,outT,st,fin⟩ op a b c).2.reg m' rd out st fin own' more)::T') nx') :
 VCall Tryz.prog 94 [.ptr L.length s 0,c2X op a b c] (L++rob s (rnc (words code) inp pc f m rd out st fin own more)::T) nx C:=by
 refine VCall.of_body a1g a7A (by simp) ?_;obtain ⟨ha1,ha2⟩:=ha;obtain ⟨hb1,hb2⟩:=hb;obtain ⟨hc1,hc2⟩:=hc;have hj:a.toNat<16:=by omega
 have hk:b.toNat<16:=by omega
 have e1:IntKind.u32.wrap c=c:=a1I ⟨by omega,by omega⟩;obtain ⟨at_,hat⟩:∃ x,IntKind.u32.wrap (f b.toNat+c)=x:=⟨_,rfl⟩
 have hatW:atW ⟨pc,f,mem,rd,outT,st,fin⟩ b c=at_:=hat;have h32:a1b at_:=hat▸a4m _;have e2:IntKind.i64.wrap at_=at_:=a0e (by have:=h32.1;omega) (by have:=h32.2;omega);have h0:=h32.1;have hone:=hm.one;have hs3:26=(rnc (words code) inp pc f m rd out st fin own more).length:=rfl;have hT':∀ {k:Nat} {ob:VObj},T[k]? = some ob→∀ R,(T++R)[k]? = some ob:=fun h R=>by rw[List.getElem?_append_left (List.getElem?_eq_some_iff.1 h).1];exact h
 rcases ho with rfl | rfl | rfl
 ·
  have hins:a1C code inp ⟨pc,f,mem,rd,outT,st,fin⟩ 16 a b c=if at_<mem.length then (0,setR ⟨pc,f,mem,rd,outT,st,fin⟩ a (mem.getD at_.toNat default)) else (8,⟨pc,f,mem,rd,outT,st,fin⟩):=by
   show (if atW ⟨pc,f,mem,rd,outT,st,fin⟩ b c<mem.length then _ else _)=_;rw[hatW]
  rw[hins]at hC;by_cases h1:at_<mem.length
  ·rw[if_pos h1]at hC;have h1':=eq_false (show ¬ (mem.length:Int)≤at_ by omega);rcases hm with ⟨rfl,rfl⟩ | ⟨rfl,k,sm,rfl,hT⟩
   ·simp only[go_sem,a0y,olen,a3J,og0,os0,ogk,osk,ogn,osn,onx,a0d,a3G,a0X,a1G,a0P hj,a0P hk,a1F,a0b,a1e hj,a0Y,a0Z,Int.reduceEq,Int.reduceBEq,e1,hat,e2,h1']
    repeat (refine And.intro (by omega) ?_)
    exact hC _ _ _ _ (.inl ⟨rfl,rfl⟩) (fun _ _ h=>h.add _) (Keep.add _)
   ·have hT2:=hT' hT;simp only[go_sem,a0y,olen,a3J,og0,os0,ogk,osk,ogn,osn,onx,a0d,a3G,a0X,a1G,a0P hj,a0P hk,a1F,a0b,a1e hj,a0Y,a0Z,Int.reduceEq,Int.reduceBEq,e1,hat,e2,hT2,h1']
    repeat (refine And.intro (by first | omega | simp) ?_)
    exact hC _ _ _ _ (.inr ⟨rfl,k,sm,rfl,hT2 _⟩) (fun _ _ h=>h.add _) (Keep.add _)
  ·rw[if_neg h1]at hC;have h1':=eq_true (show (mem.length:Int)≤at_ by omega);rcases hm with ⟨rfl,rfl⟩ | ⟨rfl,k,sm,rfl,hT⟩
   ·simp only[go_sem,a0y,olen,a3J,og0,os0,ogk,osk,ogn,osn,onx,a0d,a3G,a0X,a1G,a0P hj,a0P hk,a1F,a0b,a1e hj,a0Y,a0Z,Int.reduceEq,Int.reduceBEq,e1,hat,e2,h1']
    repeat (refine And.intro (by omega) ?_)
    exact hC _ _ _ _ (.inl ⟨rfl,rfl⟩) (fun _ _ h=>h.add _) (Keep.add _)
   ·have hT2:=hT' hT;simp only[go_sem,a0y,olen,a3J,og0,os0,ogk,osk,ogn,osn,onx,a0d,a3G,a0X,a1G,a0P hj,a0P hk,a1F,a0b,a1e hj,a0Y,a0Z,Int.reduceEq,Int.reduceBEq,e1,hat,e2,hT2,h1']
    repeat (refine And.intro (by first | omega | simp) ?_)
    exact hC _ _ _ _ (.inr ⟨rfl,k,sm,rfl,hT2 _⟩) (fun _ _ h=>h.add _) (Keep.add _)
 ·
  have hins:a1C code inp ⟨pc,f,mem,rd,outT,st,fin⟩ 17 a b c=if at_<mem.length then (0,⟨b5K ⟨pc,f,mem,rd,outT,st,fin⟩,f,mem.set at_.toNat (f a.toNat),rd,outT,st,fin⟩) else (8,⟨pc,f,mem,rd,outT,st,fin⟩):=by
   show (if atW ⟨pc,f,mem,rd,outT,st,fin⟩ b c<mem.length then _ else _)=_;rw[hatW]
  rw[hins]at hC;by_cases h1:at_<mem.length
  ·rw[if_pos h1]at hC;have h1':=eq_false (show ¬ (mem.length:Int)≤at_ by omega);rcases hm with ⟨rfl,rfl⟩ | ⟨rfl,k,sm,rfl,hT⟩
   ·simp only[go_sem,a0y,olen,a3J,og0,os0,ogk,osk,ogn,osn,onx,a0d,a3G,a0X,a1G,a0P hj,a0P hk,a1F,a0b,a1e hj,a0Y,a0Z,Int.reduceEq,Int.reduceBEq,e1,hat,e2,h1']
    repeat (refine And.intro (by omega) ?_)
    refine c6I mem (fun e=>by subst e;simp at h1;omega) hl _ _ _ fun sm nx'=>?_;simp only[go_sem,olen,a3J,og0,os0,ogk,osk,ogn,osn,onx,a0d,a3G,a0X,a1G,a0P hj,a0P hk,a1F,a0b,a1e hj,a0Y,a0Z,Int.reduceEq,Int.reduceBEq,e1,hat,e2]
    repeat (refine And.intro (by first | omega | simp) ?_)
    have hcs:(mem.map U32).set at_.toNat (U32 (f a.toNat))=(mem.set at_.toNat (f a.toNat)).map U32:=a0I U32 _ _ _;rw[hcs];refine hC _ _ true _ (.inr ⟨rfl,T.length+1,sm,?_,?_⟩) (fun _ _ h=>h.add _) (Keep.add _)
    ·simp
    ·rw[List.getElem?_append_right (by omega)];simp
   ·have hT2:=hT' hT;simp only[go_sem,a0y,olen,a3J,og0,os0,ogk,osk,ogn,osn,onx,a0d,a3G,a0X,a1G,a0P hj,a0P hk,a1F,a0b,a1e hj,a0Y,a0Z,Int.reduceEq,Int.reduceBEq,e1,hat,e2,hT2,h1']
    repeat (refine And.intro (by first | omega | simp) ?_)
    have hcs:(mem.map U32).set at_.toNat (U32 (f a.toNat))=(mem.set at_.toNat (f a.toNat)).map U32:=a0I U32 _ _ _;rw[hcs];have hkl:=(List.getElem?_eq_some_iff.1 hT).1;refine hC _ _ true _ (.inr ⟨rfl,k,sm,?_,?_⟩) (fun _ _ h=>h.put hT _) (Keep.put hT (by show (1:Nat)≠0;omega) (.inl rfl) _)
    ·simp
    ·rw[List.getElem?_set,if_pos rfl,if_pos (by simp;omega)]
  ·rw[if_neg h1]at hC;have h1':=eq_true (show (mem.length:Int)≤at_ by omega);rcases hm with ⟨rfl,rfl⟩ | ⟨rfl,k,sm,rfl,hT⟩
   ·simp only[go_sem,a0y,olen,a3J,og0,os0,ogk,osk,ogn,osn,onx,a0d,a3G,a0X,a1G,a0P hj,a0P hk,a1F,a0b,a1e hj,a0Y,a0Z,Int.reduceEq,Int.reduceBEq,e1,hat,e2,h1']
    repeat (refine And.intro (by omega) ?_)
    exact hC _ _ _ _ (.inl ⟨rfl,rfl⟩) (fun _ _ h=>h.add _) (Keep.add _)
   ·have hT2:=hT' hT;simp only[go_sem,a0y,olen,a3J,og0,os0,ogk,osk,ogn,osn,onx,a0d,a3G,a0X,a1G,a0P hj,a0P hk,a1F,a0b,a1e hj,a0Y,a0Z,Int.reduceEq,Int.reduceBEq,e1,hat,e2,hT2,h1']
    repeat (refine And.intro (by first | omega | simp) ?_)
    exact hC _ _ _ _ (.inr ⟨rfl,k,sm,rfl,hT2 _⟩) (fun _ _ h=>h.add _) (Keep.add _)
 ·
  have hins:a1C code inp ⟨pc,f,mem,rd,outT,st,fin⟩ 27 a b c=if at_<code.length then (0,setR ⟨pc,f,mem,rd,outT,st,fin⟩ a (code.getD at_.toNat default)) else (8,⟨pc,f,mem,rd,outT,st,fin⟩):=by
   show (if atW ⟨pc,f,mem,rd,outT,st,fin⟩ b c<code.length then _ else _)=_;rw[hatW]
  rw[hins]at hC;have hmm:∀ R,MemAt L (T++R) m own mem:=fun R=>hm.add R;by_cases h1:at_<code.length
  ·rw[if_pos h1]at hC;have h1':=eq_false (show ¬ (code.length:Int)≤at_ by omega);simp only[go_sem,a0y,olen,a3J,og0,os0,ogk,osk,ogn,osn,onx,a0d,a3G,a0X,a1G,a0P hj,a0P hk,a1F,a0b,a1e hj,a0Y,a0Z,Int.reduceEq,Int.reduceBEq,e1,hat,e2,h1']
   repeat (refine And.intro (by omega) ?_)
   exact hC _ _ _ _ (hmm _) (fun _ _ h=>h.add _) (Keep.add _)
  ·rw[if_neg h1]at hC;have h1':=eq_true (show (code.length:Int)≤at_ by omega);simp only[go_sem,a0y,olen,a3J,og0,os0,ogk,osk,ogn,osn,onx,a0d,a3G,a0X,a1G,a0P hj,a0P hk,a1F,a0b,a1e hj,a0Y,a0Z,Int.reduceEq,Int.reduceBEq,e1,hat,e2,h1']
   repeat (refine And.intro (by omega) ?_)
   exact hC _ _ _ _ (hmm _) (fun _ _ h=>h.add _) (Keep.add _)
end
set_option maxRecDepth 10000
open Go.V
theorem MemAt.put {L T:List VObj} {m:AV} {own:Bool} {mem:List Int} (h:MemAt L T m own mem) {k sm s':Nat} {cs cs':List AV} (hk:T[k]? = some ⟨sm,5,1,cs⟩) (R:List VObj):MemAt L ((T++R).set k ⟨s',5,1,cs'⟩) m own mem:=by
 rcases h with h | ⟨h1,j,s2,h2,h3⟩
 ·exact .inl h
 ·refine .inr ⟨h1,j,s2,h2,?_⟩;have hne:k≠j:=fun e=>by
   subst e;rw[hk]at h3;simp only[Option.some.injEq,VObj.mk.injEq]at h3;exact absurd h3.2.1 (by decide)
  rw[List.getElem?_set,if_neg hne,List.getElem?_append_left (List.getElem?_eq_some_iff.1 h3).1];exact h3
theorem MoreAt.size {L T:List VObj} {m:AV} {bs:List UInt8} (h:MoreAt L T m bs):(m=a0T∧bs=[])∨∃ k sm,m = .ref (L.length+(k+1)) sm 0 bs.length∧T[k]? = some ⟨sm,5,1,bs.map U8⟩:=h
theorem c8s {r c:Int} (hr:a1b r) (hc1:0≤c) (hc2:c≤65535):IntKind.u32.wrap (((BitVec.ofInt IntKind.u32.bits (IntKind.u32.wrap (((BitVec.ofInt IntKind.u32.bits r &&& BitVec.ofInt IntKind.u32.bits 65535).toNat:Nat):Int)) ||| BitVec.ofInt IntKind.u32.bits (IntKind.u32.wrap (c*2 ^ (min 16 IntKind.u32.bits)))).toNat:Nat):Int)=r % 65536+c*65536:=by
 have h1:IntKind.u32.wrap (((BitVec.ofInt IntKind.u32.bits r &&& BitVec.ofInt IntKind.u32.bits 65535).toNat:Nat):Int)=r % 65536:=a9x hr 16 (by omega);have h2:IntKind.u32.wrap (c*2 ^ (min 16 IntKind.u32.bits))=c*65536:=by
  show IntKind.u32.wrap (c*65536)=_;exact a1I ⟨by omega,by omega⟩
 rw[h1,h2];have h3:=c1v (a:=r % 65536) (b:=c*65536) ⟨by omega,by omega⟩ ⟨by omega,by omega⟩;unfold orW at h3;rw[w32]at h3;rw[h3];have h4:=Nat.two_pow_add_eq_or_of_lt (i:=16) (b:=(r % 65536).toNat) (by omega) c.toNat;rw[Nat.or_comm,show (c*65536).toNat=2 ^ 16*c.toNat by omega,← h4];omega
theorem b7t (r:Int):((a3H r).toNat:Int)=IntKind.u8.wrap r:=by
 unfold a3H;rw[IntKind.wrap_u8];simp only[UInt8.toNat_ofNat'];omega
theorem c2J {code:List Int} {inp:ByteArray} {pc:Int} {f:Nat→Int} {mem:List Int} {rd:Int} {out outT:ByteArray} {st fin op a b c:Int} (ho:op=18∨op=19∨op=20∨op=21∨op=22) :
 a1C code inp ⟨pc,f,mem,rd,outT,st,fin⟩ op a b c=(0,⟨(a1C code inp ⟨pc,f,[],rd,out,st,fin⟩ op a b c).2.pc,(a1C code inp ⟨pc,f,[],rd,out,st,fin⟩ op a b c).2.reg,mem,rd,outT,st,fin⟩):=by
 rcases ho with rfl | rfl | rfl | rfl | rfl<;>rfl
theorem c2K {code:List Int} {inp:ByteArray} {s:S} {op a b c:Int} (ho:op=16∨op=17∨op=27) :
 ((a1C code inp s op a b c).1=0∧(a1C code inp s op a b c).2.pc=b5K s∧(a1C code inp s op a b c).2.rd=s.rd∧(a1C code inp s op a b c).2.out=s.out)∨a1C code inp s op a b c=(8,s):=by
 rcases ho with rfl | rfl | rfl
 ·have e:a1C code inp s 16 a b c=if atW s b c<s.mem.length then (0,setR s a (s.mem.getD (atW s b c).toNat default)) else (8,s):=rfl
  rw[e];by_cases h:atW s b c<s.mem.length
  ·rw[if_pos h];exact .inl ⟨rfl,rfl,rfl,rfl⟩
  ·rw[if_neg h];exact .inr rfl
 ·have e:a1C code inp s 17 a b c=if atW s b c<s.mem.length then (0,{ s with mem:=s.mem.set (atW s b c).toNat (s.reg a.toNat),pc:=b5K s }) else (8,s):=rfl
  rw[e];by_cases h:atW s b c<s.mem.length
  ·rw[if_pos h];exact .inl ⟨rfl,rfl,rfl,rfl⟩
  ·rw[if_neg h];exact .inr rfl
 ·have e:a1C code inp s 27 a b c=if atW s b c<code.length then (0,setR s a (code.getD (atW s b c).toNat default)) else (8,s):=rfl
  rw[e];by_cases h:atW s b c<code.length
  ·rw[if_pos h];exact .inl ⟨rfl,rfl,rfl,rfl⟩
  ·rw[if_neg h];exact .inr rfl
section
variable (code:List Int) (inp:ByteArray) (pc:Int) (f:Nat→Int) (m:AV) (mem:List Int) (rd:Int) (out outT:ByteArray) (st fin:Int) (own:Bool) (more:AV) (bs:List UInt8) (L T:List VObj) (s nx:Nat)
theorem c9y (op a b c:Int) (ho:okI op a b c=true) (hf:∀ k,a1b (f k)) (hi:inp.size≤1000000000) (hm:MemAt L T m own mem) (hl:mem.length≤1000000) (hmo:MoreAt L T more bs) (hout:outT.data.toList=out.data.toList++bs) (hol:outT.size≤1000000000) (C:AV→List VObj→Nat→Prop)
 (hC:∀ T' m' own' more' bs' nx',MemAt L T' m' own' (a1C code inp ⟨pc,f,mem,rd,outT,st,fin⟩ op a b c).2.mem→MoreAt L T' more' bs'→(a1C code inp ⟨pc,f,mem,rd,outT,st,fin⟩ op a b c).2.out.data.toList=out.data.toList++bs'→Keep T T' →
   C (I (a1C code inp ⟨pc,f,mem,rd,outT,st,fin⟩ op a b c).1) (L++rob s (rnc (words code) inp (a1C code inp ⟨pc,f,mem,rd,outT,st,fin⟩ op a b c).2.pc (a1C code inp ⟨pc,f,mem,rd,outT,st,fin⟩ op a b c).2.reg m' (a1C code inp ⟨pc,f,mem,rd,outT,st,fin⟩ op a b c).2.rd out st fin own' more')::T') nx') :
 VCall Tryz.prog 87 [.ptr L.length s 0,c2X op a b c] (L++rob s (rnc (words code) inp pc f m rd out st fin own more)::T) nx C:=by
 refine VCall.of_body a1g a8O (by simp) ?_;obtain ⟨hv1,hv2,ha1,ha2,hb1,hb2,hc1,hc2,hcr⟩:=b9y ho;have hj:a.toNat<16:=by omega
 have hk:b.toNat<16:=by omega
 have e1:IntKind.u32.wrap c=c:=a1I ⟨by omega,by omega⟩;have hop:(op=18∨op=19∨op=20∨op=21∨op=22)∨op=1∨op=2∨op=3∨(op=16∨op=17∨op=27)∨op=23∨op=24∨op=25∨op=26∨(4≤op∧op≤15):=by omega
 rcases hop with hop | rfl | rfl | rfl | hop | rfl | rfl | rfl | rfl | hop
 ·
  have hins:=c2J (code:=code) (inp:=inp) (pc:=pc) (f:=f) (mem:=mem) (rd:=rd) (out:=out) (outT:=outT) (st:=st) (fin:=fin) (a:=a) (b:=b) (c:=c) hop;rw[hins]at hC;have hst:((op == 18) || (op == 19) || (op == 20) || (op == 21) || (op == 22))=true:=by simp;omega
  rcases hop with rfl | rfl | rfl | rfl | rfl
  all_goals
   simp only[go_sem,a0v,olen,a3J,og0,os0,ogk,osk,ogn,osn,onx,a0d,a3G,a0X,a1G,a2z,a1r,a0P hj,a0P hk,a1F,a0b,a1K,a1e hj,a0Y,a0Z,a1c,Int.reduceEq,Int.reduceBEq,e1];refine c6H code inp pc f m rd out st fin own more L _ s _ _ a b c (by simp) ⟨ha1,ha2⟩ hf _ fun r T' nx'=>?_;simp only[go_sem,olen,a3J,og0,os0,ogk,osk,ogn,osn,onx,a0d,a3G,a0X,a1G,a2z,a1r,a0P hj,a0P hk,a1F,a0b,a1K,a1e hj,a0Y,a0Z,a1c,Int.reduceEq,Int.reduceBEq,e1];refine hC _ _ _ _ _ _ ?_ ?_ hout ?_
   ·rw[List.append_assoc];exact hm.add _
   ·rw[List.append_assoc];exact hmo.add _
   ·rw[List.append_assoc];exact Keep.add _
 ·
  simp only[go_sem,a0v,olen,a3J,og0,os0,ogk,osk,ogn,osn,onx,a0d,a3G,a0X,a1G,a2z,a1r,a0P hj,a0P hk,a1F,a0b,a1K,a1e hj,a0Y,a0Z,a1c,Int.reduceEq,Int.reduceBEq,e1]
  repeat (refine And.intro (by omega) ?_)
  exact hC _ _ _ _ _ _ (hm.add _) (hmo.add _) hout (Keep.add _)
 ·
  have hlui:=c8s (hf a.toNat) hc1 hc2
  simp only[↓a6l,↓b0H,↓b0I,↓a6y,↓b0J,↓a4x,↓a6m,↓b0K,↓a6n,↓a4z,↓a2B,↓a2C,↓a4A,↓a6p,↓a2D,↓a4B,↓a6q,↓a6r,↓a0a,↓a4C,↓a4D,↓a3t,↓a3u,↓a3r,↓a4y,↓a6o,↓a3s,↓b0P,↓a4G,↓a3w,↓b0Q,↓a4H,↓b0R,↓a6z,↓a6A,↓a4I,↓a6B,↓a6C,↓a6D,↓a4J,↓a6E,↓a6F,↓b0S,↓a4K,↓b0T,↓a6G,↓b0U,↓a6H,↓a6I,↓a6J,↓a6K,↓a6L,↓a6M,↓a6N,↓a6O,↓a6P,↓a6Q,↓a6R,↓a6S,↓a4L,undef,K.xtra,EOp.adds,a2A,↓a8D,↓b7O,↓VR.wp,↓VRs,a6d,b3R,c0M,unR,c0L,b2r,b7H,a1f,a0F,a5w,a3m,a1i,evs,a0V,AV.cells,AV.one,AV.laid,Value.oneCell',Nat.reduceEqDiff,Nat.reduceAdd,Nat.reduceMul,↓reduceIte,↓dreduceIte,true_and,and_true,List.cons_append,List.nil_append,List.length_map,List.length_cons,List.length_nil,List.getElem?_cons_zero,List.getElem?_cons_succ,List.map_cons,List.map_nil,Bool.not_true,Bool.not_false,forall_const,reduceCtorEq,false_implies,List.all_cons,List.all_nil,Bool.and_true,Bool.and_self,↓a4F,↓a3v,↓a6s,↓a6t,↓a1j,↓a2E,decide_eq_true_eq,decide_eq_false_iff_not,Int.toNat_natCast,bne_iff_ne,ne_eq,Bool.not_eq_true',Bool.not_eq_false',bne_eq_false_iff_eq,beq_iff_eq,beq_eq_false_iff_ne,implies_true,List.getD_cons_zero,List.getD_cons_succ,Bool.false_eq_true,false_or,or_false,true_or,or_true,Int.natCast_nonneg,Int.toNat_zero,Int.toNat_one,List.set_cons_zero,List.set_cons_succ,List.take_zero,List.take_succ_cons,List.take_nil,List.drop_zero,List.drop_succ_cons,List.drop_nil,List.append_nil,Nat.zero_add,Nat.add_zero,Nat.mul_one,Nat.zero_mul,↓b6m,↓a6T,↓b6n,↓b0V,↓b0W,↓a6U,↓b0X,↓b0Y,↓b0Z,↓a6V,↓b1a,↓b1b,↓b6o,↓a6W,↓b6p,↓b1c,↓b6q,↓b1d,↓b1e,↓b1f,↓b1g,↓b1h,↓b1i,↓b1j,↓b1k,↓b1l,↓a6X,↓a4M,↓a4N,↓a6Y,↓a6Z,↓a7a,↓a3x,↓a4O,b1m,a7b,a4P,a3y,cv,Nat.reduceLeDiff,Nat.reduceLT,Nat.le_refl,Nat.reduceSub,Int.reduceToNat,Int.reduceLE,Int.reduceLT,not_true_eq_false,not_false_eq_true,decide_true,decide_false,Bool.true_eq_false,↓b0L,↓b0M,↓b0N,↓b0O,↓a6u,↓a6v,↓a6w,↓a6x,a2O,a0E,a0x,a8g,Old,b7M,↓a4Q,↓a7g,↓b1n,↓b1o,↓b1p,↓b6r,↓b6s,↓a7h,↓a7i,↓a7l,↓b1q,↓a7j,↓a7k,↓b1r,↓b1s,↓b1t,↓b1u,↓b1v,↓a7c,↓a7d,↓a4R,↓a7e,↓a7f,↓a3Q,↓a3z,↓a2F,b1w,a2G,a3A,a2H,a4S,c4H,Bool.not_eq_true,Bool.not_eq_false,Classical.not_not,a0v,olen,a3J,og0,os0,ogk,osk,ogn,osn,onx,a0d,a3G,a0X,a1G,a2z,a1r,a0P hj,a0P hk,a1F,a0b,a1K,a1e hj,a0Y,a0Z,a1c,b0m,b0n,Int.reduceEq,Int.reduceBEq,e1,hlui]
  repeat (refine And.intro (by omega) ?_)
  exact hC _ _ _ _ _ _ (hm.add _) (hmo.add _) hout (Keep.add _)
 ·
  simp only[go_sem,a0v,olen,a3J,og0,os0,ogk,osk,ogn,osn,onx,a0d,a3G,a0X,a1G,a2z,a1r,a0P hj,a0P hk,a1F,a0b,a1K,a1e hj,a0Y,a0Z,a1c,Int.reduceEq,Int.reduceBEq,e1]
  repeat (refine And.intro (by omega) ?_)
  exact hC _ _ _ _ _ _ (hm.add _) (hmo.add _) hout (Keep.add _)
 ·
  have hst:=c2K (code:=code) (inp:=inp) (s:=⟨pc,f,mem,rd,outT,st,fin⟩) (a:=a) (b:=b) (c:=c) hop;have key:∀ (C2:AV→List VObj→Nat→Prop),(∀ T' m' own' nx',MemAt L T' m' own' (a1C code inp ⟨pc,f,mem,rd,outT,st,fin⟩ op a b c).2.mem→MoreAt L T' more bs→Keep T T' →
   C2 (B (decide ((a1C code inp ⟨pc,f,mem,rd,outT,st,fin⟩ op a b c).1=0))) (L++rob s (rnc (words code) inp pc (a1C code inp ⟨pc,f,mem,rd,outT,st,fin⟩ op a b c).2.reg m' rd out st fin own' more)::T') nx') →
   VCall Tryz.prog 94 [.ptr L.length s 0,c2X op a b c] (L++rob s (rnc (words code) inp pc f m rd out st fin own more)::(T++[⟨nx,121,1,[I op,I a,I b,I c]⟩])) (nx+1) C2:=fun C2 h =>
   c8r code inp pc f m mem rd out outT st fin own more L _ s _ op a b c hop ⟨ha1,ha2⟩ ⟨hb1,hb2⟩ ⟨hc1,hc2⟩ (hm.add _) hl C2 fun T' m' own' nx' h1 h2 h3=>h T' m' own' nx' h1 (h2 _ _ (hmo.add _)) ((Keep.add _).trans h3)
  generalize a1C code inp ⟨pc,f,mem,rd,outT,st,fin⟩ op a b c=p at *
  have hlit:op=16∨op=17∨op=27:=hop;rcases hop with rfl | rfl | rfl
  all_goals
   simp only[go_sem,a0v,olen,a3J,og0,os0,ogk,osk,ogn,osn,onx,a0d,a3G,a0X,a1G,a2z,a1r,a0P hj,a0P hk,a1F,a0b,a1K,a1e hj,a0Y,a0Z,a1c,Int.reduceEq,Int.reduceBEq,e1];refine key _ fun T' m' own' nx' h1 h2 h3=>?_;rcases hst with ⟨q1,q2,q3,q4⟩ | q
   ·rw[q1]at hC ⊢;simp only[go_sem,olen,a3J,og0,os0,ogk,osk,ogn,osn,onx,a0d,a3G,a0X,a1G,a2z,a1r,a0P hj,a0P hk,a1F,a0b,a1K,a1e hj,a0Y,a0Z,a1c,Int.reduceEq,Int.reduceBEq,e1]
    repeat (refine And.intro (by omega) ?_)
    have:=hC T' m' own' more bs nx' h1 h2 (by rw[q4];exact hout) h3;rw[q2,q3]at this;exact this
   ·subst q;simp only[go_sem,olen,a3J,og0,os0,ogk,osk,ogn,osn,onx,a0d,a3G,a0X,a1G,a2z,a1r,a0P hj,a0P hk,a1F,a0b,a1K,a1e hj,a0Y,a0Z,a1c,Int.reduceEq,Int.reduceBEq,e1]
    repeat (refine And.intro (by omega) ?_)
    exact hC T' m' own' more bs nx' h1 h2 hout h3
 ·
  have hins:a1C code inp ⟨pc,f,mem,rd,outT,st,fin⟩ 23 a b c=(0,if rd<0∨(inp.size:Int)≤rd then setR ⟨pc,f,mem,rd,outT,st,fin⟩ a 256 else setR ⟨pc,f,mem,IntKind.i64.wrap (rd+1),outT,st,fin⟩ a (a1v inp rd.toNat)):=rfl;rw[hins]at hC;simp only[go_sem,a0v,olen,a3J,og0,os0,ogk,osk,ogn,osn,onx,a0d,a3G,a0X,a1G,a2z,a1r,a0P hj,a0P hk,a1F,a0b,a1K,a1e hj,a0Y,a0Z,a1c,Int.reduceEq,Int.reduceBEq,e1]
  repeat (refine And.intro (by omega) ?_)
  refine c9x code inp pc f m rd out st fin own more L _ s _ a ⟨ha1,ha2⟩ hi _ fun r=>?_;simp only[go_sem,olen,a3J,og0,os0,ogk,osk,ogn,osn,onx,a0d,a3G,a0X,a1G,a2z,a1r,a0P hj,a0P hk,a1F,a0b,a1K,a1e hj,a0Y,a0Z,a1c,Int.reduceEq,Int.reduceBEq,e1]
  repeat (refine And.intro (by omega) ?_)
  by_cases h:rd<0∨(inp.size:Int)≤rd
  ·simp only[if_pos h]at hC ⊢;exact hC _ _ _ _ _ _ (hm.add _) (hmo.add _) hout (Keep.add _)
  ·simp only[if_neg h]at hC ⊢;exact hC _ _ _ _ _ _ (hm.add _) (hmo.add _) hout (Keep.add _)
 ·
  have hins:a1C code inp ⟨pc,f,mem,rd,outT,st,fin⟩ 24 a b c=if 65536≤outT.size then (4,⟨pc,f,mem,rd,outT,st,fin⟩) else (0,⟨b5K ⟨pc,f,mem,rd,outT,st,fin⟩,f,mem,rd,outT.push (a3H (f a.toNat)),st,fin⟩):=rfl
  rw[hins]at hC;have hsz:outT.size=out.size+bs.length:=by
   have:=congrArg List.length hout;simp only[List.length_append,Array.length_toList]at this;exact this
  have hpush:(outT.push (a3H (f a.toNat))).data.toList=out.data.toList++(bs++[a3H (f a.toNat)]):=by
   rw[← List.append_assoc,← hout];simp[ByteArray.push]
  have hU8:(AV.val (.int .u8 (IntKind.u8.wrap (f a.toNat))))=U8 (a3H (f a.toNat)):=by
   rw[← b7t]
  have hw:IntKind.i64.wrap ((out.size:Int)+(bs.length:Int))=(outT.size:Int):=by rw[a0e (by omega) (by omega)];omega
  have hmx:(2000000000:Nat)≤maxLen:=by decide
  rcases hmo with ⟨rfl,rfl⟩ | ⟨k,sm,rfl,hT⟩
  ·simp only[List.length_nil]at hw hsz;have hw0:IntKind.i64.wrap ((out.size:Int)+0)=(outT.size:Int):=hw;by_cases h:65536≤outT.size
   ·rw[if_pos h]at hC;simp only[go_sem,a0v,olen,a3J,og0,os0,ogk,osk,ogn,osn,onx,a0d,a3G,a0X,a1G,a2z,a1r,a0P hj,a0P hk,a1F,a0b,a1K,a1e hj,a0Y,a0Z,a1c,Int.reduceEq,Int.reduceBEq,e1,hw0,eq_true (show (65536:Int)≤(outT.size:Int) by omega)]
    repeat (refine And.intro (by omega) ?_)
    exact hC _ _ _ _ _ _ (hm.add _) (.inl ⟨rfl,rfl⟩) hout (Keep.add _)
   ·rw[if_neg h]at hC;simp only[go_sem,a0v,olen,a3J,og0,os0,ogk,osk,ogn,osn,onx,a0d,a3G,a0X,a1G,a2z,a1r,a0P hj,a0P hk,a1F,a0b,a1K,a1e hj,a0Y,a0Z,a1c,Int.reduceEq,Int.reduceBEq,e1,hw0,eq_false (show ¬ (65536:Int)≤(outT.size:Int) by omega)]
    repeat (refine And.intro (by omega) ?_)
    rw[hU8];refine hC _ _ _ _ _ _ (hm.add _) (.inr ⟨T.length+2,nx+1+1,rfl,?_⟩) hpush (Keep.add _);rw[List.getElem?_append_right (by omega)];simp
  ·have hT2:∀ R,(T++R)[k]? = some ⟨sm,5,1,bs.map U8⟩:=fun R=>by rw[List.getElem?_append_left (List.getElem?_eq_some_iff.1 hT).1];exact hT
   by_cases h:65536≤outT.size
   ·rw[if_pos h]at hC;simp only[go_sem,a0v,olen,a3J,og0,os0,ogk,osk,ogn,osn,onx,a0d,a3G,a0X,a1G,a2z,a1r,a0P hj,a0P hk,a1F,a0b,a1K,a1e hj,a0Y,a0Z,a1c,Int.reduceEq,Int.reduceBEq,e1,hT2,hw,eq_true (show (65536:Int)≤(outT.size:Int) by omega)]
    repeat (refine And.intro (by omega) ?_)
    exact hC _ _ _ _ _ _ (hm.add _) (.inr ⟨k,sm,rfl,hT2 _⟩) hout (Keep.add _)
   ·rw[if_neg h]at hC;simp only[go_sem,a0v,olen,a3J,og0,os0,ogk,osk,ogn,osn,onx,a0d,a3G,a0X,a1G,a2z,a1r,a0P hj,a0P hk,a1F,a0b,a1K,a1e hj,a0Y,a0Z,a1c,Int.reduceEq,Int.reduceBEq,e1,hT2,hw,eq_false (show ¬ (65536:Int)≤(outT.size:Int) by omega)]
    repeat (refine And.intro (by omega) ?_)
    rw[hU8];have hkl:=(List.getElem?_eq_some_iff.1 hT).1;refine hC _ _ _ _ _ _ (hm.put hT _) (.inr ⟨k,nx+1+1,by simp,?_⟩) hpush (Keep.put hT (by show (1:Nat)≠0;omega) (.inr rfl) _);rw[List.getElem?_set,if_pos rfl,if_pos (by simp;omega),List.take_of_length_le (by simp)];simp
 ·
  have hins:a1C code inp ⟨pc,f,mem,rd,outT,st,fin⟩ 25 a b c=if f a.toNat<c then (0,⟨b5K ⟨pc,f,mem,rd,outT,st,fin⟩,f,mem,rd,outT,st,fin⟩) else (3,⟨pc,f,mem,rd,outT,st,fin⟩):=rfl
  rw[hins]at hC;by_cases h:c≤f a.toNat
  ·rw[if_neg (by omega)]at hC;simp only[go_sem,a0v,olen,a3J,og0,os0,ogk,osk,ogn,osn,onx,a0d,a3G,a0X,a1G,a2z,a1r,a0P hj,a0P hk,a1F,a0b,a1K,a1e hj,a0Y,a0Z,a1c,Int.reduceEq,Int.reduceBEq,e1,eq_true h]
   repeat (refine And.intro (by omega) ?_)
   exact hC _ _ _ _ _ _ (hm.add _) (hmo.add _) hout (Keep.add _)
  ·rw[if_pos (by omega)]at hC;simp only[go_sem,a0v,olen,a3J,og0,os0,ogk,osk,ogn,osn,onx,a0d,a3G,a0X,a1G,a2z,a1r,a0P hj,a0P hk,a1F,a0b,a1K,a1e hj,a0Y,a0Z,a1c,Int.reduceEq,Int.reduceBEq,e1,eq_false h]
   repeat (refine And.intro (by omega) ?_)
   exact hC _ _ _ _ _ _ (hm.add _) (hmo.add _) hout (Keep.add _)
 ·
  simp only[go_sem,a0v,olen,a3J,og0,os0,ogk,osk,ogn,osn,onx,a0d,a3G,a0X,a1G,a2z,a1r,a0P hj,a0P hk,a1F,a0b,a1K,a1e hj,a0Y,a0Z,a1c,Int.reduceEq,Int.reduceBEq,e1]
  repeat (refine And.intro (by omega) ?_)
  exact hC _ _ _ _ _ _ (hm.add _) (hmo.add _) hout (Keep.add _)
 ·
  have hcl:c.toNat<16:=by
   have:cK op=2:=by unfold cK;rw[if_pos hop]
   have:=hcr this;omega
  have n:∀ k:Int,k<4∨15<k→(op=k)=False:=fun k h=>eq_false (by omega);have hins:a1C code inp ⟨pc,f,mem,rd,outT,st,fin⟩ op a b c=if (a0R op (f b.toNat) (f c.toNat)).2=0 then (0,setR ⟨pc,f,mem,rd,outT,st,fin⟩ a (a0R op (f b.toNat) (f c.toNat)).1) else (2,⟨pc,f,mem,rd,outT,st,fin⟩):=by
   unfold a1C;simp only[n 18 (by omega),n 19 (by omega),n 20 (by omega),n 21 (by omega),n 22 (by omega),n 1 (by omega),n 2 (by omega),n 3 (by omega),n 16 (by omega),n 17 (by omega),n 27 (by omega),n 23 (by omega),n 24 (by omega),n 25 (by omega),n 26 (by omega),if_false]
  rw[hins]at hC;simp only[go_sem,a0v,olen,a3J,og0,os0,ogk,osk,ogn,osn,onx,a0d,a3G,a0X,a1G,a2z,a1r,a0P hj,a0P hk,a1F,a0b,a1K,a1e hj,a0Y,a0Z,a1c,Int.reduceEq,Int.reduceBEq,e1,a0P hcl,n 18 (by omega),n 19 (by omega),n 20 (by omega),n 21 (by omega),n 22 (by omega),n 1 (by omega),n 2 (by omega),n 3 (by omega),n 16 (by omega),n 17 (by omega),n 27 (by omega),n 23 (by omega),n 24 (by omega),n 25 (by omega),n 26 (by omega)]
  repeat (refine And.intro (by omega) ?_)
  refine ECall.of (c1I op (f b.toNat) (f c.toNat) (hf _).1) (SleL.pure rfl) ⟨_,fun _=>Iff.rfl⟩ fun x hx=>?_;subst hx;by_cases h:(a0R op (f b.toNat) (f c.toNat)).2=0
  ·rw[if_pos h]at hC;simp only[go_sem,olen,a3J,og0,os0,ogk,osk,ogn,osn,onx,a0d,a3G,a0X,a1G,a2z,a1r,a0P hj,a0P hk,a1F,a0b,a1K,a1e hj,a0Y,a0Z,a1c,Int.reduceEq,Int.reduceBEq,e1,h]
   repeat (refine And.intro (by omega) ?_)
   exact hC _ _ _ _ _ _ (hm.add _) (hmo.add _) hout (Keep.add _)
  ·rw[if_neg h]at hC;simp only[go_sem,olen,a3J,og0,os0,ogk,osk,ogn,osn,onx,a0d,a3G,a0X,a1G,a2z,a1r,a0P hj,a0P hk,a1F,a0b,a1K,a1e hj,a0Y,a0Z,a1c,Int.reduceEq,Int.reduceBEq,e1,eq_false h]
   repeat (refine And.intro (by first | omega | simp[h]) ?_)
   exact hC _ _ _ _ _ _ (hm.add _) (hmo.add _) hout (Keep.add _)
end
set_option maxRecDepth 10000
open Go.V
def a9N (code:List Int) (inp:ByteArray) (s:S) (w:Int):S :=
 if okW w then (if (a1C code inp s (opW w) (raW w) (rbW w) (kW w)).1=0 then (a1C code inp s (opW w) (raW w) (rbW w) (kW w)).2
  else { (a1C code inp s (opW w) (raW w) (rbW w) (kW w)).2 with fin:=(a1C code inp s (opW w) (raW w) (rbW w) (kW w)).1 })
 else { s with fin:=6 }
def a3Z (code:List Int) (s:S):Bool:=decide (s.fin=0) && (decide (0≤s.pc) && decide (s.pc<code.length))
def a1A (code:List Int) (inp:ByteArray) (s:S):S :=
 if s.fin=0 then (if s.pc<0∨(code.length:Int)≤s.pc then { s with fin:=7 } else a9N code inp { s with st:=IntKind.i64.wrap (s.st+1) } (code.getD s.pc.toNat default)) else s
theorem a0s {α:Type} {P:α→Prop} {c:Prop} [Decidable c] {x y:α} (h1:c→P x) (h2:¬ c→P y):P (if c then x else y):=by
 by_cases h:c
 ·rw[if_pos h];exact h1 h
 ·rw[if_neg h];exact h2 h
def a9O (s:S) (p:Int × S):Prop:=p.2.fin=s.fin∧p.2.st=s.st
theorem c0E (code:List Int) (inp:ByteArray) (s:S) (op a b c:Int):a9O s (a1C code inp s op a b c):=by
 unfold a1C
 iterate 8 (refine a0s (P:=a9O s) (fun _=>⟨rfl,rfl⟩) fun _=>?_)
 iterate 3 (refine a0s (P:=a9O s) (fun _=>a0s (P:=a9O s) (fun _=>⟨rfl,rfl⟩) fun _=>⟨rfl,rfl⟩) fun _=>?_)
 refine a0s (P:=a9O s) (fun _=>?_) fun _=>?_
 ·exact a0s (P:=fun x:S=>x.fin=s.fin∧x.st=s.st) (fun _=>⟨rfl,rfl⟩) fun _=>⟨rfl,rfl⟩
 iterate 2 (refine a0s (P:=a9O s) (fun _=>a0s (P:=a9O s) (fun _=>⟨rfl,rfl⟩) fun _=>⟨rfl,rfl⟩) fun _=>?_)
 refine a0s (P:=a9O s) (fun _=>⟨rfl,rfl⟩) fun _=>?_;exact a0s (P:=a9O s) (fun _=>⟨rfl,rfl⟩) fun _=>⟨rfl,rfl⟩
theorem c2L (op a b:Int) (ha:a1b a) (hb:a1b b):a1b (a0R op a b).1:=by
 have z:a1b 0:=⟨by omega,by omega⟩
 have one:a1b 1:=⟨by omega,by omega⟩
 unfold a0R;refine a0s (P:=fun p:Int × Int=>a1b p.1) (fun _=>a4m _) fun _=>?_;refine a0s (P:=fun p:Int × Int=>a1b p.1) (fun _=>a4m _) fun _=>?_;refine a0s (P:=fun p:Int × Int=>a1b p.1) (fun _=>a4m _) fun _=>?_;refine a0s (P:=fun p:Int × Int=>a1b p.1) (fun _=>a0s (P:=fun p:Int × Int=>a1b p.1) (fun _=>z) fun _=>a4m _) fun _=>?_;refine a0s (P:=fun p:Int × Int=>a1b p.1) (fun _=>a0s (P:=fun p:Int × Int=>a1b p.1) (fun _=>z) fun h=>?_) fun _=>?_
 ·show a1b (a.tmod b);rw[Int.tmod_eq_emod_of_nonneg ha.1];have h1:0≤a % b:=Int.emod_nonneg _ h;have h2:a % b<b:=Int.emod_lt_of_pos _ (by have:=hb.1;omega);exact ⟨h1,by have:=hb.2;omega⟩
 refine a0s (P:=fun p:Int × Int=>a1b p.1) (fun _=>a4m _) fun _=>?_;refine a0s (P:=fun p:Int × Int=>a1b p.1) (fun _=>a4m _) fun _=>?_;refine a0s (P:=fun p:Int × Int=>a1b p.1) (fun _=>a4m _) fun _=>?_;refine a0s (P:=fun p:Int × Int=>a1b p.1) (fun _=>a0s (P:=a1b) (fun _=>z) fun _=>a4m _) fun _=>?_;refine a0s (P:=fun p:Int × Int=>a1b p.1) (fun _=>a0s (P:=a1b) (fun _=>z) fun h=>?_) fun _=>?_
 ·have:=b7Y ha b.toNat (by have:=hb.1;omega);rw[show ((b.toNat:Nat):Int)=b by have:=hb.1;omega]at this;rw[this];have h2:=Nat.div_le_self a.toNat (2 ^ b.toNat);have h3:=ha.2;have h4:=ha.1;generalize a.toNat / 2 ^ b.toNat=q at *
  exact ⟨by omega,by omega⟩
 refine a0s (P:=fun p:Int × Int=>a1b p.1) (fun _=>a0s (P:=a1b) (fun _=>one) fun _=>z) fun _=>?_;refine a0s (P:=fun p:Int × Int=>a1b p.1) (fun _=>a0s (P:=a1b) (fun _=>one) fun _=>z) fun _=>z
structure Wf (s:S):Prop where
 reg:∀ k,a1b (s.reg k)
 mem:∀ x ∈ s.mem,a1b x
def wfS (s:S) (p:Int × S):Prop:=Wf p.2∧p.2.mem.length=s.mem.length∧s.out.size≤p.2.out.size∧p.2.out.size≤s.out.size+1
theorem b8x {f:Nat→Int} (h:∀ k,a1b (f k)) {j:Nat} {v:Int} (hv:a1b v):∀ k,a1b (b9D f j v k):=fun k=>by
 unfold b9D;split
 ·exact hv
 ·exact h k
theorem c6J (code:List Int) (inp:ByteArray) (s:S) (op a b c:Int) (hcode:∀ x ∈ code,a1b x) (hs:Wf s) (hc:0≤c∧c≤65535):wfS s (a1C code inp s op a b c):=by
 have same:wfS s (0,s):=⟨hs,rfl,Nat.le_refl _,Nat.le_succ _⟩
 have pcs:∀ e x,wfS s (e,{ s with pc:=x }):=fun e x=>⟨⟨hs.reg,hs.mem⟩,rfl,Nat.le_refl _,Nat.le_succ _⟩
 have ends:∀ e,wfS s (e,s):=fun e=>⟨hs,rfl,Nat.le_refl _,Nat.le_succ _⟩
 have regs_:∀ x v,a1b v→wfS s (0,setR s x v):=fun x v hv=>⟨⟨b8x hs.reg hv,hs.mem⟩,rfl,Nat.le_refl _,Nat.le_succ _⟩
 have hR:=hs.reg a.toNat;unfold a1C;refine a0s (P:=wfS s) (fun _=>pcs _ _) fun _=>?_;refine a0s (P:=wfS s) (fun _=>pcs _ _) fun _=>?_;refine a0s (P:=wfS s) (fun _=>pcs _ _) fun _=>?_;refine a0s (P:=wfS s) (fun _=>⟨⟨b8x hs.reg (a4m _),hs.mem⟩,rfl,Nat.le_refl _,Nat.le_succ _⟩) fun _=>?_;refine a0s (P:=wfS s) (fun _=>pcs _ _) fun _=>?_;refine a0s (P:=wfS s) (fun _=>regs_ _ _ ⟨by omega,by omega⟩) fun _=>?_;refine a0s (P:=wfS s) (fun _=>regs_ _ _ ⟨by omega,by omega⟩) fun _=>?_;refine a0s (P:=wfS s) (fun _=>regs_ _ _ (hs.reg _)) fun _=>?_;have hat:a1b (atW s b c):=a4m _;refine a0s (P:=wfS s) (fun _=>a0s (P:=wfS s) (fun h=>regs_ _ _ (hs.mem _ (a0q (by have:=hat.1;omega)))) fun _=>ends _) fun _=>?_
 refine a0s (P:=wfS s) (fun _=>a0s (P:=wfS s) (fun h=>⟨⟨hs.reg,fun x hx=>?_⟩,by simp,Nat.le_refl _,Nat.le_succ _⟩) fun _=>ends _) fun _=>?_
 ·rcases List.mem_or_eq_of_mem_set hx with h | h
  ·exact hs.mem x h
  ·rw[h];exact hR
 refine a0s (P:=wfS s) (fun _=>a0s (P:=wfS s) (fun h=>regs_ _ _ (hcode _ (a0q (by have:=hat.1;omega)))) fun _=>ends _) fun _=>?_;refine a0s (P:=wfS s) (fun _=>?_) fun _=>?_
 ·refine a0s (P:=fun x:S=>wfS s (0,x)) (fun _=>regs_ _ _ ⟨by omega,by omega⟩) fun _=>⟨⟨b8x hs.reg ⟨?_,?_⟩,hs.mem⟩,rfl,Nat.le_refl _,Nat.le_succ _⟩<;>unfold a1v
  ·omega
  ·have:=(inp.data.toList.getD s.rd.toNat 0).toNat_lt;omega
 refine a0s (P:=wfS s) (fun _=>a0s (P:=wfS s) (fun _=>ends _) fun _=>⟨⟨hs.reg,hs.mem⟩,rfl,by simp[ByteArray.size_push],by simp[ByteArray.size_push]⟩) fun _=>?_;refine a0s (P:=wfS s) (fun _=>a0s (P:=wfS s) (fun _=>pcs _ _) fun _=>ends _) fun _=>?_;refine a0s (P:=wfS s) (fun _=>ends _) fun _=>?_;exact a0s (P:=wfS s) (fun _=>regs_ _ _ (c2L _ _ _ (hs.reg _) (hs.reg _))) fun _=>ends _
theorem c4m (code:List Int) (inp:ByteArray) (s:S) (hcode:∀ x ∈ code,a1b x) (hs:Wf s):wfS s (0,a1A code inp s):=by
 have ends:∀ x:S,x.reg=s.reg→x.mem=s.mem→x.out=s.out→wfS s (0,x):=fun x h1 h2 h3=>⟨⟨by show ∀ k,a1b (x.reg k);rw[h1];exact hs.reg,by show ∀ y ∈ x.mem,a1b y;rw[h2];exact hs.mem⟩,by show x.mem.length=_;rw[h2],by show s.out.size≤x.out.size;rw[h3];exact Nat.le_refl _,by show x.out.size≤_;rw[h3];exact Nat.le_succ _⟩
 refine a0s (P:=fun x:S=>wfS s (0,x)) (fun _=>?_) fun _=>ends _ rfl rfl rfl;refine a0s (P:=fun x:S=>wfS s (0,x)) (fun _=>ends _ rfl rfl rfl) fun _=>?_;unfold a9N;generalize code.getD s.pc.toNat default=w;have hk:0≤kW w∧kW w≤65535:=by unfold kW;omega
 have h:=c6J code inp { s with st:=IntKind.i64.wrap (s.st+1) } (opW w) (raW w) (rbW w) (kW w) hcode ⟨hs.reg,hs.mem⟩ hk;refine a0s (P:=fun x:S=>wfS s (0,x)) (fun _=>?_) fun _=>ends _ rfl rfl rfl;generalize a1C code inp { s with st:=IntKind.i64.wrap (s.st+1) } (opW w) (raW w) (rbW w) (kW w)=p at *
 refine a0s (P:=fun x:S=>wfS s (0,x)) (fun _=>h) fun _=>?_;exact ⟨⟨h.1.reg,h.1.mem⟩,h.2⟩
section
variable (code:List Int) (inp:ByteArray) (pc:Int) (f:Nat→Int) (m:AV) (mem:List Int) (rd:Int) (out outT:ByteArray) (st fin:Int) (own:Bool) (more:AV) (bs:List UInt8) (L T:List VObj) (s nx:Nat)
theorem c6K (hcode:∀ x ∈ code,a1b x) (hcl:code.length≤1000000) (hf:∀ k,a1b (f k)) (hi:inp.size≤1000000000) (hm:MemAt L T m own mem) (hl:mem.length≤1000000) (hmo:MoreAt L T more bs) (hout:outT.data.toList=out.data.toList++bs) (hol:outT.size≤1000000000) (C:AV→List VObj→Nat→Prop)
 (hC:∀ T' m' own' more' bs' nx',MemAt L T' m' own' (a1A code inp ⟨pc,f,mem,rd,outT,st,fin⟩).mem→MoreAt L T' more' bs'→(a1A code inp ⟨pc,f,mem,rd,outT,st,fin⟩).out.data.toList=out.data.toList++bs'→Keep T T' →
   C (B (a3Z code ⟨pc,f,mem,rd,outT,st,fin⟩)) (L++rob s (rnc (words code) inp (a1A code inp ⟨pc,f,mem,rd,outT,st,fin⟩).pc (a1A code inp ⟨pc,f,mem,rd,outT,st,fin⟩).reg m' (a1A code inp ⟨pc,f,mem,rd,outT,st,fin⟩).rd out (a1A code inp ⟨pc,f,mem,rd,outT,st,fin⟩).st (a1A code inp ⟨pc,f,mem,rd,outT,st,fin⟩).fin own' more')::T') nx') :
 VCall Tryz.prog 76 [.ptr L.length s 0] (L++rob s (rnc (words code) inp pc f m rd out st fin own more)::T) nx C:=by
 refine VCall.of_body a1g a7y (by simp) ?_;by_cases h1:fin=0
 case neg =>
  have e1:a1A code inp ⟨pc,f,mem,rd,outT,st,fin⟩=⟨pc,f,mem,rd,outT,st,fin⟩:=if_neg h1;have e2:a3Z code ⟨pc,f,mem,rd,outT,st,fin⟩=false:=by simp[a3Z,h1]
  have h1':(fin != 0)=true:=by simp[h1]
  rw[e1,e2]at hC;simp only[go_sem,a1k,olen,a3J,og0,os0,ogk,osk,ogn,osn,onx,a0d,a3G,a0X,a1G,a2z,a1r,c2H,b2d,a1F,a0b,a1K,a0Y,a0Z,a1c,b3u,a7M,Int.reduceEq,Int.reduceBEq,h1'];exact hC _ _ _ _ _ _ hm hmo hout (Keep.refl _)
 subst h1;have hone:=hm.one;by_cases h2:pc<0
 ·have e1:a1A code inp ⟨pc,f,mem,rd,outT,st,0⟩=⟨pc,f,mem,rd,outT,st,7⟩:=by unfold a1A;rw[if_pos rfl,if_pos (.inl h2)]
  have e2:a3Z code ⟨pc,f,mem,rd,outT,st,0⟩=false:=by simp[a3Z];omega
  rw[e1,e2]at hC;simp only[go_sem,a1k,olen,a3J,og0,os0,ogk,osk,ogn,osn,onx,a0d,a3G,a0X,a1G,a2z,a1r,c2H,b2d,a1F,a0b,a1K,a0Y,a0Z,a1c,b3u,a7M,Int.reduceEq,Int.reduceBEq,Int.reduceBNe,eq_true h2]
  repeat (refine And.intro (by omega) ?_)
  exact hC _ _ _ _ _ _ hm hmo hout (Keep.refl _)
 by_cases h3:(code.length:Int)≤pc
 ·have e1:a1A code inp ⟨pc,f,mem,rd,outT,st,0⟩=⟨pc,f,mem,rd,outT,st,7⟩:=by unfold a1A;rw[if_pos rfl,if_pos (.inr h3)]
  have e2:a3Z code ⟨pc,f,mem,rd,outT,st,0⟩=false:=by simp[a3Z];omega
  rw[e1,e2]at hC;simp only[go_sem,a1k,olen,a3J,og0,os0,ogk,osk,ogn,osn,onx,a0d,a3G,a0X,a1G,a2z,a1r,c2H,b2d,a1F,a0b,a1K,a0Y,a0Z,a1c,b3u,a7M,Int.reduceEq,Int.reduceBEq,Int.reduceBNe,eq_false h2,eq_true h3]
  repeat (refine And.intro (by omega) ?_)
  exact hC _ _ _ _ _ _ hm hmo hout (Keep.refl _)
 have e2:a3Z code ⟨pc,f,mem,rd,outT,st,0⟩=true:=by simp[a3Z];omega
 obtain ⟨w,hw⟩:∃ w,code.getD pc.toNat default=w:=⟨_,rfl⟩
 have e1:a1A code inp ⟨pc,f,mem,rd,outT,st,0⟩=a9N code inp ⟨pc,f,mem,rd,outT,IntKind.i64.wrap (st+1),0⟩ w:=by unfold a1A;rw[if_pos rfl,if_neg (fun q=>q.elim h2 h3),hw]
 have hw32:a1b w:=by
  rw[← hw];exact hcode _ (a0q (by omega))
 rw[e1,e2]at hC;simp only[go_sem,a1k,olen,a3J,og0,os0,ogk,osk,ogn,osn,onx,a0d,a3G,a0X,a1G,a2z,a1r,c2H,b2d,a1F,a0b,a1K,a0Y,a0Z,a1c,b3u,a7M,Int.reduceEq,Int.reduceBEq,Int.reduceBNe,eq_false h2,eq_false h3,hw]
 repeat (refine And.intro (by omega) ?_)
 refine ECall.of (c3T w hw32) (SleL.pure rfl) ⟨_,fun _=>Iff.rfl⟩ fun x hx=>?_;subst hx;unfold c7d;cases hok:okW w
 ·have e3:a9N code inp ⟨pc,f,mem,rd,outT,IntKind.i64.wrap (st+1),0⟩ w=⟨pc,f,mem,rd,outT,IntKind.i64.wrap (st+1),6⟩:=by unfold a9N;rw[hok];rfl
  rw[e3]at hC;simp only[go_sem,olen,a3J,og0,os0,ogk,osk,ogn,osn,onx,a0d,a3G,a0X,a1G,a2z,a1r,c2H,b2d,a1F,a0b,a1K,a0Y,a0Z,a1c,b3u,a7M,Int.reduceEq,Int.reduceBEq,Int.reduceBNe];exact hC _ _ _ _ _ _ (hm.add _) (hmo.add _) hout (Keep.add _)
 ·have e3:a9N code inp ⟨pc,f,mem,rd,outT,IntKind.i64.wrap (st+1),0⟩ w=(if (a1C code inp ⟨pc,f,mem,rd,outT,IntKind.i64.wrap (st+1),0⟩ (opW w) (raW w) (rbW w) (kW w)).1=0 then (a1C code inp ⟨pc,f,mem,rd,outT,IntKind.i64.wrap (st+1),0⟩ (opW w) (raW w) (rbW w) (kW w)).2
   else { (a1C code inp ⟨pc,f,mem,rd,outT,IntKind.i64.wrap (st+1),0⟩ (opW w) (raW w) (rbW w) (kW w)).2 with fin:=(a1C code inp ⟨pc,f,mem,rd,outT,IntKind.i64.wrap (st+1),0⟩ (opW w) (raW w) (rbW w) (kW w)).1 }):=by unfold a9N;rw[hok];rfl
  rw[e3]at hC;have hk:=c0E code inp ⟨pc,f,mem,rd,outT,IntKind.i64.wrap (st+1),0⟩ (opW w) (raW w) (rbW w) (kW w);simp only[go_sem,olen,a3J,og0,os0,ogk,osk,ogn,osn,onx,a0d,a3G,a0X,a1G,a2z,a1r,c2H,b2d,a1F,a0b,a1K,a0Y,a0Z,a1c,b3u,a7M,Int.reduceEq,Int.reduceBEq,Int.reduceBNe];refine c9y code inp pc f m mem rd out outT (IntKind.i64.wrap (st+1)) 0 own more bs L _ s _ (opW w) (raW w) (rbW w) (kW w) hok hf hi (hm.add _) hl (hmo.add _) hout hol _ fun T' m' own' more' bs' nx' g1 g2 g3 g4=>?_;generalize a1C code inp ⟨pc,f,mem,rd,outT,IntKind.i64.wrap (st+1),0⟩ (opW w) (raW w) (rbW w) (kW w)=p at *
  have hk:p.2.fin=0∧p.2.st=IntKind.i64.wrap (st+1):=hk;by_cases h:p.1=0
  ·rw[if_pos h]at hC;simp only[go_sem,olen,a3J,og0,os0,ogk,osk,ogn,osn,onx,a0d,a3G,a0X,a1G,a2z,a1r,c2H,b2d,a1F,a0b,a1K,a0Y,a0Z,a1c,b3u,a7M,Int.reduceEq,Int.reduceBEq,h,bne_self_eq_false];have:=hC T' m' own' more' bs' nx' g1 g2 g3 ((Keep.add _).trans g4);rw[hk.1,hk.2]at this;exact this
  ·rw[if_neg h]at hC;have h':(p.1 != 0)=true:=by simp[h]
   simp only[go_sem,olen,a3J,og0,os0,ogk,osk,ogn,osn,onx,a0d,a3G,a0X,a1G,a2z,a1r,c2H,b2d,a1F,a0b,a1K,a0Y,a0Z,a1c,b3u,a7M,Int.reduceEq,Int.reduceBEq,h']
   repeat (refine And.intro (by omega) ?_)
   have:=hC T' m' own' more' bs' nx' g1 g2 g3 ((Keep.add _).trans g4);simp only[hk.2]at this;exact this
end
set_option maxRecDepth 10000
open Go.V
abbrev c2M (code:List Int) (data:Int):AV:=.agg [words code,I data]
theorem a9P {a b:ByteArray} (h:a.data.toList=b.data.toList):a=b:=by
 cases a;cases b;simp only[ByteArray.mk.injEq];exact Array.toList_inj.1 h
theorem MemAt.frz {n:Nat} {H:List VObj} {nx:Nat} {L T:List VObj} {m:AV} {own:Bool} {mem:List Int} (h:MemAt L T m own mem) (hn:n≤L.length) (hT:∀ k ob,T[k]? = some ob→H[L.length+(k+1)]? = some ob):Frz n H nx m (words mem):=by
 rcases h with ⟨_,rfl⟩ | ⟨_,k,sm,rfl,hk⟩
 ·exact Frz.pure rfl
 ·exact b2F (f:=U32) (g:=U32) (by omega) (hT k _ hk) rfl (fun _=>rfl) fun _ _=>Frz.pure rfl
section
variable (code:List Int) (inp:ByteArray) (pc:Int) (f:Nat→Int) (m:AV) (rd:Int) (out outT:ByteArray) (st fin:Int) (own:Bool) (more:AV) (bs:List UInt8) (L T:List VObj) (s nx:Nat)
theorem c4n (hm:m.one=true) (hmo:MoreAt L T more bs) (hout:outT.data.toList=out.data.toList++bs) (hol:outT.size≤1000000001) (C:AV→List VObj→Nat→Prop)
 (hC:∀ R more' nx',MoreAt L (T++R) more' []→C (.agg (stc pc f m rd outT st fin)) (L++rob s (rnc (words code) inp pc f m rd outT st fin false more')::(T++R)) nx') :
 VCall Tryz.prog 54 [.ptr L.length s 0] (L++rob s (rnc (words code) inp pc f m rd out st fin own more)::T) nx C:=by
 refine VCall.of_body a1g a5Z (by simp) ?_;have hmx:(2000000000:Nat)≤maxLen:=by decide
 rcases hmo with ⟨rfl,rfl⟩ | ⟨k,sm,rfl,hT⟩
 ·have:outT=out:=a9P (by rw[hout];simp);subst this;simp only[go_sem,a1s,olen,a3J,og0,os0,ogk,osk,ogn,osn,onx,a0d,a0t,a1o,a3Y,c6F,a3G,a0X,a1G,a2z,a1r,c2H,b2d,a1F,a0b,a1K,a0Y,a0Z,c2I,a1c,b3u,a7M,Int.reduceEq,Int.reduceBEq];exact ⟨hm,hC _ _ _ (.inl ⟨rfl,rfl⟩)⟩
 ·have hT2:∀ R,(T++R)[k]? = some ⟨sm,5,1,bs.map U8⟩:=fun R=>by rw[List.getElem?_append_left (List.getElem?_eq_some_iff.1 hT).1];exact hT
  have htk:(bs.map U8).take bs.length=bs.map U8:=List.take_of_length_le (by simp);have hcat:out++⟨bs.toArray⟩=outT:=a9P (by rw[hout];simp);have hsz:outT.size=out.size+bs.length:=by
   have:=congrArg List.length hout;simp only[List.length_append,Array.length_toList]at this;exact this
  have hsz2:(⟨bs.toArray⟩:ByteArray).size=bs.length:=by simp[ByteArray.size]
  have hsz3:bs.toArray.size=bs.length:=by simp
  by_cases h:bs=[]
  ·subst h;have:outT=out:=a9P (by rw[hout];simp);subst this;have hz0:((0:Nat):Int)=0:=rfl;simp only[go_sem,hz0,a1s,olen,a3J,og0,os0,ogk,osk,ogn,osn,onx,a0d,a0t,a1o,a3Y,c6F,a3G,a0X,a1G,a2z,a1r,c2H,b2d,a1F,a0b,a1K,a0Y,a0Z,c2I,a1c,b3u,a7M,Int.reduceEq,Int.reduceBEq,hT2];exact ⟨hm,hC _ _ _ (.inr ⟨k,sm,rfl,hT2 _⟩)⟩
  ·have hpos:(0:Int)<(bs.length:Int):=by have:=List.length_pos_iff.2 h;omega
   simp only[go_sem,a1s,olen,a3J,og0,os0,ogk,osk,ogn,osn,onx,a0d,a0t,a1o,a3Y,c6F,a3G,a0X,a1G,a2z,a1r,c2H,b2d,a1F,a0b,a1K,a0Y,a0Z,c2I,a1c,b3u,a7M,Int.reduceEq,Int.reduceBEq,hT2,htk,eq_true hpos,hcat];exact ⟨by omega,hm,hC _ _ _ (.inl ⟨rfl,rfl⟩)⟩
end
def a9Q (code:List Int) (data pc:Int) (f:Nat→Int) (mem:List Int) (rd:Int) (out:ByteArray) (st fin:Int):List VObj :=
 [⟨0,42,1,[words code,I data]⟩,⟨1,99,1,stc pc f (words mem) rd out st fin⟩,⟨2,99,1,stc 0 (fun _=>0) a0T 0 ⟨#[]⟩ 0 0⟩,⟨3,42,1,[words code,I data]⟩,⟨4,99,1,stc pc f (words mem) rd out st fin⟩]
set_option maxRecDepth 10000
open Go.V
def a1N (data:Int):S:=⟨0,fun _=>0,if 0<data∧data≤32768 then List.replicate data.toNat 0 else [],0,⟨#[]⟩,0,0⟩
theorem FrzNL.app {H:List VObj} {nx:Nat}:∀ {xs ys xs' ys':List AV},FrzNL H nx xs xs'→FrzNL H nx ys ys'→FrzNL H nx (xs++ys) (xs'++ys')
 | [],_,_,_,h1,h2=>by simp only[FrzNL]at h1;subst h1;exact h2
 | x::xs,ys,xs',ys',h1,h2=>by
  obtain ⟨y,ys2,rfl,h3,h4⟩:=h1;exact ⟨y,_,rfl,h3,FrzNL.app h4 h2⟩
theorem a7V {H:List VObj} {nx:Nat} {pc:Int} {f:Nat→Int} {m:AV} {mem:List Int} {rd:Int} {out:ByteArray} {st fin:Int} (h:FrzN H nx m (words mem)):FrzN H nx (.agg (stc pc f m rd out st fin)) (stA ⟨pc,f,mem,rd,out,st,fin⟩) :=
 FrzN.agg ⟨_,_,rfl,FrzN.val,FrzNL.app (FrzNL.vals (fun k=>Value.int .u32 (f k)) (List.range 16)) ⟨_,_,rfl,h,_,_,rfl,FrzN.val,_,_,rfl,FrzN.val,_,_,rfl,FrzN.val,_,_,rfl,FrzN.val,rfl⟩⟩
theorem c4o (code:List Int) (data:Int):ContractN Tryz.prog 31 [c2M code data] (fun r=>r=stA (a1N data)):=by
 refine ContractN.of_call (VCall.of_body a1g b2N (by simp) ?_);have z:¬ (0<data∧data≤32768)→a1N data=⟨0,fun _=>0,[],0,⟨#[]⟩,0,0⟩:=fun h=>by unfold a1N;rw[if_neg h]
 by_cases h1:0<data
 ·by_cases h2:data≤32768
  ·have e:a1N data=⟨0,fun _=>0,List.replicate data.toNat 0,0,⟨#[]⟩,0,0⟩:=by unfold a1N;rw[if_pos ⟨h1,h2⟩]
   simp only[go_sem,a2P,eq_true h1,eq_true h2,a5t,b4D,b0w,a5u,a0t,a1o,a3Y]
   repeat (refine And.intro (by omega) ?_)
   rw[e,a3S];refine ⟨_,a7V ?_,rfl⟩;have hr:List.replicate data.toNat (AV.val (.int .u32 0))=(List.replicate data.toNat (0:Int)).map fun n=>AV.val (.int .u32 n):=by simp
   rw[hr];exact a9k (f:=fun n:Int=>Value.int .u32 n) rfl (by simp) (fun _=>rfl)
  ·rw[z (fun h=>h2 h.2)];simp only[go_sem,a2P,eq_true h1,eq_false h2,a5t,b4D,b0w,a5u,a0t,a1o,a3Y];exact ⟨_,a7V (FrzN.nil 1),rfl⟩
 ·rw[z (fun h=>h1 h.1)];simp only[go_sem,a2P,eq_false h1,a5t,b4D,b0w,a5u,a0t,a1o,a3Y];exact ⟨_,a7V (FrzN.nil 1),rfl⟩
theorem c6L (code:List Int) (data:Int):Contract Tryz.prog 31 [c2M code data] (fun r=>r=stA (a1N data)):=(c4o code data).old
theorem c0F (code:List Int) (data:Int):Contract Tryz.prog 33 [c2M code data] (fun r=>r=stA (a1N data)):=by
 refine ContractN.old (ContractN.of_call (VCall.of_body a1g b2O (by simp) ?_));have z:¬ (0<data∧data≤32768)→a1N data=⟨0,fun _=>0,[],0,⟨#[]⟩,0,0⟩:=fun h=>by unfold a1N;rw[if_neg h]
 by_cases h1:0<data
 ·by_cases h2:data≤32768
  ·have e:a1N data=⟨0,fun _=>0,List.replicate data.toNat 0,0,⟨#[]⟩,0,0⟩:=by unfold a1N;rw[if_pos ⟨h1,h2⟩]
   simp only[go_sem,a2Q,eq_true h1,eq_true h2,a5t,b4D,b0w,a5u,a0t,a1o,a3Y]
   repeat (refine And.intro (by omega) ?_)
   rw[e,a3S];refine ⟨_,a7V ?_,rfl⟩;have hr:List.replicate data.toNat (AV.val (.int .u32 0))=(List.replicate data.toNat (0:Int)).map fun n=>AV.val (.int .u32 n):=by simp
   rw[hr];exact a9k (f:=fun n:Int=>Value.int .u32 n) rfl (by simp) (fun _=>rfl)
  ·rw[z (fun h=>h2 h.2)];simp only[go_sem,a2Q,eq_true h1,eq_false h2,a5t,b4D,b0w,a5u,a0t,a1o,a3Y];exact ⟨_,a7V (FrzN.nil 1),rfl⟩
 ·rw[z (fun h=>h1 h.1)];simp only[go_sem,a2Q,eq_false h1,a5t,b4D,b0w,a5u,a0t,a1o,a3Y];exact ⟨_,a7V (FrzN.nil 1),rfl⟩
theorem Sle.agg {xs ys:List AV} (h:SleL xs ys):Sle (.agg xs) (.agg ys):=fun M hR v r=>by
 simp only[RV]at r;obtain ⟨vs,h1,h2⟩:=r;simp only[RV0];exact ⟨vs,h1,h.rl hR h2⟩
theorem b9H (data:Int):Wf (a1N data):=by
 refine ⟨fun k=>⟨by show (0:Int)≤0;omega,by show (0:Int)<_;omega⟩,fun x hx=>?_⟩;unfold a1N at hx;simp only at hx;split at hx
 ·rw[List.mem_replicate]at hx;rw[hx.2];exact ⟨by omega,by omega⟩
 ·cases hx
theorem b7u (data:Int):(a1N data).mem.length≤32768:=by
 unfold a1N;simp only;split
 ·simp;omega
 ·simp
set_option maxRecDepth 10000
open Go.V
def a1T (code:List Int) (inp:ByteArray) (s:S):Nat→S
 | 0=>s
 | k+1=>a1A code inp (a1T code inp s k)
theorem b8y {code:List Int} {inp:ByteArray} {s:S} (h:s.fin≠0):a1A code inp s=s:=if_neg h
theorem a5v {code:List Int} {inp:ByteArray} {s:S} {k:Nat} (h:(a1T code inp s k).fin≠0):∀ d,a1T code inp s (k+d)=a1T code inp s k
 | 0=>rfl
 | d+1=>by
  show a1A code inp (a1T code inp s (k+d))=_;rw[a5v h d,b8y h]
theorem b9I (code:List Int) (inp:ByteArray) (s:S) (a:Nat):∀ b,a1T code inp s (a+b)=a1T code inp (a1T code inp s a) b
 | 0=>rfl
 | b+1=>by show a1A code inp (a1T code inp s (a+b))=_;rw[b9I code inp s a b];rfl
theorem b5D {code:List Int} {inp:ByteArray} {s:S} (hcode:∀ x ∈ code,a1b x) (h:Wf s):∀ k,Wf (a1T code inp s k)∧(a1T code inp s k).mem.length=s.mem.length∧(a1T code inp s k).out.size≤s.out.size+k
 | 0=>⟨h,rfl,Nat.le_refl _⟩
 | k+1=>by
  obtain ⟨h1,h2,h3⟩:=b5D hcode h k;obtain ⟨g1,g2,g3,g4⟩:=c4m code inp (a1T code inp s k) hcode h1;refine ⟨g1,g2.trans h2,?_⟩;show (a1A code inp (a1T code inp s k)).out.size≤_;simp only at g4;omega
theorem MemAt.len {L L' T:List VObj} {m:AV} {own:Bool} {mem:List Int} (h:MemAt L T m own mem) (e:L.length=L'.length):MemAt L' T m own mem:=by
 unfold MemAt at h ⊢;rw[← e];exact h
theorem MoreAt.len {L L' T:List VObj} {m:AV} {bs:List UInt8} (h:MoreAt L T m bs) (e:L.length=L'.length):MoreAt L' T m bs:=by
 unfold MoreAt at h ⊢;rw[← e];exact h
section
variable (code:List Int) (inp:ByteArray) (pc:Int) (f:Nat→Int) (m:AV) (mem:List Int) (rd:Int) (out outT:ByteArray) (st fin:Int) (own:Bool) (more:AV) (bs:List UInt8) (L T:List VObj) (s nx:Nat)
theorem c2N {id:Nat} (hid:L.length=id) (C:AV→List VObj→Nat→Prop) (hC:C (B (fin == 0)) (L++rob s (rnc (words code) inp pc f m rd out st fin own more)::T) nx) :
 VCall Tryz.prog 74 [.ptr id s 0] (L++rob s (rnc (words code) inp pc f m rd out st fin own more)::T) nx C:=by
 subst hid;refine VCall.of_body a1g a6b (by simp) ?_;simp only[go_sem,a2Z,og0,a0d,b2d];exact hC
theorem c9V {id:Nat} (hid:L.length=id) (C:AV→List VObj→Nat→Prop) (hC:C (I pc) (L++rob s (rnc (words code) inp pc f m rd out st fin own more)::T) nx) :
 VCall Tryz.prog 75 [.ptr id s 0] (L++rob s (rnc (words code) inp pc f m rd out st fin own more)::T) nx C:=by
 subst hid;refine VCall.of_body a1g a8N (by simp) ?_;simp only[go_sem,a4j,og0,a0d,a3G];exact hC
theorem c4p {id:Nat} (hid:L.length=id) (hcode:∀ x ∈ code,a1b x) (hcl:code.length≤1000000) (hi:inp.size≤1000000000) (σ:S) (hw:Wf σ) (hm:MemAt L T m own σ.mem) (hl:σ.mem.length≤1000000) (hmo:MoreAt L T more bs) (hout:σ.out.data.toList=out.data.toList++bs) (hol:σ.out.size≤1000000000) (C:AV→List VObj→Nat→Prop)
 (hC:∀ T' m' own' more' bs' nx',MemAt L T' m' own' (a1A code inp σ).mem→MoreAt L T' more' bs'→(a1A code inp σ).out.data.toList=out.data.toList++bs'→Keep T T' →
   C (B (a3Z code σ)) (L++rob s (rnc (words code) inp (a1A code inp σ).pc (a1A code inp σ).reg m' (a1A code inp σ).rd out (a1A code inp σ).st (a1A code inp σ).fin own' more')::T') nx') :
 VCall Tryz.prog 76 [.ptr id s 0] (L++rob s (rnc (words code) inp σ.pc σ.reg m σ.rd out σ.st σ.fin own more)::T) nx C:=by
 subst hid;exact c6K code inp σ.pc σ.reg m σ.mem σ.rd out σ.out σ.st σ.fin own more bs L T s nx hcode hcl hw.reg hi hm hl hmo hout hol C hC
theorem c2O {id:Nat} (hid:L.length=id) (σ:S) (hm:m.one=true) (hmo:MoreAt L T more bs) (hout:σ.out.data.toList=out.data.toList++bs) (hol:σ.out.size≤1000000001) (C:AV→List VObj→Nat→Prop)
 (hC:∀ R more' nx',MoreAt L (T++R) more' []→C (.agg (stc σ.pc σ.reg m σ.rd σ.out σ.st σ.fin)) (L++rob s (rnc (words code) inp σ.pc σ.reg m σ.rd σ.out σ.st σ.fin false more')::(T++R)) nx') :
 VCall Tryz.prog 54 [.ptr id s 0] (L++rob s (rnc (words code) inp σ.pc σ.reg m σ.rd out σ.st σ.fin own more)::T) nx C:=by
 subst hid;exact c4n code inp σ.pc σ.reg m σ.rd out σ.out σ.st σ.fin own more bs L T s nx hm hmo hout hol C hC
end
theorem c9z (code:List Int) (data:Int) (inp:ByteArray) (σ:S) (H:List VObj) (nx:Nat) (C:AV→List VObj→Nat→Prop)
 (hC:C (.ptr (H.length+2) (nx+2) 0) (H++[⟨nx,42,1,[words code,I data]⟩,⟨nx+1,99,1,stc σ.pc σ.reg (words σ.mem) σ.rd σ.out σ.st σ.fin⟩,rob (nx+2) (rnc (words code) inp σ.pc σ.reg (words σ.mem) σ.rd σ.out σ.st σ.fin false a0T)]) (nx+3)) :
 VCall Tryz.prog 52 [c2M code data,a2W inp,stA σ] H nx C:=by
 refine VCall.of_body a1g b4W (by simp) ?_;have g1:∀ a b:VObj,(H++[a]++[b])[H.length]? = some a:=fun a b=>by simp
 simp only[go_sem,a9r,a3Y,a0t,a1o,ogn,g1];refine ⟨rfl,?_⟩;simp only[List.length_append,List.length_cons,List.length_nil,List.append_assoc,List.cons_append,List.nil_append];exact hC
structure CdOk (code:List Ci):Prop where
 ok:∀ i ∈ code,okI i.op i.a i.b i.c=true∧i.op≠27
 len:code.length≤1000000
abbrev b2p (code:List Ci):List Int:=code.map fun i=>b7G i.op i.a i.b i.c
theorem b8z {op a b c:Int} (h:okI op a b c=true):opW (b7G op a b c)=op∧raW (b7G op a b c)=a∧rbW (b7G op a b c)=b∧kW (b7G op a b c)=c∧a1b (b7G op a b c):=by
 have hb:=b9y h;unfold opW raW rbW kW b7G a1b;refine ⟨by omega,by omega,by omega,by omega,by omega,by omega⟩
theorem c8t {op a b c:Int} (h:okI op a b c=true):okW (b7G op a b c)=true:=by
 obtain ⟨h1,h2,h3,h4,_⟩:=b8z h;unfold okW;rw[h1,h2,h3,h4];exact h
theorem c6M {code:List Ci} (h:CdOk code):∀ x ∈ b2p code,a1b x:=fun x hx=>by
 obtain ⟨i,hi,rfl⟩:=List.mem_map.1 hx;exact (b8z (h.ok i hi).1).2.2.2.2
structure RSM (s:Mc) (t:S) (n:Nat):Prop where
 pc:t.pc=s.pc
 rg:t.reg=s.rg
 me:t.mem=s.me
 rd:t.rd=(s.rd:Int)
 out:t.out.data.toList=s.out
 st:t.st=(n:Int)
 fin:t.fin=0
theorem c4q (f:Nat→Int) (j:Nat) (v:Int):b9D f j v=upM f j v:=rfl
theorem c4r {s:Mc} {t:S} {n:Nat} (h:RSM s t n):t.out.size=s.out.length:=by rw[← h.out];rfl
theorem b3v (a:ByteArray) (b:UInt8):(a.push b).data.toList=a.data.toList++[b]:=by
 cases a;simp[ByteArray.push]
theorem c4s {inp:ByteArray} {w:List Int} {s:Mc} {t:S} {n m:Nat} (h:RSM s t n) (i:Ci) (h27:i.op≠27) (hp:0≤s.pc) (hp2:s.pc≤1000000) (hrd:s.rd≤2000000000) :
 (a1C w inp { t with st:=m } i.op i.a i.b i.c).1=(mI inp s i).2∧((mI inp s i).2=0→RSM (mI inp s i).1 (a1C w inp { t with st:=m } i.op i.a i.b i.c).2 m)∧(a1C w inp { t with st:=m } i.op i.a i.b i.c).2.out.data.toList=(mI inp s i).1.out∧(a1C w inp { t with st:=m } i.op i.a i.b i.c).2.st=m:=by
 obtain ⟨pc,rg,me,rd,out,st,fin⟩:=t;obtain ⟨spc,srg,sme,srd,sout⟩:=s;have hsz:=c4r h;obtain ⟨h1,h2,h3,h4,h5,h6,h7⟩:=h;simp only at h1 h2 h3 h4 h5 h6 h7 hp hp2 hrd hsz;subst h1;subst h2;subst h3;subst h7;have wp:IntKind.i64.wrap (pc+1)=pc+1:=a0e (by omega) (by omega);have wp2:w32 (pc+1)=pc+1:=a1I ⟨by omega,by omega⟩;obtain ⟨op,a,b,c⟩:=i;simp only at h27;unfold a1C mI;simp only[b5K,setR,atW,wp,wp2,stM,adM,c4q];by_cases e:op=18
 ·simp only[e,if_true];exact ⟨by trivial,fun _=>⟨rfl,rfl,rfl,h4,h5,rfl,rfl⟩,h5,by trivial⟩
 rw[if_neg e,if_neg e];clear e;by_cases e:op=19
 ·simp only[e,if_true];exact ⟨by trivial,fun _=>⟨rfl,rfl,rfl,h4,h5,rfl,rfl⟩,h5,by trivial⟩
 rw[if_neg e,if_neg e];clear e;by_cases e:op=20
 ·simp only[e,if_true];exact ⟨by trivial,fun _=>⟨rfl,rfl,rfl,h4,h5,rfl,rfl⟩,h5,by trivial⟩
 rw[if_neg e,if_neg e];clear e;by_cases e:op=21
 ·simp only[e,if_true];exact ⟨by trivial,fun _=>⟨rfl,rfl,rfl,h4,h5,rfl,rfl⟩,h5,by trivial⟩
 rw[if_neg e,if_neg e];clear e;by_cases e:op=22
 ·simp only[e,if_true];exact ⟨by trivial,fun _=>⟨rfl,rfl,rfl,h4,h5,rfl,rfl⟩,h5,by trivial⟩
 rw[if_neg e,if_neg e];clear e;by_cases e:op=1
 ·simp only[e,if_true];exact ⟨by trivial,fun _=>⟨rfl,rfl,rfl,h4,h5,rfl,rfl⟩,h5,by trivial⟩
 rw[if_neg e,if_neg e];clear e;by_cases e:op=2
 ·simp only[e,if_true];exact ⟨by trivial,fun _=>⟨rfl,rfl,rfl,h4,h5,rfl,rfl⟩,h5,by trivial⟩
 rw[if_neg e,if_neg e];clear e;by_cases e:op=3
 ·simp only[e,if_true];exact ⟨by trivial,fun _=>⟨rfl,rfl,rfl,h4,h5,rfl,rfl⟩,h5,by trivial⟩
 rw[if_neg e,if_neg e];clear e;by_cases e:op=16
 ·simp only[e,if_true];by_cases q:w32 (rg b.toNat+c)<me.length
  ·simp only[eq_true q,if_true];exact ⟨by trivial,fun _=>⟨rfl,rfl,rfl,h4,h5,rfl,rfl⟩,h5,by trivial⟩
  ·simp only[eq_false q,if_false];exact ⟨by trivial,fun h=>absurd h (by decide),h5,by trivial⟩
 rw[if_neg e,if_neg e];clear e;by_cases e:op=17
 ·simp only[e,if_true];by_cases q:w32 (rg b.toNat+c)<me.length
  ·simp only[eq_true q,if_true];exact ⟨by trivial,fun _=>⟨rfl,rfl,rfl,h4,h5,rfl,rfl⟩,h5,by trivial⟩
  ·simp only[eq_false q,if_false];exact ⟨by trivial,fun h=>absurd h (by decide),h5,by trivial⟩
 rw[if_neg e,if_neg e];clear e;rw[if_neg h27];by_cases e:op=23
 ·simp only[e,if_true];by_cases q:srd<inp.size
  ·have q':¬ (rd<0∨(inp.size:Int)≤rd):=by omega
   have wr:IntKind.i64.wrap (rd+1)=rd+1:=a0e (by omega) (by omega);simp only[eq_true q,eq_false q',if_true,if_false,wr];rw[show rd.toNat=srd by omega];exact ⟨by trivial,fun _=>⟨rfl,rfl,rfl,by simp only;omega,h5,rfl,rfl⟩,h5,by trivial⟩
  ·have q':(rd<0∨(inp.size:Int)≤rd):=by omega
   simp only[eq_false q,eq_true q',if_true,if_false];exact ⟨by trivial,fun _=>⟨rfl,rfl,rfl,h4,h5,rfl,rfl⟩,h5,by trivial⟩
 rw[if_neg e,if_neg e];clear e;by_cases e:op=24
 ·simp only[e,if_true,hsz];by_cases q:65536≤sout.length
  ·simp only[eq_true q,if_true];exact ⟨by trivial,fun h=>absurd h (by decide),h5,by trivial⟩
  ·simp only[eq_false q,if_false];exact ⟨by trivial,fun _=>⟨rfl,rfl,rfl,h4,by simp only;rw[b3v,h5];rfl,rfl,rfl⟩,by rw[b3v,h5];rfl,trivial⟩
 rw[if_neg e,if_neg e];clear e;by_cases e:op=25
 ·simp only[e,if_true];by_cases q:rg a.toNat<c
  ·simp only[eq_true q,if_true];exact ⟨by trivial,fun _=>⟨rfl,rfl,rfl,h4,h5,rfl,rfl⟩,h5,by trivial⟩
  ·simp only[eq_false q,if_false];exact ⟨by trivial,fun h=>absurd h (by decide),h5,by trivial⟩
 rw[if_neg e,if_neg e];clear e;by_cases e:op=26
 ·simp only[e,if_true];exact ⟨by trivial,fun h=>absurd h (by decide),h5,by trivial⟩
 rw[if_neg e,if_neg e];clear e;by_cases q:(a0R op (rg b.toNat) (rg c.toNat)).2=0
 ·simp only[eq_true q,if_true];exact ⟨by trivial,fun _=>⟨rfl,rfl,rfl,h4,h5,rfl,rfl⟩,h5,by trivial⟩
 ·simp only[eq_false q,if_false];exact ⟨by trivial,fun h=>absurd h (by decide),h5,by trivial⟩
section
variable {code:List Ci} {inp:ByteArray}
theorem b7v (hc:CdOk code) {s:Mc} {t:S} {n:Nat} (h:RSM s t n) (hp:0≤s.pc) (hp2:s.pc<code.length) (hrd:s.rd≤2000000000) (hn:n≤4000000000000000000) :
 ((mI inp s (code.getD s.pc.toNat default)).2=0→RSM (mI inp s (code.getD s.pc.toNat default)).1 (a1A (b2p code) inp t) (n+1)) ∧
 ((mI inp s (code.getD s.pc.toNat default)).2≠0→(a1A (b2p code) inp t).fin=(mI inp s (code.getD s.pc.toNat default)).2∧(a1A (b2p code) inp t).out.data.toList=(mI inp s (code.getD s.pc.toNat default)).1.out∧(a1A (b2p code) inp t).st=((n+1:Nat):Int)):=by
 have hlt:s.pc.toNat<code.length:=by omega
 have hg:code.getD s.pc.toNat default=code[s.pc.toNat]:=by simp[List.getD,hlt]
 have hm:code.getD s.pc.toNat default ∈ code:=by rw[hg];exact List.getElem_mem hlt
 obtain ⟨ho,h27⟩:=hc.ok _ hm;have hw:(b2p code).getD s.pc.toNat default=b7G (code.getD s.pc.toNat default).op (code.getD s.pc.toNat default).a (code.getD s.pc.toNat default).b (code.getD s.pc.toNat default).c:=by
  rw[hg,List.getD,List.getElem?_map,List.getElem?_eq_getElem hlt];rfl
 obtain ⟨d1,d2,d3,d4,d5⟩:=b8z ho;have hok:=c8t ho;have hst:IntKind.i64.wrap (t.st+1)=((n+1:Nat):Int):=by rw[h.st,a0e (by omega) (by omega)];omega
 have hl:=hc.len;obtain ⟨k1,k2,k3,k4⟩:=c4s (inp:=inp) (w:=b2p code) (m:=n+1) h (code.getD s.pc.toNat default) h27 hp (by omega) hrd;have hs:a1A (b2p code) inp t=(if (a1C (b2p code) inp { t with st:=((n+1:Nat):Int) } (code.getD s.pc.toNat default).op (code.getD s.pc.toNat default).a (code.getD s.pc.toNat default).b (code.getD s.pc.toNat default).c).1=0 then (a1C (b2p code) inp { t with st:=((n+1:Nat):Int) } (code.getD s.pc.toNat default).op (code.getD s.pc.toNat default).a (code.getD s.pc.toNat default).b (code.getD s.pc.toNat default).c).2
  else { (a1C (b2p code) inp { t with st:=((n+1:Nat):Int) } (code.getD s.pc.toNat default).op (code.getD s.pc.toNat default).a (code.getD s.pc.toNat default).b (code.getD s.pc.toNat default).c).2 with fin:=(a1C (b2p code) inp { t with st:=((n+1:Nat):Int) } (code.getD s.pc.toNat default).op (code.getD s.pc.toNat default).a (code.getD s.pc.toNat default).b (code.getD s.pc.toNat default).c).1 }):=by
  unfold a1A;rw[if_pos h.fin,h.pc,if_neg (by rw[List.length_map];omega),hst,hw];unfold a9N;rw[if_pos hok,d1,d2,d3,d4]
 rw[hs];refine ⟨fun e=>?_,fun e=>?_⟩
 ·rw[if_pos (k1.trans e)];exact k2 e
 ·rw[if_neg (by rw[k1];exact e)];exact ⟨k1,k3,k4⟩
theorem c4t {α:Type} {p:Prop} [Decidable p] {P:α→Prop} {a b:α} (h1:p→P a) (h2:¬ p→P b):P (if p then a else b):=by
 by_cases h:p
 ·rw[if_pos h];exact h1 h
 ·rw[if_neg h];exact h2 h
theorem c9A (s:Mc) (i:Ci) (h:s.rd≤inp.size):(mI inp s i).1.rd≤inp.size:=by
 let Q:Mc × Int→Prop:=fun p=>p.1.rd≤inp.size
 show Q (mI inp s i);unfold mI
 iterate 8 (refine c4t (P:=Q) (fun _=>h) fun _=>?_)
 iterate 2 (refine c4t (P:=Q) (fun _=>c4t (P:=Q) (fun _=>h) fun _=>h) fun _=>?_)
 refine c4t (P:=Q) (fun _=>c4t (P:=Q) (fun q=>q) fun _=>h) fun _=>?_
 iterate 2 (refine c4t (P:=Q) (fun _=>c4t (P:=Q) (fun _=>h) fun _=>h) fun _=>?_)
 refine c4t (P:=Q) (fun _=>h) fun _=>?_;exact c4t (P:=Q) (fun _=>h) fun _=>h
theorem b9J (hc:CdOk code) (hi:inp.size≤1000000000):∀ {k n:Nat} {s s':Mc} {t:S},Mx code inp k s s'→RSM s t n→s.rd≤inp.size→n+k≤4000000000000000000 →
 RSM s' (a1T (b2p code) inp t k) (n+k)∧s'.rd≤inp.size
 | 0,n,s,s',t,h,hr,hd,_=>by cases h;exact ⟨hr,hd⟩
 | k+1,n,s,s',t,h,hr,hd,hn=>by
  obtain ⟨h1,h2,h3,h4⟩:=h;have hst:=(b7v hc hr h1 h2 (by omega) (by omega)).1 h3;have:=b9J hc hi h4 hst (c9A _ _ hd) (by omega);rw[show n+1+k=n+(k+1) by omega]at this;rw[show k+1=1+k by omega,b9I];rw[show n+(1+k)=n+(k+1) by omega];exact this
theorem c4u (hc:CdOk code) (hi:inp.size≤1000000000) {k:Nat} {s s':Mc} {t:S} {e:Int} (h:Mn code inp k s e s') (hr:RSM s t 0) (hd:s.rd≤inp.size) (hk:k≤4000000000000000000) {F:Nat} (hF:k<F) :
 (a1T (b2p code) inp t F).fin=e∧(a1T (b2p code) inp t F).out.data.toList=s'.out∧(a1T (b2p code) inp t F).st=((k+1:Nat):Int):=by
 obtain ⟨s1,h1,h2,h3,h4,h5⟩:=h;obtain ⟨g1,g2⟩:=b9J hc hi h1 hr hd (by omega);rw[Nat.zero_add]at g1;have:=(b7v (inp:=inp) hc g1 h2 h3 (by omega) (by omega)).2 (by rw[h4];exact h5);rw[h4]at this;obtain ⟨q1,q2,q3⟩:=this;have hs:a1T (b2p code) inp t (k+1)=a1A (b2p code) inp (a1T (b2p code) inp t k):=rfl;rw[show F=k+1+(F-(k+1)) by omega,a5v (by rw[hs,q1];exact h5),hs];exact ⟨q1,q2,q3⟩
end
def mc0 (data:Int):Mc:=⟨0,fun _=>0,List.replicate data.toNat 0,0,[]⟩
theorem rs0 {data:Int} (h:data≤32768):RSM (mc0 data) (a1N data) 0:=by
 refine ⟨rfl,rfl,?_,rfl,rfl,rfl,rfl⟩;unfold a1N mc0;by_cases h0:0<data
 ·simp only[if_pos (show 0<data∧data≤32768 from ⟨h0,h⟩)]
 ·simp only[if_neg (show ¬ (0<data∧data≤32768) from fun h=>h0 h.1)];rw[show data.toNat=0 by omega];rfl
end Go.Proofs.YtkbhfokbhkmfgaaGreat
namespace Go.V
set_option linter.unusedSimpArgs false
set_option linter.unusedVariables false
theorem b7w {α:Type} {z:Nat}:∀ {ls:List (List α)},(∀ l ∈ ls,l.length=z)→∀ {i j:Nat} {l:List α} {u:α},ls[i]? = some l→l[j]? = some u→ls.flatten[i*z+j]? = some u
 | [],_,i,j,l,u,h,_=>by simp at h
 | a::ls,hz,i,j,l,u,h,hu=>by
  have ha:=hz a (by simp);cases i with
  | zero =>
   simp at h;subst h;rw[List.flatten_cons,Nat.zero_mul,Nat.zero_add,List.getElem?_append_left (List.getElem?_eq_some_iff.1 hu).1];exact hu
  | succ i =>
   simp only[List.getElem?_cons_succ]at h;rw[List.flatten_cons,List.getElem?_append_right (by rw[ha,Nat.succ_mul];omega),ha,show (i+1)*z+j-z=i*z+j by rw[Nat.succ_mul];omega];exact b7w (fun l hl=>hz l (by simp[hl])) h hu
theorem RL.splitR {M:MM}:∀ {xs ys:List AV} {vs:List Value},RL M (xs++ys) vs→∃ v1 v2,vs=v1++v2∧RL M xs v1∧RL M ys v2
 | [],ys,vs,h=>⟨[],vs,rfl,by simp only[RL],h⟩
 | x::xs,ys,vs,h=>by
  simp only[List.cons_append,RL]at h;obtain ⟨v,vs',rfl,h1,h2⟩:=h;obtain ⟨v1,v2,rfl,h3,h4⟩:=RL.splitR h2;exact ⟨v::v1,v2,rfl,by simp only[RL];exact ⟨v,v1,rfl,h1,h3⟩,h4⟩
theorem RL.chunksR {M:MM}:∀ {yss:List (List AV)} {vs:List Value},RL M yss.flatten vs→∃ vss:List (List Value),vs=vss.flatten∧vss.length=yss.length∧∀ (i:Nat) (l:List AV) (v:List Value),yss[i]? = some l→vss[i]? = some v→RL M l v
 | [],vs,h=>by
  simp only[List.flatten_nil,RL]at h;exact ⟨[],h,rfl,fun i l v h=>by simp at h⟩
 | y::yss,vs,h=>by
  rw[List.flatten_cons]at h;obtain ⟨v1,v2,rfl,h1,h2⟩:=RL.splitR h;obtain ⟨vss,rfl,h3,h4⟩:=RL.chunksR h2;refine ⟨v1::vss,by simp,by simp[h3],fun i l v hl hv=>?_⟩;cases i with
  | zero=>simp at hl hv;subst hl;subst hv;exact h1
  | succ i=>exact h4 i l v (by simpa using hl) (by simpa using hv)
theorem b9K {M:MM} {n:Nat} (hR:RH M):∀ {yss:List (List AV)} {vss:List (List Value)},vss.length=yss.length→(∀ (i:Nat) (l:List AV) (v:List Value),yss[i]? = some l→vss[i]? = some v→RL M l v)→(∀ l ∈ yss,l.all AV.pure=true) →
 RL0 M.w (Drop M n) (yss.map .agg) (vss.map fun l=>Value.agg l.toArray)
 | [],[],_,_,_=>by simp only[List.map_nil,RL0]
 | [],v::vs,h,_,_=>by simp at h
 | y::ys,[],h,_,_=>by simp at h
 | y::ys,v::vs,h,h1,h2=>by
  simp only[List.map_cons,RL0];refine ⟨_,_,rfl,?_,b9K hR (by simpa using h) (fun i l v hl hv=>h1 (i+1) l v (by simpa using hl) (by simpa using hv)) (fun l hl=>h2 l (by simp[hl]))⟩;simp only[RV0];exact ⟨v,rfl,(FrzL.pure (n:=n) (h2 y (by simp))).rl hR rfl rfl (h1 0 y v (by simp) (by simp))⟩
theorem b4E {α:Type} {z:Nat}:∀ {ls:List (List α)},(∀ l ∈ ls,l.length=z)→ls.flatten.length=ls.length*z
 | [],_=>by simp
 | y::ys,h=>by rw[List.flatten_cons,List.length_append,b4E (fun l hl=>h l (by simp[hl])),h y (by simp),List.length_cons,Nat.succ_mul];omega
theorem Frz.refS {n:Nat} {H:List VObj} {nx id s len z:Nat} {ob:VObj} {yss:List (List AV)} (hid:n≤id) (ho:H[id]? = some ob) (hs:ob.s=s) (hz:ob.sz=z) (hcs:ob.cs=yss.flatten)
 (hy:∀ l ∈ yss,l.length=z∧l.all AV.pure=true) (hlen:len=yss.length):Frz n H nx (.ref id s 0 len) (.imm z (yss.map .agg)):=fun M hR hH hnx v r=>by
 subst hH;subst hlen;simp only[RV]at r;obtain ⟨hzz,r⟩:=r.2.2 ob ho hs;have hfl:yss.flatten.length=yss.length*z:=b4E fun l hl=>(hy l hl).1;cases hm:M.m.getD id none with
 | none =>
  rw[hm]at r;obtain ⟨rfl,h1,h2⟩:=r;have:yss=[]:=List.length_eq_zero_iff.1 (by omega);subst this;simp only[List.map_nil,RV0,RL0];exact ⟨none,0,0,[],rfl,rfl,Nat.le_refl _,by simp[maxLen],rfl,by simp,.inl rfl⟩
 | some g =>
  rw[hm]at r;obtain ⟨oo,cap,rfl,q2,q3,q4,q5,q6⟩:=r;obtain ⟨vs,g1,g2,g3⟩:=hR.cells ho hzz hm 0 (yss.length*z) (by rw[hcs,hfl];omega);rw[List.drop_zero,hcs,List.take_of_length_le (by omega)]at g2;obtain ⟨vss,rfl,h3,h4⟩:=RL.chunksR g2;have hlv:∀ i v,vss[i]? = some v→∃ l,yss[i]? = some l∧RL M l v∧v.length=z:=fun i v hv=>by
   have hi:i<yss.length:=by have:=(List.getElem?_eq_some_iff.1 hv).1;omega
   have hl:=List.getElem?_eq_getElem hi;have:=h4 i _ v hl hv;exact ⟨_,hl,this,by rw[this.length];exact (hy _ (List.getElem_mem hi)).1⟩
  have hmem:∀ v ∈ vss,v.length=z:=fun v hv=>by
   obtain ⟨i,hi⟩:=List.getElem?_of_mem hv;obtain ⟨_,_,_,e⟩:=hlv i v hi;exact e
  simp only[RV0];refine ⟨_,yss.length,cap,vss.map fun l=>Value.agg l.toArray,rfl,by simp,q2,q3,?_,fun u hu=>?_,?_⟩
  ·exact b9K hR h3 h4 fun l hl=>(hy l hl).2
  ·obtain ⟨l,hl,rfl⟩:=List.mem_map.1 hu;simp[Value.cells,hmem l hl]
  ·by_cases hl:yss.length=0
   ·exact .inl hl
   ·refine .inr ⟨g,oo,rfl,⟨.inr ⟨(hR.lt hm).1,(hR.lt hm).2.1⟩,fun j hj e=>by have:=hR.inj j id g e hm;omega⟩,fun i u hu j x hx=>?_⟩;have hoo:oo=M.o id+0:=by rcases q5 with q5 | q5<;>omega
    rw[List.getElem?_map]at hu;cases hv:vss[i]? with
    | none=>rw[hv]at hu;cases hu
    | some l =>
     rw[hv]at hu;simp only[Option.map_some,Option.some.injEq]at hu;subst hu;have hx':l[j]? = some x:=by simpa [Value.cells] using hx
     have:=g3 _ _ (b7w hmem hv hx');rw[hoo,Nat.add_assoc];exact this
end Go.V
namespace Go.Proofs.YtkbhfokbhkmfgaaGreat
set_option linter.unusedSimpArgs false
set_option linter.unusedVariables false
set_option maxRecDepth 10000
open Go.V
structure XQ where
 k:Nat
 T:List VObj
 m:AV
 own:Bool
 more:AV
 bs:List UInt8
 nx:Nat
theorem c6N (code:List Int) (inp:ByteArray) (σ:S) (fuel:Int) (n sR s6 s7 sy nx0:Nat) (R0:VObj) (Lf:Nat→List VObj) (T0:List VObj) (C:AV→List VObj→Nat→Prop)
 (hcode:∀ x ∈ code,a1b x) (hcl:code.length≤1000000) (hi:inp.size≤1000000000) (hw:Wf σ) (hl:σ.mem.length≤1000000) (hol:σ.out.size+fuel.toNat≤1000000000) (hfu:fuel≤1000000000)
 (hlen:∀ k,(Lf k).length=n) (hz:R0.sz=0)
 (hT0:T0=[⟨s6,126,1,[.ptr n sR 0]⟩,⟨s7,3,1,[I fuel]⟩,R0])
 (hy:∀ (k:Nat) (T:List VObj) (o:VObj) (nx:Nat) (C:AV→List VObj→Nat→Prop),k<fuel.toNat→a3Z code (a1T code inp σ k)=true→Keep T0 T→C (B true) (Lf (k+1)++o::T) nx→YCall Tryz.prog (n+3) sy [I (a1T code inp σ k).pc] (Lf k++o::T) nx C)
 (hL:∀ k,a3Z code (a1T code inp σ k)=false→Lf (k+1)=Lf k)
 (hC:∀ r T m own more bs nx,MemAt (Lf fuel.toNat) T m own (a1T code inp σ fuel.toNat).mem→MoreAt (Lf fuel.toNat) T more bs→(a1T code inp σ fuel.toNat).out.data.toList=σ.out.data.toList++bs→Keep T0 T →
   C r (Lf fuel.toNat++rob sR (rnc (words code) inp (a1T code inp σ fuel.toNat).pc (a1T code inp σ fuel.toNat).reg m (a1T code inp σ fuel.toNat).rd σ.out (a1T code inp σ fuel.toNat).st (a1T code inp σ fuel.toNat).fin own more)::T) nx) :
 VCall Tryz.prog 73 [.yld (n+3) sy,.ptr (n+2) s7 0,.ptr (n+1) s6 0]
  (Lf 0++rob sR (rnc (words code) inp σ.pc σ.reg (words σ.mem) σ.rd σ.out σ.st σ.fin false a0T)::T0) nx0 C:=by
 refine VCall.of_bodyB a1g b3H (by simp) ?_;have hwf:=b5D (code:=code) (inp:=inp) hcode hw;have hst:∀ k,(a1T code inp σ k).fin≠0→∀ d,a1T code inp σ (k+d)=a1T code inp σ k∧Lf (k+d)=Lf k:=fun k h d=>by
  induction d with
  | zero=>exact ⟨rfl,rfl⟩
  | succ d ih =>
   refine ⟨a5v h (d+1),?_⟩;rw[← ih.2];exact hL (k+d) (by rw[ih.1];simp[a3Z,h])
 simp only[go_sem,a8m];refine a0r (fun q:XQ=>⟨[(0,.yld (n+3) sy),(1,.ptr (n+2) s7 0),(2,.ptr (n+1) s6 0),(4,I q.k)],Lf q.k++rob sR (rnc (words code) inp (a1T code inp σ q.k).pc (a1T code inp σ q.k).reg q.m (a1T code inp σ q.k).rd σ.out (a1T code inp σ q.k).st (a1T code inp σ q.k).fin q.own q.more)::q.T,q.nx⟩)
  (fun q=>q.k≤fuel.toNat∧MemAt (Lf q.k) q.T q.m q.own (a1T code inp σ q.k).mem∧MoreAt (Lf q.k) q.T q.more q.bs∧(a1T code inp σ q.k).out.data.toList=σ.out.data.toList++q.bs∧Keep T0 q.T) (fun q=>fuel.toNat-q.k)
  ⟨0,T0,words σ.mem,false,a0T,[],nx0⟩ (Wk.mk (by simp[a0a]) ⟨[],(List.append_nil _).symm⟩ (Nat.le_refl _)) ⟨Nat.zero_le _,.inl ⟨rfl,rfl⟩,.inl ⟨rfl,rfl⟩,by show σ.out.data.toList=_;simp,Keep.refl _⟩ ?_
 rintro ⟨k,T,m,own,more,bs,nx⟩ ⟨h1,h2,h3,h4,h5⟩;simp only at h1 h2 h3 h4 h5;have hk:=hlen k;have g6:∀ o:VObj,(Lf k++o::T)[n+1]? = some ⟨s6,126,1,[.ptr n sR 0]⟩:=fun o=>by
  have e:=ogk (Lf k) o T 0;rw[hk]at e;exact e.trans (h5 0 _ (by rw[hT0];rfl) (.inr ⟨by simp,by simp⟩))
 have g7:∀ o:VObj,(Lf k++o::T)[n+2]? = some ⟨s7,3,1,[I fuel]⟩:=fun o=>by
  have e:=ogk (Lf k) o T 1;rw[hk]at e;exact e.trans (h5 1 _ (by rw[hT0];rfl) (.inr ⟨by simp,by simp⟩))
 obtain ⟨ρ,hρ⟩:∃ ρ,a1T code inp σ k=ρ:=⟨_,rfl⟩
 have hρ1:a1T code inp σ (k+1)=a1A code inp ρ:=by rw[← hρ];rfl
 obtain ⟨w1,w2,w3⟩:=hwf k;have hh:=hst k;have hyk:=hy k;have hLk:=hL k;rw[hρ]at h2 h4 w1 w2 w3 hh hyk hLk;by_cases c1:(k:Int)<fuel
 ·by_cases c2:ρ.fin=0
  ·simp only[go_sem,g6,g7,eq_true c1,hρ];refine c2N code inp ρ.pc ρ.reg m ρ.rd σ.out ρ.st ρ.fin own more (Lf k) T sR nx hk _ ?_;have hg:(ρ.fin == 0)=true:=by simp[c2]
   simp only[go_sem,g6,g7,hg];refine c9V code inp ρ.pc ρ.reg m ρ.rd σ.out ρ.st ρ.fin own more (Lf k) T sR nx hk _ ?_;simp only[go_sem,g6,g7];refine c4p code inp m σ.out own more bs (Lf k) T sR nx hk hcode hcl hi ρ w1 h2 (by omega) h3 h4 (by omega) _ fun T' m' own' more' bs' nx' j1 j2 j3 j4=>?_;cases hd:a3Z code ρ
   ·have e:=hLk hd;simp only[go_sem];rw[a0e (by omega) (by omega)];refine ⟨⟨k+1,T',m',own',more',bs',nx'⟩,⟨by simp only;omega,?_,?_,?_,h5.trans j4⟩,by simp only;omega,?_⟩
    ·simp only[hρ1,e];exact j1
    ·simp only[e];exact j2
    ·simp only[hρ1];exact j3
    ·simp only[hρ1,e];exact Wk.mk (by simp[a0a]) ⟨[],(List.append_nil _).symm⟩ (Nat.le_refl _)
   ·simp only[go_sem];refine hyk T' _ nx' _ (by omega) hd (h5.trans j4) ?_;simp only[go_sem];rw[a0e (by omega) (by omega)];have e1:(Lf k).length=(Lf (k+1)).length:=by rw[hlen,hlen]
    refine ⟨⟨k+1,T',m',own',more',bs',nx'⟩,⟨by simp only;omega,?_,?_,?_,h5.trans j4⟩,by simp only;omega,?_⟩
    ·simp only[hρ1];exact j1.len e1
    ·exact j2.len e1
    ·simp only[hρ1];exact j3
    ·simp only[hρ1];exact Wk.mk (by simp[a0a]) ⟨[],(List.append_nil _).symm⟩ (Nat.le_refl _)
  ·obtain ⟨e1,e2⟩:=hh c2 (fuel.toNat-k);rw[show k+(fuel.toNat-k)=fuel.toNat by omega]at e1 e2;rw[e1,e2]at hC;simp only[go_sem,g6,g7,eq_true c1,hρ];refine c2N code inp ρ.pc ρ.reg m ρ.rd σ.out ρ.st ρ.fin own more (Lf k) T sR nx hk _ ?_;have hg:(ρ.fin == 0)=false:=by simp[c2]
   simp only[go_sem,g6,g7,hg];exact hC _ T m own more bs nx h2 h3 h4 h5
 ·have e:fuel.toNat=k:=by omega
  rw[e]at hC;rw[hρ]at hC;simp only[go_sem,g6,g7,eq_false c1,hρ];exact hC _ T m own more bs nx h2 h3 h4 h5
set_option maxRecDepth 10000
open Go.V
theorem MemAt.setz {L T:List VObj} {m:AV} {own:Bool} {mem:List Int} (h:MemAt L T m own mem) {j:Nat} {R E:VObj} (hj:T[j]? = some R) (hz:R.sz=0):MemAt L (T.set j E) m own mem:=by
 rcases h with h | ⟨h1,k,sm,h2,h3⟩
 ·exact .inl h
 ·refine .inr ⟨h1,k,sm,h2,?_⟩;have hne:j≠k:=fun e=>by
   subst e;rw[hj]at h3;cases h3;exact absurd hz (by simp)
  rw[List.getElem?_set,if_neg hne];exact h3
theorem MoreAt.setz {L T:List VObj} {m:AV} {bs:List UInt8} (h:MoreAt L T m bs) {j:Nat} {R E:VObj} (hj:T[j]? = some R) (hz:R.sz=0):MoreAt L (T.set j E) m bs:=by
 rcases h with h | ⟨k,sm,h2,h3⟩
 ·exact .inl h
 ·refine .inr ⟨k,sm,h2,?_⟩;have hne:j≠k:=fun e=>by
   subst e;rw[hj]at h3;cases h3;exact absurd hz (by simp)
  rw[List.getElem?_set,if_neg hne];exact h3
theorem b3w {α:Type} {l:List α} {i:Nat} {x:α} (h:l[i]? = some x):l.set i x=l:=by
 obtain ⟨hlt,rfl⟩:=List.getElem?_eq_some_iff.1 h;exact List.set_getElem_self hlt
theorem c9W (code:List Int) (data:Int) (inp:ByteArray) (σ:S) (fuel:Int) (hcode:∀ x ∈ code,a1b x) (hcl:code.length≤1000000) (hi:inp.size≤1000000000) (hw:Wf σ) (hl:σ.mem.length≤1000000) (hol:σ.out.size+fuel.toNat≤1000000000) (hfu:fuel≤1000000000) :
 Contract Tryz.prog 30 [c2M code data,a2W inp,stA σ,I fuel] (fun r=>r=stA (a1T code inp σ fuel.toNat)):=by
 refine Contract.of_call (VCall.of_bodyB a1g c1s (by simp) ?_);simp only[go_sem,b6x,a3Y,a0t,a1o];refine c9z code data inp σ _ _ _ ?_;simp only[go_sem,a3Y,a0t,a1o];refine VCall.of_body a1g b6E (by simp) ?_;simp only[go_sem,b1D,a3Y,a0t,a1o,a5t];intro R Bo E hz hY;have hl5:(a9Q code data σ.pc σ.reg σ.mem σ.rd σ.out σ.st σ.fin).length=5:=rfl;have hwf:=b5D (code:=code) (inp:=inp) hcode hw fuel.toNat;refine c6N code inp σ fuel 5 5 6 7 8 _ R (fun _=>a9Q code data σ.pc σ.reg σ.mem σ.rd σ.out σ.st σ.fin) _ _ hcode hcl hi hw hl hol hfu (fun _=>hl5) hz rfl (fun k T o nx C h1 h2 h3 h4=>?_) (fun _ _=>rfl) fun r T m own more bs nx h1 h2 h3 h4=>?_
 ·have hr:(a9Q code data σ.pc σ.reg σ.mem σ.rd σ.out σ.st σ.fin++o::T)[8]? = some R:=(ogk (a9Q code data σ.pc σ.reg σ.mem σ.rd σ.out σ.st σ.fin) o T 2).trans (h3 2 R rfl (.inl hz));refine hY _ _ _ _ hr rfl ?_;simp only[go_sem];have hlt:=(List.getElem?_eq_some_iff.1 hr).1;have hb:((a9Q code data σ.pc σ.reg σ.mem σ.rd σ.out σ.st σ.fin++o::T).set 8 Bo)[8]? = some Bo:=by rw[List.getElem?_set,if_pos rfl,if_pos hlt]
  refine ⟨hb,?_⟩;rw[List.set_set];show C (B true) ((a9Q code data σ.pc σ.reg σ.mem σ.rd σ.out σ.st σ.fin++o::T).set 8 R) nx;rw[b3w hr];exact h4
 ·have hT:T[2]? = some R:=h4 2 R rfl (.inl hz);refine ⟨(ogk (a9Q code data σ.pc σ.reg σ.mem σ.rd σ.out σ.st σ.fin) _ T 2).trans hT,?_⟩;have h1':MemAt (a9Q code data σ.pc σ.reg σ.mem σ.rd σ.out σ.st σ.fin) (T.set 2 E) m own (a1T code inp σ fuel.toNat).mem:=h1.setz hT hz;have h2':MoreAt (a9Q code data σ.pc σ.reg σ.mem σ.rd σ.out σ.st σ.fin) (T.set 2 E) more bs:=h2.setz hT hz;have hset:∀ o:VObj,(a9Q code data σ.pc σ.reg σ.mem σ.rd σ.out σ.st σ.fin++o::T).set 8 E=a9Q code data σ.pc σ.reg σ.mem σ.rd σ.out σ.st σ.fin++o::T.set 2 E:=fun o=>osk (a9Q code data σ.pc σ.reg σ.mem σ.rd σ.out σ.st σ.fin) o E T 2;have hg2:∀ R,(a9Q code data σ.pc σ.reg σ.mem σ.rd σ.out σ.st σ.fin++R)[2]? = some ⟨2,99,1,stc 0 (fun _=>0) a0T 0 ⟨#[]⟩ 0 0⟩:=fun R=>rfl;clear hY;generalize a9Q code data σ.pc σ.reg σ.mem σ.rd σ.out σ.st σ.fin=L at *
  generalize a1T code inp σ fuel.toNat=ρ at *
  have hs2:∀ x R,(L++R).set 2 x=L.set 2 x++R:=fun x R=>List.set_append_left _ _ (by omega);have hg2':∀ x R,(L.set 2 x++R)[2]? = some x:=fun x R=>by rw[List.getElem?_append_left (by simp;omega),List.getElem?_set,if_pos rfl,if_pos (by omega)]
  simp only[go_sem,hset];refine c2O code inp m σ.out own more bs L (T.set 2 E) 5 _ hl5 ρ h1'.one h2' h3 (by omega) _ fun R2 more2 nx2 g4=>?_;simp only[go_sem,hg2,hs2,hg2',a0t,a1o,a3Y,b0w,a5u];refine ⟨h1'.one,_,b5C (h1'.frz (Nat.zero_le _) fun k ob hk=>?_),rfl⟩;rw[show L.length=(L.set 2 ⟨2,99,1,stc ρ.pc ρ.reg m ρ.rd ρ.out ρ.st ρ.fin⟩).length by simp,ogk,List.getElem?_append_left (List.getElem?_eq_some_iff.1 hk).1];exact hk
set_option maxRecDepth 10000
open Go.V
abbrev c9X (e:Int) (out:ByteArray) (st:Int):AV:=.agg [I e,a2W out,I st]
def c8S (σ:S):Int:=if σ.fin=0 then 5 else σ.fin
def c6O (code:List Int) (data:Int) (inp:ByteArray) (fuel:Int):S:=a1T code inp (a1N data) fuel.toNat
abbrev c6P (code:List Int) (data:Int) (inp:ByteArray) (fuel:Int):AV:=c9X (c8S (c6O code data inp fuel)) (c6O code data inp fuel).out (c6O code data inp fuel).st
theorem c8u (code:List Int) (data:Int) (inp:ByteArray) (fuel:Int) (hcode:∀ x ∈ code,a1b x) (hcl:code.length≤1000000) (hi:inp.size≤1000000000) (hfu:fuel≤900000000) :
 ContractN Tryz.prog 11 [c2M code data,a2W inp,I fuel] (fun r=>r=c6P code data inp fuel):=by
 have hs:=b7u data;have ho:(a1N data).out.size=0:=rfl;refine ContractN.of_call (VCall.of_body a1g c0f (by simp) ?_);simp only[go_sem,b4q];refine ECall.of (c6L code data) (SleL.pure rfl) ⟨_,fun _=>Iff.rfl⟩ fun x hx=>?_;subst hx;simp only[go_sem];refine ECall.of (c9W code data inp (a1N data) fuel hcode hcl hi (b9H data) (by omega) (by omega) (by omega)) (SleL.pure rfl) ⟨_,fun _=>Iff.rfl⟩ fun x hx=>?_;subst hx;show _;unfold c6P c8S c6O;generalize a1T code inp (a1N data) fuel.toNat=ρ;by_cases h:ρ.fin=0
 ·simp only[go_sem,a5t,b0w,a5u,a3Y,a0t,a1o,c0D,c0C,c7f,b9G,eq_true h,if_pos h];exact ⟨_,FrzN.agg ⟨_,_,rfl,FrzN.val,_,_,rfl,FrzN.val,_,_,rfl,FrzN.val,rfl⟩,rfl⟩
 ·simp only[go_sem,a5t,b0w,a5u,a3Y,a0t,a1o,c0D,c0C,c7f,b9G,eq_false h,if_neg h];exact ⟨_,FrzN.agg ⟨_,_,rfl,FrzN.val,_,_,rfl,FrzN.val,_,_,rfl,FrzN.val,rfl⟩,rfl⟩
theorem c9B (code:List Int) (data:Int) (inp:ByteArray) (fuel:Int) (hcode:∀ x ∈ code,a1b x) (hcl:code.length≤1000000) (hi:inp.size≤1000000000) (hfu:fuel≤900000000) :
 Contract Tryz.prog 11 [c2M code data,a2W inp,I fuel] (fun r=>r=c6P code data inp fuel):=(c8u code data inp fuel hcode hcl hi hfu).old
def b2e (code:List Int) (inp:ByteArray) (σ:S):Nat→List Int
 | 0=>List.replicate code.length 0
 | k+1=>if a3Z code (a1T code inp σ k)=true then (b2e code inp σ k).set (a1T code inp σ k).pc.toNat ((b2e code inp σ k).getD (a1T code inp σ k).pc.toNat 0+1) else b2e code inp σ k
theorem b5E (code:List Int) (inp:ByteArray) (σ:S):∀ k,(b2e code inp σ k).length=code.length
 | 0=>by simp[b2e]
 | k+1=>by
  simp only[b2e];split
  ·rw[List.length_set];exact b5E code inp σ k
  ·exact b5E code inp σ k
theorem c2P (code:List Int) (inp:ByteArray) (σ:S):∀ k,∀ x ∈ b2e code inp σ k,0≤x∧x≤k
 | 0=>fun x hx=>by
  simp only[b2e,List.mem_replicate]at hx;rw[hx.2];exact ⟨Int.le_refl _,Int.le_refl _⟩
 | k+1=>fun x hx=>by
  have ih:=c2P code inp σ k;simp only[b2e]at hx;split at hx
  ·rcases List.mem_or_eq_of_mem_set hx with hx | hx
   ·have:=ih x hx;omega
   ·rw[hx,List.getD_eq_getElem?_getD];cases hg:(b2e code inp σ k)[(a1T code inp σ k).pc.toNat]? with
    | none=>simp;omega
    | some y=>have:=ih y (List.mem_of_getElem? hg);simp;omega
  ·have:=ih x hx;omega
theorem c4v {xs:List Int} {off:Nat} {C:AV→Prop}:a0D (xs.map I) off false 1 C .mk=(off<xs.length∧C (I (xs.getD off default))):=a1j fun _=>rfl
set_option maxRecDepth 10000
open Go.V
set_option maxRecDepth 10000
open Go.V Go.ChangeShapes Go.WideShapes Go.ChangeAt Go.RowKit
set_option maxRecDepth 10000
open Go.V Go.ChangeShapes Go.WideShapes Go.ChangeAt Go.RowKit
set_option maxRecDepth 10000
open Go.V
def Fr (s t:S):Prop :=
 (∃ j v,t.reg=b9D s.reg j v∧t.mem=s.mem∧t.out=s.out∧(t.rd=s.rd∨t.rd=IntKind.i64.wrap (s.rd+1))) ∨
 (∃ j v,t.reg=s.reg∧t.mem=s.mem.set j v∧t.out=s.out∧t.rd=s.rd) ∨
 (∃ b,t.reg=s.reg∧t.mem=s.mem∧t.out=s.out.push b∧t.rd=s.rd)
theorem c2Q (f:Nat→Int):f=b9D f 0 (f 0):=by
 funext k;unfold b9D;split
 ·rename_i h;rw[h]
 ·rfl
theorem Fr.same {s t:S} (h1:t.reg=s.reg) (h2:t.mem=s.mem) (h3:t.out=s.out) (h4:t.rd=s.rd):Fr s t :=
 .inl ⟨0,s.reg 0,by rw[h1];exact c2Q _,h2,h3,.inl h4⟩
set_option maxRecDepth 10000
open Go.V
def wkc (pc:Int) (f:Nat→Int) (m:AV) (rd:Int) (so:ByteArray) (st fin:Int) (o cd ok wd:AV) (inp:ByteArray) (ct:AV):List AV :=
 I pc::(regs f++[m,I rd,a2W so,I st,I fin,o,cd,ok,wd,a2W inp,ct])
section
variable {pc:Int} {f:Nat→Int} {m:AV} {rd:Int} {so:ByteArray} {st fin:Int} {o cd ok wd:AV} {inp:ByteArray} {ct:AV} {C:AV→Prop}
theorem a0h:(wkc pc f m rd so st fin o cd ok wd inp ct).length=28:=rfl
theorem b5F:(wkc pc f m rd so st fin o cd ok wd inp ct).all AV.one=(m.one && o.one && cd.one && ok.one && wd.one && ct.one):=by
 simp[wkc,b2o];simp[AV.one,Value.oneCell',Bool.and_assoc]
theorem b8A:a0D (wkc pc f m rd so st fin o cd ok wd inp ct) 0 true 22 C .mk=C (.agg (stc pc f m rd so st fin)):=by
 have e:((wkc pc f m rd so st fin o cd ok wd inp ct).drop 0).take 22=stc pc f m rd so st fin:=rfl;simp only[a0D,a1E,a0F,a1f,a0h,if_true,e];simp
theorem a1h {j:Nat} (h:j<16):a0D (wkc pc f m rd so st fin o cd ok wd inp ct) (1+j) false 1 C .mk=C (U32 (f j)):=by
 have e:(wkc pc f m rd so st fin o cd ok wd inp ct).getD (1+j) .dead=U32 (f j):=by
  rw[← b9E (f:=f) h,wkc,Nat.add_comm,List.getD_cons_succ];simp only[List.getD,List.getElem?_append_left (show j<(regs f).length by rw[a1Z];exact h)]
 simp only[a0D,a1E,a0F,a1f,a0h,e];simp[AV.one,Value.oneCell'];omega
theorem a1D {j:Nat} {v:Int} (h:j<16):(wkc pc f m rd so st fin o cd ok wd inp ct).set (1+j) (U32 v)=wkc pc (b9D f j v) m rd so st fin o cd ok wd inp ct:=by
 rw[wkc,Nat.add_comm,List.set_cons_succ,List.set_append_left _ _ (by rw[a1Z];exact h),b9F h];rfl
theorem a6c:a0D (wkc pc f m rd so st fin o cd ok wd inp ct) 0 false 1 C .mk=C (I pc):=by
 have e:(wkc pc f m rd so st fin o cd ok wd inp ct).getD 0 .dead=I pc:=rfl;simp only[a0D,a1E,a0F,a1f,a0h,e];simp[AV.one,Value.oneCell']
theorem a2M {x:Int}:(wkc pc f m rd so st fin o cd ok wd inp ct).set 0 (I x)=wkc x f m rd so st fin o cd ok wd inp ct:=rfl
theorem a3i:a0D (wkc pc f m rd so st fin o cd ok wd inp ct) 17 false 1 C .mk=(m.one=true∧C m):=by
 have e:(wkc pc f m rd so st fin o cd ok wd inp ct).getD 17 .dead=m:=rfl;simp only[a0D,a1E,a0F,a1f,a0h,e];simp
theorem a1L {x:AV}:(wkc pc f m rd so st fin o cd ok wd inp ct).set 17 x=wkc pc f x rd so st fin o cd ok wd inp ct:=rfl
theorem b0x:a0D (wkc pc f m rd so st fin o cd ok wd inp ct) 18 false 1 C .mk=C (I rd):=by
 have e:(wkc pc f m rd so st fin o cd ok wd inp ct).getD 18 .dead=I rd:=rfl;simp only[a0D,a1E,a0F,a1f,a0h,e];simp[AV.one,Value.oneCell']
theorem a3j {x:Int}:(wkc pc f m rd so st fin o cd ok wd inp ct).set 18 (I x)=wkc pc f m x so st fin o cd ok wd inp ct:=rfl
theorem c9C:a0D (wkc pc f m rd so st fin o cd ok wd inp ct) 19 false 1 C .mk=C (a2W so):=by
 have e:(wkc pc f m rd so st fin o cd ok wd inp ct).getD 19 .dead=a2W so:=rfl;simp only[a0D,a1E,a0F,a1f,a0h,e];simp[AV.one,Value.oneCell']
theorem c6Q {x:ByteArray}:(wkc pc f m rd so st fin o cd ok wd inp ct).set 19 (a2W x)=wkc pc f m rd x st fin o cd ok wd inp ct:=rfl
theorem a9W:a0D (wkc pc f m rd so st fin o cd ok wd inp ct) 20 false 1 C .mk=C (I st):=by
 have e:(wkc pc f m rd so st fin o cd ok wd inp ct).getD 20 .dead=I st:=rfl;simp only[a0D,a1E,a0F,a1f,a0h,e];simp[AV.one,Value.oneCell']
theorem a2X {x:Int}:(wkc pc f m rd so st fin o cd ok wd inp ct).set 20 (I x)=wkc pc f m rd so x fin o cd ok wd inp ct:=rfl
theorem a2k:a0D (wkc pc f m rd so st fin o cd ok wd inp ct) 21 false 1 C .mk=C (I fin):=by
 have e:(wkc pc f m rd so st fin o cd ok wd inp ct).getD 21 .dead=I fin:=rfl;simp only[a0D,a1E,a0F,a1f,a0h,e];simp[AV.one,Value.oneCell']
theorem a1w {x:Int}:(wkc pc f m rd so st fin o cd ok wd inp ct).set 21 (I x)=wkc pc f m rd so st x o cd ok wd inp ct:=rfl
theorem k_o:a0D (wkc pc f m rd so st fin o cd ok wd inp ct) 22 false 1 C .mk=(o.one=true∧C o):=by
 have e:(wkc pc f m rd so st fin o cd ok wd inp ct).getD 22 .dead=o:=rfl;simp only[a0D,a1E,a0F,a1f,a0h,e];simp
theorem b0y {x:AV}:(wkc pc f m rd so st fin o cd ok wd inp ct).set 22 x=wkc pc f m rd so st fin x cd ok wd inp ct:=rfl
theorem a9a:a0D (wkc pc f m rd so st fin o cd ok wd inp ct) 23 false 1 C .mk=(cd.one=true∧C cd):=by
 have e:(wkc pc f m rd so st fin o cd ok wd inp ct).getD 23 .dead=cd:=rfl;simp only[a0D,a1E,a0F,a1f,a0h,e];simp
theorem a9R:a0D (wkc pc f m rd so st fin o cd ok wd inp ct) 24 false 1 C .mk=(ok.one=true∧C ok):=by
 have e:(wkc pc f m rd so st fin o cd ok wd inp ct).getD 24 .dead=ok:=rfl;simp only[a0D,a1E,a0F,a1f,a0h,e];simp
theorem b0z:a0D (wkc pc f m rd so st fin o cd ok wd inp ct) 25 false 1 C .mk=(wd.one=true∧C wd):=by
 have e:(wkc pc f m rd so st fin o cd ok wd inp ct).getD 25 .dead=wd:=rfl;simp only[a0D,a1E,a0F,a1f,a0h,e];simp
theorem b0A:a0D (wkc pc f m rd so st fin o cd ok wd inp ct) 26 false 1 C .mk=C (a2W inp):=by
 have e:(wkc pc f m rd so st fin o cd ok wd inp ct).getD 26 .dead=a2W inp:=rfl;simp only[a0D,a1E,a0F,a1f,a0h,e];simp[AV.one,Value.oneCell']
theorem a8W:a0D (wkc pc f m rd so st fin o cd ok wd inp ct) 27 false 1 C .mk=(ct.one=true∧C ct):=by
 have e:(wkc pc f m rd so st fin o cd ok wd inp ct).getD 27 .dead=ct:=rfl;simp only[a0D,a1E,a0F,a1f,a0h,e];simp
end
set_option maxRecDepth 10000
open Go.V
abbrev wkO (s:Nat) (cs:List AV):VObj:=⟨s,149,1,cs⟩
section
variable {pc:Int} {f:Nat→Int} {m:AV} {rd:Int} {so:ByteArray} {st fin:Int} {o cd ok wd:AV} {inp:ByteArray} {ct:AV} {H:List VObj} {nx w sw:Nat} {C:AV→List VObj→Nat→Prop}
theorem a9S (a v:Int) (ha:0≤a∧a≤15) (hw:H[w]? = some (wkO sw (wkc pc f m rd so st fin o cd ok wd inp ct))) (h1:(wkc pc f m rd so st fin o cd ok wd inp ct).all AV.one=true)
 (hC:∀ r,C r (H.set w (wkO sw (wkc (IntKind.i64.wrap (pc+1)) (b9D f a.toNat v) m rd so st fin o cd ok wd inp ct))) nx) :
 VCall Tryz.prog 89 [.ptr w sw 0,I a,U32 v] H nx C:=by
 refine VCall.of_body a1g a9v (by simp) ?_;have hlt:=(List.getElem?_eq_some_iff.1 hw).1;have gw:∀ x,(H.set w x)[w]? = some x:=fun x=>by rw[List.getElem?_set,if_pos rfl,if_pos hlt]
 have hj:a.toNat<16:=by omega
 simp only[go_sem,a4U,hw,gw,List.set_set,a0h,a6c,a1D hj,a2M]
 repeat (refine And.intro (by omega) ?_)
 exact hC _
theorem c2R (yes:Bool) (to:Int) (hw:H[w]? = some (wkO sw (wkc pc f m rd so st fin o cd ok wd inp ct)))
 (hC:∀ r,C r (H.set w (wkO sw (wkc (if yes then to else IntKind.i64.wrap (pc+1)) f m rd so st fin o cd ok wd inp ct))) nx) :
 VCall Tryz.prog 91 [.ptr w sw 0,B yes,I to] H nx C:=by
 refine VCall.of_body a1g a8P (by simp) ?_;have hlt:=(List.getElem?_eq_some_iff.1 hw).1;have gw:∀ x,(H.set w x)[w]? = some x:=fun x=>by rw[List.getElem?_set,if_pos rfl,if_pos hlt]
 cases yes
 ·simp only[go_sem,a2v,hw,gw,List.set_set,a0h,a6c,a2M]
  repeat (refine And.intro (by omega) ?_)
  exact hC _
 ·simp only[go_sem,a2v,hw,gw,List.set_set,a0h,a6c,a2M]
  repeat (refine And.intro (by omega) ?_)
  exact hC _
end
theorem b2q (l:List Int) (b k:Int) (hb:a1b b) (hk:0≤k∧k≤65535) (hl:l.length≤1000000):ContractN Tryz.prog 90 [words l,U32 b,I k]
 (fun r=>r=(if w32 (b+k)<l.length then AV.tup [U32 (l.getD (w32 (b+k)).toNat default),B true] else AV.tup [U32 0,B false])):=by
 refine ContractN.of_call (VCall.of_body a1g b2T (by simp) ?_);have e1:IntKind.u32.wrap k=k:=a1I ⟨by omega,by omega⟩;obtain ⟨at_,hat⟩:∃ x,IntKind.u32.wrap (b+k)=x:=⟨_,rfl⟩
 have hin:a1b at_:=by rw[← hat,IntKind.wrap_u32];exact ⟨by omega,by omega⟩
 obtain ⟨p1,p2⟩:=hin;have e2:IntKind.u64.wrap at_=at_:=by rw[IntKind.wrap_u64];omega
 have e3:IntKind.u64.wrap (l.length:Int)=l.length:=by rw[IntKind.wrap_u64];omega
 have hat':w32 (b+k)=at_:=hat;simp only[hat'];by_cases h:at_<l.length
 ·simp only[go_sem,a4k,e1,hat,e2,e3,eq_false (show ¬ (l.length:Int)≤at_ by omega),if_pos h]
  repeat (refine And.intro (by omega) ?_)
  exact ⟨_,FrzN.tup ⟨_,_,rfl,FrzN.val,_,_,rfl,FrzN.val,rfl⟩,by simp[h]⟩
 ·simp only[go_sem,a4k,e1,hat,e2,e3,eq_true (show (l.length:Int)≤at_ by omega),if_neg h];exact ⟨_,FrzN.tup ⟨_,_,rfl,FrzN.val,_,_,rfl,FrzN.val,rfl⟩,by simp[h]⟩
set_option maxRecDepth 10000
open Go.V
def a8X (w:Int):List AV:=if okW w then [I (opW w),I (raW w),I (rbW w),I (kW w)] else [I 0,I 0,I 0,I 0]
abbrev b8B (code:List Int):AV:=.imm 4 ((code.map a8X).map .agg)
abbrev okL (code:List Int):AV:=.imm 1 (code.map fun w=>B (okW w))
theorem a9T (w:Int):(a8X w).length=4:=by unfold a8X;split<;>rfl
theorem c2S (w:Int):(a8X w).all AV.pure=true:=by unfold a8X;split<;>rfl
theorem c4w (w:Int):(a8X w).all AV.one=true:=by unfold a8X;split<;>rfl
theorem b3x (ls:List (List AV)) (h:∀ l ∈ ls,l.length=4):ls.flatten.length=ls.length*4:=by
 induction ls with
 | nil=>rfl
 | cons a ls ih=>rw[List.flatten_cons,List.length_append,h a (by simp),ih (fun l hl=>h l (by simp[hl])),List.length_cons];omega
def c0G (code:List Int) (k:Nat):List (List AV):=(code.take k).map a8X++List.replicate (code.length-k) [I 0,I 0,I 0,I 0]
theorem c4x (code:List Int) {k:Nat} (h:k≤code.length):(c0G code k).length=code.length:=by simp[c0G];omega
theorem c5b (code:List Int) (k:Nat):∀ l ∈ c0G code k,l.length=4:=fun l hl=>by
 unfold c0G at hl;rcases List.mem_append.1 hl with hl | hl
 ·obtain ⟨w,_,rfl⟩:=List.mem_map.1 hl;exact a9T w
 ·rw[List.mem_replicate]at hl;rw[hl.2];rfl
theorem c2T (code:List Int) {k:Nat} (h:k<code.length):(c0G code k).flatten.take (k*4)++a8X (code.getD k default)++(c0G code k).flatten.drop (k*4+4)=(c0G code (k+1)).flatten:=by
 have e1:((code.take k).map a8X).flatten.length=k*4:=by
  rw[b3x _ (fun l hl=>by obtain ⟨w,_,rfl⟩:=List.mem_map.1 hl;exact a9T w)];simp;omega
 have e2:code.length-k=(code.length-(k+1))+1:=by omega
 unfold c0G;rw[List.flatten_append,List.take_append_of_le_length (by omega),List.take_of_length_le (by omega),e2,List.replicate_succ,List.flatten_cons];rw[show k*4+4=((code.take k).map a8X).flatten.length+4 by rw[e1],← List.drop_drop,List.drop_left];rw[List.take_add_one,List.getElem?_eq_getElem h,List.getD_eq_getElem?_getD,List.getElem?_eq_getElem h];simp only[Option.getD_some,Option.toList_some,List.map_append,List.map_cons,List.map_nil,List.flatten_append,List.flatten_cons,List.flatten_nil,List.append_nil,List.append_assoc];rfl
def c2Y (code:List Int) (k:Nat):List AV:=(code.take k).map (fun w=>B (okW w))++List.replicate (code.length-k) (B false)
theorem c6R (code:List Int) {k:Nat} (h:k≤code.length):(c2Y code k).length=code.length:=by simp[c2Y];omega
theorem c4y (code:List Int) {k:Nat} (h:k<code.length):(c2Y code k).set k (B (okW (code.getD k default)))=c2Y code (k+1):=by
 have e2:code.length-k=(code.length-(k+1))+1:=by omega
 have e1:((code.take k).map (fun w=>B (okW w))).length=k:=by simp;omega
 unfold c2Y;rw[e2,List.replicate_succ,List.set_append_right _ _ (by omega),e1,Nat.sub_self,List.set_cons_zero,List.take_add_one,List.getElem?_eq_getElem h,List.getD_eq_getElem?_getD,List.getElem?_eq_getElem h];simp only[Option.getD_some,Option.toList_some,List.map_append,List.map_cons,List.map_nil,List.append_assoc,List.cons_append,List.nil_append]
theorem c2U (code:List Int) (data:Int) (hcode:∀ x ∈ code,a1b x) (hcl:code.length≤1000000):Contract Tryz.prog 77 [c2M code data] (fun r=>r = .tup [b8B code,okL code]):=by
 refine Contract.of_call (VCall.of_body a1g b3I (by simp) ?_);have hr1:(List.replicate code.length [I 0,I 0,I 0,I 0]).flatten=(c0G code 0).flatten:=by simp[c0G]
 have hr2:(List.replicate code.length [B false]).flatten=c2Y code 0:=by
  unfold c2Y;simp
 have hi0:=b3x _ (c5b code 0);simp only[go_sem,a8n,hr1,hr2]
 repeat (refine And.intro (by omega) ?_)
 refine a0r (fun q:Nat × List VObj × Nat=>⟨[(1,.ptr 0 0 0),(4,.ref 1 1 0 code.length),(5,.ref 2 2 0 code.length),(6,I q.1)],⟨0,42,1,[words code,I data]⟩::⟨1,121,4,(c0G code q.1).flatten⟩::⟨2,4,1,c2Y code q.1⟩::q.2.1,q.2.2⟩)
  (fun q=>q.1≤code.length) (fun q=>code.length-q.1) (0,[],3) (Wk.mk (by simp[a0a]) ⟨[],rfl⟩ (Nat.le_refl _)) (Nat.zero_le _) ?_
 rintro ⟨k,J,nx⟩ hk;simp only at hk;by_cases c1:(k:Int)<code.length
 ·have hlt:k<code.length:=by omega
  obtain ⟨w,hw⟩:∃ w,code.getD k default=w:=⟨_,rfl⟩
  have hwi:a1b w:=by
   rw[← hw,List.getD_eq_getElem?_getD,List.getElem?_eq_getElem hlt];exact hcode _ (List.getElem_mem _)
  have n1:=c2T code hlt;have n2:=c4y code hlt;rw[hw]at n1 n2;have l1:=b3x _ (c5b code k);rw[c4x code hk]at l1;have l2:=c6R code hk;simp only[go_sem,eq_true c1,a0b,hw]
  repeat (refine And.intro (by omega) ?_)
  refine VCall.of_contract (b8t w hwi) (SleL.pure rfl) fun x hx=>?_;subst hx;unfold c7d;cases hok:okW w
  ·have e4:a8X w=[I 0,I 0,I 0,I 0]:=by unfold a8X;rw[hok];rfl
   rw[e4]at n1;rw[hok]at n2;simp only[go_sem,ogn,osn,l1,l2,n1,n2,Int.reduceEq,Int.reduceBEq]
   repeat (refine And.intro (by omega) ?_)
   rw[a0e (by omega) (by omega)];exact ⟨(k+1,_,_),by simp only;omega,by simp only;omega,Wk.mk (by simp[a0a]) ⟨[],(List.append_nil _).symm⟩ (Nat.le_refl _)⟩
  ·have e4:a8X w=[I (opW w),I (raW w),I (rbW w),I (kW w)]:=by unfold a8X;rw[hok];rfl
   rw[e4]at n1;rw[hok]at n2;simp only[go_sem,ogn,osn,l1,l2,n1,n2,Int.reduceEq,Int.reduceBEq]
   repeat (refine And.intro (by omega) ?_)
   rw[a0e (by omega) (by omega)];exact ⟨(k+1,_,_),by simp only;omega,by simp only;omega,Wk.mk (by simp[a0a]) ⟨[],(List.append_nil _).symm⟩ (Nat.le_refl _)⟩
 ·have e:k=code.length:=by omega
  subst e;have hi:c0G code code.length=code.map a8X:=by simp[c0G]
  have ho:c2Y code code.length=code.map fun w=>B (okW w):=by simp[c2Y]
  simp only[go_sem,eq_false c1,hi,ho];refine ⟨_,Frz.tup ⟨_,_,rfl,Frz.refS (Nat.zero_le _) rfl rfl rfl rfl (fun l hl=>?_) (by simp),_,_,rfl,Frz.ref (Nat.zero_le _) rfl rfl rfl ?_ (FrzL.pure ?_),rfl⟩,?_⟩
  ·obtain ⟨w,_,rfl⟩:=List.mem_map.1 hl;exact ⟨a9T w,c2S w⟩
  ·rw[List.all_eq_true];intro y hy;obtain ⟨x,_,rfl⟩:=List.mem_map.1 hy;rfl
  ·rw[List.drop_zero,List.take_of_length_le (by simp),List.all_eq_true];intro y hy;obtain ⟨x,_,rfl⟩:=List.mem_map.1 hy;rfl
  ·rw[List.drop_zero,List.take_of_length_le (by simp)]
def a1O:VC :=
 (.seq
 (.seq
 (.ops [
 ⟨(some 11),none,(.mv (.tmp 0))⟩,
 ⟨(some 12),none,(.nck (.tmp 11))⟩,
 ⟨(some 13),none,(.fad 0 true 22 (.tmp 12))⟩,
 ⟨(some 14),none,(.fad 0 false 1 (.tmp 13))⟩,
 ⟨(some 15),none,(.ld false 1 (.tmp 14))⟩,
 ⟨(some 16),none,(.bin .lss (.tmp 15) (.const (.int .i64 0)))⟩,
 ⟨(some 17),none,(.mv (.tmp 16))⟩,
 ⟨(some 18),(some (17,false)),(.mv (.tmp 0))⟩,
 ⟨(some 19),(some (17,false)),(.nck (.tmp 18))⟩,
 ⟨(some 20),(some (17,false)),(.fad 0 true 22 (.tmp 19))⟩,
 ⟨(some 21),(some (17,false)),(.fad 0 false 1 (.tmp 20))⟩,
 ⟨(some 22),(some (17,false)),(.ld false 1 (.tmp 21))⟩,
 ⟨(some 23),(some (17,false)),(.mv (.tmp 0))⟩,
 ⟨(some 24),(some (17,false)),(.nck (.tmp 23))⟩,
 ⟨(some 25),(some (17,false)),(.fad 23 false 1 (.tmp 24))⟩,
 ⟨(some 26),(some (17,false)),(.ld false 1 (.tmp 25))⟩,
 ⟨(some 27),(some (17,false)),(.len (.tmp 26))⟩,
 ⟨(some 28),(some (17,false)),(.bin .geq (.tmp 22) (.tmp 27))⟩,
 ⟨(some 29),none,(.pick (.tmp 17) (.const (.bool true)) (.tmp 28))⟩])
 (.cond (.tmp 29)
 (.seq
 (.ops [
 ⟨(some 30),none,(.mv (.tmp 0))⟩,
 ⟨(some 31),none,(.nck (.tmp 30))⟩,
 ⟨(some 32),none,(.fad 0 true 22 (.tmp 31))⟩,
 ⟨(some 33),none,(.fad 21 false 1 (.tmp 32))⟩,
 ⟨none,none,(.sto false 1 (.tmp 33) (.const (.int .i64 7)))⟩])
 .ret)
 .skip))
 (.seq
 (.ops [
 ⟨(some 34),none,(.mv (.tmp 0))⟩,
 ⟨(some 35),none,(.nck (.tmp 34))⟩,
 ⟨(some 36),none,(.fad 0 true 22 (.tmp 35))⟩,
 ⟨(some 37),none,(.fad 20 false 1 (.tmp 36))⟩,
 ⟨(some 38),none,(.ld false 1 (.tmp 37))⟩,
 ⟨(some 39),none,(.bin .add (.tmp 38) (.const (.int .i64 1)))⟩,
 ⟨(some 40),none,(.nck (.tmp 34))⟩,
 ⟨(some 41),none,(.fad 0 true 22 (.tmp 40))⟩,
 ⟨(some 42),none,(.fad 20 false 1 (.tmp 41))⟩,
 ⟨none,none,(.sto false 1 (.tmp 42) (.tmp 39))⟩])
 (.seq
 (.ops [
 ⟨(some 43),none,(.mv (.tmp 0))⟩,
 ⟨(some 44),none,(.nck (.tmp 43))⟩,
 ⟨(some 45),none,(.fad 27 false 1 (.tmp 44))⟩,
 ⟨(some 46),none,(.ld false 1 (.tmp 45))⟩,
 ⟨(some 47),none,(.mv (.tmp 0))⟩,
 ⟨(some 48),none,(.nck (.tmp 47))⟩,
 ⟨(some 49),none,(.fad 0 true 22 (.tmp 48))⟩,
 ⟨(some 50),none,(.fad 0 false 1 (.tmp 49))⟩,
 ⟨(some 51),none,(.ld false 1 (.tmp 50))⟩,
 ⟨(some 52),none,(.idx 1 (.tmp 46) (.tmp 51))⟩,
 ⟨(some 53),none,(.ld false 1 (.tmp 52))⟩,
 ⟨(some 54),none,(.bin .add (.tmp 53) (.const (.int .i64 1)))⟩,
 ⟨(some 55),none,(.idx 1 (.tmp 46) (.tmp 51))⟩,
 ⟨none,none,(.sto false 1 (.tmp 55) (.tmp 54))⟩])
 (.seq
 (.par true (.one ⟨(some 56),none,(.mv (.tmp 0))⟩ (.one ⟨(some 57),none,(.nck (.tmp 56))⟩ (.one ⟨(some 58),none,(.fad 23 false 1 (.tmp 57))⟩ (.one ⟨(some 59),none,(.ld false 1 (.tmp 58))⟩ (.one ⟨(some 60),none,(.mv (.tmp 0))⟩ (.one ⟨(some 61),none,(.nck (.tmp 60))⟩ (.one ⟨(some 62),none,(.fad 0 true 22 (.tmp 61))⟩ (.one ⟨(some 63),none,(.fad 0 false 1 (.tmp 62))⟩ (.one ⟨(some 64),none,(.ld false 1 (.tmp 63))⟩ (.one ⟨(some 65),none,(.idx 4 (.tmp 59) (.tmp 64))⟩ (.one ⟨(some 66),none,(.ld true 4 (.tmp 65))⟩ (.one ⟨(some 2),none,(.alc 121 [(.int .i64 0),(.int .i64 0),(.int .i64 0),(.int .i64 0)])⟩ (.one ⟨none,none,(.sto true 4 (.tmp 2) (.tmp 66))⟩ .done))))))))))))))
 (.seq
 (.seq
 (.ops [
 ⟨(some 67),none,(.mv (.tmp 0))⟩,
 ⟨(some 68),none,(.nck (.tmp 67))⟩,
 ⟨(some 69),none,(.fad 24 false 1 (.tmp 68))⟩,
 ⟨(some 70),none,(.ld false 1 (.tmp 69))⟩,
 ⟨(some 71),none,(.mv (.tmp 0))⟩,
 ⟨(some 72),none,(.nck (.tmp 71))⟩,
 ⟨(some 73),none,(.fad 0 true 22 (.tmp 72))⟩,
 ⟨(some 74),none,(.fad 0 false 1 (.tmp 73))⟩,
 ⟨(some 75),none,(.ld false 1 (.tmp 74))⟩,
 ⟨(some 76),none,(.idx 1 (.tmp 70) (.tmp 75))⟩,
 ⟨(some 77),none,(.ld false 1 (.tmp 76))⟩,
 ⟨(some 78),none,(.un .not (.tmp 77))⟩])
 (.cond (.tmp 78)
 (.seq
 (.ops [
 ⟨(some 79),none,(.mv (.tmp 0))⟩,
 ⟨(some 80),none,(.nck (.tmp 79))⟩,
 ⟨(some 81),none,(.fad 0 true 22 (.tmp 80))⟩,
 ⟨(some 82),none,(.fad 21 false 1 (.tmp 81))⟩,
 ⟨none,none,(.sto false 1 (.tmp 82) (.const (.int .i64 6)))⟩])
 .ret)
 .skip))
 (.seq
 (.ops [
 ⟨(some 83),none,(.mv (.tmp 0))⟩,
 ⟨(some 84),none,(.fad 1 false 1 (.tmp 2))⟩,
 ⟨(some 85),none,(.ld false 1 (.tmp 84))⟩,
 ⟨(some 86),none,(.nck (.tmp 83))⟩,
 ⟨(some 87),none,(.fad 0 true 22 (.tmp 86))⟩,
 ⟨(some 88),none,(.fad 1 true 16 (.tmp 87))⟩,
 ⟨(some 89),none,(.aidx 16 false 1 (.tmp 88) (.tmp 85))⟩,
 ⟨(some 90),none,(.ld false 1 (.tmp 89))⟩,
 ⟨(some 3),none,(.mv (.tmp 90))⟩])
 (.seq
 (.ops [
 ⟨(some 91),none,(.fad 0 false 1 (.tmp 2))⟩,
 ⟨(some 92),none,(.ld false 1 (.tmp 91))⟩])
 (.block 0
 (.seq
 (.ops [
 ⟨(some 127),none,(.bin .eql (.tmp 92) (.const (.int .i64 1)))⟩,
 ⟨(some 126),none,(.mv (.tmp 127))⟩])
 (.cond (.tmp 126)
 (.ops [
 ⟨(some 128),none,(.mv (.tmp 0))⟩,
 ⟨(some 129),none,(.fad 1 false 1 (.tmp 2))⟩,
 ⟨(some 130),none,(.ld false 1 (.tmp 129))⟩,
 ⟨(some 131),none,(.fad 3 false 1 (.tmp 2))⟩,
 ⟨(some 132),none,(.ld false 1 (.tmp 131))⟩,
 ⟨(some 133),none,(.conv .u32 (.tmp 132))⟩,
 ⟨(some 134),none,(.call (.func 89) [(.tmp 128),(.tmp 130),(.tmp 133)])⟩])
 (.seq
 (.ops [
 ⟨(some 136),none,(.bin .eql (.tmp 92) (.const (.int .i64 2)))⟩,
 ⟨(some 135),none,(.mv (.tmp 136))⟩])
 (.cond (.tmp 135)
 (.ops [
 ⟨(some 137),none,(.mv (.tmp 0))⟩,
 ⟨(some 138),none,(.fad 1 false 1 (.tmp 2))⟩,
 ⟨(some 139),none,(.ld false 1 (.tmp 138))⟩,
 ⟨(some 140),none,(.mv (.tmp 3))⟩,
 ⟨(some 141),none,(.bin .rem (.tmp 140) (.const (.int .u32 65536)))⟩,
 ⟨(some 142),none,(.fad 3 false 1 (.tmp 2))⟩,
 ⟨(some 143),none,(.ld false 1 (.tmp 142))⟩,
 ⟨(some 144),none,(.conv .u32 (.tmp 143))⟩,
 ⟨(some 145),none,(.bin .mul (.tmp 144) (.const (.int .u32 65536)))⟩,
 ⟨(some 146),none,(.bin .add (.tmp 141) (.tmp 145))⟩,
 ⟨(some 147),none,(.call (.func 89) [(.tmp 137),(.tmp 139),(.tmp 146)])⟩])
 (.seq
 (.ops [
 ⟨(some 149),none,(.bin .eql (.tmp 92) (.const (.int .i64 3)))⟩,
 ⟨(some 148),none,(.mv (.tmp 149))⟩])
 (.cond (.tmp 148)
 (.ops [
 ⟨(some 150),none,(.mv (.tmp 0))⟩,
 ⟨(some 151),none,(.fad 1 false 1 (.tmp 2))⟩,
 ⟨(some 152),none,(.ld false 1 (.tmp 151))⟩,
 ⟨(some 153),none,(.mv (.tmp 0))⟩,
 ⟨(some 154),none,(.fad 2 false 1 (.tmp 2))⟩,
 ⟨(some 155),none,(.ld false 1 (.tmp 154))⟩,
 ⟨(some 156),none,(.nck (.tmp 153))⟩,
 ⟨(some 157),none,(.fad 0 true 22 (.tmp 156))⟩,
 ⟨(some 158),none,(.fad 1 true 16 (.tmp 157))⟩,
 ⟨(some 159),none,(.aidx 16 false 1 (.tmp 158) (.tmp 155))⟩,
 ⟨(some 160),none,(.ld false 1 (.tmp 159))⟩,
 ⟨(some 161),none,(.call (.func 89) [(.tmp 150),(.tmp 152),(.tmp 160)])⟩])
 (.seq
 (.seq
 (.ops [
 ⟨(some 163),none,(.bin .eql (.tmp 92) (.const (.int .i64 16)))⟩,
 ⟨(some 162),none,(.mv (.tmp 163))⟩])
 (.cond (.tmp 162)
 .skip
 (.ops [
 ⟨(some 164),none,(.bin .eql (.tmp 92) (.const (.int .i64 27)))⟩,
 ⟨(some 162),none,(.mv (.tmp 164))⟩])))
 (.cond (.tmp 162)
 (.seq
 (.ops [
 ⟨(some 165),none,(.mv (.tmp 0))⟩,
 ⟨(some 166),none,(.nck (.tmp 165))⟩,
 ⟨(some 167),none,(.fad 0 true 22 (.tmp 166))⟩,
 ⟨(some 168),none,(.fad 17 false 1 (.tmp 167))⟩,
 ⟨(some 169),none,(.ld false 1 (.tmp 168))⟩,
 ⟨(some 4),none,(.mv (.tmp 169))⟩])
 (.seq
 (.seq
 (.ops [
 ⟨(some 170),none,(.fad 0 false 1 (.tmp 2))⟩,
 ⟨(some 171),none,(.ld false 1 (.tmp 170))⟩,
 ⟨(some 172),none,(.bin .eql (.tmp 171) (.const (.int .i64 27)))⟩])
 (.cond (.tmp 172)
 (.ops [
 ⟨(some 173),none,(.mv (.tmp 0))⟩,
 ⟨(some 174),none,(.nck (.tmp 173))⟩,
 ⟨(some 175),none,(.fad 25 false 1 (.tmp 174))⟩,
 ⟨(some 176),none,(.ld false 1 (.tmp 175))⟩,
 ⟨(some 4),none,(.mv (.tmp 176))⟩])
 .skip))
 (.seq
 (.par true (.one ⟨(some 178),none,(.mv (.tmp 4))⟩ (.one ⟨(some 179),none,(.mv (.tmp 0))⟩ (.one ⟨(some 180),none,(.fad 2 false 1 (.tmp 2))⟩ (.one ⟨(some 181),none,(.ld false 1 (.tmp 180))⟩ (.one ⟨(some 182),none,(.nck (.tmp 179))⟩ (.one ⟨(some 183),none,(.fad 0 true 22 (.tmp 182))⟩ (.one ⟨(some 184),none,(.fad 1 true 16 (.tmp 183))⟩ (.one ⟨(some 185),none,(.aidx 16 false 1 (.tmp 184) (.tmp 181))⟩ (.one ⟨(some 186),none,(.ld false 1 (.tmp 185))⟩ (.one ⟨(some 187),none,(.fad 3 false 1 (.tmp 2))⟩ (.one ⟨(some 188),none,(.ld false 1 (.tmp 187))⟩ (.one ⟨(some 189),none,(.call (.func 90) [(.tmp 178),(.tmp 186),(.tmp 188)])⟩ (.one ⟨(some 177),none,(.mv (.tmp 189))⟩ (.one ⟨(some 190),none,(.ext (.tmp 177) 0)⟩ (.one ⟨(some 191),none,(.ext (.tmp 177) 1)⟩ (.one ⟨(some 5),none,(.mv (.tmp 190))⟩ (.one ⟨(some 6),none,(.mv (.tmp 191))⟩ .done))))))))))))))))))
 (.seq
 (.seq
 (.ops [
 ⟨(some 192),none,(.mv (.tmp 6))⟩,
 ⟨(some 193),none,(.un .not (.tmp 192))⟩])
 (.cond (.tmp 193)
 (.seq
 (.ops [
 ⟨(some 194),none,(.mv (.tmp 0))⟩,
 ⟨(some 195),none,(.nck (.tmp 194))⟩,
 ⟨(some 196),none,(.fad 0 true 22 (.tmp 195))⟩,
 ⟨(some 197),none,(.fad 21 false 1 (.tmp 196))⟩,
 ⟨none,none,(.sto false 1 (.tmp 197) (.const (.int .i64 8)))⟩])
 .ret)
 .skip))
 (.ops [
 ⟨(some 198),none,(.mv (.tmp 0))⟩,
 ⟨(some 199),none,(.fad 1 false 1 (.tmp 2))⟩,
 ⟨(some 200),none,(.ld false 1 (.tmp 199))⟩,
 ⟨(some 201),none,(.mv (.tmp 5))⟩,
 ⟨(some 202),none,(.call (.func 89) [(.tmp 198),(.tmp 200),(.tmp 201)])⟩])))))
 (.seq
 (.ops [
 ⟨(some 204),none,(.bin .eql (.tmp 92) (.const (.int .i64 17)))⟩,
 ⟨(some 203),none,(.mv (.tmp 204))⟩])
 (.cond (.tmp 203)
 (.seq
 (.ops [
 ⟨(some 205),none,(.mv (.tmp 0))⟩,
 ⟨(some 206),none,(.fad 2 false 1 (.tmp 2))⟩,
 ⟨(some 207),none,(.ld false 1 (.tmp 206))⟩,
 ⟨(some 208),none,(.nck (.tmp 205))⟩,
 ⟨(some 209),none,(.fad 0 true 22 (.tmp 208))⟩,
 ⟨(some 210),none,(.fad 1 true 16 (.tmp 209))⟩,
 ⟨(some 211),none,(.aidx 16 false 1 (.tmp 210) (.tmp 207))⟩,
 ⟨(some 212),none,(.ld false 1 (.tmp 211))⟩,
 ⟨(some 213),none,(.fad 3 false 1 (.tmp 2))⟩,
 ⟨(some 214),none,(.ld false 1 (.tmp 213))⟩,
 ⟨(some 215),none,(.conv .u32 (.tmp 214))⟩,
 ⟨(some 216),none,(.bin .add (.tmp 212) (.tmp 215))⟩,
 ⟨(some 7),none,(.mv (.tmp 216))⟩])
 (.seq
 (.seq
 (.ops [
 ⟨(some 217),none,(.mv (.tmp 7))⟩,
 ⟨(some 218),none,(.conv .u64 (.tmp 217))⟩,
 ⟨(some 219),none,(.mv (.tmp 0))⟩,
 ⟨(some 220),none,(.nck (.tmp 219))⟩,
 ⟨(some 221),none,(.fad 0 true 22 (.tmp 220))⟩,
 ⟨(some 222),none,(.fad 17 false 1 (.tmp 221))⟩,
 ⟨(some 223),none,(.ld false 1 (.tmp 222))⟩,
 ⟨(some 224),none,(.len (.tmp 223))⟩,
 ⟨(some 225),none,(.conv .u64 (.tmp 224))⟩,
 ⟨(some 226),none,(.bin .geq (.tmp 218) (.tmp 225))⟩])
 (.cond (.tmp 226)
 (.seq
 (.ops [
 ⟨(some 227),none,(.mv (.tmp 0))⟩,
 ⟨(some 228),none,(.nck (.tmp 227))⟩,
 ⟨(some 229),none,(.fad 0 true 22 (.tmp 228))⟩,
 ⟨(some 230),none,(.fad 21 false 1 (.tmp 229))⟩,
 ⟨none,none,(.sto false 1 (.tmp 230) (.const (.int .i64 8)))⟩])
 .ret)
 .skip))
 (.seq
 (.ops [
 ⟨(some 231),none,(.mv (.tmp 0))⟩,
 ⟨(some 232),none,(.nck (.tmp 231))⟩,
 ⟨(some 233),none,(.fad 0 true 22 (.tmp 232))⟩,
 ⟨(some 234),none,(.fad 17 false 1 (.tmp 233))⟩,
 ⟨(some 235),none,(.ld false 1 (.tmp 234))⟩,
 ⟨(some 236),none,(.mv (.tmp 7))⟩,
 ⟨(some 237),none,(.mv (.tmp 3))⟩,
 ⟨(some 238),none,(.idx 1 (.tmp 235) (.tmp 236))⟩,
 ⟨none,none,(.sto false 1 (.tmp 238) (.tmp 237))⟩])
 (.ops [
 ⟨(some 239),none,(.mv (.tmp 0))⟩,
 ⟨(some 240),none,(.nck (.tmp 239))⟩,
 ⟨(some 241),none,(.fad 0 true 22 (.tmp 240))⟩,
 ⟨(some 242),none,(.fad 0 false 1 (.tmp 241))⟩,
 ⟨(some 243),none,(.ld false 1 (.tmp 242))⟩,
 ⟨(some 244),none,(.bin .add (.tmp 243) (.const (.int .i64 1)))⟩,
 ⟨(some 245),none,(.nck (.tmp 239))⟩,
 ⟨(some 246),none,(.fad 0 true 22 (.tmp 245))⟩,
 ⟨(some 247),none,(.fad 0 false 1 (.tmp 246))⟩,
 ⟨none,none,(.sto false 1 (.tmp 247) (.tmp 244))⟩]))))
 (.seq
 (.ops [
 ⟨(some 249),none,(.bin .eql (.tmp 92) (.const (.int .i64 18)))⟩,
 ⟨(some 248),none,(.mv (.tmp 249))⟩])
 (.cond (.tmp 248)
 (.ops [
 ⟨(some 250),none,(.mv (.tmp 0))⟩,
 ⟨(some 251),none,(.fad 3 false 1 (.tmp 2))⟩,
 ⟨(some 252),none,(.ld false 1 (.tmp 251))⟩,
 ⟨(some 253),none,(.nck (.tmp 250))⟩,
 ⟨(some 254),none,(.fad 0 true 22 (.tmp 253))⟩,
 ⟨(some 255),none,(.fad 0 false 1 (.tmp 254))⟩,
 ⟨none,none,(.sto false 1 (.tmp 255) (.tmp 252))⟩])
 (.seq
 (.ops [
 ⟨(some 257),none,(.bin .eql (.tmp 92) (.const (.int .i64 19)))⟩,
 ⟨(some 256),none,(.mv (.tmp 257))⟩])
 (.cond (.tmp 256)
 (.ops [
 ⟨(some 258),none,(.mv (.tmp 0))⟩,
 ⟨(some 259),none,(.mv (.tmp 3))⟩,
 ⟨(some 260),none,(.bin .eql (.tmp 259) (.const (.int .u32 0)))⟩,
 ⟨(some 261),none,(.fad 3 false 1 (.tmp 2))⟩,
 ⟨(some 262),none,(.ld false 1 (.tmp 261))⟩,
 ⟨(some 263),none,(.call (.func 91) [(.tmp 258),(.tmp 260),(.tmp 262)])⟩])
 (.seq
 (.ops [
 ⟨(some 265),none,(.bin .eql (.tmp 92) (.const (.int .i64 20)))⟩,
 ⟨(some 264),none,(.mv (.tmp 265))⟩])
 (.cond (.tmp 264)
 (.ops [
 ⟨(some 266),none,(.mv (.tmp 0))⟩,
 ⟨(some 267),none,(.mv (.tmp 3))⟩,
 ⟨(some 268),none,(.bin .neq (.tmp 267) (.const (.int .u32 0)))⟩,
 ⟨(some 269),none,(.fad 3 false 1 (.tmp 2))⟩,
 ⟨(some 270),none,(.ld false 1 (.tmp 269))⟩,
 ⟨(some 271),none,(.call (.func 91) [(.tmp 266),(.tmp 268),(.tmp 270)])⟩])
 (.seq
 (.ops [
 ⟨(some 273),none,(.bin .eql (.tmp 92) (.const (.int .i64 21)))⟩,
 ⟨(some 272),none,(.mv (.tmp 273))⟩])
 (.cond (.tmp 272)
 (.seq
 (.ops [
 ⟨(some 274),none,(.mv (.tmp 0))⟩,
 ⟨(some 275),none,(.fad 1 false 1 (.tmp 2))⟩,
 ⟨(some 276),none,(.ld false 1 (.tmp 275))⟩,
 ⟨(some 277),none,(.mv (.tmp 0))⟩,
 ⟨(some 278),none,(.nck (.tmp 277))⟩,
 ⟨(some 279),none,(.fad 0 true 22 (.tmp 278))⟩,
 ⟨(some 280),none,(.fad 0 false 1 (.tmp 279))⟩,
 ⟨(some 281),none,(.ld false 1 (.tmp 280))⟩,
 ⟨(some 282),none,(.conv .u32 (.tmp 281))⟩,
 ⟨(some 283),none,(.bin .add (.tmp 282) (.const (.int .u32 1)))⟩,
 ⟨(some 284),none,(.nck (.tmp 274))⟩,
 ⟨(some 285),none,(.fad 0 true 22 (.tmp 284))⟩,
 ⟨(some 286),none,(.fad 1 true 16 (.tmp 285))⟩,
 ⟨(some 287),none,(.aidx 16 false 1 (.tmp 286) (.tmp 276))⟩,
 ⟨none,none,(.sto false 1 (.tmp 287) (.tmp 283))⟩])
 (.ops [
 ⟨(some 288),none,(.mv (.tmp 0))⟩,
 ⟨(some 289),none,(.fad 3 false 1 (.tmp 2))⟩,
 ⟨(some 290),none,(.ld false 1 (.tmp 289))⟩,
 ⟨(some 291),none,(.nck (.tmp 288))⟩,
 ⟨(some 292),none,(.fad 0 true 22 (.tmp 291))⟩,
 ⟨(some 293),none,(.fad 0 false 1 (.tmp 292))⟩,
 ⟨none,none,(.sto false 1 (.tmp 293) (.tmp 290))⟩]))
 (.seq
 (.ops [
 ⟨(some 295),none,(.bin .eql (.tmp 92) (.const (.int .i64 22)))⟩,
 ⟨(some 294),none,(.mv (.tmp 295))⟩])
 (.cond (.tmp 294)
 (.ops [
 ⟨(some 296),none,(.mv (.tmp 0))⟩,
 ⟨(some 297),none,(.mv (.tmp 3))⟩,
 ⟨(some 298),none,(.conv .i64 (.tmp 297))⟩,
 ⟨(some 299),none,(.nck (.tmp 296))⟩,
 ⟨(some 300),none,(.fad 0 true 22 (.tmp 299))⟩,
 ⟨(some 301),none,(.fad 0 false 1 (.tmp 300))⟩,
 ⟨none,none,(.sto false 1 (.tmp 301) (.tmp 298))⟩])
 (.seq
 (.ops [
 ⟨(some 303),none,(.bin .eql (.tmp 92) (.const (.int .i64 23)))⟩,
 ⟨(some 302),none,(.mv (.tmp 303))⟩])
 (.cond (.tmp 302)
 (.seq
 (.seq
 (.ops [
 ⟨(some 304),none,(.mv (.tmp 0))⟩,
 ⟨(some 305),none,(.nck (.tmp 304))⟩,
 ⟨(some 306),none,(.fad 0 true 22 (.tmp 305))⟩,
 ⟨(some 307),none,(.fad 18 false 1 (.tmp 306))⟩,
 ⟨(some 308),none,(.ld false 1 (.tmp 307))⟩,
 ⟨(some 309),none,(.bin .lss (.tmp 308) (.const (.int .i64 0)))⟩,
 ⟨(some 310),none,(.mv (.tmp 309))⟩,
 ⟨(some 311),(some (310,false)),(.mv (.tmp 0))⟩,
 ⟨(some 312),(some (310,false)),(.nck (.tmp 311))⟩,
 ⟨(some 313),(some (310,false)),(.fad 0 true 22 (.tmp 312))⟩,
 ⟨(some 314),(some (310,false)),(.fad 18 false 1 (.tmp 313))⟩,
 ⟨(some 315),(some (310,false)),(.ld false 1 (.tmp 314))⟩,
 ⟨(some 316),(some (310,false)),(.mv (.tmp 0))⟩,
 ⟨(some 317),(some (310,false)),(.nck (.tmp 316))⟩,
 ⟨(some 318),(some (310,false)),(.fad 26 false 1 (.tmp 317))⟩,
 ⟨(some 319),(some (310,false)),(.ld false 1 (.tmp 318))⟩,
 ⟨(some 320),(some (310,false)),(.lens (.tmp 319))⟩,
 ⟨(some 321),(some (310,false)),(.bin .geq (.tmp 315) (.tmp 320))⟩,
 ⟨(some 322),none,(.pick (.tmp 310) (.const (.bool true)) (.tmp 321))⟩])
 (.cond (.tmp 322)
 (.seq
 (.ops [
 ⟨(some 323),none,(.mv (.tmp 0))⟩,
 ⟨(some 324),none,(.fad 1 false 1 (.tmp 2))⟩,
 ⟨(some 325),none,(.ld false 1 (.tmp 324))⟩,
 ⟨(some 326),none,(.call (.func 89) [(.tmp 323),(.tmp 325),(.const (.int .u32 256))])⟩])
 .ret)
 .skip))
 (.seq
 (.ops [
 ⟨(some 327),none,(.mv (.tmp 0))⟩,
 ⟨(some 328),none,(.nck (.tmp 327))⟩,
 ⟨(some 329),none,(.fad 26 false 1 (.tmp 328))⟩,
 ⟨(some 330),none,(.ld false 1 (.tmp 329))⟩,
 ⟨(some 331),none,(.mv (.tmp 0))⟩,
 ⟨(some 332),none,(.nck (.tmp 331))⟩,
 ⟨(some 333),none,(.fad 0 true 22 (.tmp 332))⟩,
 ⟨(some 334),none,(.fad 18 false 1 (.tmp 333))⟩,
 ⟨(some 335),none,(.ld false 1 (.tmp 334))⟩,
 ⟨(some 336),none,(.pur .six [(.tmp 330),(.tmp 335)])⟩,
 ⟨(some 337),none,(.conv .u32 (.tmp 336))⟩,
 ⟨(some 8),none,(.mv (.tmp 337))⟩])
 (.seq
 (.ops [
 ⟨(some 338),none,(.mv (.tmp 0))⟩,
 ⟨(some 339),none,(.nck (.tmp 338))⟩,
 ⟨(some 340),none,(.fad 0 true 22 (.tmp 339))⟩,
 ⟨(some 341),none,(.fad 18 false 1 (.tmp 340))⟩,
 ⟨(some 342),none,(.ld false 1 (.tmp 341))⟩,
 ⟨(some 343),none,(.bin .add (.tmp 342) (.const (.int .i64 1)))⟩,
 ⟨(some 344),none,(.nck (.tmp 338))⟩,
 ⟨(some 345),none,(.fad 0 true 22 (.tmp 344))⟩,
 ⟨(some 346),none,(.fad 18 false 1 (.tmp 345))⟩,
 ⟨none,none,(.sto false 1 (.tmp 346) (.tmp 343))⟩])
 (.ops [
 ⟨(some 347),none,(.mv (.tmp 0))⟩,
 ⟨(some 348),none,(.fad 1 false 1 (.tmp 2))⟩,
 ⟨(some 349),none,(.ld false 1 (.tmp 348))⟩,
 ⟨(some 350),none,(.mv (.tmp 8))⟩,
 ⟨(some 351),none,(.call (.func 89) [(.tmp 347),(.tmp 349),(.tmp 350)])⟩]))))
 (.seq
 (.ops [
 ⟨(some 353),none,(.bin .eql (.tmp 92) (.const (.int .i64 24)))⟩,
 ⟨(some 352),none,(.mv (.tmp 353))⟩])
 (.cond (.tmp 352)
 (.seq
 (.seq
 (.ops [
 ⟨(some 354),none,(.mv (.tmp 0))⟩,
 ⟨(some 355),none,(.nck (.tmp 354))⟩,
 ⟨(some 356),none,(.fad 22 false 1 (.tmp 355))⟩,
 ⟨(some 357),none,(.ld false 1 (.tmp 356))⟩,
 ⟨(some 358),none,(.len (.tmp 357))⟩,
 ⟨(some 359),none,(.bin .geq (.tmp 358) (.const (.int .i64 65536)))⟩])
 (.cond (.tmp 359)
 (.seq
 (.ops [
 ⟨(some 360),none,(.mv (.tmp 0))⟩,
 ⟨(some 361),none,(.nck (.tmp 360))⟩,
 ⟨(some 362),none,(.fad 0 true 22 (.tmp 361))⟩,
 ⟨(some 363),none,(.fad 21 false 1 (.tmp 362))⟩,
 ⟨none,none,(.sto false 1 (.tmp 363) (.const (.int .i64 4)))⟩])
 .ret)
 .skip))
 (.seq
 (.ops [
 ⟨(some 364),none,(.mv (.tmp 0))⟩,
 ⟨(some 365),none,(.mv (.tmp 0))⟩,
 ⟨(some 366),none,(.nck (.tmp 365))⟩,
 ⟨(some 367),none,(.fad 22 false 1 (.tmp 366))⟩,
 ⟨(some 368),none,(.ld false 1 (.tmp 367))⟩,
 ⟨(some 369),none,(.mv (.tmp 3))⟩,
 ⟨(some 370),none,(.bin .rem (.tmp 369) (.const (.int .u32 256)))⟩,
 ⟨(some 371),none,(.conv .u8 (.tmp 370))⟩,
 ⟨(some 372),none,(.bsl 5 1 1 [(.int .u8 0)] [(0,(1,(.tmp 371)))])⟩,
 ⟨(some 373),none,(.app 5 1 1 (.tmp 368) (.tmp 372))⟩,
 ⟨(some 374),none,(.nck (.tmp 364))⟩,
 ⟨(some 375),none,(.fad 22 false 1 (.tmp 374))⟩,
 ⟨none,none,(.sto false 1 (.tmp 375) (.tmp 373))⟩])
 (.ops [
 ⟨(some 376),none,(.mv (.tmp 0))⟩,
 ⟨(some 377),none,(.nck (.tmp 376))⟩,
 ⟨(some 378),none,(.fad 0 true 22 (.tmp 377))⟩,
 ⟨(some 379),none,(.fad 0 false 1 (.tmp 378))⟩,
 ⟨(some 380),none,(.ld false 1 (.tmp 379))⟩,
 ⟨(some 381),none,(.bin .add (.tmp 380) (.const (.int .i64 1)))⟩,
 ⟨(some 382),none,(.nck (.tmp 376))⟩,
 ⟨(some 383),none,(.fad 0 true 22 (.tmp 382))⟩,
 ⟨(some 384),none,(.fad 0 false 1 (.tmp 383))⟩,
 ⟨none,none,(.sto false 1 (.tmp 384) (.tmp 381))⟩])))
 (.seq
 (.ops [
 ⟨(some 386),none,(.bin .eql (.tmp 92) (.const (.int .i64 25)))⟩,
 ⟨(some 385),none,(.mv (.tmp 386))⟩])
 (.cond (.tmp 385)
 (.seq
 (.seq
 (.ops [
 ⟨(some 387),none,(.mv (.tmp 3))⟩,
 ⟨(some 388),none,(.fad 3 false 1 (.tmp 2))⟩,
 ⟨(some 389),none,(.ld false 1 (.tmp 388))⟩,
 ⟨(some 390),none,(.conv .u32 (.tmp 389))⟩,
 ⟨(some 391),none,(.bin .geq (.tmp 387) (.tmp 390))⟩])
 (.cond (.tmp 391)
 (.seq
 (.ops [
 ⟨(some 392),none,(.mv (.tmp 0))⟩,
 ⟨(some 393),none,(.nck (.tmp 392))⟩,
 ⟨(some 394),none,(.fad 0 true 22 (.tmp 393))⟩,
 ⟨(some 395),none,(.fad 21 false 1 (.tmp 394))⟩,
 ⟨none,none,(.sto false 1 (.tmp 395) (.const (.int .i64 3)))⟩])
 .ret)
 .skip))
 (.ops [
 ⟨(some 396),none,(.mv (.tmp 0))⟩,
 ⟨(some 397),none,(.nck (.tmp 396))⟩,
 ⟨(some 398),none,(.fad 0 true 22 (.tmp 397))⟩,
 ⟨(some 399),none,(.fad 0 false 1 (.tmp 398))⟩,
 ⟨(some 400),none,(.ld false 1 (.tmp 399))⟩,
 ⟨(some 401),none,(.bin .add (.tmp 400) (.const (.int .i64 1)))⟩,
 ⟨(some 402),none,(.nck (.tmp 396))⟩,
 ⟨(some 403),none,(.fad 0 true 22 (.tmp 402))⟩,
 ⟨(some 404),none,(.fad 0 false 1 (.tmp 403))⟩,
 ⟨none,none,(.sto false 1 (.tmp 404) (.tmp 401))⟩]))
 (.seq
 (.ops [
 ⟨(some 406),none,(.bin .eql (.tmp 92) (.const (.int .i64 26)))⟩,
 ⟨(some 405),none,(.mv (.tmp 406))⟩])
 (.cond (.tmp 405)
 (.ops [
 ⟨(some 407),none,(.mv (.tmp 0))⟩,
 ⟨(some 408),none,(.nck (.tmp 407))⟩,
 ⟨(some 409),none,(.fad 0 true 22 (.tmp 408))⟩,
 ⟨(some 410),none,(.fad 21 false 1 (.tmp 409))⟩,
 ⟨none,none,(.sto false 1 (.tmp 410) (.const (.int .i64 1)))⟩])
 (.seq
 (.par true (.one ⟨(some 94),none,(.fad 0 false 1 (.tmp 2))⟩ (.one ⟨(some 95),none,(.ld false 1 (.tmp 94))⟩ (.one ⟨(some 96),none,(.mv (.tmp 0))⟩ (.one ⟨(some 97),none,(.fad 2 false 1 (.tmp 2))⟩ (.one ⟨(some 98),none,(.ld false 1 (.tmp 97))⟩ (.one ⟨(some 99),none,(.nck (.tmp 96))⟩ (.one ⟨(some 100),none,(.fad 0 true 22 (.tmp 99))⟩ (.one ⟨(some 101),none,(.fad 1 true 16 (.tmp 100))⟩ (.one ⟨(some 102),none,(.aidx 16 false 1 (.tmp 101) (.tmp 98))⟩ (.one ⟨(some 103),none,(.ld false 1 (.tmp 102))⟩ (.one ⟨(some 104),none,(.mv (.tmp 0))⟩ (.one ⟨(some 105),none,(.fad 3 false 1 (.tmp 2))⟩ (.one ⟨(some 106),none,(.ld false 1 (.tmp 105))⟩ (.one ⟨(some 107),none,(.nck (.tmp 104))⟩ (.one ⟨(some 108),none,(.fad 0 true 22 (.tmp 107))⟩ (.one ⟨(some 109),none,(.fad 1 true 16 (.tmp 108))⟩ (.one ⟨(some 110),none,(.aidx 16 false 1 (.tmp 109) (.tmp 106))⟩ (.one ⟨(some 111),none,(.ld false 1 (.tmp 110))⟩ (.one ⟨(some 112),none,(.call (.func 92) [(.tmp 95),(.tmp 103),(.tmp 111)])⟩ (.one ⟨(some 93),none,(.mv (.tmp 112))⟩ (.one ⟨(some 113),none,(.ext (.tmp 93) 0)⟩ (.one ⟨(some 114),none,(.ext (.tmp 93) 1)⟩ (.one ⟨(some 9),none,(.mv (.tmp 113))⟩ (.one ⟨(some 10),none,(.mv (.tmp 114))⟩ .done)))))))))))))))))))))))))
 (.seq
 (.seq
 (.ops [
 ⟨(some 115),none,(.mv (.tmp 10))⟩,
 ⟨(some 116),none,(.bin .neq (.tmp 115) (.const (.int .i64 0)))⟩])
 (.cond (.tmp 116)
 (.seq
 (.ops [
 ⟨(some 117),none,(.mv (.tmp 0))⟩,
 ⟨(some 118),none,(.nck (.tmp 117))⟩,
 ⟨(some 119),none,(.fad 0 true 22 (.tmp 118))⟩,
 ⟨(some 120),none,(.fad 21 false 1 (.tmp 119))⟩,
 ⟨none,none,(.sto false 1 (.tmp 120) (.const (.int .i64 2)))⟩])
 .ret)
 .skip))
 (.ops [
 ⟨(some 121),none,(.mv (.tmp 0))⟩,
 ⟨(some 122),none,(.fad 1 false 1 (.tmp 2))⟩,
 ⟨(some 123),none,(.ld false 1 (.tmp 122))⟩,
 ⟨(some 124),none,(.mv (.tmp 9))⟩,
 ⟨(some 125),none,(.call (.func 89) [(.tmp 121),(.tmp 123),(.tmp 124)])⟩])))))))))))))))))))))))))))))))))))))))
theorem a8Y:b4j Tryz.prog false true 78=some (411,a1O,[]):=by kernel_rfl
def a5R:VC :=
 (.seq
 (.seq
 (.ops [
 ⟨(some 14),none,(.mv (.const (.int .i64 0)))⟩])
 (.block 0
 (.loop
 (.seq
 (.seq
 (.ops [
 ⟨(some 49),none,(.mv (.tmp 14))⟩,
 ⟨(some 50),none,(.mv (.tmp 3))⟩,
 ⟨(some 51),none,(.bin .lss (.tmp 49) (.tmp 50))⟩,
 ⟨(some 52),none,(.mv (.tmp 51))⟩,
 ⟨(some 53),(some (52,true)),(.fad 0 true 22 (.tmp 13))⟩,
 ⟨(some 54),(some (52,true)),(.fad 21 false 1 (.tmp 53))⟩,
 ⟨(some 55),(some (52,true)),(.ld false 1 (.tmp 54))⟩,
 ⟨(some 56),(some (52,true)),(.bin .eql (.tmp 55) (.const (.int .i64 0)))⟩,
 ⟨(some 57),none,(.pick (.tmp 52) (.tmp 56) (.const (.bool false)))⟩])
 (.cond (.tmp 57)
 .skip
 (.exit 0)))
 (.seq
 (.block 1
 (.ops [
 ⟨(some 60),none,(.call (.func 78) [(.tmp 13)])⟩]))
 (.ops [
 ⟨(some 58),none,(.mv (.tmp 14))⟩,
 ⟨(some 59),none,(.bin .add (.tmp 58) (.const (.int .i64 1)))⟩,
 ⟨(some 14),none,(.mv (.tmp 59))⟩]))))))
 (.seq
 (.ops [
 ⟨(some 61),none,(.fad 22 false 1 (.tmp 13))⟩,
 ⟨(some 62),none,(.ld false 1 (.tmp 61))⟩,
 ⟨(some 63),none,(.see .b2s [(.tmp 62)])⟩,
 ⟨(some 64),none,(.fad 0 true 22 (.tmp 13))⟩,
 ⟨(some 65),none,(.fad 19 false 1 (.tmp 64))⟩,
 ⟨none,none,(.sto false 1 (.tmp 65) (.tmp 63))⟩])
 (.seq
 (.par false (.one ⟨(some 66),none,(.fad 0 true 22 (.tmp 13))⟩ (.one ⟨(some 67),none,(.ld true 22 (.tmp 66))⟩ (.one ⟨(some 68),none,(.fad 27 false 1 (.tmp 13))⟩ (.both (.one ⟨(some 69),none,(.ld false 1 (.tmp 68))⟩ (.one ⟨none,none,(.sto true 22 (.tmp 8) (.tmp 67))⟩ (.one ⟨(some 9),none,(.mv (.tmp 69))⟩ .done))) (.one ⟨none,none,(.sto true 22 (.tmp 8) (.tmp 67))⟩ (.one ⟨(some 69),none,(.ld false 1 (.tmp 68))⟩ (.one ⟨(some 9),none,(.mv (.tmp 69))⟩ .done))))))))
 .ret)))
def a9U:VC :=
 (.seq
 (.ops [
 ⟨(some 4),none,(.box 42 (.tmp 0))⟩,
 ⟨(some 6),none,(.box 99 (.tmp 2))⟩,
 ⟨(some 8),none,(.alc 99 [(.int .i64 0),(.int .u32 0),(.int .u32 0),(.int .u32 0),(.int .u32 0),(.int .u32 0),(.int .u32 0),(.int .u32 0),(.int .u32 0),(.int .u32 0),(.int .u32 0),(.int .u32 0),(.int .u32 0),(.int .u32 0),(.int .u32 0),(.int .u32 0),(.int .u32 0),(.slice none 0 0),(.int .i64 0),(.string ⟨#[]⟩),(.int .i64 0),(.int .i64 0)])⟩,
 ⟨(some 9),none,(.mv (.const (.slice none 0 0)))⟩])
 (.seq
 (.ops [
 ⟨(some 16),none,(.ld true 2 (.tmp 4))⟩,
 ⟨(some 17),none,(.call (.func 77) [(.tmp 16)])⟩,
 ⟨(some 15),none,(.mv (.tmp 17))⟩,
 ⟨(some 18),none,(.ext (.tmp 15) 0)⟩,
 ⟨(some 19),none,(.ext (.tmp 15) 1)⟩,
 ⟨(some 10),none,(.mv (.tmp 18))⟩,
 ⟨(some 11),none,(.mv (.tmp 19))⟩])
 (.seq
 (.par true (.one ⟨(some 20),none,(.fad 0 false 1 (.tmp 6))⟩ (.one ⟨(some 21),none,(.ld false 1 (.tmp 20))⟩ (.one ⟨(some 22),none,(.fad 1 true 16 (.tmp 6))⟩ (.one ⟨(some 23),none,(.ld true 16 (.tmp 22))⟩ (.one ⟨(some 25),none,(.fad 17 false 1 (.tmp 6))⟩ (.one ⟨(some 26),none,(.ld false 1 (.tmp 25))⟩ (.one ⟨(some 28),none,(.fad 18 false 1 (.tmp 6))⟩ (.one ⟨(some 29),none,(.ld false 1 (.tmp 28))⟩ (.one ⟨(some 30),none,(.fad 20 false 1 (.tmp 6))⟩ (.one ⟨(some 31),none,(.ld false 1 (.tmp 30))⟩ (.one ⟨(some 32),none,(.fad 21 false 1 (.tmp 6))⟩ (.one ⟨(some 33),none,(.ld false 1 (.tmp 32))⟩ (.both (.one ⟨(some 24),none,(.bsl 93 1 0 [] [])⟩ (.both (.one ⟨(some 27),none,(.app 93 1 4 (.tmp 24) (.tmp 26))⟩ (.one ⟨(some 34),none,(.bld [(.int .i64 0),(.int .u32 0),(.int .u32 0),(.int .u32 0),(.int .u32 0),(.int .u32 0),(.int .u32 0),(.int .u32 0),(.int .u32 0),(.int .u32 0),(.int .u32 0),(.int .u32 0),(.int .u32 0),(.int .u32 0),(.int .u32 0),(.int .u32 0),(.int .u32 0),(.slice none 0 0),(.int .i64 0),(.string ⟨#[]⟩),(.int .i64 0),(.int .i64 0)] [(0,(1,(.tmp 21))),(1,(16,(.tmp 23))),(17,(1,(.tmp 27))),(18,(1,(.tmp 29))),(20,(1,(.tmp 31))),(21,(1,(.tmp 33)))])⟩ (.one ⟨(some 12),none,(.alc 99 [(.int .i64 0),(.int .u32 0),(.int .u32 0),(.int .u32 0),(.int .u32 0),(.int .u32 0),(.int .u32 0),(.int .u32 0),(.int .u32 0),(.int .u32 0),(.int .u32 0),(.int .u32 0),(.int .u32 0),(.int .u32 0),(.int .u32 0),(.int .u32 0),(.int .u32 0),(.slice none 0 0),(.int .i64 0),(.string ⟨#[]⟩),(.int .i64 0),(.int .i64 0)])⟩ (.one ⟨none,none,(.sto true 22 (.tmp 12) (.tmp 34))⟩ .done)))) (.one ⟨(some 12),none,(.alc 99 [(.int .i64 0),(.int .u32 0),(.int .u32 0),(.int .u32 0),(.int .u32 0),(.int .u32 0),(.int .u32 0),(.int .u32 0),(.int .u32 0),(.int .u32 0),(.int .u32 0),(.int .u32 0),(.int .u32 0),(.int .u32 0),(.int .u32 0),(.int .u32 0),(.int .u32 0),(.slice none 0 0),(.int .i64 0),(.string ⟨#[]⟩),(.int .i64 0),(.int .i64 0)])⟩ (.one ⟨(some 27),none,(.app 93 1 4 (.tmp 24) (.tmp 26))⟩ (.one ⟨(some 34),none,(.bld [(.int .i64 0),(.int .u32 0),(.int .u32 0),(.int .u32 0),(.int .u32 0),(.int .u32 0),(.int .u32 0),(.int .u32 0),(.int .u32 0),(.int .u32 0),(.int .u32 0),(.int .u32 0),(.int .u32 0),(.int .u32 0),(.int .u32 0),(.int .u32 0),(.int .u32 0),(.slice none 0 0),(.int .i64 0),(.string ⟨#[]⟩),(.int .i64 0),(.int .i64 0)] [(0,(1,(.tmp 21))),(1,(16,(.tmp 23))),(17,(1,(.tmp 27))),(18,(1,(.tmp 29))),(20,(1,(.tmp 31))),(21,(1,(.tmp 33)))])⟩ (.one ⟨none,none,(.sto true 22 (.tmp 12) (.tmp 34))⟩ .done)))))) (.one ⟨(some 12),none,(.alc 99 [(.int .i64 0),(.int .u32 0),(.int .u32 0),(.int .u32 0),(.int .u32 0),(.int .u32 0),(.int .u32 0),(.int .u32 0),(.int .u32 0),(.int .u32 0),(.int .u32 0),(.int .u32 0),(.int .u32 0),(.int .u32 0),(.int .u32 0),(.int .u32 0),(.int .u32 0),(.slice none 0 0),(.int .i64 0),(.string ⟨#[]⟩),(.int .i64 0),(.int .i64 0)])⟩ (.one ⟨(some 24),none,(.bsl 93 1 0 [] [])⟩ (.one ⟨(some 27),none,(.app 93 1 4 (.tmp 24) (.tmp 26))⟩ (.one ⟨(some 34),none,(.bld [(.int .i64 0),(.int .u32 0),(.int .u32 0),(.int .u32 0),(.int .u32 0),(.int .u32 0),(.int .u32 0),(.int .u32 0),(.int .u32 0),(.int .u32 0),(.int .u32 0),(.int .u32 0),(.int .u32 0),(.int .u32 0),(.int .u32 0),(.int .u32 0),(.int .u32 0),(.slice none 0 0),(.int .i64 0),(.string ⟨#[]⟩),(.int .i64 0),(.int .i64 0)] [(0,(1,(.tmp 21))),(1,(16,(.tmp 23))),(17,(1,(.tmp 27))),(18,(1,(.tmp 29))),(20,(1,(.tmp 31))),(21,(1,(.tmp 33)))])⟩ (.one ⟨none,none,(.sto true 22 (.tmp 12) (.tmp 34))⟩ .done)))))))))))))))))))
 (.seq
 (.par false (.one ⟨(some 35),none,(.ld true 22 (.tmp 12))⟩ (.one ⟨(some 36),none,(.fad 19 false 1 (.tmp 6))⟩ (.one ⟨(some 37),none,(.ld false 1 (.tmp 36))⟩ (.one ⟨(some 39),none,(.mv (.tmp 10))⟩ (.one ⟨(some 40),none,(.mv (.tmp 11))⟩ (.one ⟨(some 41),none,(.fad 0 false 1 (.tmp 4))⟩ (.one ⟨(some 42),none,(.ld false 1 (.tmp 41))⟩ (.one ⟨(some 43),none,(.mv (.tmp 1))⟩ (.one ⟨(some 44),none,(.fad 0 false 1 (.tmp 4))⟩ (.one ⟨(some 45),none,(.ld false 1 (.tmp 44))⟩ (.one ⟨(some 46),none,(.len (.tmp 45))⟩ (.both (.one ⟨(some 38),none,(.eff (.s2b 5) [(.tmp 37)])⟩ (.both (.one ⟨(some 47),none,(.mk 3 1 8 [(.int .i64 0)] (.tmp 46) (.tmp 46))⟩ (.one ⟨(some 48),none,(.bld [(.int .i64 0),(.int .u32 0),(.int .u32 0),(.int .u32 0),(.int .u32 0),(.int .u32 0),(.int .u32 0),(.int .u32 0),(.int .u32 0),(.int .u32 0),(.int .u32 0),(.int .u32 0),(.int .u32 0),(.int .u32 0),(.int .u32 0),(.int .u32 0),(.int .u32 0),(.slice none 0 0),(.int .i64 0),(.string ⟨#[]⟩),(.int .i64 0),(.int .i64 0),(.slice none 0 0),(.slice none 0 0),(.slice none 0 0),(.slice none 0 0),(.string ⟨#[]⟩),(.slice none 0 0)] [(0,(22,(.tmp 35))),(22,(1,(.tmp 38))),(23,(1,(.tmp 39))),(24,(1,(.tmp 40))),(25,(1,(.tmp 42))),(26,(1,(.tmp 43))),(27,(1,(.tmp 47)))])⟩ (.one ⟨(some 13),none,(.alc 149 [(.int .i64 0),(.int .u32 0),(.int .u32 0),(.int .u32 0),(.int .u32 0),(.int .u32 0),(.int .u32 0),(.int .u32 0),(.int .u32 0),(.int .u32 0),(.int .u32 0),(.int .u32 0),(.int .u32 0),(.int .u32 0),(.int .u32 0),(.int .u32 0),(.int .u32 0),(.slice none 0 0),(.int .i64 0),(.string ⟨#[]⟩),(.int .i64 0),(.int .i64 0),(.slice none 0 0),(.slice none 0 0),(.slice none 0 0),(.slice none 0 0),(.string ⟨#[]⟩),(.slice none 0 0)])⟩ (.one ⟨none,none,(.sto true 28 (.tmp 13) (.tmp 48))⟩ .done)))) (.one ⟨(some 13),none,(.alc 149 [(.int .i64 0),(.int .u32 0),(.int .u32 0),(.int .u32 0),(.int .u32 0),(.int .u32 0),(.int .u32 0),(.int .u32 0),(.int .u32 0),(.int .u32 0),(.int .u32 0),(.int .u32 0),(.int .u32 0),(.int .u32 0),(.int .u32 0),(.int .u32 0),(.int .u32 0),(.slice none 0 0),(.int .i64 0),(.string ⟨#[]⟩),(.int .i64 0),(.int .i64 0),(.slice none 0 0),(.slice none 0 0),(.slice none 0 0),(.slice none 0 0),(.string ⟨#[]⟩),(.slice none 0 0)])⟩ (.one ⟨(some 47),none,(.mk 3 1 8 [(.int .i64 0)] (.tmp 46) (.tmp 46))⟩ (.one ⟨(some 48),none,(.bld [(.int .i64 0),(.int .u32 0),(.int .u32 0),(.int .u32 0),(.int .u32 0),(.int .u32 0),(.int .u32 0),(.int .u32 0),(.int .u32 0),(.int .u32 0),(.int .u32 0),(.int .u32 0),(.int .u32 0),(.int .u32 0),(.int .u32 0),(.int .u32 0),(.int .u32 0),(.slice none 0 0),(.int .i64 0),(.string ⟨#[]⟩),(.int .i64 0),(.int .i64 0),(.slice none 0 0),(.slice none 0 0),(.slice none 0 0),(.slice none 0 0),(.string ⟨#[]⟩),(.slice none 0 0)] [(0,(22,(.tmp 35))),(22,(1,(.tmp 38))),(23,(1,(.tmp 39))),(24,(1,(.tmp 40))),(25,(1,(.tmp 42))),(26,(1,(.tmp 43))),(27,(1,(.tmp 47)))])⟩ (.one ⟨none,none,(.sto true 28 (.tmp 13) (.tmp 48))⟩ .done)))))) (.both (.one ⟨(some 47),none,(.mk 3 1 8 [(.int .i64 0)] (.tmp 46) (.tmp 46))⟩ (.both (.one ⟨(some 38),none,(.eff (.s2b 5) [(.tmp 37)])⟩ (.one ⟨(some 48),none,(.bld [(.int .i64 0),(.int .u32 0),(.int .u32 0),(.int .u32 0),(.int .u32 0),(.int .u32 0),(.int .u32 0),(.int .u32 0),(.int .u32 0),(.int .u32 0),(.int .u32 0),(.int .u32 0),(.int .u32 0),(.int .u32 0),(.int .u32 0),(.int .u32 0),(.int .u32 0),(.slice none 0 0),(.int .i64 0),(.string ⟨#[]⟩),(.int .i64 0),(.int .i64 0),(.slice none 0 0),(.slice none 0 0),(.slice none 0 0),(.slice none 0 0),(.string ⟨#[]⟩),(.slice none 0 0)] [(0,(22,(.tmp 35))),(22,(1,(.tmp 38))),(23,(1,(.tmp 39))),(24,(1,(.tmp 40))),(25,(1,(.tmp 42))),(26,(1,(.tmp 43))),(27,(1,(.tmp 47)))])⟩ (.one ⟨(some 13),none,(.alc 149 [(.int .i64 0),(.int .u32 0),(.int .u32 0),(.int .u32 0),(.int .u32 0),(.int .u32 0),(.int .u32 0),(.int .u32 0),(.int .u32 0),(.int .u32 0),(.int .u32 0),(.int .u32 0),(.int .u32 0),(.int .u32 0),(.int .u32 0),(.int .u32 0),(.int .u32 0),(.slice none 0 0),(.int .i64 0),(.string ⟨#[]⟩),(.int .i64 0),(.int .i64 0),(.slice none 0 0),(.slice none 0 0),(.slice none 0 0),(.slice none 0 0),(.string ⟨#[]⟩),(.slice none 0 0)])⟩ (.one ⟨none,none,(.sto true 28 (.tmp 13) (.tmp 48))⟩ .done)))) (.one ⟨(some 13),none,(.alc 149 [(.int .i64 0),(.int .u32 0),(.int .u32 0),(.int .u32 0),(.int .u32 0),(.int .u32 0),(.int .u32 0),(.int .u32 0),(.int .u32 0),(.int .u32 0),(.int .u32 0),(.int .u32 0),(.int .u32 0),(.int .u32 0),(.int .u32 0),(.int .u32 0),(.int .u32 0),(.slice none 0 0),(.int .i64 0),(.string ⟨#[]⟩),(.int .i64 0),(.int .i64 0),(.slice none 0 0),(.slice none 0 0),(.slice none 0 0),(.slice none 0 0),(.string ⟨#[]⟩),(.slice none 0 0)])⟩ (.one ⟨(some 38),none,(.eff (.s2b 5) [(.tmp 37)])⟩ (.one ⟨(some 48),none,(.bld [(.int .i64 0),(.int .u32 0),(.int .u32 0),(.int .u32 0),(.int .u32 0),(.int .u32 0),(.int .u32 0),(.int .u32 0),(.int .u32 0),(.int .u32 0),(.int .u32 0),(.int .u32 0),(.int .u32 0),(.int .u32 0),(.int .u32 0),(.int .u32 0),(.int .u32 0),(.slice none 0 0),(.int .i64 0),(.string ⟨#[]⟩),(.int .i64 0),(.int .i64 0),(.slice none 0 0),(.slice none 0 0),(.slice none 0 0),(.slice none 0 0),(.string ⟨#[]⟩),(.slice none 0 0)] [(0,(22,(.tmp 35))),(22,(1,(.tmp 38))),(23,(1,(.tmp 39))),(24,(1,(.tmp 40))),(25,(1,(.tmp 42))),(26,(1,(.tmp 43))),(27,(1,(.tmp 47)))])⟩ (.one ⟨none,none,(.sto true 28 (.tmp 13) (.tmp 48))⟩ .done)))))) (.one ⟨(some 13),none,(.alc 149 [(.int .i64 0),(.int .u32 0),(.int .u32 0),(.int .u32 0),(.int .u32 0),(.int .u32 0),(.int .u32 0),(.int .u32 0),(.int .u32 0),(.int .u32 0),(.int .u32 0),(.int .u32 0),(.int .u32 0),(.int .u32 0),(.int .u32 0),(.int .u32 0),(.int .u32 0),(.slice none 0 0),(.int .i64 0),(.string ⟨#[]⟩),(.int .i64 0),(.int .i64 0),(.slice none 0 0),(.slice none 0 0),(.slice none 0 0),(.slice none 0 0),(.string ⟨#[]⟩),(.slice none 0 0)])⟩ (.both (.one ⟨(some 38),none,(.eff (.s2b 5) [(.tmp 37)])⟩ (.one ⟨(some 47),none,(.mk 3 1 8 [(.int .i64 0)] (.tmp 46) (.tmp 46))⟩ (.one ⟨(some 48),none,(.bld [(.int .i64 0),(.int .u32 0),(.int .u32 0),(.int .u32 0),(.int .u32 0),(.int .u32 0),(.int .u32 0),(.int .u32 0),(.int .u32 0),(.int .u32 0),(.int .u32 0),(.int .u32 0),(.int .u32 0),(.int .u32 0),(.int .u32 0),(.int .u32 0),(.int .u32 0),(.slice none 0 0),(.int .i64 0),(.string ⟨#[]⟩),(.int .i64 0),(.int .i64 0),(.slice none 0 0),(.slice none 0 0),(.slice none 0 0),(.slice none 0 0),(.string ⟨#[]⟩),(.slice none 0 0)] [(0,(22,(.tmp 35))),(22,(1,(.tmp 38))),(23,(1,(.tmp 39))),(24,(1,(.tmp 40))),(25,(1,(.tmp 42))),(26,(1,(.tmp 43))),(27,(1,(.tmp 47)))])⟩ (.one ⟨none,none,(.sto true 28 (.tmp 13) (.tmp 48))⟩ .done)))) (.one ⟨(some 47),none,(.mk 3 1 8 [(.int .i64 0)] (.tmp 46) (.tmp 46))⟩ (.one ⟨(some 38),none,(.eff (.s2b 5) [(.tmp 37)])⟩ (.one ⟨(some 48),none,(.bld [(.int .i64 0),(.int .u32 0),(.int .u32 0),(.int .u32 0),(.int .u32 0),(.int .u32 0),(.int .u32 0),(.int .u32 0),(.int .u32 0),(.int .u32 0),(.int .u32 0),(.int .u32 0),(.int .u32 0),(.int .u32 0),(.int .u32 0),(.int .u32 0),(.int .u32 0),(.slice none 0 0),(.int .i64 0),(.string ⟨#[]⟩),(.int .i64 0),(.int .i64 0),(.slice none 0 0),(.slice none 0 0),(.slice none 0 0),(.slice none 0 0),(.string ⟨#[]⟩),(.slice none 0 0)] [(0,(22,(.tmp 35))),(22,(1,(.tmp 38))),(23,(1,(.tmp 39))),(24,(1,(.tmp 40))),(25,(1,(.tmp 42))),(26,(1,(.tmp 43))),(27,(1,(.tmp 47)))])⟩ (.one ⟨none,none,(.sto true 28 (.tmp 13) (.tmp 48))⟩ .done))))))))))))))))))))
 a5R))))
theorem b5G:a0z Tryz.prog 55=some (70,a9U,[(.cell 8 true 22),(.tmp 9)]):=by kernel_rfl
set_option maxRecDepth 10000
open Go.V
def WAt (code:List Int) (inp:ByteArray) (H:List VObj) (w sw:Nat) (ρ:S) (so:ByteArray) (cnt:List Int):Prop :=
 ∃ m sm o s1 c sc,H[w]? = some (wkO sw (wkc ρ.pc ρ.reg (.ref m sm 0 ρ.mem.length) ρ.rd so ρ.st ρ.fin (.ref o s1 0 ρ.out.size) (b8B code) (okL code) (words code) inp (.ref c sc 0 code.length))) ∧
  H[m]? = some ⟨sm,93,1,ρ.mem.map U32⟩∧H[o]? = some ⟨s1,5,1,ρ.out.data.toList.map U8⟩∧H[c]? = some ⟨sc,3,1,cnt.map I⟩∧cnt.length=code.length
theorem a9V {code:List Int} {inp:ByteArray} {H:List VObj} {w sw m sm o s1 c sc:Nat} {mem:List Int} {out so:ByteArray} {cnt:List Int} {pc:Int} {f:Nat→Int} {rd st fin:Int} (hlt:w<H.length) (hm:H[m]? = some ⟨sm,93,1,mem.map U32⟩)
 (ho:H[o]? = some ⟨s1,5,1,out.data.toList.map U8⟩) (hc:H[c]? = some ⟨sc,3,1,cnt.map I⟩) (nm:w≠m) (no:w≠o) (nc:w≠c) (hl:cnt.length=code.length) :
 WAt code inp (H.set w (wkO sw (wkc pc f (.ref m sm 0 mem.length) rd so st fin (.ref o s1 0 out.size) (b8B code) (okL code) (words code) inp (.ref c sc 0 code.length)))) w sw ⟨pc,f,mem,rd,out,st,fin⟩ so cnt :=
 ⟨m,sm,o,s1,c,sc,by rw[List.getElem?_set,if_pos rfl,if_pos hlt],by rw[List.getElem?_set,if_neg nm];exact hm,by rw[List.getElem?_set,if_neg no];exact ho,by rw[List.getElem?_set,if_neg nc];exact hc,hl⟩
def c0H (H H':List VObj):Prop:=∀ (id:Nat) (ob:VObj),H[id]? = some ob→ob.ty=99→H'[id]? = some ob
def c8v (code:List Int) (ρ:S) (cnt:List Int):List Int:=if a3Z code ρ=true then cnt.set ρ.pc.toNat (cnt.getD ρ.pc.toNat default+1) else cnt
set_option maxHeartbeats 2000000 in
theorem c6S (code:List Int) (inp:ByteArray) (ρ:S) (so:ByteArray) (cnt:List Int) (H:List VObj) (nx w sw:Nat) (C:AV→List VObj→Nat→Prop)
 (hcode:∀ x ∈ code,a1b x) (hcl:code.length≤1000000) (hi:inp.size≤1000000000) (hws:Wf ρ) (hl:ρ.mem.length≤1000000) (hol:ρ.out.size≤1000000) (hf0:ρ.fin=0) (hcb:∀ x ∈ cnt,0≤x∧x≤4000000000000000000)
 (hA:WAt code inp H w sw ρ so cnt) (hC:∀ r H' nx',c0H H H'→WAt code inp H' w sw (a1A code inp ρ) so (c8v code ρ cnt)→C r H' nx') :
 VCall Tryz.prog 78 [.ptr w sw 0] H nx C:=by
 refine VCall.of_bodyQ a1g a8Y (by simp) ?_;obtain ⟨pc,f,mem,rd,out,st,fin⟩:=ρ;simp only at hf0 hl hol;subst hf0;have hf:∀ k,a1b (f k):=hws.reg;obtain ⟨m,sm,o,s1,c,sc,hw,hm,ho,hc,hcc⟩:=hA;simp only at hw hm ho;have hlt:=(List.getElem?_eq_some_iff.1 hw).1;have nm:w≠m:=fun e=>by rw[← e,hw]at hm;simp at hm
 have no:w≠o:=fun e=>by rw[← e,hw]at ho;simp at ho
 have nc:w≠c:=fun e=>by rw[← e,hw]at hc;simp at hc
 have ncm:c≠m:=fun e=>by rw[← e,hc]at hm;simp at hm
 have nco:c≠o:=fun e=>by rw[← e,hc]at ho;simp at ho
 have nmo:m≠o:=fun e=>by rw[← e,hm]at ho;simp at ho
 have hclt:=(List.getElem?_eq_some_iff.1 hc).1;have kA:∀ (id:Nat) (ob:VObj),H[id]? = some ob→ob.ty=99→id≠w∧id≠m∧id≠o∧id≠c∧id<H.length:=fun id ob h1 h2=>by
  refine ⟨fun e=>?_,fun e=>?_,fun e=>?_,fun e=>?_,(List.getElem?_eq_some_iff.1 h1).1⟩
  ·rw[e,hw]at h1;cases h1;simp at h2
  ·rw[e,hm]at h1;cases h1;simp at h2
  ·rw[e,ho]at h1;cases h1;simp at h2
  ·rw[e,hc]at h1;cases h1;simp at h2
 have kp0:∀ y,c0H H (H.set w y):=fun y id ob h1 h2=>by
  rw[List.getElem?_set,if_neg (fun e=>(kA id ob h1 h2).1 e.symm)];exact h1
 have gA:∀ a,(H.set w a)[w]? = some a:=fun a=>by rw[List.getElem?_set,if_pos rfl,if_pos hlt]
 have hcdl:((code.map a8X).map AV.agg).length=code.length:=by simp
 by_cases h2:pc<0
 ·have e1:a1A code inp ⟨pc,f,mem,rd,out,st,0⟩=⟨pc,f,mem,rd,out,st,7⟩:=by unfold a1A;rw[if_pos rfl,if_pos (.inl h2)]
  have e2:a3Z code ⟨pc,f,mem,rd,out,st,0⟩=false:=by simp[a3Z];omega
  simp only[go_sem,a1O,hw,gA,a0h,a6c,a9a,a2k,a1w,eq_true h2]
  repeat (refine And.intro (by omega) ?_)
  refine hC _ _ _ (kp0 _) ?_;rw[e1,c8v,if_neg (by rw[e2];simp)];exact a9V hlt hm ho hc nm no nc hcc
 by_cases h3:(code.length:Int)≤pc
 ·have e1:a1A code inp ⟨pc,f,mem,rd,out,st,0⟩=⟨pc,f,mem,rd,out,st,7⟩:=by unfold a1A;rw[if_pos rfl,if_pos (.inr h3)]
  have e2:a3Z code ⟨pc,f,mem,rd,out,st,0⟩=false:=by simp[a3Z];omega
  simp only[go_sem,a1O,hw,gA,a0h,a6c,a9a,a2k,a1w,hcdl,eq_false h2,eq_true h3]
  repeat (refine And.intro (by omega) ?_)
  refine hC _ _ _ (kp0 _) ?_;rw[e1,c8v,if_neg (by rw[e2];simp)];exact a9V hlt hm ho hc nm no nc hcc
 have e2:a3Z code ⟨pc,f,mem,rd,out,st,0⟩=true:=by simp[a3Z];omega
 obtain ⟨W,hW⟩:∃ W,code.getD pc.toNat default=W:=⟨_,rfl⟩
 have hpl:pc.toNat<code.length:=by omega
 have hW32:a1b W:=by
  rw[← hW];exact hcode _ (a0q (by omega))
 obtain ⟨t,ht⟩:∃ t,IntKind.i64.wrap (st+1)=t:=⟨_,rfl⟩
 have e1:a1A code inp ⟨pc,f,mem,rd,out,st,0⟩=a9N code inp ⟨pc,f,mem,rd,out,t,0⟩ W:=by unfold a1A;rw[if_pos rfl,if_neg (fun q=>q.elim h2 h3),hW,← ht]
 obtain ⟨x,hx⟩:∃ x,cnt.getD pc.toNat default=x:=⟨_,rfl⟩
 have hxb:0≤x∧x≤4000000000000000000:=by
  rw[← hx,List.getD_eq_getElem?_getD,List.getElem?_eq_getElem (by omega)];exact hcb _ (List.getElem_mem _)
 have hxw:IntKind.i64.wrap (x+1)=x+1:=a0e (by omega) (by omega);have e5:c8v code ⟨pc,f,mem,rd,out,st,0⟩ cnt=cnt.set pc.toNat (x+1):=by rw[c8v,if_pos e2,hx]
 have hgi:(code.map a8X).getD pc.toNat default=a8X W:=by
  rw[List.getD_eq_getElem?_getD,List.getElem?_map,List.getElem?_eq_getElem hpl,← hW,List.getD_eq_getElem?_getD,List.getElem?_eq_getElem hpl];rfl
 have hgo:(code.map fun w=>B (okW w)).getD pc.toNat default=B (okW W):=by
  rw[List.getD_eq_getElem?_getD,List.getElem?_map,List.getElem?_eq_getElem hpl,← hW,List.getD_eq_getElem?_getD,List.getElem?_eq_getElem hpl];rfl
 have gB:∀ a,(H.set w a)[c]? = some ⟨sc,3,1,cnt.map I⟩:=fun a=>by rw[List.getElem?_set,if_neg nc];exact hc
 have gC:∀ a b,((H.set w a).set c b)[w]? = some a:=fun a b=>by rw[List.getElem?_set,if_neg (fun e=>nc e.symm)];exact gA a
 have gD:∀ a b z,((H.set w a).set c b++[z])[w]? = some a:=fun a b z=>by rw[List.getElem?_append_left (by simp;omega)];exact gC a b
 have gE:∀ a b (z:VObj),((H.set w a).set c b++[z])[H.length]? = some z:=fun a b z=>by
  rw[List.getElem?_append_right (by simp)];simp
 have sE:∀ a b (z x:VObj),((H.set w a).set c b++[z]).set H.length x=(H.set w a).set c b++[x]:=fun a b z x=>by
  rw[List.set_append_right _ _ (by simp)];simp
 simp only[go_sem,a1O,hw,gA,gB,gC,gD,gE,sE,List.length_set,a0h,a6c,a9W,a9a,a8W,a2X,hcdl,c4v,a0I,hcc,hx,hxw,ht,eq_false h2,eq_false h3,hgi,a9T,eq_true hlt]
 repeat (refine And.intro (by omega) ?_)
 refine ⟨c4w W,?_⟩;rw[a9R];refine ⟨rfl,?_⟩;have hdr:a8X W++List.drop (a8X W).length [I 0,I 0,I 0,I 0]=a8X W:=by
  rw[a9T];exact List.append_nil _
 simp only[List.length_set,sE,a0I,ht,hxw,List.take_zero,List.nil_append,Nat.zero_add,hdr];have hw3:=gD (wkO sw (wkc pc f (.ref m sm 0 mem.length) rd so t 0 (.ref o s1 0 out.size) (b8B code) (okL code) (words code) inp (.ref c sc 0 code.length))) ⟨sc,3,1,(cnt.set pc.toNat (x+1)).map I⟩ ⟨nx,121,1,a8X W⟩;have hi3:=gE (wkO sw (wkc pc f (.ref m sm 0 mem.length) rd so t 0 (.ref o s1 0 out.size) (b8B code) (okL code) (words code) inp (.ref c sc 0 code.length))) ⟨sc,3,1,(cnt.set pc.toNat (x+1)).map I⟩ ⟨nx,121,1,a8X W⟩;have hm3:((H.set w (wkO sw (wkc pc f (.ref m sm 0 mem.length) rd so t 0 (.ref o s1 0 out.size) (b8B code) (okL code) (words code) inp (.ref c sc 0 code.length)))).set c ⟨sc,3,1,(cnt.set pc.toNat (x+1)).map I⟩++[⟨nx,121,1,a8X W⟩])[m]? = some ⟨sm,93,1,mem.map U32⟩:=by
  rw[List.getElem?_append_left (by simp;exact (List.getElem?_eq_some_iff.1 hm).1),List.getElem?_set,if_neg ncm,List.getElem?_set,if_neg nm];exact hm
 have ho3:((H.set w (wkO sw (wkc pc f (.ref m sm 0 mem.length) rd so t 0 (.ref o s1 0 out.size) (b8B code) (okL code) (words code) inp (.ref c sc 0 code.length)))).set c ⟨sc,3,1,(cnt.set pc.toNat (x+1)).map I⟩++[⟨nx,121,1,a8X W⟩])[o]? = some ⟨s1,5,1,out.data.toList.map U8⟩:=by
  rw[List.getElem?_append_left (by simp;exact (List.getElem?_eq_some_iff.1 ho).1),List.getElem?_set,if_neg nco,List.getElem?_set,if_neg no];exact ho
 have hc3:((H.set w (wkO sw (wkc pc f (.ref m sm 0 mem.length) rd so t 0 (.ref o s1 0 out.size) (b8B code) (okL code) (words code) inp (.ref c sc 0 code.length)))).set c ⟨sc,3,1,(cnt.set pc.toNat (x+1)).map I⟩++[⟨nx,121,1,a8X W⟩])[c]? = some ⟨sc,3,1,(cnt.set pc.toNat (x+1)).map I⟩:=by
  rw[List.getElem?_append_left (by simp;exact hclt),List.getElem?_set,if_pos rfl,if_pos (by simp;exact hclt)]
 have kB:c0H H ((H.set w (wkO sw (wkc pc f (.ref m sm 0 mem.length) rd so t 0 (.ref o s1 0 out.size) (b8B code) (okL code) (words code) inp (.ref c sc 0 code.length)))).set c ⟨sc,3,1,(cnt.set pc.toNat (x+1)).map I⟩++[⟨nx,121,1,a8X W⟩]):=fun id ob h1 h2=>by
  obtain ⟨i1,i2,i3,i4,i5⟩:=kA id ob h1 h2;rw[List.getElem?_append_left (by simp;exact i5),List.getElem?_set,if_neg (fun e=>i4 e.symm),List.getElem?_set,if_neg (fun e=>i1 e.symm)];exact h1
 clear gA gB gC gD gE sE hdr;generalize (H.set w (wkO sw (wkc pc f (.ref m sm 0 mem.length) rd so t 0 (.ref o s1 0 out.size) (b8B code) (okL code) (words code) inp (.ref c sc 0 code.length)))).set c ⟨sc,3,1,(cnt.set pc.toNat (x+1)).map I⟩++[⟨nx,121,1,a8X W⟩]=H3 at *
 have nwi:w≠H.length:=by omega
 have nmi:m≠H.length:=by have:=(List.getElem?_eq_some_iff.1 hm).1;omega
 have noi:o≠H.length:=by have:=(List.getElem?_eq_some_iff.1 ho).1;omega
 generalize H.length=i at *
 clear hw hm ho hc hlt hclt;have hlt3:=(List.getElem?_eq_some_iff.1 hw3).1;have hilt:=(List.getElem?_eq_some_iff.1 hi3).1;have hmlt:=(List.getElem?_eq_some_iff.1 hm3).1;have kp:∀ y,c0H H (H3.set w y):=fun y id ob h1 h2=>by
  rw[List.getElem?_set,if_neg (fun e=>(kA id ob h1 h2).1 e.symm)];exact kB id ob h1 h2
 have kp2:∀ y z,c0H H ((H3.set m y).set w z):=fun y z id ob h1 h2=>by
  rw[List.getElem?_set,if_neg (fun e=>(kA id ob h1 h2).1 e.symm),List.getElem?_set,if_neg (fun e=>(kA id ob h1 h2).2.1 e.symm)];exact kB id ob h1 h2
 have kp3:∀ y z u,c0H H (((H3++[y]).set o z).set w u):=fun y z u id ob h1 h2=>by
  have h3:=kB id ob h1 h2;rw[List.getElem?_set,if_neg (fun e=>(kA id ob h1 h2).1 e.symm),List.getElem?_set,if_neg (fun e=>(kA id ob h1 h2).2.2.1 e.symm),List.getElem?_append_left (List.getElem?_eq_some_iff.1 h3).1];exact h3
 have gw:∀ y,(H3.set w y)[w]? = some y:=fun y=>by rw[List.getElem?_set,if_pos rfl,if_pos hlt3]
 have hc5:(cnt.set pc.toNat (x+1)).length=code.length:=by rw[List.length_set];exact hcc
 have hone:(wkc pc f (.ref m sm 0 mem.length) rd so t 0 (.ref o s1 0 out.size) (b8B code) (okL code) (words code) inp (.ref c sc 0 code.length)).all AV.one=true:=by rw[b5F];rfl
 rw[e1,e5]at hC;cases hok:okW W
 ·have e3:a9N code inp ⟨pc,f,mem,rd,out,t,0⟩ W=⟨pc,f,mem,rd,out,t,6⟩:=by unfold a9N;rw[hok];rfl
  rw[e3]at hC;simp only[go_sem,hw3,gw,a0h,a6c,a9R,a2k,a1w,hW,hok]
  repeat (refine And.intro (by omega) ?_)
  exact hC _ _ _ (kp _) (a9V hlt3 hm3 ho3 hc3 nm no nc hc5)
 have e3:a9N code inp ⟨pc,f,mem,rd,out,t,0⟩ W=(if (a1C code inp ⟨pc,f,mem,rd,out,t,0⟩ (opW W) (raW W) (rbW W) (kW W)).1=0 then (a1C code inp ⟨pc,f,mem,rd,out,t,0⟩ (opW W) (raW W) (rbW W) (kW W)).2
  else { (a1C code inp ⟨pc,f,mem,rd,out,t,0⟩ (opW W) (raW W) (rbW W) (kW W)).2 with fin:=(a1C code inp ⟨pc,f,mem,rd,out,t,0⟩ (opW W) (raW W) (rbW W) (kW W)).1 }):=by
  unfold a9N;rw[hok,if_pos rfl]
 rw[e3]at hC;have e4:a8X W=[I (opW W),I (raW W),I (rbW W),I (kW W)]:=by unfold a8X;rw[hok];rfl
 rw[e4]at hi3;have hok':=b9y hok;clear e3 e1 hws hcode hcb;generalize opW W=op at *
 generalize raW W=a at *
 generalize rbW W=b at *
 generalize kW W=k at *
 obtain ⟨g1,g2,ga1,ga2,gb1,gb2,gc1,gc2,gc⟩:=hok';have ja:a.toNat<16:=by omega
 have jb:b.toNat<16:=by omega
 have ec:IntKind.u32.wrap k=k:=a1I ⟨by omega,by omega⟩;have gi:∀ y,(H3.set w y)[i]? = some ⟨nx,121,1,[I op,I a,I b,I k]⟩:=fun y=>by rw[List.getElem?_set,if_neg nwi];exact hi3
 have hsl:(H3.set w (wkO sw (wkc pc f (.ref m sm 0 mem.length) rd so t 0 (.ref o s1 0 out.size) (b8B code) (okL code) (words code) inp (.ref c sc 0 code.length))))=H3:=b3w hw3;have hfm:∀ (H':List VObj) (nx':Nat),(∀ id ob,c1c true H3.length id→H3[id]? = some ob→H'[id]? = some ob)→FrzL 0 H' nx' [.ref m sm 0 mem.length,U32 (f b.toNat),I k] [words mem,U32 (f b.toNat),I k]:=fun H' nx' hH=>by
  refine ⟨_,_,rfl,Frz.ref (Nat.zero_le _) (hH m _ ⟨rfl,hmlt⟩ hm3) rfl rfl ?_ ?_,_,_,rfl,Frz.pure rfl,_,_,rfl,Frz.pure rfl,rfl⟩
  ·rw[List.all_eq_true];intro y hy;obtain ⟨x,_,rfl⟩:=List.mem_map.1 hy;rfl
  ·rw[List.drop_zero,List.take_of_length_le (by simp)];exact FrzL.pure (by rw[List.all_eq_true];intro y hy;obtain ⟨x,_,rfl⟩:=List.mem_map.1 hy;rfl)
 by_cases hap:4≤op∧op≤15
 ·have hc15:k≤15:=gc (by unfold cK;rw[if_pos hap]);have jc:k.toNat<16:=by omega
  have hins:a1C code inp ⟨pc,f,mem,rd,out,t,0⟩ op a b k=(if (a0R op (f b.toNat) (f k.toNat)).2=0 then (0,setR ⟨pc,f,mem,rd,out,t,0⟩ a (a0R op (f b.toNat) (f k.toNat)).1) else (2,⟨pc,f,mem,rd,out,t,0⟩)):=by
   unfold a1C
   iterate 15 rw [if_neg (by omega)]
  rw[hins]at hC;simp only[go_sem,hw3,hi3,gw,gi,List.set_set,List.length_set,a0I,a0h,a6c,a3i,b0x,a9W,a2k,k_o,a9a,a9R,b0z,b0A,a8W,a1h ja,a1h jb,a2M,a1D ja,a1L,a3j,a2X,a1w,b0y,a0b,ec,hW,hok,Int.reduceEq,Int.reduceBEq,a1h jc,eq_true hlt3,eq_true hilt,eq_false (show ¬ op=1 by omega),eq_false (show ¬ op=2 by omega),eq_false (show ¬ op=3 by omega),eq_false (show ¬ op=16 by omega),eq_false (show ¬ op=17 by omega),eq_false (show ¬ op=18 by omega),eq_false (show ¬ op=19 by omega),eq_false (show ¬ op=20 by omega),eq_false (show ¬ op=21 by omega),eq_false (show ¬ op=22 by omega),eq_false (show ¬ op=23 by omega),eq_false (show ¬ op=24 by omega),eq_false (show ¬ op=25 by omega),eq_false (show ¬ op=26 by omega),eq_false (show ¬ op=27 by omega)]
  repeat (refine And.intro (by omega) ?_)
  refine ECall.of (c0v op (f b.toNat) (f k.toNat) (hf _) (hf _)) (SleL.pure rfl) ⟨_,fun _=>Iff.rfl⟩ fun x hx=>?_;subst hx;generalize a0R op (f b.toNat) (f k.toNat)=q at *
  by_cases hp:q.2=0
  ·rw[if_pos hp]at hC;simp only[go_sem,hw3,hi3,gw,gi,List.set_set,List.length_set,a0I,a0h,a6c,a3i,b0x,a9W,a2k,k_o,a9a,a9R,b0z,b0A,a8W,a1h ja,a1h jb,a2M,a1D ja,a1L,a3j,a2X,a1w,b0y,a0b,ec,hW,hok,Int.reduceEq,Int.reduceBEq,eq_true hp]
   repeat (refine And.intro (by omega) ?_)
   refine a9S a q.1 ⟨ga1,ga2⟩ hw3 hone fun r=>?_;simp only[go_sem];exact hC _ _ _ (kp _) (a9V hlt3 hm3 ho3 hc3 nm no nc hc5)
  ·rw[if_neg hp]at hC;simp only[go_sem,hw3,hi3,gw,gi,List.set_set,List.length_set,a0I,a0h,a6c,a3i,b0x,a9W,a2k,k_o,a9a,a9R,b0z,b0A,a8W,a1h ja,a1h jb,a2M,a1D ja,a1L,a3j,a2X,a1w,b0y,a0b,ec,hW,hok,Int.reduceEq,Int.reduceBEq,eq_false hp]
   repeat (refine And.intro (by omega) ?_)
   exact hC _ _ _ (kp _) (a9V hlt3 hm3 ho3 hc3 nm no nc hc5)
 have hcases:op=1∨op=2∨op=3∨op=16∨op=27∨op=17∨op=18∨op=19∨op=20∨op=21∨op=22∨op=23∨op=24∨op=25∨op=26:=by omega
 rcases hcases with rfl | rfl | rfl | rfl | rfl | rfl | rfl | rfl | rfl | rfl | rfl | rfl | rfl | rfl | rfl
 ·
  simp only[go_sem,hw3,hi3,gw,gi,List.set_set,List.length_set,a0I,a0h,a6c,a3i,b0x,a9W,a2k,k_o,a9a,a9R,b0z,b0A,a8W,a1h ja,a1h jb,a2M,a1D ja,a1L,a3j,a2X,a1w,b0y,a0b,ec,hW,hok,Int.reduceEq,Int.reduceBEq]
  repeat (refine And.intro (by omega) ?_)
  refine a9S a k ⟨ga1,ga2⟩ hw3 hone fun r=>?_;simp only[go_sem];exact hC _ _ _ (kp _) (a9V hlt3 hm3 ho3 hc3 nm no nc hc5)
 ·
  have hq:IntKind.u32.wrap ((f a.toNat).tmod 65536+IntKind.u32.wrap (k*65536))=f a.toNat % 65536+k*65536:=by
   have h0:=(hf a.toNat).1;have h1:=(hf a.toNat).2;rw[Int.tmod_eq_emod_of_nonneg h0,IntKind.wrap_u32,IntKind.wrap_u32];omega
  simp only[go_sem,hw3,hi3,gw,gi,List.set_set,List.length_set,a0I,a0h,a6c,a3i,b0x,a9W,a2k,k_o,a9a,a9R,b0z,b0A,a8W,a1h ja,a1h jb,a2M,a1D ja,a1L,a3j,a2X,a1w,b0y,a0b,ec,hW,hok,Int.reduceEq,Int.reduceBEq,hq]
  repeat (refine And.intro (by omega) ?_)
  refine a9S a (f a.toNat % 65536+k*65536) ⟨ga1,ga2⟩ hw3 hone fun r=>?_;simp only[go_sem];exact hC _ _ _ (kp _) (a9V hlt3 hm3 ho3 hc3 nm no nc hc5)
 ·
  simp only[go_sem,hw3,hi3,gw,gi,List.set_set,List.length_set,a0I,a0h,a6c,a3i,b0x,a9W,a2k,k_o,a9a,a9R,b0z,b0A,a8W,a1h ja,a1h jb,a2M,a1D ja,a1L,a3j,a2X,a1w,b0y,a0b,ec,hW,hok,Int.reduceEq,Int.reduceBEq]
  repeat (refine And.intro (by omega) ?_)
  refine a9S a (f b.toNat) ⟨ga1,ga2⟩ hw3 hone fun r=>?_;simp only[go_sem];exact hC _ _ _ (kp _) (a9V hlt3 hm3 ho3 hc3 nm no nc hc5)
 ·
  simp only[go_sem,hw3,hi3,gw,gi,List.set_set,List.length_set,a0I,a0h,a6c,a3i,b0x,a9W,a2k,k_o,a9a,a9R,b0z,b0A,a8W,a1h ja,a1h jb,a2M,a1D ja,a1L,a3j,a2X,a1w,b0y,a0b,ec,hW,hok,Int.reduceEq,Int.reduceBEq,eq_true hlt3,eq_true hilt]
  repeat (refine And.intro (by omega) ?_)
  by_cases h:w32 (f b.toNat+k)<(mem.length:Int)
  ·have hins:a1C code inp ⟨pc,f,mem,rd,out,t,0⟩ 16 a b k=(0,setR ⟨pc,f,mem,rd,out,t,0⟩ a (mem.getD (w32 (f b.toNat+k)).toNat default)):=if_pos h;rw[hins]at hC;have hfe:=b2q mem (f b.toNat) k (hf _) ⟨gc1,gc2⟩ hl;rw[if_pos h]at hfe;refine ECall.ofN hfe hfm ⟨_,fun _=>Iff.rfl⟩ fun x hx=>?_;subst hx;simp only[go_sem,hw3,hi3,gw,gi,List.set_set,List.length_set,a0I,a0h,a6c,a3i,b0x,a9W,a2k,k_o,a9a,a9R,b0z,b0A,a8W,a1h ja,a1h jb,a2M,a1D ja,a1L,a3j,a2X,a1w,b0y,a0b,ec,hW,hok,Int.reduceEq,Int.reduceBEq]
   repeat (refine And.intro (by omega) ?_)
   refine a9S a (mem.getD (w32 (f b.toNat+k)).toNat default) ⟨ga1,ga2⟩ hw3 hone fun r=>?_;simp only[go_sem];exact hC _ _ _ (kp _) (a9V hlt3 hm3 ho3 hc3 nm no nc hc5)
  ·have hins:a1C code inp ⟨pc,f,mem,rd,out,t,0⟩ 16 a b k=(8,⟨pc,f,mem,rd,out,t,0⟩):=if_neg h;rw[hins]at hC;have hfe:=b2q mem (f b.toNat) k (hf _) ⟨gc1,gc2⟩ hl;rw[if_neg h]at hfe;refine ECall.ofN hfe hfm ⟨_,fun _=>Iff.rfl⟩ fun x hx=>?_;subst hx;simp only[go_sem,hw3,hi3,gw,gi,List.set_set,List.length_set,a0I,a0h,a6c,a3i,b0x,a9W,a2k,k_o,a9a,a9R,b0z,b0A,a8W,a1h ja,a1h jb,a2M,a1D ja,a1L,a3j,a2X,a1w,b0y,a0b,ec,hW,hok,Int.reduceEq,Int.reduceBEq]
   repeat (refine And.intro (by omega) ?_)
   exact hC _ _ _ (kp _) (a9V hlt3 hm3 ho3 hc3 nm no nc hc5)
 ·
  simp only[go_sem,hw3,hi3,gw,gi,List.set_set,List.length_set,a0I,a0h,a6c,a3i,b0x,a9W,a2k,k_o,a9a,a9R,b0z,b0A,a8W,a1h ja,a1h jb,a2M,a1D ja,a1L,a3j,a2X,a1w,b0y,a0b,ec,hW,hok,Int.reduceEq,Int.reduceBEq,eq_true hlt3,eq_true hilt]
  repeat (refine And.intro (by omega) ?_)
  by_cases h:w32 (f b.toNat+k)<(code.length:Int)
  ·have hins:a1C code inp ⟨pc,f,mem,rd,out,t,0⟩ 27 a b k=(0,setR ⟨pc,f,mem,rd,out,t,0⟩ a (code.getD (w32 (f b.toNat+k)).toNat default)):=if_pos h;rw[hins]at hC;have hfe:=b2q code (f b.toNat) k (hf _) ⟨gc1,gc2⟩ hcl;rw[if_pos h]at hfe;refine ECall.ofN hfe (fun H' nx' _=>⟨_,_,rfl,Frz.pure rfl,_,_,rfl,Frz.pure rfl,_,_,rfl,Frz.pure rfl,rfl⟩) ⟨_,fun _=>Iff.rfl⟩ fun x hx=>?_;subst hx;simp only[go_sem,hw3,hi3,gw,gi,List.set_set,List.length_set,a0I,a0h,a6c,a3i,b0x,a9W,a2k,k_o,a9a,a9R,b0z,b0A,a8W,a1h ja,a1h jb,a2M,a1D ja,a1L,a3j,a2X,a1w,b0y,a0b,ec,hW,hok,Int.reduceEq,Int.reduceBEq]
   repeat (refine And.intro (by omega) ?_)
   refine a9S a (code.getD (w32 (f b.toNat+k)).toNat default) ⟨ga1,ga2⟩ hw3 hone fun r=>?_;simp only[go_sem];exact hC _ _ _ (kp _) (a9V hlt3 hm3 ho3 hc3 nm no nc hc5)
  ·have hins:a1C code inp ⟨pc,f,mem,rd,out,t,0⟩ 27 a b k=(8,⟨pc,f,mem,rd,out,t,0⟩):=if_neg h;rw[hins]at hC;have hfe:=b2q code (f b.toNat) k (hf _) ⟨gc1,gc2⟩ hcl;rw[if_neg h]at hfe;refine ECall.ofN hfe (fun H' nx' _=>⟨_,_,rfl,Frz.pure rfl,_,_,rfl,Frz.pure rfl,_,_,rfl,Frz.pure rfl,rfl⟩) ⟨_,fun _=>Iff.rfl⟩ fun x hx=>?_;subst hx;simp only[go_sem,hw3,hi3,gw,gi,List.set_set,List.length_set,a0I,a0h,a6c,a3i,b0x,a9W,a2k,k_o,a9a,a9R,b0z,b0A,a8W,a1h ja,a1h jb,a2M,a1D ja,a1L,a3j,a2X,a1w,b0y,a0b,ec,hW,hok,Int.reduceEq,Int.reduceBEq]
   repeat (refine And.intro (by omega) ?_)
   exact hC _ _ _ (kp _) (a9V hlt3 hm3 ho3 hc3 nm no nc hc5)
 ·
  obtain ⟨at_,hat⟩:∃ y,IntKind.u32.wrap (f b.toNat+k)=y:=⟨_,rfl⟩
  have hin:a1b at_:=by rw[← hat,IntKind.wrap_u32];exact ⟨by omega,by omega⟩
  obtain ⟨p1,p2⟩:=hin;have hat':w32 (f b.toNat+k)=at_:=hat;have q2:IntKind.u64.wrap at_=at_:=by rw[IntKind.wrap_u64];omega
  have q3:IntKind.u64.wrap (mem.length:Int)=mem.length:=by rw[IntKind.wrap_u64];omega
  have gm:∀ y,(H3.set m y)[w]? = some (wkO sw (wkc pc f (.ref m sm 0 mem.length) rd so t 0 (.ref o s1 0 out.size) (b8B code) (okL code) (words code) inp (.ref c sc 0 code.length))):=fun y=>by rw[List.getElem?_set,if_neg (fun e=>nm e.symm)];exact hw3
  have gm2:∀ y z,((H3.set m y).set w z)[w]? = some z:=fun y z=>by rw[List.getElem?_set,if_pos rfl,if_pos (by rw[List.length_set];exact hlt3)]
  by_cases h:at_<(mem.length:Int)
  ·have hins:a1C code inp ⟨pc,f,mem,rd,out,t,0⟩ 17 a b k=(0,⟨b5K ⟨pc,f,mem,rd,out,t,0⟩,f,mem.set at_.toNat (f a.toNat),rd,out,t,0⟩):=by
    have h':w32 (f b.toNat+k)<(mem.length:Int):=by rw[hat'];exact h
    rw[← hat'];exact if_pos h'
   rw[hins]at hC;simp only[go_sem,hw3,hi3,gw,gi,List.set_set,List.length_set,a0I,a0h,a6c,a3i,b0x,a9W,a2k,k_o,a9a,a9R,b0z,b0A,a8W,a1h ja,a1h jb,a2M,a1D ja,a1L,a3j,a2X,a1w,b0y,a0b,ec,hW,hok,Int.reduceEq,Int.reduceBEq,hat,q2,q3,hm3,gm,gm2,eq_false (show ¬ (mem.length:Int)≤at_ by omega)]
   repeat (refine And.intro (by first | omega | simp) ?_)
   refine hC _ _ _ (kp2 _ _) ?_;have:=a9V (code:=code) (inp:=inp) (H:=H3.set m ⟨sm,93,1,(mem.set at_.toNat (f a.toNat)).map U32⟩) (w:=w) (sw:=sw) (m:=m) (sm:=sm) (o:=o) (s1:=s1) (c:=c) (sc:=sc) (mem:=mem.set at_.toNat (f a.toNat)) (out:=out) (so:=so) (cnt:=cnt.set pc.toNat (x+1)) (pc:=IntKind.i64.wrap (pc+1)) (f:=f) (rd:=rd) (st:=t) (fin:=0)
    (by rw[List.length_set];exact hlt3) (by rw[List.getElem?_set,if_pos rfl,if_pos hmlt]) (by rw[List.getElem?_set,if_neg nmo];exact ho3) (by rw[List.getElem?_set,if_neg (fun e=>ncm e.symm)];exact hc3) nm no nc hc5
   rw[List.length_set]at this;exact this
  ·have hins:a1C code inp ⟨pc,f,mem,rd,out,t,0⟩ 17 a b k=(8,⟨pc,f,mem,rd,out,t,0⟩):=by
    have h':¬ w32 (f b.toNat+k)<(mem.length:Int):=by rw[hat'];exact h
    exact if_neg h'
   rw[hins]at hC;simp only[go_sem,hw3,hi3,gw,gi,List.set_set,List.length_set,a0I,a0h,a6c,a3i,b0x,a9W,a2k,k_o,a9a,a9R,b0z,b0A,a8W,a1h ja,a1h jb,a2M,a1D ja,a1L,a3j,a2X,a1w,b0y,a0b,ec,hW,hok,Int.reduceEq,Int.reduceBEq,hm3,hat,q2,q3,eq_true (show (mem.length:Int)≤at_ by omega)]
   repeat (refine And.intro (by omega) ?_)
   exact hC _ _ _ (kp _) (a9V hlt3 hm3 ho3 hc3 nm no nc hc5)
 ·
  simp only[go_sem,hw3,hi3,gw,gi,List.set_set,List.length_set,a0I,a0h,a6c,a3i,b0x,a9W,a2k,k_o,a9a,a9R,b0z,b0A,a8W,a1h ja,a1h jb,a2M,a1D ja,a1L,a3j,a2X,a1w,b0y,a0b,ec,hW,hok,Int.reduceEq,Int.reduceBEq]
  repeat (refine And.intro (by omega) ?_)
  exact hC _ _ _ (kp _) (a9V hlt3 hm3 ho3 hc3 nm no nc hc5)
 ·
  simp only[go_sem,hw3,hi3,gw,gi,List.set_set,List.length_set,a0I,a0h,a6c,a3i,b0x,a9W,a2k,k_o,a9a,a9R,b0z,b0A,a8W,a1h ja,a1h jb,a2M,a1D ja,a1L,a3j,a2X,a1w,b0y,a0b,ec,hW,hok,Int.reduceEq,Int.reduceBEq]
  repeat (refine And.intro (by omega) ?_)
  refine c2R _ k hw3 fun r=>?_;simp only[go_sem];refine hC _ _ _ (kp _) ?_;by_cases hz:f a.toNat=0
  ·have hins:a1C code inp ⟨pc,f,mem,rd,out,t,0⟩ 19 a b k=(0,⟨k,f,mem,rd,out,t,0⟩):=by show (0,S.mk (if f a.toNat=0 then _ else _) f mem rd out t 0)=_;rw[if_pos hz]<;>rfl
   rw[hins];simp only[hz,beq_self_eq_true,if_true];exact a9V hlt3 hm3 ho3 hc3 nm no nc hc5
  ·have hins:a1C code inp ⟨pc,f,mem,rd,out,t,0⟩ 19 a b k=(0,⟨(IntKind.i64.wrap (pc+1)),f,mem,rd,out,t,0⟩):=by show (0,S.mk (if f a.toNat=0 then _ else _) f mem rd out t 0)=_;rw[if_neg hz]<;>rfl
   rw[hins];simp only[eq_false hz,if_false,if_true,not_false_eq_true];exact a9V hlt3 hm3 ho3 hc3 nm no nc hc5
 ·
  simp only[go_sem,hw3,hi3,gw,gi,List.set_set,List.length_set,a0I,a0h,a6c,a3i,b0x,a9W,a2k,k_o,a9a,a9R,b0z,b0A,a8W,a1h ja,a1h jb,a2M,a1D ja,a1L,a3j,a2X,a1w,b0y,a0b,ec,hW,hok,Int.reduceEq,Int.reduceBEq]
  repeat (refine And.intro (by omega) ?_)
  refine c2R _ k hw3 fun r=>?_;simp only[go_sem];refine hC _ _ _ (kp _) ?_;by_cases hz:f a.toNat=0
  ·have hins:a1C code inp ⟨pc,f,mem,rd,out,t,0⟩ 20 a b k=(0,⟨(IntKind.i64.wrap (pc+1)),f,mem,rd,out,t,0⟩):=by show (0,S.mk (if f a.toNat=0 then _ else _) f mem rd out t 0)=_;rw[if_pos hz]<;>rfl
   rw[hins];simp only[hz,bne_self_eq_false,Bool.false_eq_true,if_false];exact a9V hlt3 hm3 ho3 hc3 nm no nc hc5
  ·have hins:a1C code inp ⟨pc,f,mem,rd,out,t,0⟩ 20 a b k=(0,⟨k,f,mem,rd,out,t,0⟩):=by show (0,S.mk (if f a.toNat=0 then _ else _) f mem rd out t 0)=_;rw[if_neg hz]<;>rfl
   rw[hins];simp only[eq_false hz,if_false,if_true,not_false_eq_true];exact a9V hlt3 hm3 ho3 hc3 nm no nc hc5
 ·
  have hq:IntKind.u32.wrap (IntKind.u32.wrap pc+1)=w32 (b5K ⟨pc,f,mem,rd,out,t,0⟩):=by
   simp only[w32,b5K];rw[IntKind.wrap_u32,IntKind.wrap_u32,IntKind.wrap_u32,IntKind.wrap_i64];omega
  simp only[go_sem,hw3,hi3,gw,gi,List.set_set,List.length_set,a0I,a0h,a6c,a3i,b0x,a9W,a2k,k_o,a9a,a9R,b0z,b0A,a8W,a1h ja,a1h jb,a2M,a1D ja,a1L,a3j,a2X,a1w,b0y,a0b,ec,hW,hok,Int.reduceEq,Int.reduceBEq,hq]
  repeat (refine And.intro (by omega) ?_)
  exact hC _ _ _ (kp _) (a9V hlt3 hm3 ho3 hc3 nm no nc hc5)
 ·
  have hq:IntKind.i64.wrap (f a.toNat)=f a.toNat:=by
   have:=hf a.toNat;exact a0e (by have:=this.1;omega) (by have:=this.2;omega)
  simp only[go_sem,hw3,hi3,gw,gi,List.set_set,List.length_set,a0I,a0h,a6c,a3i,b0x,a9W,a2k,k_o,a9a,a9R,b0z,b0A,a8W,a1h ja,a1h jb,a2M,a1D ja,a1L,a3j,a2X,a1w,b0y,a0b,ec,hW,hok,Int.reduceEq,Int.reduceBEq,hq]
  repeat (refine And.intro (by omega) ?_)
  exact hC _ _ _ (kp _) (a9V hlt3 hm3 ho3 hc3 nm no nc hc5)
 ·
  by_cases r1:rd<0
  ·have hins:a1C code inp ⟨pc,f,mem,rd,out,t,0⟩ 23 a b k=(0,setR ⟨pc,f,mem,rd,out,t,0⟩ a 256):=by
    show (0,if rd<0∨(inp.size:Int)≤rd then _ else _)=_;rw[if_pos (.inl r1)]
   rw[hins]at hC;simp only[go_sem,hw3,hi3,gw,gi,List.set_set,List.length_set,a0I,a0h,a6c,a3i,b0x,a9W,a2k,k_o,a9a,a9R,b0z,b0A,a8W,a1h ja,a1h jb,a2M,a1D ja,a1L,a3j,a2X,a1w,b0y,a0b,ec,hW,hok,Int.reduceEq,Int.reduceBEq,eq_true r1]
   repeat (refine And.intro (by omega) ?_)
   refine a9S a 256 ⟨ga1,ga2⟩ hw3 hone fun r=>?_;simp only[go_sem];exact hC _ _ _ (kp _) (a9V hlt3 hm3 ho3 hc3 nm no nc hc5)
  by_cases r2:(inp.size:Int)≤rd
  ·have hins:a1C code inp ⟨pc,f,mem,rd,out,t,0⟩ 23 a b k=(0,setR ⟨pc,f,mem,rd,out,t,0⟩ a 256):=by
    show (0,if rd<0∨(inp.size:Int)≤rd then _ else _)=_;rw[if_pos (.inr r2)]
   rw[hins]at hC;simp only[go_sem,hw3,hi3,gw,gi,List.set_set,List.length_set,a0I,a0h,a6c,a3i,b0x,a9W,a2k,k_o,a9a,a9R,b0z,b0A,a8W,a1h ja,a1h jb,a2M,a1D ja,a1L,a3j,a2X,a1w,b0y,a0b,ec,hW,hok,Int.reduceEq,Int.reduceBEq,eq_false r1,eq_true r2]
   repeat (refine And.intro (by omega) ?_)
   refine a9S a 256 ⟨ga1,ga2⟩ hw3 hone fun r=>?_;simp only[go_sem];exact hC _ _ _ (kp _) (a9V hlt3 hm3 ho3 hc3 nm no nc hc5)
  ·have hins:a1C code inp ⟨pc,f,mem,rd,out,t,0⟩ 23 a b k=(0,setR ⟨pc,f,mem,IntKind.i64.wrap (rd+1),out,t,0⟩ a (a1v inp rd.toNat)):=by
    show (0,if rd<0∨(inp.size:Int)≤rd then _ else _)=_;rw[if_neg (by omega)]
   rw[hins]at hC;have hb:IntKind.u32.wrap (a1v inp rd.toNat)=a1v inp rd.toNat:=by
    refine a1I ⟨?_,?_⟩<;>unfold a1v
    ·omega
    ·have:=(inp.data.toList.getD rd.toNat 0).toNat_lt;omega
   simp only[go_sem,hw3,hi3,gw,gi,List.set_set,List.length_set,a0I,a0h,a6c,a3i,b0x,a9W,a2k,k_o,a9a,a9R,b0z,b0A,a8W,a1h ja,a1h jb,a2M,a1D ja,a1L,a3j,a2X,a1w,b0y,a0b,ec,hW,hok,Int.reduceEq,Int.reduceBEq,eq_false r1,eq_false r2,hb]
   repeat (refine And.intro (by omega) ?_)
   refine a9S a (a1v inp rd.toNat) ⟨ga1,ga2⟩ (gw _) (by rw[b5F];rfl) fun r=>?_;rw[List.set_set];simp only[go_sem];exact hC _ _ _ (kp _) (a9V hlt3 hm3 ho3 hc3 nm no nc hc5)
 ·
  by_cases h:65536≤out.size
  ·have hins:a1C code inp ⟨pc,f,mem,rd,out,t,0⟩ 24 a b k=(4,⟨pc,f,mem,rd,out,t,0⟩):=if_pos h;rw[hins]at hC;simp only[go_sem,hw3,hi3,gw,gi,List.set_set,List.length_set,a0I,a0h,a6c,a3i,b0x,a9W,a2k,k_o,a9a,a9R,b0z,b0A,a8W,a1h ja,a1h jb,a2M,a1D ja,a1L,a3j,a2X,a1w,b0y,a0b,ec,hW,hok,Int.reduceEq,Int.reduceBEq,ho3,eq_true (show (65536:Int)≤(out.size:Int) by omega)]
   repeat (refine And.intro (by omega) ?_)
   exact hC _ _ _ (kp _) (a9V hlt3 hm3 ho3 hc3 nm no nc hc5)
  ·have hins:a1C code inp ⟨pc,f,mem,rd,out,t,0⟩ 24 a b k=(0,⟨b5K ⟨pc,f,mem,rd,out,t,0⟩,f,mem,rd,out.push (a3H (f a.toNat)),t,0⟩):=if_neg h;rw[hins]at hC;have hby:(AV.val (.int .u8 (IntKind.u8.wrap ((f a.toNat).tmod 256))))=U8 (a3H (f a.toNat)):=by
    have h0:=(hf a.toNat).1;have e:=b7t (f a.toNat);show AV.val (.int .u8 (IntKind.u8.wrap ((f a.toNat).tmod 256)))=AV.val (.int .u8 (((a3H (f a.toNat)).toNat:Nat):Int));rw[e,Int.tmod_eq_emod_of_nonneg h0,IntKind.wrap_u8,IntKind.wrap_u8,Int.emod_emod]
   have holt:=(List.getElem?_eq_some_iff.1 ho3).1;have X1:∀ y,(H3++[y])[o]? = some ⟨s1,5,1,out.data.toList.map U8⟩:=fun y=>by rw[List.getElem?_append_left holt];exact ho3
   have X2:∀ y z,((H3++[y]).set o z)[w]? = some (wkO sw (wkc pc f (.ref m sm 0 mem.length) rd so t 0 (.ref o s1 0 out.size) (b8B code) (okL code) (words code) inp (.ref c sc 0 code.length))):=fun y z=>by
    rw[List.getElem?_set,if_neg (fun e=>no e.symm),List.getElem?_append_left hlt3];exact hw3
   have X3:∀ y z u,(((H3++[y]).set o z).set w u)[w]? = some u:=fun y z u=>by rw[List.getElem?_set,if_pos rfl,if_pos (by simp;omega)]
   have X4:∀ y:VObj,(H3++[y])[w]? = some (wkO sw (wkc pc f (.ref m sm 0 mem.length) rd so t 0 (.ref o s1 0 out.size) (b8B code) (okL code) (words code) inp (.ref c sc 0 code.length))):=fun y=>by
    rw[List.getElem?_append_left hlt3];exact hw3
   have X5:∀ y:VObj,(H3++[y])[H3.length]? = some y:=fun y=>by rw[List.getElem?_append_right (Nat.le_refl _),Nat.sub_self];rfl
   have hall1:∀ v,a2N [U8 v]=[U8 v]:=fun v=>rfl;have hmx:(2000000:Nat)≤maxLen:=by decide
   have hol2:out.data.toList.length=out.size:=rfl;have htk:(out.data.toList.map U8).take out.size=out.data.toList.map U8:=List.take_of_length_le (by rw[List.length_map];exact Nat.le_refl _);simp only[go_sem,hw3,hi3,gw,gi,List.set_set,List.length_set,a0I,a0h,a6c,a3i,b0x,a9W,a2k,k_o,a9a,a9R,b0z,b0A,a8W,a1h ja,a1h jb,a2M,a1D ja,a1L,a3j,a2X,a1w,b0y,a0b,ec,hW,hok,Int.reduceEq,Int.reduceBEq,eq_false (show ¬ (65536:Int)≤(out.size:Int) by omega),hby,ho3,X1,X2,X3,X4,X5,hall1,htk]
   repeat (refine And.intro (by first | omega | simp) ?_)
   have hp1:(out.push (a3H (f a.toNat))).size=out.size+1:=ByteArray.size_push ..;have hp2:(out.push (a3H (f a.toNat))).data.toList.map U8=out.data.toList.map U8++[U8 (a3H (f a.toNat))]:=by
    show (out.data.push (a3H (f a.toNat))).toList.map U8=_;rw[Array.toList_push,List.map_append];rfl
   have hc3l:=(List.getElem?_eq_some_iff.1 hc3).1;refine hC _ _ _ (kp3 _ _ _) ?_;have:=a9V (code:=code) (inp:=inp) (H:=(H3++[(⟨nx+1,5,1,[U8 (a3H (f a.toNat))]⟩:VObj)]).set o ⟨nx+1+1,5,1,out.data.toList.map U8++[U8 (a3H (f a.toNat))]⟩) (w:=w) (sw:=sw) (m:=m) (sm:=sm) (o:=o) (s1:=nx+1+1) (c:=c) (sc:=sc) (mem:=mem) (out:=out.push (a3H (f a.toNat))) (so:=so) (cnt:=cnt.set pc.toNat (x+1)) (pc:=IntKind.i64.wrap (pc+1)) (f:=f) (rd:=rd) (st:=t) (fin:=0)
    (by simp;omega) (by rw[List.getElem?_set,if_neg (fun e=>nmo e.symm),List.getElem?_append_left hmlt];exact hm3) (by rw[hp2,List.getElem?_set,if_pos rfl,if_pos (by simp;omega)]) (by rw[List.getElem?_set,if_neg (fun e=>nco e.symm),List.getElem?_append_left hc3l];exact hc3) nm no nc hc5
   rw[hp1]at this;exact this
 ·
  by_cases h:f a.toNat<k
  ·have hins:a1C code inp ⟨pc,f,mem,rd,out,t,0⟩ 25 a b k=(0,⟨b5K ⟨pc,f,mem,rd,out,t,0⟩,f,mem,rd,out,t,0⟩):=if_pos h;rw[hins]at hC;simp only[go_sem,hw3,hi3,gw,gi,List.set_set,List.length_set,a0I,a0h,a6c,a3i,b0x,a9W,a2k,k_o,a9a,a9R,b0z,b0A,a8W,a1h ja,a1h jb,a2M,a1D ja,a1L,a3j,a2X,a1w,b0y,a0b,ec,hW,hok,Int.reduceEq,Int.reduceBEq,eq_false (show ¬ k≤f a.toNat by omega)]
   repeat (refine And.intro (by omega) ?_)
   exact hC _ _ _ (kp _) (a9V hlt3 hm3 ho3 hc3 nm no nc hc5)
  ·have hins:a1C code inp ⟨pc,f,mem,rd,out,t,0⟩ 25 a b k=(3,⟨pc,f,mem,rd,out,t,0⟩):=if_neg h;rw[hins]at hC;simp only[go_sem,hw3,hi3,gw,gi,List.set_set,List.length_set,a0I,a0h,a6c,a3i,b0x,a9W,a2k,k_o,a9a,a9R,b0z,b0A,a8W,a1h ja,a1h jb,a2M,a1D ja,a1L,a3j,a2X,a1w,b0y,a0b,ec,hW,hok,Int.reduceEq,Int.reduceBEq,eq_true (show k≤f a.toNat by omega)]
   repeat (refine And.intro (by omega) ?_)
   exact hC _ _ _ (kp _) (a9V hlt3 hm3 ho3 hc3 nm no nc hc5)
 ·
  simp only[go_sem,hw3,hi3,gw,gi,List.set_set,List.length_set,a0I,a0h,a6c,a3i,b0x,a9W,a2k,k_o,a9a,a9R,b0z,b0A,a8W,a1h ja,a1h jb,a2M,a1D ja,a1L,a3j,a2X,a1w,b0y,a0b,ec,hW,hok,Int.reduceEq,Int.reduceBEq]
  repeat (refine And.intro (by omega) ?_)
  exact hC _ _ _ (kp _) (a9V hlt3 hm3 ho3 hc3 nm no nc hc5)
set_option maxRecDepth 10000
open Go.V
theorem b9L {pc:Int} {f:Nat→Int} {m:AV} {rd:Int} {so:ByteArray} {st fin:Int}:I pc::(regs f++[m,I rd,a2W so,I st,I fin])=stc pc f m rd so st fin:=rfl
theorem b9M {pc:Int} {f:Nat→Int} {m:AV} {rd:Int} {so:ByteArray} {st fin:Int} {o cd ok wd ct:AV} {inp:ByteArray}:stc pc f m rd so st fin++[o,cd,ok,wd,a2W inp,ct]=wkc pc f m rd so st fin o cd ok wd inp ct:=by
 simp[stc,wkc]
theorem c8w {pc:Int} {f:Nat→Int} {m:AV} {rd:Int} {so:ByteArray} {st fin:Int} (x:AV):List.take 17 (stc pc f m rd so st fin)++x::List.drop 18 (stc pc f m rd so st fin)=stc pc f x rd so st fin:=rfl
theorem c8x {pc:Int} {f:Nat→Int} {m:AV} {rd:Int} {so:ByteArray} {st fin:Int} (x:Int):List.take 18 (stc pc f m rd so st fin)++I x::List.drop 19 (stc pc f m rd so st fin)=stc pc f m x so st fin:=rfl
theorem c8y {pc:Int} {f:Nat→Int} {m:AV} {rd:Int} {so:ByteArray} {st fin:Int} (x:Int):List.take 20 (stc pc f m rd so st fin)++I x::List.drop 21 (stc pc f m rd so st fin)=stc pc f m rd so x fin:=rfl
theorem c8z {pc:Int} {f:Nat→Int} {m:AV} {rd:Int} {so:ByteArray} {st fin:Int} (x:Int):List.take 21 (stc pc f m rd so st fin)++I x::List.drop 22 (stc pc f m rd so st fin)=stc pc f m rd so st x:=rfl
theorem c8A {pc:Int} {f:Nat→Int} {m:AV} {rd:Int} {so:ByteArray} {st fin:Int} {o cd ok wd ct:AV} {inp:ByteArray} (x:AV):List.take 22 (wkc pc f m rd so st fin o cd ok wd inp ct)++x::List.drop 23 (wkc pc f m rd so st fin o cd ok wd inp ct)=wkc pc f m rd so st fin x cd ok wd inp ct:=rfl
theorem c8B {pc:Int} {f:Nat→Int} {m:AV} {rd:Int} {so:ByteArray} {st fin:Int} {o cd ok wd ct:AV} {inp:ByteArray} (x:AV):List.take 23 (wkc pc f m rd so st fin o cd ok wd inp ct)++x::List.drop 24 (wkc pc f m rd so st fin o cd ok wd inp ct)=wkc pc f m rd so st fin o x ok wd inp ct:=rfl
theorem c8C {pc:Int} {f:Nat→Int} {m:AV} {rd:Int} {so:ByteArray} {st fin:Int} {o cd ok wd ct:AV} {inp:ByteArray} (x:AV):List.take 24 (wkc pc f m rd so st fin o cd ok wd inp ct)++x::List.drop 25 (wkc pc f m rd so st fin o cd ok wd inp ct)=wkc pc f m rd so st fin o cd x wd inp ct:=rfl
theorem c8D {pc:Int} {f:Nat→Int} {m:AV} {rd:Int} {so:ByteArray} {st fin:Int} {o cd ok wd ct:AV} {inp:ByteArray} (x:AV):List.take 25 (wkc pc f m rd so st fin o cd ok wd inp ct)++x::List.drop 26 (wkc pc f m rd so st fin o cd ok wd inp ct)=wkc pc f m rd so st fin o cd ok x inp ct:=rfl
theorem c8E {pc:Int} {f:Nat→Int} {m:AV} {rd:Int} {so:ByteArray} {st fin:Int} {o cd ok wd ct:AV} {inp:ByteArray} (x:ByteArray):List.take 26 (wkc pc f m rd so st fin o cd ok wd inp ct)++a2W x::List.drop 27 (wkc pc f m rd so st fin o cd ok wd inp ct)=wkc pc f m rd so st fin o cd ok wd x ct:=rfl
theorem c8F {pc:Int} {f:Nat→Int} {m:AV} {rd:Int} {so:ByteArray} {st fin:Int} {o cd ok wd ct:AV} {inp:ByteArray} (x:AV):List.take 27 (wkc pc f m rd so st fin o cd ok wd inp ct)++x::List.drop 28 (wkc pc f m rd so st fin o cd ok wd inp ct)=wkc pc f m rd so st fin o cd ok wd inp x:=rfl
theorem c8G {pc:Int} {f:Nat→Int} {m:AV} {rd:Int} {so:ByteArray} {st fin:Int}:List.drop 22 (stc pc f m rd so st fin)=[]:=rfl
theorem c8H {pc:Int} {f:Nat→Int} {m:AV} {rd:Int} {so:ByteArray} {st fin:Int} {o cd ok wd ct:AV} {inp:ByteArray}:List.drop 28 (wkc pc f m rd so st fin o cd ok wd inp ct)=[]:=rfl
theorem c5c {pc:Int} {f:Nat→Int} {m:AV} {rd:Int} {so:ByteArray} {st fin:Int} (x:Int):List.take 21 (stc pc f m rd so st fin)++[I x]=stc pc f m rd so st x:=rfl
theorem c5d {pc:Int} {f:Nat→Int} {m:AV} {rd:Int} {so:ByteArray} {st fin:Int} {o cd ok wd ct:AV} {inp:ByteArray} (x:AV):List.take 27 (wkc pc f m rd so st fin o cd ok wd inp ct)++[x]=wkc pc f m rd so st fin o cd ok wd inp x:=rfl
theorem b4F {code:List Int} {inp:ByteArray} {σ:S} {k:Nat} (h:(a1T code inp σ k).fin≠0):∀ d,b2e code inp σ (k+d)=b2e code inp σ k
 | 0=>rfl
 | d+1=>by
  have hd:a3Z code (a1T code inp σ (k+d))=false:=by rw[a5v h d];simp[a3Z,h]
  show b2e code inp σ (k+d+1)=_;simp only[b2e,hd,Bool.false_eq_true,if_false];exact b4F h d
structure RQR where
 k:Nat
 H:List VObj
 nx:Nat
theorem b9N (code:List Int) (inp:ByteArray) (s:S) (op a b c:Int) (h:s.out.size≤65536):(a1C code inp s op a b c).2.out.size≤65536:=by
 unfold a1C
 iterate 8 (refine a0s (P:=fun p:Int × S=>p.2.out.size≤65536) (fun _=>h) fun _=>?_)
 iterate 3 (refine a0s (P:=fun p:Int × S=>p.2.out.size≤65536) (fun _=>a0s (P:=fun p:Int × S=>p.2.out.size≤65536) (fun _=>h) fun _=>h) fun _=>?_)
 refine a0s (P:=fun p:Int × S=>p.2.out.size≤65536) (fun _=>?_) fun _=>?_
 ·exact a0s (P:=fun x:S=>x.out.size≤65536) (fun _=>h) fun _=>h
 refine a0s (P:=fun p:Int × S=>p.2.out.size≤65536) (fun _=>a0s (P:=fun p:Int × S=>p.2.out.size≤65536) (fun _=>h) fun h2=>?_) fun _=>?_
 ·show (s.out.push _).size≤_;rw[ByteArray.size_push];omega
 refine a0s (P:=fun p:Int × S=>p.2.out.size≤65536) (fun _=>a0s (P:=fun p:Int × S=>p.2.out.size≤65536) (fun _=>h) fun _=>h) fun _=>?_;refine a0s (P:=fun p:Int × S=>p.2.out.size≤65536) (fun _=>h) fun _=>?_;exact a0s (P:=fun p:Int × S=>p.2.out.size≤65536) (fun _=>h) fun _=>h
theorem c2V (code:List Int) (inp:ByteArray) (s:S) (h:s.out.size≤65536):(a1A code inp s).out.size≤65536:=by
 unfold a1A a9N;refine a0s (P:=fun x:S=>x.out.size≤65536) (fun _=>?_) fun _=>h;refine a0s (P:=fun x:S=>x.out.size≤65536) (fun _=>h) fun _=>?_;refine a0s (P:=fun x:S=>x.out.size≤65536) (fun _=>?_) fun _=>h;exact a0s (P:=fun x:S=>x.out.size≤65536) (fun _=>b9N _ _ _ _ _ _ _ h) fun _=>b9N _ _ _ _ _ _ _ h
theorem b9O {code:List Int} {inp:ByteArray} {s:S} (h:s.out.size≤65536):∀ k,(a1T code inp s k).out.size≤65536
 | 0=>h
 | k+1=>c2V _ _ _ (b9O h k)
theorem b8C (code:List Int) (inp:ByteArray) (σ:S) (fuel:Int) (w sw:Nat) (env:List (Nat × AV)) (H:List VObj) (nx:Nat) (cs:List AV) (C:AV→Prop)
 (hcode:∀ x ∈ code,a1b x) (hcl:code.length≤1000000) (hi:inp.size≤1000000000) (hws:Wf σ) (hl:σ.mem.length≤1000000) (hol:σ.out.size≤65536) (hfu:fuel≤4000000000000000000)
 (he3:get env 3=I fuel) (he8:get env 8 = .ptr 2 2 0) (he13:get env 13 = .ptr w sw 0) (hcs:cs.length=22) (h2:H[2]? = some ⟨2,99,1,cs⟩)
 (hA:WAt code inp H w sw σ ⟨#[]⟩ (b2e code inp σ 0)) (hC:C (.tup [stA (a1T code inp σ fuel.toNat),a2t (b2e code inp σ fuel.toNat)])) :
 VW Tryz.prog a5R (a8D Tryz.prog [.cell 8 true 22,.tmp 9] fun r H nx=>∃ y,Frz 0 H nx r y∧C y) ⟨env,H,nx⟩:=by
 have hwf:=b5D (code:=code) (inp:=inp) hcode hws;have hcnt:=c2P code inp σ;simp only[go_sem,a5R];refine a0r (fun q:RQR=>⟨[(3,I fuel),(8,.ptr 2 2 0),(13,.ptr w sw 0),(14,I q.k)],q.H,q.nx⟩)
  (fun q=>q.k≤fuel.toNat∧WAt code inp q.H w sw (a1T code inp σ q.k) ⟨#[]⟩ (b2e code inp σ q.k)∧q.H[2]? = some ⟨2,99,1,cs⟩) (fun q=>fuel.toNat-q.k)
  ⟨0,H,nx⟩ (Wk.mk (fun p hp=>?_) ⟨[],(List.append_nil _).symm⟩ (Nat.le_refl _)) ⟨Nat.zero_le _,hA,h2⟩ ?_
 ·simp only[List.mem_cons,List.not_mem_nil,or_false]at hp;rcases hp with rfl | rfl | rfl | rfl
  ·simpa [a0a] using he3
  ·simpa [a0a] using he8
  ·simpa [a0a] using he13
  ·simp[a0a]
 clear hA h2 he3 he8 he13;rintro ⟨k,H,nx⟩ ⟨h1,hA,h2⟩;simp only at h1 hA h2;have hA':=hA;obtain ⟨m,sm,o,s1,c,sc,hw,hm,ho,hc,hcc⟩:=hA';have fin_:a1T code inp σ fuel.toNat=a1T code inp σ k→b2e code inp σ fuel.toNat=b2e code inp σ k→(k:Int)<fuel→True:=fun _ _ _=>trivial;have hlt:=(List.getElem?_eq_some_iff.1 hw).1;have h2lt:=(List.getElem?_eq_some_iff.1 h2).1;have nw2:w≠2:=fun e=>by rw[e,h2]at hw;simp at hw
 have nm2:m≠2:=fun e=>by rw[e,h2]at hm;simp at hm
 have no2:o≠2:=fun e=>by rw[e,h2]at ho;simp at ho
 have nc2:c≠2:=fun e=>by rw[e,h2]at hc;simp at hc
 have nm:w≠m:=fun e=>by rw[← e,hw]at hm;simp at hm
 have nc:w≠c:=fun e=>by rw[← e,hw]at hc;simp at hc
 have gw:∀ x,(H.set w x)[w]? = some x:=fun x=>by rw[List.getElem?_set,if_pos rfl,if_pos hlt]
 have g2:∀ x,(H.set w x)[2]? = some ⟨2,99,1,cs⟩:=fun x=>by rw[List.getElem?_set,if_neg nw2];exact h2
 have g3:∀ x y,((H.set w x).set 2 y)[w]? = some x:=fun x y=>by rw[List.getElem?_set,if_neg (fun e=>nw2 e.symm)];exact gw x
 have g4:∀ x y,((H.set w x).set 2 y)[2]? = some y:=fun x y=>by rw[List.getElem?_set,if_pos rfl,if_pos (by rw[List.length_set];exact h2lt)]
 have g5:∀ x y,((H.set w x).set 2 y)[m]? = some ⟨sm,93,1,(a1T code inp σ k).mem.map U32⟩:=fun x y=>by
  rw[List.getElem?_set,if_neg (fun e=>nm2 e.symm),List.getElem?_set,if_neg nm];exact hm
 have g6:∀ x y,((H.set w x).set 2 y)[c]? = some ⟨sc,3,1,(b2e code inp σ k).map I⟩:=fun x y=>by
  rw[List.getElem?_set,if_neg (fun e=>nc2 e.symm),List.getElem?_set,if_neg nc];exact hc
 have htk:((a1T code inp σ k).out.data.toList.map U8).take (a1T code inp σ k).out.size=(a1T code inp σ k).out.data.toList.map U8:=List.take_of_length_le (by rw[List.length_map];exact Nat.le_refl _);have hstr:(⟨(a1T code inp σ k).out.data.toList.toArray⟩:ByteArray)=(a1T code inp σ k).out:=a9P (by simp);have hdrop:cs.drop 22=[]:=List.drop_eq_nil_of_le (by omega);obtain ⟨w1,w2,_⟩:=hwf k;have w3:=b9O (code:=code) (inp:=inp) hol k;by_cases c1:(k:Int)<fuel
 ·by_cases c2:(a1T code inp σ k).fin=0
  ·simp only[go_sem,hw,eq_true c1,eq_true c2,a0h,b8A,a6c,a2k,c9C,k_o,a8W,c6Q,a0t];refine c6S code inp (a1T code inp σ k) ⟨#[]⟩ (b2e code inp σ k) H nx w sw _ hcode hcl hi w1 (by omega) (by omega) c2 (fun x hx=>by have:=hcnt k x hx;omega) hA fun r H' nx' hk hA'=>?_;simp only[go_sem];rw[a0e (by omega) (by omega)];exact ⟨⟨k+1,H',nx'⟩,⟨by simp only;omega,hA',hk 2 _ h2 rfl⟩,by simp only;omega,Wk.mk (by simp[a0a]) ⟨[],(List.append_nil _).symm⟩ (Nat.le_refl _)⟩
  ·have e1:=a5v c2 (fuel.toNat-k);have e2:=b4F c2 (fuel.toNat-k);rw[show k+(fuel.toNat-k)=fuel.toNat by omega]at e1 e2;rw[e1,e2]at hC;simp only[go_sem,hw,ho,gw,g2,g3,g4,hdrop,hcs,htk,hstr,a3Y,a1o,eq_true c1,eq_false c2,a0h,b8A,a6c,a2k,c9C,k_o,a8W,c6Q,a0t];refine ⟨?_,?_⟩
   all_goals
    refine ⟨_,Frz.tup ⟨_,_,rfl,b5C (mem:=(a1T code inp σ k).mem) (Frz.ref (Nat.zero_le _) (g5 _ _) rfl rfl ?_ ?_),_,_,rfl,a3R (l:=b2e code inp σ k) (Nat.zero_le _) (g6 _ _) hcc.symm,rfl⟩,hC⟩
    ·rw[List.all_eq_true];intro y hy;obtain ⟨x,_,rfl⟩:=List.mem_map.1 hy;rfl
    ·rw[List.drop_zero,List.take_of_length_le (by rw[List.length_map];exact Nat.le_refl _)];exact FrzL.pure (by rw[List.all_eq_true];intro y hy;obtain ⟨x,_,rfl⟩:=List.mem_map.1 hy;rfl)
 ·have e:fuel.toNat=k:=by omega
  rw[e]at hC;simp only[go_sem,hw,ho,gw,g2,g3,g4,hdrop,hcs,htk,hstr,a3Y,a1o,eq_false c1,a0h,b8A,a6c,a2k,c9C,k_o,a8W,c6Q,a0t];refine ⟨?_,?_⟩
  all_goals
   refine ⟨_,Frz.tup ⟨_,_,rfl,b5C (mem:=(a1T code inp σ k).mem) (Frz.ref (Nat.zero_le _) (g5 _ _) rfl rfl ?_ ?_),_,_,rfl,a3R (l:=b2e code inp σ k) (Nat.zero_le _) (g6 _ _) hcc.symm,rfl⟩,hC⟩
   ·rw[List.all_eq_true];intro y hy;obtain ⟨x,_,rfl⟩:=List.mem_map.1 hy;rfl
   ·rw[List.drop_zero,List.take_of_length_le (by rw[List.length_map];exact Nat.le_refl _)];exact FrzL.pure (by rw[List.all_eq_true];intro y hy;obtain ⟨x,_,rfl⟩:=List.mem_map.1 hy;rfl)
theorem c4z (code:List Int) (data:Int) (inp:ByteArray) (σ:S) (fuel:Int) (hcode:∀ x ∈ code,a1b x) (hcl:code.length≤1000000) (hi:inp.size≤1000000000) (hws:Wf σ) (hl:σ.mem.length≤1000000) (hol:σ.out.size≤65536) (hfu:fuel≤4000000000000000000) :
 Contract Tryz.prog 55 [c2M code data,a2W inp,stA σ,I fuel] (fun r=>r = .tup [stA (a1T code inp σ fuel.toNat),a2t (b2e code inp σ fuel.toNat)]):=by
 refine Contract.of_call (VCall.of_body a1g b5G (by simp) ?_);have hmx:(2000000:Nat)≤maxLen:=by decide
 have hall:a2N (σ.mem.map U32)=σ.mem.map U32:=a5B (fun _=>rfl) σ.mem;have hrep:(List.replicate code.length [I 0]).flatten=(List.replicate code.length (0:Int)).map I:=by
  induction code.length with
  | zero=>rfl
  | succ n ih=>simp only[List.replicate_succ,List.flatten_cons,ih,List.map_cons];rfl
 simp only[go_sem,a9U,a3Y,c9J,c5a,c8q,c9K,c0C,c7f,c0D,a0t,a1o,a1Z,b2o,a0h,b5F,b9L,b9M,List.append_assoc,hall,hrep,c8w,c8x,c8y,c8z,c8A,c8B,c8C,c8D,c8E,c8F,c8G,c8H,c5c,c5d];refine VCall.of_contract (c2U code data hcode hcl) (SleL.pure rfl) fun x hx=>?_;subst hx;simp only[go_sem,a3Y,c9J,c5a,c8q,c9K,c0C,c7f,c0D,a0t,a1o,a1Z,b2o,a0h,b5F,b9L,b9M,List.append_assoc,hall,hrep,c8w,c8x,c8y,c8z,c8A,c8B,c8C,c8D,c8E,c8F,c8G,c8H,c5c,c5d]
 repeat' (with_reducible refine And.intro ?_ ?_)
 all_goals first
  | (intro y hy;obtain ⟨x,_,rfl⟩:=List.mem_map.1 hy;rfl)
  | omega
  | (refine b8C code inp σ fuel _ _ _ _ _ _ (fun y=>y = .tup [stA (a1T code inp σ fuel.toNat),a2t (b2e code inp σ fuel.toNat)]) hcode hcl hi hws hl hol hfu rfl rfl rfl ?_ rfl ⟨_,_,_,_,_,_,rfl,rfl,rfl,rfl,b5E ..⟩ rfl
     rfl)
  | skip
set_option maxRecDepth 10000
open Go.V
theorem c6T (code:List Int) (data:Int) (inp:ByteArray) (σ:S) (fuel:Int) (hcode:∀ x ∈ code,a1b x) (hcl:code.length≤1000000) (hi:inp.size≤1000000000) (hws:Wf σ) (hl:σ.mem.length≤1000000) (hol:σ.out.size≤65536) (hfu:fuel≤4000000000000000000) :
 Contract Tryz.prog 32 [c2M code data,a2W inp,stA σ,I fuel] (fun r=>r=stA (a1T code inp σ fuel.toNat)):=by
 refine Contract.of_call (VCall.of_body a1g b6y (by simp) ?_);simp only[go_sem,b1y,a3Y,a5t,b0w,a5u,a0t,a1o];refine VCall.of_contract (c4z code data inp σ fuel hcode hcl hi hws hl hol hfu) (SleL.pure rfl) fun x hx=>?_;subst hx;simp only[go_sem,a3Y,a5t,b0w,a5u,a0t,a1o];exact ⟨_,Frz.pure rfl,rfl⟩
theorem c4A (code:List Int) (data:Int) (inp:ByteArray) (fuel:Int) (hcode:∀ x ∈ code,a1b x) (hcl:code.length≤1000000) (hi:inp.size≤1000000000) (hfu:fuel≤4000000000000000000) :
 Contract Tryz.prog 15 [c2M code data,a2W inp,I fuel] (fun r=>r=c6P code data inp fuel):=by
 have hs:=b7u data;have ho:(a1N data).out.size=0:=rfl;refine Contract.of_call (VCall.of_body a1g b4S (by simp) ?_);simp only[go_sem,a9l];refine ECall.of (c0F code data) (SleL.pure rfl) ⟨_,fun _=>Iff.rfl⟩ fun x hx=>?_;subst hx;simp only[go_sem];refine ECall.of (c6T code data inp (a1N data) fuel hcode hcl hi (b9H data) (by omega) (by omega) (by omega)) (SleL.pure rfl) ⟨_,fun _=>Iff.rfl⟩ fun x hx=>?_;subst hx;show _;unfold c6P c8S c6O;generalize a1T code inp (a1N data) fuel.toNat=ρ;by_cases h:ρ.fin=0
 ·simp only[go_sem,a5t,b0w,a5u,a3Y,a0t,a1o,c0D,c0C,c7f,b9G,eq_true h,if_pos h];exact ⟨_,Frz.pure rfl,rfl⟩
 ·simp only[go_sem,a5t,b0w,a5u,a3Y,a0t,a1o,c0D,c0C,c7f,b9G,eq_false h,if_neg h];exact ⟨_,Frz.pure rfl,rfl⟩
set_option maxRecDepth 10000
open Go.V
def N27 (y:Sy):Prop:=y.1.op≠27
theorem a5S {op a b c:Int} (h:op≠27):N27 (pY op a b c):=h
theorem c2W {op a f t:Int} (h:op≠27):N27 (jY op a f t):=h
theorem b7x (c:Cx) (v s:Int):∀ y ∈ a0K c v s,N27 y:=fun y hy=>by
 unfold a0K at hy;split at hy
 ·cases hy
 ·rw[List.mem_singleton.1 hy];exact a5S (by decide)
theorem b9P (c:Cx) (v s:Int):∀ y ∈ a1z c v s,N27 y:=fun y hy=>by
 unfold a1z at hy;split at hy
 ·rw[List.mem_singleton.1 hy];exact a5S (by decide)
 ·cases hy
theorem c6U (c:Cx) (t:Tac) (h3:t.op=3→t.k≤15):∀ y ∈ a2e c t,N27 y:=by
 have f:=b7x c;have kp:=b9P c;have ap:∀ {l m:List Sy},(∀ y ∈ l,N27 y)→(∀ y ∈ m,N27 y)→∀ y ∈ l++m,N27 y:=fun h1 h2 y hy=>(List.mem_append.1 hy).elim (h1 y) (h2 y);have on:∀ {x:Sy},N27 x→∀ y ∈ [x],N27 y:=fun h y hy=>by rw[List.mem_singleton.1 hy];exact h
 have nl:∀ y ∈ ([]:List Sy),N27 y:=fun y hy=>by cases hy
 unfold a2e;split
 ·unfold a2K;split
  ·exact kp _ _
  ·refine ap (l:=[_]) (on (a5S (by decide))) (ap ?_ (kp _ _));split
   ·exact nl
   ·exact on (a5S (by decide))
 split
 ·unfold b0r;split
  ·exact nl
  split
  ·refine ap (f _ _) ?_;split
   ·exact nl
   ·exact on (a5S (by decide))
  ·exact ap (f _ _) (kp _ _)
 split
 ·rename_i e;have:=h3 e;exact ap (ap (ap (f _ _) (f _ _)) (on (a5S (by omega)))) (kp _ _)
 split
 ·exact ap (on (a5S (by decide))) (kp _ _)
 split
 ·exact ap (f _ _) (on (a5S (by decide)))
 split
 ·exact ap (ap (ap (f _ _) (on (a5S (by decide)))) (on (a5S (by decide)))) (kp _ _)
 split
 ·exact ap (ap (ap (f _ _) (on (a5S (by decide)))) (f _ _)) (on (a5S (by decide)))
 split
 ·exact ap (on (a5S (by decide))) (kp _ _)
 split
 ·exact ap (f _ _) (on (a5S (by decide)))
 split
 ·exact on (c2W (by decide))
 ·exact nl
theorem c6V (c:Cx) (b:Bk) (n:Int):∀ y ∈ b2m c b n,N27 y:=by
 have f:=b7x c;have ap:∀ {l m:List Sy},(∀ y ∈ l,N27 y)→(∀ y ∈ m,N27 y)→∀ y ∈ l++m,N27 y:=fun h1 h2 y hy=>(List.mem_append.1 hy).elim (h1 y) (h2 y);have on:∀ {x:Sy},N27 x→∀ y ∈ [x],N27 y:=fun h y hy=>by rw[List.mem_singleton.1 hy];exact h
 have nl:∀ y ∈ ([]:List Sy),N27 y:=fun y hy=>by cases hy
 unfold b2m;split
 ·split
  ·exact nl
  ·exact on (c2W (by decide))
 split
 ·split
  ·exact ap (f _ _) (on (c2W (by decide)))
  ·refine ap (ap (f _ _) (on (c2W (by decide)))) ?_;split
   ·exact nl
   ·exact on (c2W (by decide))
 split
 ·split
  ·exact on (a5S (by decide))
  ·exact ap (l:=[_]) (on (a5S (by decide))) (on (a5S (by decide)))
 ·exact nl
theorem b9Q (c:Cx):∀ (l:List Bk) (j:Nat),(∀ k ∈ l,∀ t ∈ k.ins,t.op=3→t.k≤15)→∀ y ∈ a1n c j l,N27 y
 | [],_,_,y,hy=>by cases hy
 | k::l,j,h,y,hy=>by
  rcases List.mem_append.1 hy with hy | hy
  ·rcases List.mem_append.1 hy with hy | hy
   ·obtain ⟨t,ht,hy⟩:=List.mem_flatMap.1 hy;exact c6U c t (h k (by simp) t ht) y hy
   ·exact c6V c k _ y hy
  ·exact b9Q c l (j+1) (fun x hx=>h x (by simp[hx])) y hy
theorem c4B (c:Cx) (row:List Bool):∀ y ∈ a3M c row,N27 y:=fun y hy=>by
 rcases List.mem_append.1 hy with hy | hy
 ·split at hy
  ·cases hy
  ·rw[List.mem_singleton.1 hy];exact a5S (by decide)
 ·unfold a2f at hy;obtain ⟨v,_,hy⟩:=List.mem_flatMap.1 hy;unfold a9H at hy;split at hy
  ·split at hy
   ·rw[List.mem_singleton.1 hy];exact a5S (by decide)
   ·exact b9P c _ _ y hy
  ·cases hy
section
variable {b:BP} {ls:List (List Int)} {rw:Nat→List Bool}
theorem b9R {y:Sy}:∀ (o:List Nat) (S:S3),y ∈ (o.foldl (a4w b ls rw) S).l→y ∈ S.l∨∃ i ∈ o,y ∈ b5u (cxO b ls i) (rw i) (fO b i)
 | [],_,h=>.inl h
 | i::o,S,h=>by
  rcases b9R o _ h with h | ⟨j,hj,h⟩
  ·rcases List.mem_append.1 h with h | h
   ·exact .inl h
   ·exact .inr ⟨i,by simp,h⟩
  ·exact .inr ⟨j,by simp[hj],h⟩
theorem c4C (h:OfH b ls rw):∀ y ∈ (a3I b ls rw).l,N27 y:=fun y hy=>by
 have hw:=h.f.words;rcases b9R _ _ hy with hy | ⟨i,hi,hy⟩
 ·cases hy
 have hil:i<b.funcs.length:=by
  rcases List.mem_cons.1 hi with rfl | hi
  ·omega
  ·have:=List.mem_range.1 hi;omega
 rcases List.mem_append.1 hy with hy | hy
 ·exact c4B _ _ y hy
 ·refine b9Q _ _ 0 (fun k hk t ht e=>?_) y hy;have hr:=((h.f.parts hil k hk).2 t ht).2.2.2.2.2.2.2;unfold a3L at hr;rw[if_pos e]at hr;exact hr.2.1
theorem c9L (h:OfH b ls rw):CdOk (cdO b ls rw):=by
 obtain ⟨hj,hok⟩:=c2t h.f h.n h.rl;have hR:RunP b (a3I b ls rw) _ _:=RunP.all h.f h.n h.rl (b.funcs.length-1) (Nat.le_refl _);have hB:=a5s h.f (b.funcs.length-1) (Nat.le_refl _);have hlen:=hR.len;refine ⟨fun i hi=>⟨hok i hi,?_⟩,?_⟩
 ·unfold cdO fxO b3y at hi;obtain ⟨⟨ci,o⟩,hy,rfl⟩:=List.mem_map.1 hi;have:=c4C h _ hy;cases o<;>exact this
 ·have:(cdO b ls rw).length=(a3I b ls rw).l.length:=b0v _;omega
theorem c8I (h:OfH b ls rw):(a9I b ls rw).length≤16384:=by
 have hR:RunP b (a3I b ls rw) _ _:=RunP.all h.f h.n h.rl (b.funcs.length-1) (Nat.le_refl _);have hB:=a5s h.f (b.funcs.length-1) (Nat.le_refl _);have hlen:=hR.len;have e:(a9I b ls rw).length=(a3I b ls rw).l.length:=by simp[a9I,b3y]
 omega
theorem c5e (h:OfH b ls rw):∀ x ∈ a9I b ls rw,a1b x:=c6M (c9L h)
theorem c8J (h:OfH b ls rw):0≤a1M b ls∧a1M b ls≤32768:=by
 have hw:=h.f.words;have h3:=h.f.tot ls.length (Nat.le_refl _);rw[List.take_of_length_le (Nat.le_refl _)]at h3;have h20:=h.f.few.l;unfold a1M;omega
theorem c8K (h:OfH b ls rw) {inp:ByteArray} (hi:inp.size≤1000000000) {fuel:Nat} (hf:fuel≤1000000000) (h5:(b3P b inp fuel).en≠5) {F:Int} (hF:64*(((b3P b inp fuel).st:Int)+1)≤F) :
 c8S (c6O (a9I b ls rw) (a1M b ls) inp F)=(b1I b inp fuel).en∧(c6O (a9I b ls rw) (a1M b ls) inp F).out=⟨(b1I b inp fuel).out.toArray⟩:=by
 have hd:=c8J h;obtain ⟨n,s',g1,g2,g3⟩:=c0B h h5;have hst:(b3P b inp fuel).st≤fuel:=by
  have hwd:=h.f.words;have hcp:=a8R (inp:=inp) (fuel:=fuel) (c0A h) b.funcs.length (Nat.le_refl _);exact (hcp (b.funcs.length-1) (by omega) (b1Y b) ⟨by simp[b1Y],fun x hx=>by rw[(List.mem_replicate.1 hx).2];exact ⟨by omega,by omega⟩,by simp[b1Y],Nat.zero_le _,Nat.zero_le _⟩ rfl).1.s
 obtain ⟨e1,e2,_⟩:=c4u (c9L h) hi g2 (rs0 hd.2) (Nat.zero_le _) (by omega) (F:=F.toNat) (by omega);have hne:(b1I b inp fuel).en≠0:=by
  unfold b1I;by_cases e0:(b3P b inp fuel).en=0
  ·simp only[if_pos e0];decide
  ·simp only[if_neg e0];exact e0
 refine ⟨?_,?_⟩
 ·show (if (a1T (b2p (cdO b ls rw)) inp (a1N (a1M b ls)) F.toNat).fin=0 then 5 else (a1T (b2p (cdO b ls rw)) inp (a1N (a1M b ls)) F.toNat).fin)=_;rw[e1,if_neg hne]
 ·have:∀ (a:ByteArray) (l:List UInt8),a.data.toList=l→a=⟨l.toArray⟩:=fun a l e=>by subst e;cases a;simp
  exact this _ _ (e2.trans g3)
end
set_option maxRecDepth 10000
open Go.V
theorem c4D (b:BP) (ls:List (List Int)) (n:Int) (hw:0≤b.words∧b.words≤8000) (hl:∀ pl ∈ ls,pl.length≤140737488355328) (hls:ls.length≤20) (hwd:∀ i<ls.length,0≤a8x (ls.getD i default)∧a8x (ls.getD i default)≤4000) (ht:0≤a2J ls∧a2J ls≤80000) (hn:0≤n∧n≤1000000) :
 Contract Tryz.prog 12 [bpA b,b5I ls,I n] (fun r=>r=I ((n+1)*(64+8*(b.words+a2J ls)))):=by
 refine Contract.of_call (VCall.of_body a1g b3C (by simp) ?_);have e1:IntKind.i64.wrap (n+1)=n+1:=a0e (by omega) (by omega);have e2:IntKind.i64.wrap (b.words+a2J ls)=b.words+a2J ls:=a0e (by omega) (by omega);have e3:IntKind.i64.wrap (8*(b.words+a2J ls))=8*(b.words+a2J ls):=a0e (by omega) (by omega);have e4:IntKind.i64.wrap (64+8*(b.words+a2J ls))=64+8*(b.words+a2J ls):=a0e (by omega) (by omega);have hm:0≤(n+1)*(64+8*(b.words+a2J ls))∧(n+1)*(64+8*(b.words+a2J ls))≤1000001*800000:=⟨Int.mul_nonneg (by omega) (by omega),Int.mul_le_mul (by omega) (by omega) (by omega) (by omega)⟩
 have e5:IntKind.i64.wrap ((n+1)*(64+8*(b.words+a2J ls)))=(n+1)*(64+8*(b.words+a2J ls)):=a0e (by omega) (by omega);simp only[go_sem,a8k,e1];refine ECall.of (b9s ls hl hls hwd) (SleL.pure rfl) ⟨_,fun _=>Iff.rfl⟩ fun x hx=>?_;subst hx;simp only[go_sem,e1,e2,e3,e4,e5];exact ⟨_,Frz.pure rfl,rfl⟩
theorem c6W {st:Nat} {x:Int} (hx:0≤x):64*((st:Int)+1)≤((st:Int)+1)*(64+8*x):=by
 rw[Int.mul_comm 64];exact Int.mul_le_mul_of_nonneg_left (by omega) (by omega)
section
variable {b:BP} {ls:List (List Int)} {rw:Nat→List Bool}
end
theorem b7y (a:Int) (s:ByteArray) (m n:Int):Contract Tryz.prog 14 [.agg [I a,a2W s,I m],.agg [I a,a2W s,I n]] (fun r=>r=B true):=by
 have:=c8f a a s s m n;simpa using this
theorem c6X:b1I exCb ⟨#[]⟩ 10=⟨1,[65],3⟩:=by kernel_rfl
theorem c5f {p:Int} (hp:p=1∨p = -1):∃ c d st,ContractN Tryz.prog 9 [bpA exCb,b5I [[p]]] (fun r=>r = .tup [c8R c d,I 0])∧Contract Tryz.prog 15 [c8R c d,a2W ⟨#[]⟩,I 300] (fun r=>r = .agg [I 1,a2W ⟨#[65]⟩,I st]):=by
 have h:=c8e hp;have hw:=h.f.words;have e:(b3P exCb ⟨#[]⟩ 10).st=3:=by kernel_rfl
 have e5:(b3P exCb ⟨#[]⟩ 10).en≠5:=by
  have:(b3P exCb ⟨#[]⟩ 10).en=0:=by kernel_rfl
  rw[this];decide
 obtain ⟨e1,e2⟩:=c8K h (inp:=⟨#[]⟩) (by decide) (fuel:=10) (by decide) e5 (F:=300) (by rw[e];decide);rw[c6X]at e1 e2;have k:=c4A (a9I exCb [[p]] c9H) (a1M exCb [[p]]) ⟨#[]⟩ 300 (c5e h) (by have:=c8I h;omega) (by decide) (by decide);unfold c6P at k;rw[e1,e2]at k;exact ⟨_,_,_,c2v h,k⟩
theorem c6Y:Contract Tryz.prog 4 [] (fun r=>r=B true):=by
 have hq:=b2G;unfold a0z b2z at hq;obtain ⟨c1,d1,st1,n1,r1⟩:=c5f (p:=1) (.inl rfl);obtain ⟨c2,d2,st2,n2,r2⟩:=c5f (p:=-1) (.inr rfl);refine Contract.of_call (VCall.of_bodyS (pt:=false) (pf:=false) a1g hq (by simp) ?_);simp only[go_sem,a7n,a0i,a0j,a0k,a0f];refine ⟨_,Wk.refl _,?_⟩;simp only[go_sem,a0i,a0j,a0k,a0f];refine ⟨_,Wk.refl _,?_⟩;simp only[go_sem,a0i,a0j,a0k,a0f];refine VCall.of_contract c2w (SleL.pure rfl) fun x hx=>?_;subst hx;simp only[go_sem,a0i,a0j,a0k,a0f];refine VCall.of_contractN n1 ?_ fun x hx=>?_
 ·exact ⟨_,_,rfl,Frz.pure rfl,_,_,rfl,Frz.refT (n:=0) (z:=1) (yss:=[[.ref 1 1 0 1]]) (zss:=[[a2t [1]]]) (Nat.zero_le _) rfl rfl rfl rfl (by simp) rfl ⟨_,_,rfl,⟨_,_,rfl,a3R (l:=[1]) (Nat.zero_le _) rfl rfl,rfl⟩,rfl⟩,rfl⟩
 subst hx;simp only[go_sem,a0i,a0j,a0k,a0f];refine ⟨_,Wk.refl _,?_⟩;simp only[go_sem,a0i,a0j,a0k,a0f];refine VCall.of_contract c2w (SleL.pure rfl) fun x hx=>?_;subst hx;simp only[go_sem,a0i,a0j,a0k,a0f];refine VCall.of_contractN n2 ?_ fun x hx=>?_
 ·exact ⟨_,_,rfl,Frz.pure rfl,_,_,rfl,Frz.refT (n:=0) (z:=1) (yss:=[[.ref 4 4 0 1]]) (zss:=[[a2t [-1]]]) (Nat.zero_le _) rfl rfl rfl rfl (by simp) rfl ⟨_,_,rfl,⟨_,_,rfl,a3R (l:=[-1]) (Nat.zero_le _) rfl rfl,rfl⟩,rfl⟩,rfl⟩
 subst hx;simp only[go_sem,a0i,a0j,a0k,a0f,Int.reduceEq,Int.reduceBEq];refine ⟨_,Wk.refl _,?_⟩;simp only[go_sem,a0i,a0j,a0k,a0f,Int.reduceEq,Int.reduceBEq];refine ECall.of r1 (SleL.pure rfl) ⟨_,fun _=>Iff.rfl⟩ fun x hx=>?_;subst hx;simp only[go_sem,a0i,a0j,a0k,a0f,Int.reduceEq,Int.reduceBEq,beq_self_eq_true,decide_true,Bool.and_self];refine ECall.of (b7y 1 ⟨#[65]⟩ st1 0) (SleL.pure rfl) ⟨_,fun _=>Iff.rfl⟩ fun x hx=>?_;subst hx;simp only[go_sem,a0i,a0j,a0k,a0f,Int.reduceEq,Int.reduceBEq,beq_self_eq_true,decide_true,Bool.and_self];refine ECall.of r2 (SleL.pure rfl) ⟨_,fun _=>Iff.rfl⟩ fun x hx=>?_;subst hx;simp only[go_sem,a0i,a0j,a0k,a0f,Int.reduceEq,Int.reduceBEq,beq_self_eq_true,decide_true,Bool.and_self];refine ECall.of (b7y 1 ⟨#[65]⟩ st2 0) (SleL.pure rfl) ⟨_,fun _=>Iff.rfl⟩ fun x hx=>?_
 subst hx;simp only[go_sem,a0i,a0j,a0k,a0f,Int.reduceEq,Int.reduceBEq,beq_self_eq_true,decide_true,Bool.and_self];refine ⟨_,Wk.refl _,?_⟩;simp only[go_sem,a0i,a0j,a0k,a0f];exact ⟨_,Frz.pure rfl,rfl⟩
set_option maxRecDepth 10000
open Go.V Go.ChangeShapes Go.WideShapes Go.ChangeAt Go.RowKit
theorem b9S {α β:Type} (f:α→β):∀ l:List α,l.map f=(l.map fun x=>[f x]).flatten
 | []=>rfl
 | x::l=>by rw[List.map_cons,List.map_cons,List.flatten_cons,← b9S f l];rfl
theorem c8L (n:Nat) (H:List VObj) (nx:Nat) (X:List VObj):OW n H nx X []:=by cases X<;>trivial
def PlC (H:List VObj) (v:AV) (pls:List (List Int)):Prop :=
 (v=a0T∧pls=[])∨∃ k s,k≠0∧v = .ref k s 0 pls.length∧H[k]? = some ⟨s,30,1,pls.map a2t⟩
theorem PlC.one {H:List VObj} {v:AV} {pls:List (List Int)} (h:PlC H v pls):v.one=true:=by
 rcases h with ⟨rfl,_⟩ | ⟨_,_,_,rfl,_⟩<;>rfl
theorem PlC.frz {H:List VObj} {v:AV} {pls:List (List Int)} (h:PlC H v pls) (nx:Nat):Frz 0 H nx v (b5I pls):=by
 rcases h with ⟨rfl,rfl⟩ | ⟨k,s,_,rfl,h2⟩
 ·exact Frz.nil 1
 ·have:=Frz.refT (n:=0) (nx:=nx) (z:=1) (len:=pls.length) (yss:=pls.map fun pl=>[a2t pl]) (zss:=pls.map fun pl=>[a2t pl]) (Nat.zero_le _) h2 rfl rfl (b9S _ _) (fun l hl=>by obtain ⟨x,_,rfl⟩:=List.mem_map.1 hl;rfl) (by simp) (FrzLL.pure fun l hl=>by obtain ⟨x,_,rfl⟩:=List.mem_map.1 hl;rfl);rw[List.map_map]at this;exact this
structure QAL where
 pls:List (List Int)
 H:List VObj
 v:AV
 nx:Nat
theorem c4E {b:BP} {ls:List (List Int)} {rw:Nat→List Bool} (h:OfH b ls rw) {inp:ByteArray} (hi:inp.size≤1000000000) (h5:(b1I b inp 300).en≠5) :
 ∃ st,Contract Tryz.prog 11 [c8R (a9I b ls rw) (a1M b ls),a2W inp,I ((((b1I b inp 300).st:Int)+1)*(64+8*(b.words+a2J ls)))] (fun r=>r = .agg [I (b1I b inp 300).en,a2W ⟨(b1I b inp 300).out.toArray⟩,I st]):=by
 have hw:=h.f.words;have h3:=h.f.tot ls.length (Nat.le_refl _);rw[List.take_of_length_le (Nat.le_refl _)]at h3;have h5':(b3P b inp 300).en≠5:=fun e=>by
  apply h5;unfold b1I;rw[e];rfl
 have hst:(b1I b inp 300).st≤300:=by
  have hcp:=a8R (inp:=inp) (fuel:=300) (c0A h) b.funcs.length (Nat.le_refl _);exact (hcp (b.funcs.length-1) (by omega) (b1Y b) ⟨by simp[b1Y],fun x hx=>by rw[(List.mem_replicate.1 hx).2];exact ⟨by omega,by omega⟩,by simp[b1Y],Nat.zero_le _,Nat.zero_le _⟩ rfl).1.s
 have hF:=c6W (st:=(b1I b inp 300).st) (x:=b.words+a2J ls) (by omega);have hm:(((b1I b inp 300).st:Int)+1)*(64+8*(b.words+a2J ls))≤301*80000:=Int.mul_le_mul (by omega) (by omega) (by omega) (by omega);obtain ⟨e1,e2⟩:=c8K h hi (by omega) h5' hF;have k:=c9B (a9I b ls rw) (a1M b ls) inp ((((b1I b inp 300).st:Int)+1)*(64+8*(b.words+a2J ls))) (c5e h) (by have:=c8I h;omega) hi (by omega);unfold c6P at k;rw[e1,e2]at k;exact ⟨_,k⟩
set_option maxHeartbeats 2000000 in
theorem b7z (b:BP) (inp:ByteArray) (hl:b.funcs.length≤140737488355328) (hf:∀ f ∈ b.funcs,BfOk f):Contract Tryz.prog 3 [bpA b,a2W inp] (fun r=>r=B true):=by
 have hq:=a7Y;unfold a0z b2z at hq;refine Contract.of_call (VCall.of_bodyS (pt:=false) (pf:=false) a1g hq (by simp) ?_);simp only[go_sem,a0i,a0j,a0k,a0f,Int.reduceEq,Int.reduceBEq,a3N];refine ⟨_,Wk.refl _,?_⟩;simp only[go_sem,a0i,a0j,a0k,a0f,Int.reduceEq,Int.reduceBEq];refine VCall.of_contract (c6Y) (SleL.pure rfl) fun x hx=>?_;subst hx;simp only[go_sem,a0i,a0j,a0k,a0f,Int.reduceEq,Int.reduceBEq];refine ⟨_,Wk.refl _,?_⟩;simp only[go_sem,a0i,a0j,a0k,a0f,Int.reduceEq,Int.reduceBEq];refine VCall.of_contract (c9l b hl hf) (SleL.pure rfl) fun x hx=>?_;obtain ⟨v,rfl,hv⟩:=hx;cases v
 ·simp only[go_sem,a0i,a0j,a0k,a0f,Int.reduceEq,Int.reduceBEq];exact ⟨_,Frz.pure rfl,rfl⟩
 have hF:=hv rfl;by_cases hi:(60:Int)<(inp.size:Int)
 ·simp only[go_sem,a0i,a0j,a0k,a0f,Int.reduceEq,Int.reduceBEq,eq_true hi];exact ⟨_,Frz.pure rfl,rfl⟩
 simp only[go_sem,a0i,a0j,a0k,a0f,Int.reduceEq,Int.reduceBEq,eq_false hi];refine ⟨_,Wk.refl _,?_⟩;simp only[go_sem,a0i,a0j,a0k,a0f,Int.reduceEq,Int.reduceBEq];refine ⟨_,Wk.refl _,?_⟩;simp only[go_sem,a0i,a0j,a0k,a0f,Int.reduceEq,Int.reduceBEq];have h20:=hF.l;refine a0r (fun q:QAL=>⟨[(1,a2W inp),(2,.ptr 0 0 0),(5,q.v),(6,I q.pls.length)],q.H,q.nx⟩)
  (fun q=>q.pls.length≤b.funcs.length∧(∀ i<q.pls.length,∃ L,Least (b.funcs.getD i default) L∧AllocP (b.funcs.getD i default) L (q.pls.getD i default) 8)∧q.H[0]? = some ⟨0,24,1,[I b.words,.imm 2 (b.funcs.map bfA)]⟩∧PlC q.H q.v q.pls)
  (fun q=>b.funcs.length-q.pls.length) ⟨[],_,a0T,1⟩ (Wk.mk (by simp[a0a]) ⟨[],(List.append_nil _).symm⟩ (Nat.le_refl _)) ⟨Nat.zero_le _,fun i hi=>absurd hi (Nat.not_lt_zero i),rfl,.inl ⟨rfl,rfl⟩⟩ ?_
 rintro ⟨pls,H,v,nx⟩ ⟨h1,h2,h3,h4⟩;simp only at h1 h2 h3 h4;have hv1:=h4.one;by_cases hc:(pls.length:Int)<(b.funcs.length:Int)
 ·have hfb:=hF.fine (i:=pls.length) (by omega);obtain ⟨L,hL⟩:=b6O hfb.1;have e1:IntKind.i64.wrap ((pls.length:Int)+1)=((pls.length+1:Nat):Int):=by rw[a0e (by omega) (by omega)];omega
  have hga:∀ x:VObj,(H++[x])[H.length]? = some x:=fun x=>by simp
  have hmx:(2000000:Nat)≤maxLen:=by decide
  have hnew:∀ pl,AllocP (b.funcs.getD pls.length default) L pl 8→∀ i<(pls++[pl]).length,∃ L,Least (b.funcs.getD i default) L∧AllocP (b.funcs.getD i default) L ((pls++[pl]).getD i default) 8:=fun pl hA i hi=>by
   by_cases e:i<pls.length
   ·rw[show (pls++[pl]).getD i default=pls.getD i default by simp[List.getD,List.getElem?_append_left e]];exact h2 i e
   ·have ei:i=pls.length:=by simp at hi;omega
    subst ei;rw[show (pls++[pl]).getD pls.length default=pl by simp[List.getD]];exact ⟨L,hL,hA⟩
  simp only[go_sem,a0i,a0j,a0k,a0f,Int.reduceEq,Int.reduceBEq,h3,hv1,eq_true hc]
  repeat ((with_reducible refine And.intro ?_ ?_);· first | omega | rfl)
  refine ECall.of (b7k _ hfb.1 (by omega) L hL) (SleL.pure rfl) ⟨_,fun _=>Iff.rfl⟩ fun x hx=>?_;subst hx;simp only[go_sem,a0i,a0j,a0k,a0f,Int.reduceEq,Int.reduceBEq,h3,hv1];refine VCall.of_contract (c7J _ L 8 hfb.1 hL.cl (by omega) (by decide)) (SleL.pure rfl) fun x hx=>?_;obtain ⟨pl,rfl,hA⟩:=hx;refine ⟨Stab.refl _ _ _,?_⟩;rcases h4 with ⟨rfl,rfl⟩ | ⟨k,s,k0,rfl,hk⟩
  ·simp only[go_sem,a0i,a0j,a0k,a0f,Int.reduceEq,Int.reduceBEq,hga,e1]
   repeat ((with_reducible refine And.intro ?_ ?_);· first | omega | rfl)
   have e0:IntKind.i64.wrap 1=1:=by decide
   refine ⟨⟨[pl],_,.ref (H++[_]).length (nx+1) 0 1,nx+1+1⟩,⟨by simp at hc ⊢;omega,hnew pl hA,a0M (a0M h3 _) _,.inr ⟨_,_,by simp,rfl,by rw[List.getElem?_append_right (Nat.le_refl _)];simp⟩⟩,by simp at hc ⊢;omega,Wk.mk ?_ ⟨[],(List.append_nil _).symm⟩ (Nat.le_refl _)⟩;simp[a0a,e0]
  ·have hgk:∀ x:VObj,(H++[x])[k]? = _:=fun x=>a0M hk _;simp only[go_sem,a0i,a0j,a0k,a0f,Int.reduceEq,Int.reduceBEq,hga,hgk,e1]
   repeat ((with_reducible refine And.intro ?_ ?_);· first | omega | rfl)
   refine ⟨⟨pls++[pl],_,.ref k (nx+1) 0 (pls.length+1),nx+1+1⟩,⟨by simp;omega,hnew pl hA,a0C (a0M h3 _) k0 _,.inr ⟨k,nx+1,k0,by simp,by rw[get_set (hgk _),b6R];simp⟩⟩,by simp;omega,Wk.mk ?_ ⟨[],(List.append_nil _).symm⟩ (Nat.le_refl _)⟩;simp[a0a]
 have hlen:pls.length=b.funcs.length:=by omega
 have hold:HoldP b pls:=⟨hlen,fun i hi=>h2 i (by omega)⟩
 simp only[go_sem,a0i,a0j,a0k,a0f,Int.reduceEq,Int.reduceBEq,h3,hv1,eq_false hc];refine ⟨⟨[(1,a2W inp),(2,.ip (bpA b)),(5,b5I pls)],[],nx⟩,Wk.give (fun p hp=>?_) (c8L _ _ _ _) (Nat.le_refl _),?_⟩
 ·rcases List.mem_cons.1 hp with rfl | hp
  ·exact .inl rfl
  rcases List.mem_cons.1 hp with rfl | hp
  ·exact .inr (Frz.ptr (Nat.le_refl _) h3 rfl (show (1:Nat)≠0 by decide) ⟨_,_,rfl,Frz.pure rfl,_,_,rfl,Frz.pure rfl,rfl⟩)
  rcases List.mem_singleton.1 hp with rfl;exact .inr (h4.frz nx)
 have hpp:∀ pl ∈ pls,pl.length≤140737488355328:=fun pl hp=>by
  obtain ⟨i,hi2,rfl⟩:=List.getElem_of_mem hp;obtain ⟨L,_,hA⟩:=h2 i hi2;have:=hA.len;rw[show pls.getD i default=pls[i] by simp[List.getD,hi2]]at this;have:=(hF.fine (i:=i) (by omega)).2.1;omega
 simp only[go_sem,a0i,a0j,a0k,a0f,Int.reduceEq,Int.reduceBEq];refine VCall.of_contract (b9s pls hpp (by omega) hold.wds) (SleL.pure rfl) fun x hx=>?_;subst hx;by_cases h6:(600:Int)<a2J pls
 ·simp only[go_sem,a0i,a0j,a0k,a0f,Int.reduceEq,Int.reduceBEq,eq_true h6];exact ⟨_,Frz.pure rfl,rfl⟩
 obtain ⟨rw,h⟩:=c6r (⟨hF,hold,by omega⟩:FairP b pls) hf hpp;have hw:=h.f.words;have ht:=h.f.tot pls.length (Nat.le_refl _);rw[List.take_of_length_le (Nat.le_refl _)]at ht;have k1:=c8d h;unfold ofA at k1;have k3:=c7t b inp 300 (List.length_pos_iff.1 hw.2.2) ⟨hw.1,by omega⟩ (c0A h) (by omega) (by decide) (by omega);have k4:=fun h5=>c4E h (inp:=inp) (by omega) h5;have k5:=c4D b pls (b1I b inp 300).st ⟨hw.1,hw.2.1⟩ hpp (by omega) h.f.hold.wds ⟨ht.1,by omega⟩ ⟨by omega,by
  have hcp:=a8R (inp:=inp) (fuel:=300) (c0A h) b.funcs.length (Nat.le_refl _);have:=(hcp (b.funcs.length-1) (by omega) (b1Y b) ⟨by simp[b1Y],fun x hx=>by rw[(List.mem_replicate.1 hx).2];exact ⟨by omega,by omega⟩,by simp[b1Y],Nat.zero_le _,Nat.zero_le _⟩ rfl).1.s;have e:(b1I b inp 300).st=(b3P b inp 300).st:=rfl;have e2:(b3P b inp 300).st≤300:=this;omega⟩
 generalize a9I b pls rw=code at *
 generalize a1M b pls=data at *
 generalize b1I b inp 300=ρ at *
 simp only[go_sem,a0i,a0j,a0k,a0f,Int.reduceEq,Int.reduceBEq,eq_false h6];refine ⟨_,Wk.refl _,?_⟩;simp only[go_sem,a0i,a0j,a0k,a0f,Int.reduceEq,Int.reduceBEq];refine VCall.of_contract (k1) (SleL.pure rfl) fun x hx=>?_;subst hx;simp only[go_sem,a0i,a0j,a0k,a0f,Int.reduceEq,Int.reduceBEq];refine ⟨_,Wk.refl _,?_⟩;simp only[go_sem,a0i,a0j,a0k,a0f,Int.reduceEq,Int.reduceBEq];refine ⟨_,Wk.refl _,?_⟩;simp only[go_sem,a0i,a0j,a0k,a0f,Int.reduceEq,Int.reduceBEq];refine VCall.of_contract (k3) (SleL.pure rfl) fun x hx=>?_;subst hx;simp only[go_sem,a0i,a0j,a0k,a0f,Int.reduceEq,Int.reduceBEq];by_cases h5:ρ.en=5
 ·refine ⟨_,Wk.refl _,?_⟩;simp only[go_sem,a0i,a0j,a0k,a0f,Int.reduceEq,Int.reduceBEq,eq_true h5];exact ⟨_,Frz.pure rfl,rfl⟩
 obtain ⟨s6,k6⟩:=k4 h5;refine ⟨_,Wk.refl _,?_⟩;simp only[go_sem,a0i,a0j,a0k,a0f,Int.reduceEq,Int.reduceBEq,eq_false h5];refine ⟨_,Wk.refl _,?_⟩;simp only[go_sem,a0i,a0j,a0k,a0f,Int.reduceEq,Int.reduceBEq];refine ECall.of (k5) (SleL.pure rfl) ⟨_,fun _=>Iff.rfl⟩ fun x hx=>?_;subst hx;simp only[go_sem,a0i,a0j,a0k,a0f,Int.reduceEq,Int.reduceBEq];refine ECall.of (k6) (SleL.pure rfl) ⟨_,fun _=>Iff.rfl⟩ fun x hx=>?_;subst hx;simp only[go_sem,a0i,a0j,a0k,a0f,Int.reduceEq,Int.reduceBEq];refine ⟨_,Wk.refl _,?_⟩;simp only[go_sem,a0i,a0j,a0k,a0f,Int.reduceEq,Int.reduceBEq,beq_self_eq_true,decide_true,Bool.and_self];refine ⟨_,Wk.refl _,?_⟩;simp only[go_sem,a0i,a0j,a0k,a0f,Int.reduceEq,Int.reduceBEq,beq_self_eq_true,decide_true,Bool.and_self];exact ⟨_,Frz.pure rfl,rfl⟩
set_option maxRecDepth 100000 in
theorem b0B (os:Os) (started:os.Started) (H:Type) (enc:TypeId × Value→H) :
 ReturnsInHanded {} Tryz.checked os 3 .any (Rows.chooseRunsSpec.pre6 enc Tryz.prog Tryz.f3 Rows.chooseRunsRow.domain false) (Rows.chooseRunsSpec.post enc Tryz.prog Tryz.f3 false true false false):=by
 refine returnsInHanded_of_change_sized (C:=Tryz.checked) Tryz.own started (by kernel_rfl) Tryz.func3
  (ChangeSpec.witness6 (enc:=enc) (C:=Tryz.checked) false ⟨#[],#[.agg #[.int .i64 0,.slice none 0 0],.string ⟨#[]⟩],[]⟩ 8 (by kernel_rfl) (by kernel_rfl) (by kernel_rfl) (by kernel_rfl)) ?_
 intro W base args ds gs before hval hW _ hwt _;refine c1p (P:=Tryz.prog) (n:=20) (shs:=[c9s,.str]) (tb:=4) Tryz.laidOut rfl (by kernel_rfl) (by kernel_rfl) (by decide +kernel) (by kernel_rfl) (fun ds h=>?_) (fun xs hx=>?_) hval hW hwt
 ·match ds,h with
  | [d1,d2],_=>rfl
 ·obtain ⟨x,xs',rfl,hx1,hxs⟩:=b6X hx;obtain ⟨z,zs',rfl,hz,hzs⟩:=b6X hxs;simp only[Sh.fitL]at hzs;subst hzs;obtain ⟨b,rfl,g1,g2,g3⟩:=c9t hx1;simp only[Sh.fit]at hz;obtain ⟨inp,rfl,hz⟩:=hz;exact b7z b inp g2 g3
theorem chooseruns_holds:Rows.ChooseRunsSaid :=
 OpenClaim.holds_of_wide 3 Tryz.f3 rfl rfl rfl rfl rfl rfl rfl ⟨rfl,rfl,rfl,rfl,rfl⟩ rfl rfl rfl rfl rfl (by kernel_rfl) Tryz.func3 (by kernel_rfl)
  (of_decide_eq_true (by kernel_rfl)) (by unfold Func.isWrapper;first | (rw[if_pos (by decide +kernel)];kernel_rfl) | (rw[if_neg (by decide +kernel)];exact ⟨rfl,rfl⟩))
  (fun os started H enc _=>b0B os started H enc)
end Go.Proofs.YtkbhfokbhkmfgaaGreat
