/- The engine, part 13: lists of numbers and truths, and what is often asked of them. No condition. -/
import Derived.Test.YtkbhfokbhkmfgaaGreatUG
import Derived.Test.YtkbhfokbhkmfgaaGreatUC
set_option linter.unusedVariables false
set_option linter.unusedSimpArgs false
namespace Go.V
set_option linter.unusedSimpArgs false
set_option linter.unusedVariables false
open Go.RowKit
abbrev a2t (l:List Int):AV:=.imm 1 (l.map I)
abbrev a7m (l:List Bool):AV:=.imm 1 (l.map B)
abbrev a0T:AV:=.val (.slice none 0 0)
theorem FrzL.map {α:Type} {n:Nat} {H:List VObj} {nx:Nat} {f g:α→AV}:∀ (l:List α),(∀ a ∈ l,Frz n H nx (f a) (g a))→FrzL n H nx (l.map f) (l.map g)
 | [],_=>rfl
 | a::l,h=>⟨g a,l.map g,rfl,h a (by simp),FrzL.map l fun b hb=>h b (by simp[hb])⟩
theorem FrzL.of_get {n:Nat} {H:List VObj} {nx:Nat}:∀ {xs ys:List AV},xs.length=ys.length→(∀ (i:Nat) x y,xs[i]? = some x→ys[i]? = some y→Frz n H nx x y)→FrzL n H nx xs ys
 | [],ys,hl,_=>List.eq_nil_of_length_eq_zero (by simpa using hl.symm)
 | x::xs,[],hl,_=>by simp at hl
 | x::xs,y::ys,hl,h=>⟨y,ys,rfl,h 0 x y (by simp) (by simp),FrzL.of_get (by simpa using hl) fun i a b ha hb=>h (i+1) a b (by simpa using ha) (by simpa using hb)⟩
theorem b6u {n:Nat} {H:List VObj} {nx id s ty len:Nat} {cs ys:List AV} (hid:n≤id) (ho:H[id]? = some ⟨s,ty,1,cs⟩) (hlen:len=ys.length) (hl:cs.length=ys.length) (h1:cs.all AV.one=true)
 (h:∀ (i:Nat) x y,cs[i]? = some x→ys[i]? = some y→Frz n H nx x y):Frz n H nx (.ref id s 0 len) (.imm 1 ys):=by
 refine Frz.ref hid ho rfl rfl h1 ?_;subst hlen;simp only[List.drop_zero];rw[List.take_of_length_le (by simp[hl])];exact FrzL.of_get hl h
theorem a5B {α:Type} {f:α→AV} (hf:∀ a,(f a).cells=[f a]):∀ (l:List α),a2N (l.map f)=l.map f
 | []=>rfl
 | a::l=>by simp[a2N,hf,a5B hf l]
theorem c5k {α:Type} {f:α→AV} (hf:∀ a,(f a).one=true) (l:List α):(l.map f).all AV.one=true:=by simp[hf]
theorem b2F {α:Type} {n:Nat} {H:List VObj} {nx id s ty:Nat} {f g:α→AV} {l:List α} {len:Nat} (hid:n≤id) (ho:H[id]? = some ⟨s,ty,1,l.map f⟩) (hlen:len=l.length) (hf:∀ a,(f a).one=true) (h:∀ a ∈ l,Frz n H nx (f a) (g a)) :
 Frz n H nx (.ref id s 0 len) (.imm 1 (l.map g)):=by
 refine Frz.ref hid ho rfl rfl (c5k hf l) ?_;subst hlen;simp only[List.drop_zero];rw[List.take_of_length_le (by simp)];exact FrzL.map l h
theorem a3R {n:Nat} {H:List VObj} {nx id s ty:Nat} {l:List Int} {len:Nat} (hid:n≤id) (ho:H[id]? = some ⟨s,ty,1,l.map I⟩) (hlen:len=l.length):Frz n H nx (.ref id s 0 len) (a2t l) :=
 b2F hid ho hlen (fun _=>rfl) (fun _ _=>Frz.pure rfl)
theorem c1q {n:Nat} {H:List VObj} {nx id s ty:Nat} {l:List Bool} {len:Nat} (hid:n≤id) (ho:H[id]? = some ⟨s,ty,1,l.map B⟩) (hlen:len=l.length):Frz n H nx (.ref id s 0 len) (a7m l) :=
 b2F hid ho hlen (fun _=>rfl) (fun _ _=>Frz.pure rfl)
theorem a9k {α:Type} {H:List VObj} {nx id s ty:Nat} {f:α→Value} {l:List α} {len:Nat} (ho:H[id]? = some ⟨s,ty,1,l.map fun a=>.val (f a)⟩) (hlen:len=l.length) (hf:∀ a,(f a).oneCell'=true) :
 FrzN H nx (.ref id s 0 len) (.imm 1 (l.map fun a=>.val (f a))):=by
 refine FrzN.ref ho rfl rfl (by simp[AV.one,hf]) ?_;subst hlen;simp only[List.drop_zero];rw[List.take_of_length_le (by simp)];exact FrzNL.vals f l
theorem a3B {H:List VObj} {nx id s ty:Nat} {l:List Int} {len:Nat} (ho:H[id]? = some ⟨s,ty,1,l.map I⟩) (hlen:len=l.length):FrzN H nx (.ref id s 0 len) (a2t l) :=
 a9k (f:=fun n=>.int .i64 n) ho hlen fun _=>rfl
theorem c0c {H:List VObj} {nx id s ty:Nat} {l:List Bool} {len:Nat} (ho:H[id]? = some ⟨s,ty,1,l.map B⟩) (hlen:len=l.length):FrzN H nx (.ref id s 0 len) (a7m l) :=
 a9k (f:=fun b=>.bool b) ho hlen fun _=>rfl
theorem b4P {α:Type} {f:α→AV} {p:α→Prop} {Q:AV→Prop} (h:∀ y,Q y→∃ a,y=f a∧p a):∀ (xs:List AV),(∀ y ∈ xs,Q y)→∃ l:List α,xs=l.map f∧∀ a ∈ l,p a
 | [],_=>⟨[],rfl,by simp⟩
 | y::xs,hx=>by
  obtain ⟨a,h1,h2⟩:=h y (hx y (by simp));obtain ⟨l,h3,h4⟩:=b4P h xs (fun z hz=>hx z (by simp[hz]));exact ⟨a::l,by simp[h1,h3],by simp[h2];exact h4⟩
def a8H (n:Int):Prop:=-9223372036854775808≤n∧n≤9223372036854775807
theorem c3j {n:Int} (h:(Lit.int .i64 n).wf=true):a8H n:=by
 simp[Lit.wf,IntKind.min,IntKind.max,IntKind.bits,IntKind.signed]at h;exact ⟨by omega,by omega⟩
theorem a3c {x:AV} (h:Sh.fit (.int .i64) x):∃ n,x=I n∧a8H n:=by
 simp only[Sh.fit]at h;obtain ⟨n,h1,h2⟩:=h;exact ⟨n,h1,c3j h2⟩
def a5h {α β:Type} (f:α→β) (z:β) (xs:List α) (k:Nat):List β:=(xs.take k).map f++List.replicate (xs.length-k) z
theorem b7R {α β:Type} (f:α→β) (z:β) (xs:List α):a5h f z xs 0=List.replicate xs.length z:=by simp[a5h]
theorem c0d {α β:Type} (f:α→β) (z:β) (xs:List α) {k:Nat} (h:xs.length≤k):a5h f z xs k=xs.map f:=by
 unfold a5h;rw[List.take_of_length_le h,show xs.length-k=0 by omega];simp
theorem b4Q {α β:Type} (f:α→β) (z:β) (xs:List α) {k:Nat} (h:k≤xs.length):(a5h f z xs k).length=xs.length:=by simp[a5h];omega
theorem b4o {α β:Type} [Inhabited α] (f:α→β) (z:β) (xs:List α) {k:Nat} (h:k<xs.length):(a5h f z xs k).set k (f (xs.getD k default))=a5h f z xs (k+1):=by
 unfold a5h;rw[List.set_append,if_neg (by simp;omega),show xs.length-k=(xs.length-(k+1))+1 by omega,List.replicate_succ,show k-((xs.take k).map f).length=0 by simp;omega,List.set_cons_zero];rw[List.take_add_one,List.getElem?_eq_getElem h,List.map_append];simp only[List.getD,List.getElem?_eq_getElem h,Option.getD_some,Option.toList_some,List.map_cons,List.map_nil,List.append_assoc,List.cons_append,List.nil_append]
theorem b7S {α β:Type} [Inhabited α] (f:α→β) (z:β) (xs:List α) {k:Nat} (h:k<xs.length) (hz:f (xs.getD k default)=z):a5h f z xs k=a5h f z xs (k+1):=by
 rw[← b4o f z xs h,hz];unfold a5h;rw[List.set_append,if_neg (by simp;omega),show xs.length-k=(xs.length-(k+1))+1 by omega,List.replicate_succ,show k-((xs.take k).map f).length=0 by simp;omega,List.set_cons_zero]
theorem a3S {α:Type} (n:Nat) (x:α):(List.replicate n [x]).flatten=List.replicate n x:=by
 induction n with
 | zero=>rfl
 | succ n ih=>simp[List.replicate_succ,ih]
theorem a0q {α:Type} [Inhabited α] {xs:List α} {k:Nat} (h:k<xs.length):xs.getD k default ∈ xs:=by
 simp[List.getD,List.getElem?_eq_getElem h]
def CW (n:Nat) (H:List VObj) (nx:Nat) (xs ys:List AV):Prop:=xs.length=ys.length∧∀ (i:Nat) x y,xs[i]? = some x→ys[i]? = some y→x=y∨Frz n H nx x y
theorem CW.refl {n:Nat} {H:List VObj} {nx:Nat} (xs:List AV):CW n H nx xs xs:=⟨rfl,fun i x y h1 h2=>.inl (by rw[h1]at h2;exact Option.some.inj h2)⟩
theorem CW.set {n:Nat} {H:List VObj} {nx:Nat} {xs:List AV} {k:Nat} {x y:AV} (h:Frz n H nx x y):CW n H nx (xs.set k x) (xs.set k y) :=
 ⟨by simp,fun i a b h1 h2=>by
   rw[List.getElem?_set]at h1 h2;split at h1
   ·rename_i e;rw[if_pos e]at h2;split at h1
    ·rename_i e2;rw[if_pos e2]at h2;cases h1;cases h2;exact .inr h
    ·cases h1
   ·rename_i e;rw[if_neg e]at h2;rw[h1]at h2;exact .inl (Option.some.inj h2)⟩
theorem CW.append {n:Nat} {H:List VObj} {nx:Nat} {xs ys:List AV} (h:FrzL n H nx xs ys):CW n H nx xs ys:=by
 induction xs generalizing ys with
 | nil=>simp only[FrzL]at h;subst h;exact CW.refl _
 | cons x xs ih =>
  simp only[FrzL]at h;obtain ⟨y,ys',rfl,h1,h2⟩:=h;obtain ⟨h3,h4⟩:=ih h2;refine ⟨by simp[h3],fun i a b ha hb=>?_⟩;cases i with
  | zero=>simp at ha hb;subst ha;subst hb;exact .inr h1
  | succ i=>exact h4 i a b (by simpa using ha) (by simpa using hb)
def OW (n:Nat) (H:List VObj) (nx:Nat):List VObj→List VObj→Prop
 | _,[]=>True
 | [],_::_=>False
 | o::os,o'::os'=>o.s=o'.s∧o.ty=o'.ty∧o.sz=o'.sz∧(o'.sz=0→o'.cs=o.cs)∧CW n H nx o.cs o'.cs∧OW n H nx os os'
theorem OW.get {n:Nat} {H:List VObj} {nx:Nat}:∀ {os os':List VObj},OW n H nx os os'→os'.length≤os.length∧∀ (j:Nat) (ob':VObj),os'[j]? = some ob'→∃ ob:VObj,os[j]? = some ob∧ob.s=ob'.s∧ob.ty=ob'.ty∧ob.sz=ob'.sz∧(ob'.sz=0→ob'.cs=ob.cs)∧CW n H nx ob.cs ob'.cs
 | _,[],_=>⟨Nat.zero_le _,fun j ob' h=>by simp at h⟩
 | [],_::_,h=>h.elim
 | o::os,o'::os',⟨h1,h2,h3,hz,h4,h5⟩=>by
  obtain ⟨h6,h7⟩:=OW.get h5;refine ⟨by simpa using h6,fun j ob' h=>?_⟩;cases j with
  | zero=>simp at h;subst h;exact ⟨o,by simp,h1,h2,h3,hz,h4⟩
  | succ j=>simp at h;obtain ⟨ob,g1,g2⟩:=h7 j ob' h;exact ⟨ob,by simpa using g1,g2⟩
theorem Wk.give {st st':St} (he:∀ p ∈ st'.env,get st.env p.1=p.2∨Frz st'.H.length st.H st.nx (get st.env p.1) p.2) (hH:OW st'.H.length st.H st.nx st.H st'.H) (hnx:st.nx≤st'.nx):Wk st st' :=
 Wk.drop he (fun j ob' h=>by
  obtain ⟨ob,h1,h2,h3,h4,hz,h5,h6⟩:=hH.get.2 j ob' h;exact ⟨ob,h1,h2,h3,h4,h5,hz,h6⟩) hH.get.1 hnx
end Go.V
