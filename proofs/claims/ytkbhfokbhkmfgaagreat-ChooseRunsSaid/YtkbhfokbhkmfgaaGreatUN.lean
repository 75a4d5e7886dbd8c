/- The engine, part 6b: things held against one another, parts of strings and arrays, bytes and strings, copies, maps. No condition. -/
import Derived.Test.YtkbhfokbhkmfgaaGreatU6
import Derived.Laws.StructEq
import Derived.Laws.BytesString
import Derived.ChangeKeysEq
set_option linter.unusedVariables false
set_option linter.unusedSimpArgs false
namespace Go.V
open Go.RowKit
def a5g:List LK→List Value→List Value→Option Bool
 | [],[],[]=>some true
 | .int::ks,.int k a::xs,.int k' b::ys=>if k=k' then (a5g ks xs ys).map ((a == b) && ·) else none
 | .bool::ks,.bool a::xs,.bool b::ys=>(a5g ks xs ys).map ((a == b) && ·)
 | .str::ks,.string a::xs,.string b::ys=>(a5g ks xs ys).map ((a == b) && ·)
 | _,_,_=>none
theorem c0T {M:MM}:∀ (ks:List LK) (xs ys:List AV) (acc:Bool) (C:Bool→Prop) (vs us:List Value),eqW ks xs ys acc C→RL M xs vs→RL M ys us→∃ b,a5g ks vs us=some b∧C (acc && b):=by
 intro ks xs ys acc C
 fun_induction eqW ks xs ys acc C with
 | case1 acc C =>
  intro vs us h h1 h2;simp only[RL]at h1 h2;subst h1;subst h2;exact ⟨true,rfl,by simpa using h⟩
 | case2 ks k a xs k' b ys acc C ih =>
  intro vs us h h1 h2;simp only[RL]at h1 h2;obtain ⟨v,vs',rfl,h3,h4⟩:=h1;obtain ⟨u,us',rfl,h5,h6⟩:=h2;simp only[RV]at h3 h5;subst h3;subst h5;obtain ⟨rfl,h⟩:=h;obtain ⟨q,e1,e2⟩:=ih _ _ h h4 h6;exact ⟨(a == b) && q,by simp[a5g,e1],by rw[← Bool.and_assoc];exact e2⟩
 | case3 ks a xs b ys acc C ih =>
  intro vs us h h1 h2;simp only[RL]at h1 h2;obtain ⟨v,vs',rfl,h3,h4⟩:=h1;obtain ⟨u,us',rfl,h5,h6⟩:=h2;simp only[RV]at h3 h5;subst h3;subst h5;obtain ⟨q,e1,e2⟩:=ih _ _ h h4 h6;exact ⟨(a == b) && q,by simp[a5g,e1],by rw[← Bool.and_assoc];exact e2⟩
 | case4 ks a xs b ys acc C ih =>
  intro vs us h h1 h2;simp only[RL]at h1 h2;obtain ⟨v,vs',rfl,h3,h4⟩:=h1;obtain ⟨u,us',rfl,h5,h6⟩:=h2;simp only[RV]at h3 h5;subst h3;subst h5;obtain ⟨q,e1,e2⟩:=ih _ _ h h4 h6;exact ⟨(a == b) && q,by simp[a5g,e1],by rw[← Bool.and_assoc];exact e2⟩
 | case5=>intro vs us h;exact h.elim
theorem a9Z:∀ (k1 k2:List LK) (vs us:List Value) (b:Bool),a5g (k1++k2) vs us=some b→∃ b1 b2,a5g k1 (vs.take k1.length) (us.take k1.length)=some b1∧a5g k2 (vs.drop k1.length) (us.drop k1.length)=some b2∧b=(b1 && b2)∧k1.length≤vs.length∧k1.length≤us.length
 | [],k2,vs,us,b,h=>⟨true,b,by simp[a5g],by simpa using h,rfl,Nat.zero_le _,Nat.zero_le _⟩
 | k::k1,k2,vs,us,b,h=>by
  have key:∀ (x y:Value) (vs' us':List Value) (e:Bool),vs=x::vs'→us=y::us'→(a5g (k1++k2) vs' us').map (e && ·)=some b→(∀ c,a5g k1 (vs'.take k1.length) (us'.take k1.length)=some c→a5g (k::k1) ((x::vs').take (k1.length+1)) ((y::us').take (k1.length+1))=some (e && c)) →
   ∃ b1 b2,a5g (k::k1) (vs.take (k::k1).length) (us.take (k::k1).length)=some b1∧a5g k2 (vs.drop (k::k1).length) (us.drop (k::k1).length)=some b2∧b=(b1 && b2)∧(k::k1).length≤vs.length∧(k::k1).length≤us.length:=fun x y vs' us' e e1 e2 h1 h2=>by
   rw[Option.map_eq_some_iff]at h1;obtain ⟨c,h3,rfl⟩:=h1;obtain ⟨b1,b2,g1,g2,rfl,g4,g5⟩:=a9Z k1 k2 vs' us' c h3;subst e1;subst e2;exact ⟨e && b1,b2,h2 _ g1,by simpa using g2,by rw[Bool.and_assoc],by simpa using g4,by simpa using g5⟩
  cases vs with
  | nil=>cases k<;>simp[a5g]at h
  | cons x vs' =>
   cases us with
   | nil=>cases k<;>simp[a5g]at h
   | cons y us' =>
    cases k
    case int =>
     cases x<;>try (simp[a5g]at h;done)
     cases y<;>try (simp[a5g]at h;done)
     rename_i i1 n1 i2 n2;simp only[List.cons_append,a5g]at h;split at h
     ·rename_i hk;exact key _ _ _ _ _ rfl rfl h fun c hc=>by simp only[List.take_succ_cons,a5g,hk,if_true,hc,Option.map_some]
     ·cases h
    case bool =>
     cases x<;>try (simp[a5g]at h;done)
     cases y<;>try (simp[a5g]at h;done)
     simp only[List.cons_append,a5g]at h;exact key _ _ _ _ _ rfl rfl h fun c hc=>by simp only[List.take_succ_cons,a5g,hc,Option.map_some]
    case str =>
     cases x<;>try (simp[a5g]at h;done)
     cases y<;>try (simp[a5g]at h;done)
     simp only[List.cons_append,a5g]at h;exact key _ _ _ _ _ rfl rfl h fun c hc=>by simp only[List.take_succ_cons,a5g,hc,Option.map_some]
def a3b (ag:Bool) (vs:List Value):Value:=if ag then .agg vs.toArray else vs.getD 0 undef
section
variable {P:Program} {o:Oper} {a:Act} {M:MM} {env:List (Nat × AV)} {C:AV→List VObj→Nat→Prop}
theorem b0a {d:Nat} {t:TypeId} {ks:List LK} (h:a8A P d t=some ks):∃ inf u,P.info? t=some inf∧P.underlying t=some u∧inf.size=ks.length:=by
 cases d with
 | zero=>simp[a8A]at h
 | succ d =>
  simp only[a8A]at h;split at h
  ·rename_i inf u h1 h2;split at h
   ·rename_i ks' h3;split at h
    ·rename_i h4;cases h;exact ⟨inf,u,h1,h2,h4⟩
    ·cases h
   ·cases h
  ·cases h
theorem b0b {d:Nat} {t:TypeId} {ks:List LK} (h:a8A P d t=some ks) (ha:agT P t=false):ks.length=1:=by
 cases d with
 | zero=>simp[a8A]at h
 | succ d =>
  simp only[a8A]at h;split at h
  ·rename_i inf u h1 h2;split at h
   ·rename_i ks' h3;split at h
    ·cases h;unfold agT at ha;rw[h2]at ha;cases u<;>simp at h3 ha<;>subst h3<;>rfl
    ·cases h
   ·cases h
  ·cases h
theorem b2g {d:Nat} {t:TypeId} {ks:List LK} (h:a8A P d t=some ks) (xs:Array Value) (off:Nat) (hf:off+ks.length≤xs.size) (w:World):(part t xs off).run P w = .ok (a3b (agT P t) ((xs.toList.drop off).take ks.length)) w:=by
 obtain ⟨inf,u,h1,h2,h3⟩:=b0a h;have hag:(isAgg t).run P w = .ok (agT P t) w:=by
  simp only[isAgg,Sem.run_bind,run_underlying h2,Result.andThen_ok,agT,h2];cases u<;>rfl
 cases ha:agT P t with
 | true =>
  rw[ha]at hag;have e:xs.extract off (off+ks.length)=((xs.toList.drop off).take ks.length).toArray:=by
   apply Array.ext';simp[List.extract_eq_take_drop]
  simp[part,hag,sizeOf,typeInfo,h1,h3,a3b,e]
 | false =>
  rw[ha]at hag;have hl:=b0b h ha;have hlt:off<xs.size:=by omega
  simp[part,hag,a3b,hlt,hl]
theorem a2m:∀ (d D:Nat) (t:TypeId) (ks:List LK),a8A P d t=some ks→d≤D→∀ (vs us:List Value) (b:Bool) (w:World),a5g ks vs us=some b →
 (Op.equalIn D t (a3b (agT P t) vs) (a3b (agT P t) us)).run P w = .ok b w
 | 0,_,_,_,h,_,_,_,_,_,_=>by simp[a8A]at h
 | d+1,0,_,_,_,hD,_,_,_,_,_=>by omega
 | d+1,D+1,t,ks,h,hD,vs,us,b,w,hb=>by
  simp only[a8A]at h;split at h
  ·rename_i inf u h1 h2;split at h
   ·rename_i ks' h3;split at h
    ·rename_i h4;cases h;cases u<;>simp only at h3<;>try (cases h3;done)
     case bool =>
      cases h3;have ha:agT P t=false:=by simp[agT,h2]
      unfold a5g at hb;split at hb<;>simp_all[a3b];rename_i q;obtain ⟨rfl,rfl⟩:=q;rename_i b1 l1 b2 l2;unfold a5g at hb;split at hb<;>simp_all[Op.equalIn,run_underlying h2]
     case int k =>
      cases h3;have ha:agT P t=false:=by simp[agT,h2]
      unfold a5g at hb;split at hb<;>simp_all[a3b];rename_i q;obtain ⟨rfl,rfl⟩:=q;obtain ⟨hk,hb⟩:=hb;unfold a5g at hb;split at hb<;>simp_all[Op.equalIn,run_underlying h2]
     case string =>
      cases h3;have ha:agT P t=false:=by simp[agT,h2]
      unfold a5g at hb;split at hb<;>simp_all[a3b];rename_i q;obtain ⟨rfl,rfl⟩:=q;unfold a5g at hb;split at hb<;>simp_all[Op.equalIn,run_underlying h2]
     case struct fs =>
      split at h3
      ·cases h3
      ·rename_i hp;have ha:agT P t=true:=by simp[agT,h2]
       have hfs:P.fieldsOf t=fs:=by simp[Program.fieldsOf,h2]
       simp only[ha,a3b,if_true];rw[run_equalIn_struct w D t _ _ (by rw[hfs];exact h2) (by simpa using hp),hfs];have key:∀ (l:List Field) (off:Nat) (r:List LK) (b:Bool),b5L (a8A P d) off l=some r→a5g r (vs.drop off) (us.drop off)=some b→(Op.eqFields D vs.toArray us.toArray l).run P w = .ok b w:=by
        intro l
        induction l with
        | nil =>
         intro off r b hr hb;simp only[b5L,Option.some.injEq]at hr;subst hr;unfold a5g at hb;split at hb<;>simp_all[Op.eqFields]
        | cons f l ih =>
         intro off r b hr hb;simp only[b5L]at hr;split at hr
         ·cases hr
         ·rename_i hn;simp only[not_or,Decidable.not_not]at hn;split at hr
          ·rename_i k1 hk1;split at hr
           ·rename_i k2 hk2;cases hr;obtain ⟨b1,b2,e1,e2,rfl,e4,e5⟩:=a9Z _ _ _ _ _ hb;simp only[List.length_drop]at e4 e5;rw[List.drop_drop]at e2;rw[List.drop_drop]at e2;have hle:=b0a hk1;by_cases hk0:k1.length=0
            ·have hag:agT P f.type=true:=by
              cases hh:agT P f.type with
              | true=>rfl
              | false=>have:=b0b hk1 hh;omega
             have p1:(part f.type vs.toArray f.offset).run P w = .ok (.agg #[]) w:=by
              obtain ⟨inf',u',g1,g2,g3⟩:=hle;have hagg:(isAgg f.type).run P w = .ok true w:=by
               simp only[isAgg,Sem.run_bind,run_underlying g2,Result.andThen_ok];unfold agT at hag;rw[g2]at hag;cases u'<;>simp at hag<;>rfl
              simp[part,hagg,sizeOf,typeInfo,g1,g3,hk0]
             have p2:(part f.type us.toArray f.offset).run P w = .ok (.agg #[]) w:=by
              obtain ⟨inf',u',g1,g2,g3⟩:=hle;have hagg:(isAgg f.type).run P w = .ok true w:=by
               simp only[isAgg,Sem.run_bind,run_underlying g2,Result.andThen_ok];unfold agT at hag;rw[g2]at hag;cases u'<;>simp at hag<;>rfl
              simp[part,hagg,sizeOf,typeInfo,g1,g3,hk0]
             have hq:=a2m d D f.type k1 hk1 (by omega) _ _ b1 w e1;rw[hag]at hq;simp only[hk0,List.take_zero,a3b,if_true]at hq;simp only[Op.eqFields,hn.1,ne_eq,not_false_eq_true,if_true,Sem.run_bind,p1,p2,Result.andThen_ok];rw[hq];cases b1 with
             | false=>simp
             | true=>simp only[Result.andThen_ok,Bool.not_true,Bool.false_eq_true,if_false,Bool.true_and];exact ih _ _ _ hk2 e2
            ·have p1:=b2g hk1 vs.toArray f.offset (by simp;rw[hn.2];omega) w;have p2:=b2g hk1 us.toArray f.offset (by simp;rw[hn.2];omega) w;have hq:=a2m d D f.type k1 hk1 (by omega) _ _ b1 w e1;simp only[Op.eqFields,hn.1,ne_eq,not_false_eq_true,if_true,Sem.run_bind,p1,p2,Result.andThen_ok];rw[hn.2];rw[hq];cases b1 with
             | false=>simp
             | true=>simp only[Result.andThen_ok,Bool.not_true,Bool.false_eq_true,if_false,Bool.true_and];exact ih _ _ _ hk2 e2
           ·cases hr
          ·cases hr
       exact key fs.toList 0 ks b h3 (by simpa using hb)
     case array n e =>
      split at h3
      ·rename_i k1 hk1;cases h3;have ha:agT P t=true:=by simp[agT,h2]
       obtain ⟨inf',u',g1,g2,g3⟩:=b0a hk1;simp only[ha,a3b,if_true];rw[run_equalIn_array w D _ _ h2 g1];have hc:P.cellsOf e=k1.length:=by simp[Program.cellsOf,g1,g3]
       rw[hc];have key:∀ (m k:Nat) (b:Bool),a5g (List.replicate m k1).flatten (vs.drop (k*k1.length)) (us.drop (k*k1.length))=some b→(Op.eqItems D e k1.length vs.toArray us.toArray (List.range' k m)).run P w = .ok b w:=by
        intro m
        induction m with
        | zero =>
         intro k b hb;unfold a5g at hb;split at hb<;>simp_all[Op.eqItems]
        | succ m ih =>
         intro k b hb;rw[List.replicate_succ,List.flatten_cons]at hb;obtain ⟨b1,b2,e1,e2,rfl,e4,e5⟩:=a9Z _ _ _ _ _ hb;simp only[List.length_drop]at e4 e5;rw[List.drop_drop,List.drop_drop,← Nat.succ_mul]at e2;by_cases hk0:k1.length=0
         ·have hag:agT P e=true:=by
           cases hh:agT P e with
           | true=>rfl
           | false=>have:=b0b hk1 hh;omega
          have p0:∀ (zs:Array Value),(part e zs (k*k1.length)).run P w = .ok (.agg #[]) w:=fun zs=>by
           have hagg:(isAgg e).run P w = .ok true w:=by
            simp only[isAgg,Sem.run_bind,run_underlying g2,Result.andThen_ok];unfold agT at hag;rw[g2]at hag;cases u'<;>simp at hag<;>rfl
           simp[part,hagg,sizeOf,typeInfo,g1,g3,hk0]
          have hq:=a2m d D e k1 hk1 (by omega) _ _ b1 w e1;rw[hag]at hq;simp only[hk0,List.take_zero,a3b,if_true]at hq;simp only[List.range'_succ,Op.eqItems,Sem.run_bind,p0,Result.andThen_ok];rw[hq];cases b1 with
          | false=>simp
          | true=>simp only[Result.andThen_ok,Bool.not_true,Bool.false_eq_true,if_false,Bool.true_and];exact ih (k+1) _ e2
         ·have p1:=b2g hk1 vs.toArray (k*k1.length) (by simp;omega) w;have p2:=b2g hk1 us.toArray (k*k1.length) (by simp;omega) w;have hq:=a2m d D e k1 hk1 (by omega) _ _ b1 w e1;simp only[List.range'_succ,Op.eqItems,Sem.run_bind,p1,p2,Result.andThen_ok];rw[hq];cases b1 with
          | false=>simp
          | true=>simp only[Result.andThen_ok,Bool.not_true,Bool.false_eq_true,if_false,Bool.true_and];exact ih (k+1) _ e2
       rw[List.range_eq_range'];exact key n 0 b (by simpa using hb)
      ·cases h3
    ·cases h
   ·cases h
  ·cases h
end
end Go.V
