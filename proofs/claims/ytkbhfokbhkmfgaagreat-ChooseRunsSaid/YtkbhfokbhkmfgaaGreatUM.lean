/- The engine, part 6c: the operations of the second edition do what is said of them. No condition. -/
import Derived.Test.YtkbhfokbhkmfgaaGreatUN
set_option linter.unusedVariables false
set_option linter.unusedSimpArgs false
namespace Go.V
open Go.RowKit
section
variable {P:Program} {o:Oper} {a:Act} {M:MM} {env:List (Nat × AV)} {C:AV→List VObj→Nat→Prop}
theorem c3b (s:ByteArray) (i:Nat) (h:i<s.size):s[i]? = some (s.data.toList.getD i 0):=by
 have h':i<s.data.size:=h;have e:s[i]? = some s[i]:=by simp[h]
 rw[e];have:s[i]=s.data[i]:=rfl;rw[this];simp[List.getD,List.getElem?_eq_getElem (show i<s.data.toList.length by simpa using h')]
theorem b5W (hR:RH M) (he:EnvR M env a) {t:TypeId} {x i:Operand} (ho:o.op = .index t x i) (hu:P.underlying t=some .string) (h:(K.pur .six [x,i]).wp P (evF (get env)) M.H M.nx C):QStep P o a M C:=by
 have hx:=EnvR.ev he x;have hi:=EnvR.ev he i;simp only[K.wp,evs]at h;generalize evF (get env) x=X at *
 generalize evF (get env) i=Y at *
 cases X<;>try (simp[POp.go]at h;done)
 rename_i v;cases v<;>try (simp[POp.go]at h;done)
 rename_i s;cases Y<;>try (simp[POp.go]at h;done)
 rename_i v;cases v<;>try (simp[POp.go]at h;done)
 rename_i q k;simp only[POp.go]at h;simp only[RV]at hx hi;obtain ⟨h0,h1,hC⟩:=h;refine QStep.mk hR (.int .u8 (a1v s k.toNat)) _ ?_ (by simp only[RV]) hC;simp[execOp,ho,Instr.index,hx,hi,asIntOf,run_underlying hu,h0,c3b s _ h1,a1v]
theorem b5X (hR:RH M) (he:EnvR M env a) {t e:TypeId} {len n:Nat} {ag:Bool} {x i:Operand} (ho:o.op = .index t x i) (hu:P.underlying t=some (.array len e)) (hl:a9b P e=some (ag,n)) (h:(K.pur (.ixv len ag n) [x,i]).wp P (evF (get env)) M.H M.nx C):QStep P o a M C:=by
 have hx:=EnvR.ev he x;have hi:=EnvR.ev he i;obtain ⟨hag,hsz,h1n⟩:=a4c hl M.w;simp only[K.wp,evs]at h;generalize evF (get env) x=X at *
 generalize evF (get env) i=Y at *
 cases X<;>try (simp[POp.go]at h;done)
 rename_i cs;cases Y<;>try (simp[POp.go]at h;done)
 rename_i v;cases v<;>try (simp[POp.go]at h;done)
 rename_i q k;simp only[POp.go]at h;simp only[RV]at hi;rw[RV]at hx;obtain ⟨vs,e1,h2⟩:=hx;obtain ⟨h0,hk,hp,hC⟩:=h;obtain ⟨q1,q2⟩:=b8E h2 hp;have hk':k<len:=by omega
 cases ag with
 | true =>
  refine QStep.mk hR _ _ ?_ (q1 rfl) hC;simp[execOp,ho,Instr.index,e1,hi,asIntOf,run_underlying hu,h0,hk',part,hag,hsz]
 | false =>
  obtain ⟨_,v,r1,r2,_⟩:=q2 rfl;refine QStep.mk hR v _ ?_ r2 hC;simp[execOp,ho,Instr.index,e1,hi,asIntOf,run_underlying hu,h0,hk',part,hag,hsz,r1]
theorem a9f (hR:RH M) (he:EnvR M env a) {t t':TypeId} {ks:List LK} {neg:Bool} {x y:Operand} (ho:o.op = .binOp (if neg then .neq else .eql) t x y t') (hg:P.eqGuardType P.depth t=false) (ha:agT P t=true) (hf:a8A P 20 t=some ks)
 (h:(K.pur (.eqv neg ks) [x,y]).wp P (evF (get env)) M.H M.nx C):QStep P o a M C:=by
 have hx:=EnvR.ev he x;have hy:=EnvR.ev he y;simp only[K.wp,evs]at h;generalize evF (get env) x=X at *
 generalize evF (get env) y=Y at *
 cases X<;>try (simp[POp.go]at h;done)
 rename_i xs;cases Y<;>try (simp[POp.go]at h;done)
 rename_i ys;simp only[POp.go]at h;rw[RV]at hx hy;obtain ⟨vs,e1,h2⟩:=hx;obtain ⟨us,e3,h4⟩:=hy;obtain ⟨b,q1,q2⟩:=c0T _ _ _ _ _ vs us h h2 h4;simp only[Bool.true_and]at q2;have hkey:(Op.equalIn 10000 t (.agg vs.toArray) (.agg us.toArray)).run P M.w = .ok b M.w:=by
  have:=a2m 20 10000 t ks hf (by omega) vs us b M.w q1;rw[ha]at this;simpa [a3b] using this
 refine QStep.mk hR (.bool (if neg then !b else b)) _ ?_ (by simp only[RV]) q2;cases neg with
 | true=>simp[execOp,ho,e1,e3,run_eqGuard_agg M.w .neq t x y vs.toArray us.toArray hg,run_neq_struct,hkey]
 | false=>simp[execOp,ho,e1,e3,run_eqGuard_agg M.w .eql t x y vs.toArray us.toArray hg,run_eql_struct,hkey]
theorem b2h (hR:RH M) (he:EnvR M env a) {mx:Bool} {x y:Operand} {c:Call} (ho:o.op = .call c) (hc:c.callee = .builtin (if mx then .max else .min)) (ha:c.args.toList=[x,y])
 (h:(K.pur (if mx then .mx else .mn) [x,y]).wp P (evF (get env)) M.H M.nx C):QStep P o a M C:=by
 have hx:=EnvR.ev he x;have hy:=EnvR.ev he y;have ha':c.args = #[x,y]:=by rw[← Array.toArray_toList (xs:=c.args),ha]
 simp only[K.wp,evs]at h;generalize evF (get env) x=X at *
 generalize evF (get env) y=Y at *
 cases mx with
 | true =>
  simp only[if_true]at h hc;cases X<;>try (simp[POp.go]at h;done)
  rename_i v;cases v<;>try (simp[POp.go]at h;done)
  rename_i k n;cases Y<;>try (simp[POp.go]at h;done)
  rename_i v;cases v<;>try (simp[POp.go]at h;done)
  rename_i k' m;simp only[POp.go]at h;simp only[RV]at hx hy;refine QStep.mk hR (.int k (if m > n then m else n)) _ ?_ (by simp only[RV]) h;simp[execOp,ho,resolve,hc,ha',hx,hy,invoke,builtin,Builtin.max_,Builtin.max2]
 | false =>
  simp only[Bool.false_eq_true,if_false]at h hc;cases X<;>try (simp[POp.go]at h;done)
  rename_i v;cases v<;>try (simp[POp.go]at h;done)
  rename_i k n;cases Y<;>try (simp[POp.go]at h;done)
  rename_i v;cases v<;>try (simp[POp.go]at h;done)
  rename_i k' m;simp only[POp.go]at h;simp only[RV]at hx hy;refine QStep.mk hR (.int k (if m<n then m else n)) _ ?_ (by simp only[RV]) h;simp[execOp,ho,resolve,hc,ha',hx,hy,invoke,builtin,Builtin.min_,Builtin.min2]
theorem b7K (d:Nat) (w:World) {t:TypeId} {p q:Array TypeId} {r:Bool} (hu:P.underlying t=some (.func p q r)):(Op.equalIn (d+1) t .nilFunc .nilFunc).run P w = .ok true w:=by
 simp[Op.equalIn,run_underlying hu]
theorem b3Z (d:Nat) (w:World) {t:TypeId} {p q:Array TypeId} {r:Bool} (hu:P.underlying t=some (.func p q r)) (f:Fn) (x y:Array Value):(Op.equalIn (d+1) t (.func f x y) .nilFunc).run P w = .ok false w:=by
 simp[Op.equalIn,run_underlying hu]
theorem a7N (hR:RH M) (he:EnvR M env a) {t t':TypeId} {neg:Bool} {x:Operand} {p q:Array TypeId} {r:Bool} (ho:o.op = .binOp (if neg then .neq else .eql) t x (.const .nilFunc) t') (hu:P.underlying t=some (.func p q r))
 (h:(K.pur (.nilq neg) [x]).wp P (evF (get env)) M.H M.nx C):QStep P o a M C:=by
 have hx:=EnvR.ev he x;simp only[K.wp,evs]at h;generalize evF (get env) x=X at *
 have key:∀ {v:Value} {b:Bool},a.eval x=v→(Op.equal t v .nilFunc).run P M.w = .ok b M.w→(∀ op,(eqGuard op t x (.const .nilFunc) v .nilFunc).run P M.w = .ok () M.w)→(∀ op,binOp op t v .nilFunc=(match op with | .eql=>do pure (.bool (← Op.equal t v .nilFunc)) | .neq=>do pure (.bool (!(← Op.equal t v .nilFunc))) | _=>binOp op t v .nilFunc)) →
  (execOp a.eval o).run P M.w = .ok (.value (.bool (if neg then !b else b))) M.w:=fun {v b} e1 e2 e3 e4=>by
  have e5:a.eval (.const .nilFunc) = .nilFunc:=rfl;cases neg with
  | true=>simp[execOp,ho,e1,e5,e3,e4 .neq,e2]
  | false=>simp[execOp,ho,e1,e5,e3,e4 .eql,e2]
 cases X<;>try (simp[POp.go]at h;done)
 case val v =>
  cases v<;>try (simp[POp.go]at h;done)
  case nilFunc =>
   simp only[POp.go]at h;simp only[RV]at hx;refine QStep.mk hR _ _ (key (b:=true) hx (b7K 9999 M.w hu) (fun op=>by cases op<;>simp[eqGuard]) (fun op=>by cases op<;>simp[binOp])) ?_ h;simp only[RV];cases neg<;>rfl
 case fn f cs =>
  simp only[POp.go]at h;rw[RV]at hx;obtain ⟨vs,e1,_⟩:=hx;refine QStep.mk hR _ _ (key (b:=false) e1 (b3Z 9999 M.w hu _ _ _) (fun op=>by cases op<;>simp[eqGuard]) (fun op=>by cases op<;>simp[binOp])) ?_ h;simp only[RV];cases neg<;>rfl
 case bm f cs =>
  simp only[POp.go]at h;rw[RV]at hx;obtain ⟨vs,e1,_⟩:=hx;refine QStep.mk hR _ _ (key (b:=false) e1 (b3Z 9999 M.w hu _ _ _) (fun op=>by cases op<;>simp[eqGuard]) (fun op=>by cases op<;>simp[binOp])) ?_ h;simp only[RV];cases neg<;>rfl
theorem b0C (d:Nat) (w:World) {t e:TypeId} (hu:P.underlying t=some (.slice e)):(Op.equalIn (d+1) t (.slice none 0 0) (.slice none 0 0)).run P w = .ok true w:=by
 simp[Op.equalIn,run_underlying hu]
theorem b5Y (d:Nat) (w:World) {t e:TypeId} (hu:P.underlying t=some (.slice e)) (g:Addr) (n c:Nat):(Op.equalIn (d+1) t (.slice (some g) n c) (.slice none 0 0)).run P w = .ok false w:=by
 simp[Op.equalIn,run_underlying hu]
theorem b9V (hR:RH M) (he:EnvR M env a) {t t' e:TypeId} {neg:Bool} {x:Operand} (ho:o.op = .binOp (if neg then .neq else .eql) t x (.const (.slice none 0 0)) t') (hu:P.underlying t=some (.slice e))
 (h:(K.pur (.nils neg) [x]).wp P (evF (get env)) M.H M.nx C):QStep P o a M C:=by
 have hx:=EnvR.ev he x;simp only[K.wp,evs]at h;generalize evF (get env) x=X at *
 have key:∀ {v:Value} {b:Bool},a.eval x=v→(Op.equal t v (.slice none 0 0)).run P M.w = .ok b M.w→(∀ op,(eqGuard op t x (.const (.slice none 0 0)) v (.slice none 0 0)).run P M.w = .ok () M.w)→(∀ op,binOp op t v (.slice none 0 0)=(match op with | .eql=>do pure (.bool (← Op.equal t v (.slice none 0 0))) | .neq=>do pure (.bool (!(← Op.equal t v (.slice none 0 0)))) | _=>binOp op t v (.slice none 0 0))) →
  (execOp a.eval o).run P M.w = .ok (.value (.bool (if neg then !b else b))) M.w:=fun {v b} e1 e2 e3 e4=>by
  have e5:a.eval (.const (.slice none 0 0)) = .slice none 0 0:=rfl;cases neg with
  | true=>simp[execOp,ho,e1,e5,e3,e4 .neq,e2]
  | false=>simp[execOp,ho,e1,e5,e3,e4 .eql,e2]
 cases X<;>try (simp[POp.go]at h;done)
 case val v =>
  cases v<;>try (simp[POp.go]at h;done)
  case slice g n c =>
   cases g<;>try (simp[POp.go]at h;done)
   cases n<;>try (simp[POp.go]at h;done)
   cases c<;>try (simp[POp.go]at h;done)
   simp only[POp.go]at h;simp only[RV]at hx;refine QStep.mk hR _ _ (key (b:=true) hx (b0C 9999 M.w hu) (fun op=>by cases op<;>simp[eqGuard]) (fun op=>by cases op<;>simp[binOp])) ?_ h;simp only[RV];cases neg<;>rfl
 case imm sz xs =>
  simp only[POp.go]at h;simp only[RV,RV0]at hx;obtain ⟨g,n,c,vs,e1,e2,_,_,_,_,e3⟩:=hx;have hn:n≠0:=fun e=>h.1 (List.eq_nil_of_length_eq_zero (by omega));rcases e3 with e3 | ⟨b,off,e3,_⟩
  ·exact (hn e3).elim
  subst e3;refine QStep.mk hR _ _ (key (b:=false) e1 (b5Y 9999 M.w hu _ _ _) (fun op=>by cases op<;>simp[eqGuard]) (fun op=>by cases op<;>simp[binOp])) ?_ h.2;simp only[RV];cases neg<;>rfl
theorem b4a (hR:RH M) (he:EnvR M env a) {t t' e:TypeId} {neg:Bool} {x:Operand} (ho:o.op = .binOp (if neg then .neq else .eql) t x (.const (.slice none 0 0)) t') (hu:P.underlying t=some (.slice e))
 (h:(K.eff (.nilr neg) [x]).wp P (evF (get env)) M.H M.nx C):Step P o a M C:=by
 by_cases hr:∃ id s off len,evF (get env) x = .ref id s off len
 ·obtain ⟨id,s,off,len,hX⟩:=hr;have hx:=EnvR.ev he x;simp only[K.wp,evs,hX,EOp.go]at h;rw[hX]at hx;have key:∀ {v:Value} {b:Bool},a.eval x=v→(Op.equal t v (.slice none 0 0)).run P M.w = .ok b M.w→(∀ op,(eqGuard op t x (.const (.slice none 0 0)) v (.slice none 0 0)).run P M.w = .ok () M.w)→(∀ op,binOp op t v (.slice none 0 0)=(match op with | .eql=>do pure (.bool (← Op.equal t v (.slice none 0 0))) | .neq=>do pure (.bool (!(← Op.equal t v (.slice none 0 0)))) | _=>binOp op t v (.slice none 0 0))) →
   (execOp a.eval o).run P M.w = .ok (.value (.bool (if neg then !b else b))) M.w:=fun {v b} e1 e2 e3 e4=>by
   have e5:a.eval (.const (.slice none 0 0)) = .slice none 0 0:=rfl;cases neg with
   | true=>simp[execOp,ho,e1,e5,e3,e4 .neq,e2]
   | false=>simp[execOp,ho,e1,e5,e3,e4 .eql,e2]
  split at h
  ·rename_i ob hob;obtain ⟨h1,h2,h3,h4⟩:=h;simp only[RV]at hx;obtain ⟨_,hx⟩:=hx.2.2 ob hob h1;cases hm:M.m.getD id none with
   | none =>
    rw[hm]at hx;obtain ⟨q1,_,q3⟩:=hx;refine (QStep.mk hR _ _ (key (b:=true) q1 (b0C 9999 M.w hu) (fun op=>by cases op<;>simp[eqGuard]) (fun op=>by cases op<;>simp[binOp])) ?_ (h4 q3)).step hR;simp only[RV];cases neg<;>rfl
   | some g =>
    rw[hm]at hx;obtain ⟨o',cap,q1,_⟩:=hx;refine (QStep.mk hR _ _ (key (b:=false) q1 (b5Y 9999 M.w hu _ _ _) (fun op=>by cases op<;>simp[eqGuard]) (fun op=>by cases op<;>simp[binOp])) ?_ h3).step hR;simp only[RV];cases neg<;>rfl
  ·exact h.elim
 ·have h':(K.pur (.nils neg) [x]).wp P (evF (get env)) M.H M.nx C:=by
   simp only[K.wp,evs]at h ⊢;generalize evF (get env) x=X at *
   cases X<;>try (simp[EOp.go]at h;done)
   case val v =>
    cases v<;>try (simp[EOp.go]at h;done)
    case slice g n c =>
     cases g<;>try (simp[EOp.go]at h;done)
     cases n<;>try (simp[EOp.go]at h;done)
     cases c<;>try (simp[EOp.go]at h;done)
     exact h
   case imm sz xs=>exact h
   case ref id s off len=>exact (hr ⟨_,_,_,_,rfl⟩).elim
  exact (b9V hR he ho hu h').step hR
end
end Go.V
