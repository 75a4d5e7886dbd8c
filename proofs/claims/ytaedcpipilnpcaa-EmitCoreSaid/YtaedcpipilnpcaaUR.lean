/-
  The engine, part 9b: loops over functions, and the functions that they are over. No condition.
-/
import Derived.Test.YtaedcpipilnpcaaU9
import Derived.RangeFuncLeaves
import Derived.RangeFuncRecord
import Derived.Sort.LoopGhostIn
import Derived.OrdersIn
set_option linter.unusedVariables false
set_option linter.unusedSimpArgs false
namespace Go.V
open Go.RowKit
section
variable {P : Program}
def DfB (b0 : Nat) (ds : List Deferred) (w : World) : Prop := ∃ rs : List Nat, ds = rs.map (fun r => ⟨.collected r, #[]⟩) ∧ rs.Nodup ∧ ∀ r ∈ rs, b0 ≤ r ∧ w.heap[r]? = some (Obj.deferred (some []))
theorem DfB.oth {b0 : Nat} {ds : List Deferred} {w w' : World} (h : DfB b0 ds w) (k : Oth w w') : DfB b0 ds w' := by
  obtain ⟨rs, h1, h2, h3⟩ := h
  exact ⟨rs, h1, h2, fun r hr => ⟨(h3 r hr).1, k.dfr r (h3 r hr).2⟩⟩
def PostB (N b0 : Nat) (M0 : MM) (Q : VE → St → Prop) : Exit → Act → World → Prop := fun e a w =>
  ∃ (M : MM) (env : List (Nat × AV)), M.I0 = M0.I0 ∧ M.w0 = M0.w0 ∧ M.w = w ∧ RH M ∧ KeepRV M0 M ∧ EnvR M env a ∧ a.tmps.size = N ∧ DfB b0 a.defers w ∧
    match e with
    | .normal => Q .normal ⟨env, M.H, M.nx⟩
    | .exit id => Q (.exit id) ⟨env, M.H, M.nx⟩
    | .ret => Q .ret ⟨env, M.H, M.nx⟩
    | _ => False
theorem PostB.mono {N b0 : Nat} {M0 M1 : MM} (h0 : M1.I0 = M0.I0) (h1 : M1.w0 = M0.w0) (hk : KeepRV M0 M1) {Q Q' : VE → St → Prop} {e : Exit} {a : Act} {w : World} (h : PostB N b0 M1 Q e a w)
    (hn : e = .normal → ∀ st, Q .normal st → Q' .normal st) (hx : ∀ id, e = .exit id → ∀ st, Q (.exit id) st → Q' (.exit id) st) (hr : e = .ret → ∀ st, Q .ret st → Q' .ret st) : PostB N b0 M0 Q' e a w := by
  obtain ⟨M, env, p1, p2, p3, p4, p5, p6, p7, p8, p9⟩ := h
  refine ⟨M, env, p1.trans h0, p2.trans h1, p3, p4, hk.trans p5, p6, p7, p8, ?_⟩
  cases e with
  | normal => exact hn rfl _ p9
  | exit id => exact hx id rfl _ p9
  | ret => exact hr rfl _ p9
  | goto l => exact p9
  | panic c => exact p9
  | outgrown => exact p9
variable {N : Nat}
end
end Go.V
