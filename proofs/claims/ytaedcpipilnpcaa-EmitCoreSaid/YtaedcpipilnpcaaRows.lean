/-
  No cell of these rows narrows 'for every input' (looked for: loops, veiled, ifaces, maps, wideKeys, modest, calm, conditions, laid).
  DERIVED. THE GIVEN ROWS OF THIS SEAT. 4 by the template 'for every input the law returns true; each argument reads behind the call as it read before'; 0 by the template 'total and deterministic' (their statements: YtaedcpipilnpcaaTotals.lean).
  GIVEN WITH THE SEED: the statements are not yours to turn. If you find one false, say at which input.
  Laid BY PROGRAM, IN A SANDBOX (cutbox-rows.mjs): the forced cells as the released guide's own fill.sh prints them over the translation 7a19a90923acf54a… (all of the seat's roots in one cut). By AI agents, Wed Nov 11 2026. No macro, syntax, notation, axiom, sorry.
-/
import Derived.Test.YtaedcpipilnpcaaChecked
import GoSem.Claim
import GoSem.ClaimJoined
import GoSem.ClaimMapViews
import Derived.JoinedTies
import Derived.KernelRfl
namespace Go.Proofs.Ytaedcpipilnpcaa
/- THE CELL 'sum', in the pinned program and in every row, IS THE sha256 OF THE DUMP (.gsa) THAT YtaedcpipilnpcaaProg.lean LOADS. Nothing in Lean hashes anything: it is a label: what it is worth is what the hold of that sum in a sandbox is worth. -/
noncomputable def Try.pinned : Pinned := { name := "ytaedcpipilnpcaa", sum := "7a19a90923acf54afde53ee9d4044ad4bb070081dc8bb30137b2eb1f295957f0", checked := Try.checked }
namespace Rows
def none {H : Type} : Left H := { results := [], args := [] }

/-- 'seedcornlaw22.EmitGets': WHATEVER THE INPUT: true; the input reads as it did. -/
def emitGetsSpec : ChangeSpec := { name := "emitGets", fn := fun _ => fun
  | [d1, d2, d3] => { results := [.lit (.bool true)], args := [d1, d2, d3] }
  | _ => none }
def emitGetsRow : OpenClaim := { program := "ytaedcpipilnpcaa", sum := "7a19a90923acf54afde53ee9d4044ad4bb070081dc8bb30137b2eb1f295957f0", func := "seedcorn/seedcornlaw22.EmitGets", spec := "emitGets", unfollowed := true, recurses := true, apart := false }
def EmitGetsSaid : Prop := emitGetsRow.holds Try.pinned (OpenSpec.ofChange emitGetsSpec)

/-- ITS FALSE NEIGHBOUR: 'it returns false'. Refute it at one input. -/
def emitGetsWrong : ChangeSpec := { name := "emitGets", fn := fun _ => fun
  | [d1, d2, d3] => { results := [.lit (.bool false)], args := [d1, d2, d3] }
  | _ => none }
def EmitGetsWrongFalsely : Prop := emitGetsRow.holds Try.pinned (OpenSpec.ofChange emitGetsWrong)

/-- 'seedcornlaw22.EmitPure': WHATEVER THE INPUT: true; the input reads as it did. -/
def emitPureSpec : ChangeSpec := { name := "emitPure", fn := fun _ => fun
  | [d] => { results := [.lit (.bool true)], args := [d] }
  | _ => none }
def emitPureRow : OpenClaim := { program := "ytaedcpipilnpcaa", sum := "7a19a90923acf54afde53ee9d4044ad4bb070081dc8bb30137b2eb1f295957f0", func := "seedcorn/seedcornlaw22.EmitPure", spec := "emitPure", unfollowed := true, recurses := true, apart := false }
def EmitPureSaid : Prop := emitPureRow.holds Try.pinned (OpenSpec.ofChange emitPureSpec)

/-- ITS FALSE NEIGHBOUR: 'it returns false'. Refute it at one input. -/
def emitPureWrong : ChangeSpec := { name := "emitPure", fn := fun _ => fun
  | [d] => { results := [.lit (.bool false)], args := [d] }
  | _ => none }
def EmitPureWrongFalsely : Prop := emitPureRow.holds Try.pinned (OpenSpec.ofChange emitPureWrong)

/-- 'seedcornlaw22.EmitLong': WHATEVER THE INPUT: true; the input reads as it did. -/
def emitLongSpec : ChangeSpec := { name := "emitLong", fn := fun _ => fun
  | [d1, d2, d3] => { results := [.lit (.bool true)], args := [d1, d2, d3] }
  | _ => none }
def emitLongRow : OpenClaim := { program := "ytaedcpipilnpcaa", sum := "7a19a90923acf54afde53ee9d4044ad4bb070081dc8bb30137b2eb1f295957f0", func := "seedcorn/seedcornlaw22.EmitLong", spec := "emitLong", unfollowed := true, recurses := true, apart := false }
def EmitLongSaid : Prop := emitLongRow.holds Try.pinned (OpenSpec.ofChange emitLongSpec)

/-- ITS FALSE NEIGHBOUR: 'it returns false'. Refute it at one input. -/
def emitLongWrong : ChangeSpec := { name := "emitLong", fn := fun _ => fun
  | [d1, d2, d3] => { results := [.lit (.bool false)], args := [d1, d2, d3] }
  | _ => none }
def EmitLongWrongFalsely : Prop := emitLongRow.holds Try.pinned (OpenSpec.ofChange emitLongWrong)

/-- 'seedcornlaw22.EmitCore': WHATEVER THE INPUT: true; the input reads as it did. -/
def emitCoreSpec : ChangeSpec := { name := "emitCore", fn := fun _ => fun
  | [d1, d2] => { results := [.lit (.bool true)], args := [d1, d2] }
  | _ => none }
def emitCoreRow : OpenClaim := { program := "ytaedcpipilnpcaa", sum := "7a19a90923acf54afde53ee9d4044ad4bb070081dc8bb30137b2eb1f295957f0", func := "seedcorn/seedcornlaw22.EmitCore", spec := "emitCore", unfollowed := true, recurses := true, apart := false }
def EmitCoreSaid : Prop := emitCoreRow.holds Try.pinned (OpenSpec.ofChange emitCoreSpec)

/-- ITS FALSE NEIGHBOUR: 'it returns false'. Refute it at one input. -/
def emitCoreWrong : ChangeSpec := { name := "emitCore", fn := fun _ => fun
  | [d1, d2] => { results := [.lit (.bool false)], args := [d1, d2] }
  | _ => none }
def EmitCoreWrongFalsely : Prop := emitCoreRow.holds Try.pinned (OpenSpec.ofChange emitCoreWrong)

/- THE SECOND FORM. 'bulk': how many values and letters a reading holds, each counted each time it is reached (what is shared counts as often as it is met; a slice's spare places count too). A statement '..UptoSaid' is the law's where the arguments, and the package variables that the reading takes, are together of bulk at most 1048576: NARROWER than '..Said'. Prove '..Said' where nothing that the law and all that it calls make is longer than what came in: it says more and counts as full. Else prove '..UptoSaid'. A law counts once. -/
mutual
def uptoBulk {H : Type} : DataW H → Nat
  | .lit (.string bytes) => bytes.length + 1
  | .lit _ => 1
  | .nil => 1
  | .ptr d => uptoBulk d + 1
  | .slice elems spare => uptoBulkAll elems + uptoBulkAll spare + 1
  | .agg parts => uptoBulkAll parts + 1
  | .iface _ d => uptoBulk d + 1
  | .map entries => uptoBulkEntries entries + 1
  | .held _ => 1
def uptoBulkAll {H : Type} : List (DataW H) → Nat
  | [] => 0
  | d :: r => uptoBulk d + uptoBulkAll r
def uptoBulkEntries {H : Type} : List (Lit × DataW H) → Nat
  | [] => 0
  | x :: r => uptoBulkEntry x + uptoBulkEntries r
def uptoBulkEntry {H : Type} : Lit × DataW H → Nat
  | (.string bytes, d) => bytes.length + uptoBulk d + 1
  | (_, d) => uptoBulk d + 1
 end
def uptoSmall : (H : Type) → List (DataW H) → Bool := fun _ ds => decide (uptoBulkAll ds ≤ 1048576)
def OpenSpec.upto (s : _root_.Go.ChangeSpec) : _root_.Go.OpenSpec := { _root_.Go.OpenSpec.ofChange s with cond := some uptoSmall }

/-- 'seedcornlaw22.EmitGets', WHERE WHAT IT READS IS OF BULK AT MOST 1048576: true; the input reads as it did. -/
def emitGetsUptoRow : OpenClaim := { program := "ytaedcpipilnpcaa", sum := "7a19a90923acf54afde53ee9d4044ad4bb070081dc8bb30137b2eb1f295957f0", func := "seedcorn/seedcornlaw22.EmitGets", spec := "emitGets", unfollowed := true, recurses := true, apart := false, narrowed := true }
def EmitGetsUptoSaid : Prop := emitGetsUptoRow.holds Try.pinned (OpenSpec.upto emitGetsSpec)

/-- 'seedcornlaw22.EmitPure', WHERE WHAT IT READS IS OF BULK AT MOST 1048576: true; the input reads as it did. -/
def emitPureUptoRow : OpenClaim := { program := "ytaedcpipilnpcaa", sum := "7a19a90923acf54afde53ee9d4044ad4bb070081dc8bb30137b2eb1f295957f0", func := "seedcorn/seedcornlaw22.EmitPure", spec := "emitPure", unfollowed := true, recurses := true, apart := false, narrowed := true }
def EmitPureUptoSaid : Prop := emitPureUptoRow.holds Try.pinned (OpenSpec.upto emitPureSpec)

/-- 'seedcornlaw22.EmitLong', WHERE WHAT IT READS IS OF BULK AT MOST 1048576: true; the input reads as it did. -/
def emitLongUptoRow : OpenClaim := { program := "ytaedcpipilnpcaa", sum := "7a19a90923acf54afde53ee9d4044ad4bb070081dc8bb30137b2eb1f295957f0", func := "seedcorn/seedcornlaw22.EmitLong", spec := "emitLong", unfollowed := true, recurses := true, apart := false, narrowed := true }
def EmitLongUptoSaid : Prop := emitLongUptoRow.holds Try.pinned (OpenSpec.upto emitLongSpec)

/-- 'seedcornlaw22.EmitCore', WHERE WHAT IT READS IS OF BULK AT MOST 1048576: true; the input reads as it did. -/
def emitCoreUptoRow : OpenClaim := { program := "ytaedcpipilnpcaa", sum := "7a19a90923acf54afde53ee9d4044ad4bb070081dc8bb30137b2eb1f295957f0", func := "seedcorn/seedcornlaw22.EmitCore", spec := "emitCore", unfollowed := true, recurses := true, apart := false, narrowed := true }
def EmitCoreUptoSaid : Prop := emitCoreUptoRow.holds Try.pinned (OpenSpec.upto emitCoreSpec)

end Rows
end Go.Proofs.Ytaedcpipilnpcaa
