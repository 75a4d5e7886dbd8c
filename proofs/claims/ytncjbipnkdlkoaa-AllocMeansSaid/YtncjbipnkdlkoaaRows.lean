/-
  No cell of these rows narrows 'for every input' (looked for: loops, veiled, ifaces, maps, wideKeys, modest, calm, conditions, laid).
  DERIVED. THE GIVEN ROWS OF THIS SEAT. 5 by the template 'for every input the law returns true; each argument reads behind the call as it read before'; 0 by the template 'total and deterministic' (their statements: YtncjbipnkdlkoaaTotals.lean).
  GIVEN WITH THE SEED: the statements are not yours to turn. If you find one false, say at which input.
  Laid BY PROGRAM, IN A SANDBOX (cutbox-rows.mjs): the forced cells as the released guide's own fill.sh prints them over the translation dc24876faa0aefab… (all of the seat's roots in one cut). By AI agents, Wed Nov 11 2026. No macro, syntax, notation, axiom, sorry.
-/
import Derived.Test.YtncjbipnkdlkoaaChecked
import GoSem.Claim
import GoSem.ClaimJoined
import GoSem.ClaimMapViews
import Derived.JoinedTies
import Derived.KernelRfl
namespace Go.Proofs.Ytncjbipnkdlkoaa
/- THE CELL 'sum', in the pinned program and in every row, IS THE sha256 OF THE DUMP (.gsa) THAT YtncjbipnkdlkoaaProg.lean LOADS. Nothing in Lean hashes anything: it is a label: what it is worth is what the hold of that sum in a sandbox is worth. -/
noncomputable def Try.pinned : Pinned := { name := "ytncjbipnkdlkoaa", sum := "dc24876faa0aefab118f1ad7a2ccf47a0c9074e05503ea1832d5729cdad59c14", checked := Try.checked }
namespace Rows
def none {H : Type} : Left H := { results := [], args := [] }

/-- 'seedcornlaw28.AllocHolds': WHATEVER THE INPUT: true; the input reads as it did. -/
def allocHoldsSpec : ChangeSpec := { name := "allocHolds", fn := fun _ => fun
  | [d1, d2, d3] => { results := [.lit (.bool true)], args := [d1, d2, d3] }
  | _ => none }
def allocHoldsRow : OpenClaim := { program := "ytncjbipnkdlkoaa", sum := "dc24876faa0aefab118f1ad7a2ccf47a0c9074e05503ea1832d5729cdad59c14", func := "seedcorn/seedcornlaw28.AllocHolds", spec := "allocHolds", unfollowed := true, recurses := true, apart := false }
def AllocHoldsSaid : Prop := allocHoldsRow.holds Try.pinned (OpenSpec.ofChange allocHoldsSpec)

/-- ITS FALSE NEIGHBOUR: 'it returns false'. Refute it at one input. -/
def allocHoldsWrong : ChangeSpec := { name := "allocHolds", fn := fun _ => fun
  | [d1, d2, d3] => { results := [.lit (.bool false)], args := [d1, d2, d3] }
  | _ => none }
def AllocHoldsWrongFalsely : Prop := allocHoldsRow.holds Try.pinned (OpenSpec.ofChange allocHoldsWrong)

/-- 'seedcornlaw28.AllocMore': WHATEVER THE INPUT: true; the input reads as it did. -/
def allocMoreSpec : ChangeSpec := { name := "allocMore", fn := fun _ => fun
  | [d1, d2] => { results := [.lit (.bool true)], args := [d1, d2] }
  | _ => none }
def allocMoreRow : OpenClaim := { program := "ytncjbipnkdlkoaa", sum := "dc24876faa0aefab118f1ad7a2ccf47a0c9074e05503ea1832d5729cdad59c14", func := "seedcorn/seedcornlaw28.AllocMore", spec := "allocMore", unfollowed := true, recurses := true, apart := false }
def AllocMoreSaid : Prop := allocMoreRow.holds Try.pinned (OpenSpec.ofChange allocMoreSpec)

/-- ITS FALSE NEIGHBOUR: 'it returns false'. Refute it at one input. -/
def allocMoreWrong : ChangeSpec := { name := "allocMore", fn := fun _ => fun
  | [d1, d2] => { results := [.lit (.bool false)], args := [d1, d2] }
  | _ => none }
def AllocMoreWrongFalsely : Prop := allocMoreRow.holds Try.pinned (OpenSpec.ofChange allocMoreWrong)

/-- 'seedcornlaw28.AllocEach': WHATEVER THE INPUT: true; the input reads as it did. -/
def allocEachSpec : ChangeSpec := { name := "allocEach", fn := fun _ => fun
  | [d1, d2] => { results := [.lit (.bool true)], args := [d1, d2] }
  | _ => none }
def allocEachRow : OpenClaim := { program := "ytncjbipnkdlkoaa", sum := "dc24876faa0aefab118f1ad7a2ccf47a0c9074e05503ea1832d5729cdad59c14", func := "seedcorn/seedcornlaw28.AllocEach", spec := "allocEach", unfollowed := true, recurses := true, apart := false }
def AllocEachSaid : Prop := allocEachRow.holds Try.pinned (OpenSpec.ofChange allocEachSpec)

/-- ITS FALSE NEIGHBOUR: 'it returns false'. Refute it at one input. -/
def allocEachWrong : ChangeSpec := { name := "allocEach", fn := fun _ => fun
  | [d1, d2] => { results := [.lit (.bool false)], args := [d1, d2] }
  | _ => none }
def AllocEachWrongFalsely : Prop := allocEachRow.holds Try.pinned (OpenSpec.ofChange allocEachWrong)

/-- 'seedcornlaw28.AllocMeans': WHATEVER THE INPUT: true; the input reads as it did. -/
def allocMeansSpec : ChangeSpec := { name := "allocMeans", fn := fun _ => fun
  | [d1, d2, d3] => { results := [.lit (.bool true)], args := [d1, d2, d3] }
  | _ => none }
def allocMeansRow : OpenClaim := { program := "ytncjbipnkdlkoaa", sum := "dc24876faa0aefab118f1ad7a2ccf47a0c9074e05503ea1832d5729cdad59c14", func := "seedcorn/seedcornlaw28.AllocMeans", spec := "allocMeans", unfollowed := true, recurses := true, apart := false }
def AllocMeansSaid : Prop := allocMeansRow.holds Try.pinned (OpenSpec.ofChange allocMeansSpec)

/-- ITS FALSE NEIGHBOUR: 'it returns false'. Refute it at one input. -/
def allocMeansWrong : ChangeSpec := { name := "allocMeans", fn := fun _ => fun
  | [d1, d2, d3] => { results := [.lit (.bool false)], args := [d1, d2, d3] }
  | _ => none }
def AllocMeansWrongFalsely : Prop := allocMeansRow.holds Try.pinned (OpenSpec.ofChange allocMeansWrong)

/-- 'seedcornlaw28.AllocTrue': WHATEVER THE INPUT: true; the input reads as it did. -/
def allocTrueSpec : ChangeSpec := { name := "allocTrue", fn := fun _ => fun
  | [d1, d2, d3] => { results := [.lit (.bool true)], args := [d1, d2, d3] }
  | _ => none }
def allocTrueRow : OpenClaim := { program := "ytncjbipnkdlkoaa", sum := "dc24876faa0aefab118f1ad7a2ccf47a0c9074e05503ea1832d5729cdad59c14", func := "seedcorn/seedcornlaw28.AllocTrue", spec := "allocTrue", unfollowed := true, recurses := true, apart := false }
def AllocTrueSaid : Prop := allocTrueRow.holds Try.pinned (OpenSpec.ofChange allocTrueSpec)

/-- ITS FALSE NEIGHBOUR: 'it returns false'. Refute it at one input. -/
def allocTrueWrong : ChangeSpec := { name := "allocTrue", fn := fun _ => fun
  | [d1, d2, d3] => { results := [.lit (.bool false)], args := [d1, d2, d3] }
  | _ => none }
def AllocTrueWrongFalsely : Prop := allocTrueRow.holds Try.pinned (OpenSpec.ofChange allocTrueWrong)

/- THE SECOND FORM. 'bulk': how many values and letters a reading holds, each counted each time it is reached (what is shared counts as often as it is met; a slice's spare places count too). A statement '..UptoSaid' is the law's where the arguments, and the package variables that the reading takes, are together of bulk at most 1048576: NARROWER than '..Said'. Prove '..Said' where nothing that the law and all that it calls make is longer than what came in: it says more and counts as full. Else prove '..UptoSaid'. A law counts once. -/
mutual
def uptoBulk {H : Type} : DataW H → Nat
  | .lit (.string bytes) => bytes.length + 1
  | .lit _ => 1
  | .nil => 1
  | .ptr d => uptoBulk d + 1
  | .slice elems spare => uptoBulkAll elems + uptoBulkAll spare + 1
  | .agg parts => uptoBulkAll parts + 1
  | .iface _ d => uptoBulk d + 1
  | .map entries => uptoBulkEntries entries + 1
  | .held _ => 1
def uptoBulkAll {H : Type} : List (DataW H) → Nat
  | [] => 0
  | d :: r => uptoBulk d + uptoBulkAll r
def uptoBulkEntries {H : Type} : List (Lit × DataW H) → Nat
  | [] => 0
  | x :: r => uptoBulkEntry x + uptoBulkEntries r
def uptoBulkEntry {H : Type} : Lit × DataW H → Nat
  | (.string bytes, d) => bytes.length + uptoBulk d + 1
  | (_, d) => uptoBulk d + 1
 end
def uptoSmall : (H : Type) → List (DataW H) → Bool := fun _ ds => decide (uptoBulkAll ds ≤ 1048576)
def OpenSpec.upto (s : _root_.Go.ChangeSpec) : _root_.Go.OpenSpec := { _root_.Go.OpenSpec.ofChange s with cond := some uptoSmall }

/-- 'seedcornlaw28.AllocHolds', WHERE WHAT IT READS IS OF BULK AT MOST 1048576: true; the input reads as it did. -/
def allocHoldsUptoRow : OpenClaim := { program := "ytncjbipnkdlkoaa", sum := "dc24876faa0aefab118f1ad7a2ccf47a0c9074e05503ea1832d5729cdad59c14", func := "seedcorn/seedcornlaw28.AllocHolds", spec := "allocHolds", unfollowed := true, recurses := true, apart := false, narrowed := true }
def AllocHoldsUptoSaid : Prop := allocHoldsUptoRow.holds Try.pinned (OpenSpec.upto allocHoldsSpec)

/-- 'seedcornlaw28.AllocMore', WHERE WHAT IT READS IS OF BULK AT MOST 1048576: true; the input reads as it did. -/
def allocMoreUptoRow : OpenClaim := { program := "ytncjbipnkdlkoaa", sum := "dc24876faa0aefab118f1ad7a2ccf47a0c9074e05503ea1832d5729cdad59c14", func := "seedcorn/seedcornlaw28.AllocMore", spec := "allocMore", unfollowed := true, recurses := true, apart := false, narrowed := true }
def AllocMoreUptoSaid : Prop := allocMoreUptoRow.holds Try.pinned (OpenSpec.upto allocMoreSpec)

/-- 'seedcornlaw28.AllocEach', WHERE WHAT IT READS IS OF BULK AT MOST 1048576: true; the input reads as it did. -/
def allocEachUptoRow : OpenClaim := { program := "ytncjbipnkdlkoaa", sum := "dc24876faa0aefab118f1ad7a2ccf47a0c9074e05503ea1832d5729cdad59c14", func := "seedcorn/seedcornlaw28.AllocEach", spec := "allocEach", unfollowed := true, recurses := true, apart := false, narrowed := true }
def AllocEachUptoSaid : Prop := allocEachUptoRow.holds Try.pinned (OpenSpec.upto allocEachSpec)

/-- 'seedcornlaw28.AllocMeans', WHERE WHAT IT READS IS OF BULK AT MOST 1048576: true; the input reads as it did. -/
def allocMeansUptoRow : OpenClaim := { program := "ytncjbipnkdlkoaa", sum := "dc24876faa0aefab118f1ad7a2ccf47a0c9074e05503ea1832d5729cdad59c14", func := "seedcorn/seedcornlaw28.AllocMeans", spec := "allocMeans", unfollowed := true, recurses := true, apart := false, narrowed := true }
def AllocMeansUptoSaid : Prop := allocMeansUptoRow.holds Try.pinned (OpenSpec.upto allocMeansSpec)

/-- 'seedcornlaw28.AllocTrue', WHERE WHAT IT READS IS OF BULK AT MOST 1048576: true; the input reads as it did. -/
def allocTrueUptoRow : OpenClaim := { program := "ytncjbipnkdlkoaa", sum := "dc24876faa0aefab118f1ad7a2ccf47a0c9074e05503ea1832d5729cdad59c14", func := "seedcorn/seedcornlaw28.AllocTrue", spec := "allocTrue", unfollowed := true, recurses := true, apart := false, narrowed := true }
def AllocTrueUptoSaid : Prop := allocTrueUptoRow.holds Try.pinned (OpenSpec.upto allocTrueSpec)

end Rows
end Go.Proofs.Ytncjbipnkdlkoaa
