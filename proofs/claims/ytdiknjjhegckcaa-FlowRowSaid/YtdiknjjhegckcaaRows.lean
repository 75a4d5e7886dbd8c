/-
  No cell of these rows narrows 'for every input' (looked for: loops, veiled, ifaces, maps, wideKeys, modest, calm, conditions, laid).
  DERIVED. THE GIVEN ROWS OF THIS SEAT. 8 by the template 'for every input the law returns true; each argument reads behind the call as it read before'; 0 by the template 'total and deterministic' (their statements: YtdiknjjhegckcaaTotals.lean).
  GIVEN WITH THE SEED: the statements are not yours to turn. If you find one false, say at which input.
  Laid BY PROGRAM, IN A SANDBOX (cutbox-rows.mjs): the forced cells as the released guide's own fill.sh prints them over the translation da517e1725be52b1… (all of the seat's roots in one cut). By AI agents, Wed Nov 11 2026. No macro, syntax, notation, axiom, sorry.
-/
import Derived.Test.YtdiknjjhegckcaaChecked
import GoSem.Claim
import GoSem.ClaimJoined
import GoSem.ClaimMapViews
import Derived.JoinedTies
import Derived.KernelRfl
namespace Go.Proofs.Ytdiknjjhegckcaa
/- THE CELL 'sum', in the pinned program and in every row, IS THE sha256 OF THE DUMP (.gsa) THAT YtdiknjjhegckcaaProg.lean LOADS. Nothing in Lean hashes anything: it is a label: what it is worth is what the hold of that sum in a sandbox is worth. -/
noncomputable def Try.pinned : Pinned := { name := "ytdiknjjhegckcaa", sum := "da517e1725be52b188629523021e78436b87459646b680f9f58fde9d45c99807", checked := Try.checked }
namespace Rows
def none {H : Type} : Left H := { results := [], args := [] }

/-- 'seedcornlaw26.FlowReach': WHATEVER THE INPUT: true; the input reads as it did. -/
def flowReachSpec : ChangeSpec := { name := "flowReach", fn := fun _ => fun
  | [d] => { results := [.lit (.bool true)], args := [d] }
  | _ => none }
def flowReachRow : OpenClaim := { program := "ytdiknjjhegckcaa", sum := "da517e1725be52b188629523021e78436b87459646b680f9f58fde9d45c99807", func := "seedcorn/seedcornlaw26.FlowReach", spec := "flowReach", unfollowed := true, recurses := true, apart := false }
def FlowReachSaid : Prop := flowReachRow.holds Try.pinned (OpenSpec.ofChange flowReachSpec)

/-- ITS FALSE NEIGHBOUR: 'it returns false'. Refute it at one input. -/
def flowReachWrong : ChangeSpec := { name := "flowReach", fn := fun _ => fun
  | [d] => { results := [.lit (.bool false)], args := [d] }
  | _ => none }
def FlowReachWrongFalsely : Prop := flowReachRow.holds Try.pinned (OpenSpec.ofChange flowReachWrong)

/-- 'seedcornlaw26.FlowAbove': WHATEVER THE INPUT: true; the input reads as it did. -/
def flowAboveSpec : ChangeSpec := { name := "flowAbove", fn := fun _ => fun
  | [d] => { results := [.lit (.bool true)], args := [d] }
  | _ => none }
def flowAboveRow : OpenClaim := { program := "ytdiknjjhegckcaa", sum := "da517e1725be52b188629523021e78436b87459646b680f9f58fde9d45c99807", func := "seedcorn/seedcornlaw26.FlowAbove", spec := "flowAbove", unfollowed := true, recurses := true, apart := false }
def FlowAboveSaid : Prop := flowAboveRow.holds Try.pinned (OpenSpec.ofChange flowAboveSpec)

/-- ITS FALSE NEIGHBOUR: 'it returns false'. Refute it at one input. -/
def flowAboveWrong : ChangeSpec := { name := "flowAbove", fn := fun _ => fun
  | [d] => { results := [.lit (.bool false)], args := [d] }
  | _ => none }
def FlowAboveWrongFalsely : Prop := flowAboveRow.holds Try.pinned (OpenSpec.ofChange flowAboveWrong)

/-- 'seedcornlaw26.FlowMust': WHATEVER THE INPUT: true; the input reads as it did. -/
def flowMustSpec : ChangeSpec := { name := "flowMust", fn := fun _ => fun
  | [d1, d2, d3] => { results := [.lit (.bool true)], args := [d1, d2, d3] }
  | _ => none }
def flowMustRow : OpenClaim := { program := "ytdiknjjhegckcaa", sum := "da517e1725be52b188629523021e78436b87459646b680f9f58fde9d45c99807", func := "seedcorn/seedcornlaw26.FlowMust", spec := "flowMust", unfollowed := true, recurses := true, apart := false }
def FlowMustSaid : Prop := flowMustRow.holds Try.pinned (OpenSpec.ofChange flowMustSpec)

/-- ITS FALSE NEIGHBOUR: 'it returns false'. Refute it at one input. -/
def flowMustWrong : ChangeSpec := { name := "flowMust", fn := fun _ => fun
  | [d1, d2, d3] => { results := [.lit (.bool false)], args := [d1, d2, d3] }
  | _ => none }
def FlowMustWrongFalsely : Prop := flowMustRow.holds Try.pinned (OpenSpec.ofChange flowMustWrong)

/-- 'seedcornlaw26.FlowCut': WHATEVER THE INPUT: true; the input reads as it did. -/
def flowCutSpec : ChangeSpec := { name := "flowCut", fn := fun _ => fun
  | [d1, d2, d3] => { results := [.lit (.bool true)], args := [d1, d2, d3] }
  | _ => none }
def flowCutRow : OpenClaim := { program := "ytdiknjjhegckcaa", sum := "da517e1725be52b188629523021e78436b87459646b680f9f58fde9d45c99807", func := "seedcorn/seedcornlaw26.FlowCut", spec := "flowCut", unfollowed := true, recurses := true, apart := false }
def FlowCutSaid : Prop := flowCutRow.holds Try.pinned (OpenSpec.ofChange flowCutSpec)

/-- ITS FALSE NEIGHBOUR: 'it returns false'. Refute it at one input. -/
def flowCutWrong : ChangeSpec := { name := "flowCut", fn := fun _ => fun
  | [d1, d2, d3] => { results := [.lit (.bool false)], args := [d1, d2, d3] }
  | _ => none }
def FlowCutWrongFalsely : Prop := flowCutRow.holds Try.pinned (OpenSpec.ofChange flowCutWrong)

/-- 'seedcornlaw26.FlowRow': WHATEVER THE INPUT: true; the input reads as it did. -/
def flowRowSpec : ChangeSpec := { name := "flowRow", fn := fun _ => fun
  | [d1, d2, d3] => { results := [.lit (.bool true)], args := [d1, d2, d3] }
  | _ => none }
def flowRowRow : OpenClaim := { program := "ytdiknjjhegckcaa", sum := "da517e1725be52b188629523021e78436b87459646b680f9f58fde9d45c99807", func := "seedcorn/seedcornlaw26.FlowRow", spec := "flowRow", unfollowed := true, recurses := true, apart := false }
def FlowRowSaid : Prop := flowRowRow.holds Try.pinned (OpenSpec.ofChange flowRowSpec)

/-- ITS FALSE NEIGHBOUR: 'it returns false'. Refute it at one input. -/
def flowRowWrong : ChangeSpec := { name := "flowRow", fn := fun _ => fun
  | [d1, d2, d3] => { results := [.lit (.bool false)], args := [d1, d2, d3] }
  | _ => none }
def FlowRowWrongFalsely : Prop := flowRowRow.holds Try.pinned (OpenSpec.ofChange flowRowWrong)

/-- 'seedcornlaw26.FlowMore': WHATEVER THE INPUT: true; the input reads as it did. -/
def flowMoreSpec : ChangeSpec := { name := "flowMore", fn := fun _ => fun
  | [d1, d2, d3] => { results := [.lit (.bool true)], args := [d1, d2, d3] }
  | _ => none }
def flowMoreRow : OpenClaim := { program := "ytdiknjjhegckcaa", sum := "da517e1725be52b188629523021e78436b87459646b680f9f58fde9d45c99807", func := "seedcorn/seedcornlaw26.FlowMore", spec := "flowMore", unfollowed := true, recurses := true, apart := false }
def FlowMoreSaid : Prop := flowMoreRow.holds Try.pinned (OpenSpec.ofChange flowMoreSpec)

/-- ITS FALSE NEIGHBOUR: 'it returns false'. Refute it at one input. -/
def flowMoreWrong : ChangeSpec := { name := "flowMore", fn := fun _ => fun
  | [d1, d2, d3] => { results := [.lit (.bool false)], args := [d1, d2, d3] }
  | _ => none }
def FlowMoreWrongFalsely : Prop := flowMoreRow.holds Try.pinned (OpenSpec.ofChange flowMoreWrong)

/-- 'seedcornlaw26.FlowRows': WHATEVER THE INPUT: true; the input reads as it did. -/
def flowRowsSpec : ChangeSpec := { name := "flowRows", fn := fun _ => fun
  | [d1, d2] => { results := [.lit (.bool true)], args := [d1, d2] }
  | _ => none }
def flowRowsRow : OpenClaim := { program := "ytdiknjjhegckcaa", sum := "da517e1725be52b188629523021e78436b87459646b680f9f58fde9d45c99807", func := "seedcorn/seedcornlaw26.FlowRows", spec := "flowRows", unfollowed := true, recurses := true, apart := false }
def FlowRowsSaid : Prop := flowRowsRow.holds Try.pinned (OpenSpec.ofChange flowRowsSpec)

/-- ITS FALSE NEIGHBOUR: 'it returns false'. Refute it at one input. -/
def flowRowsWrong : ChangeSpec := { name := "flowRows", fn := fun _ => fun
  | [d1, d2] => { results := [.lit (.bool false)], args := [d1, d2] }
  | _ => none }
def FlowRowsWrongFalsely : Prop := flowRowsRow.holds Try.pinned (OpenSpec.ofChange flowRowsWrong)

/-- 'seedcornlaw26.FlowNext': WHATEVER THE INPUT: true; the input reads as it did. -/
def flowNextSpec : ChangeSpec := { name := "flowNext", fn := fun _ => fun
  | [d] => { results := [.lit (.bool true)], args := [d] }
  | _ => none }
def flowNextRow : OpenClaim := { program := "ytdiknjjhegckcaa", sum := "da517e1725be52b188629523021e78436b87459646b680f9f58fde9d45c99807", func := "seedcorn/seedcornlaw26.FlowNext", spec := "flowNext", unfollowed := true, recurses := true, apart := false }
def FlowNextSaid : Prop := flowNextRow.holds Try.pinned (OpenSpec.ofChange flowNextSpec)

/-- ITS FALSE NEIGHBOUR: 'it returns false'. Refute it at one input. -/
def flowNextWrong : ChangeSpec := { name := "flowNext", fn := fun _ => fun
  | [d] => { results := [.lit (.bool false)], args := [d] }
  | _ => none }
def FlowNextWrongFalsely : Prop := flowNextRow.holds Try.pinned (OpenSpec.ofChange flowNextWrong)

/- THE SECOND FORM. 'bulk': how many values and letters a reading holds, each counted each time it is reached (what is shared counts as often as it is met; a slice's spare places count too). A statement '..UptoSaid' is the law's where the arguments, and the package variables that the reading takes, are together of bulk at most 1048576: NARROWER than '..Said'. Prove '..Said' where nothing that the law and all that it calls make is longer than what came in: it says more and counts as full. Else prove '..UptoSaid'. A law counts once. -/
mutual
def uptoBulk {H : Type} : DataW H → Nat
  | .lit (.string bytes) => bytes.length + 1
  | .lit _ => 1
  | .nil => 1
  | .ptr d => uptoBulk d + 1
  | .slice elems spare => uptoBulkAll elems + uptoBulkAll spare + 1
  | .agg parts => uptoBulkAll parts + 1
  | .iface _ d => uptoBulk d + 1
  | .map entries => uptoBulkEntries entries + 1
  | .held _ => 1
def uptoBulkAll {H : Type} : List (DataW H) → Nat
  | [] => 0
  | d :: r => uptoBulk d + uptoBulkAll r
def uptoBulkEntries {H : Type} : List (Lit × DataW H) → Nat
  | [] => 0
  | x :: r => uptoBulkEntry x + uptoBulkEntries r
def uptoBulkEntry {H : Type} : Lit × DataW H → Nat
  | (.string bytes, d) => bytes.length + uptoBulk d + 1
  | (_, d) => uptoBulk d + 1
 end
def uptoSmall : (H : Type) → List (DataW H) → Bool := fun _ ds => decide (uptoBulkAll ds ≤ 1048576)
def OpenSpec.upto (s : _root_.Go.ChangeSpec) : _root_.Go.OpenSpec := { _root_.Go.OpenSpec.ofChange s with cond := some uptoSmall }

/-- 'seedcornlaw26.FlowReach', WHERE WHAT IT READS IS OF BULK AT MOST 1048576: true; the input reads as it did. -/
def flowReachUptoRow : OpenClaim := { program := "ytdiknjjhegckcaa", sum := "da517e1725be52b188629523021e78436b87459646b680f9f58fde9d45c99807", func := "seedcorn/seedcornlaw26.FlowReach", spec := "flowReach", unfollowed := true, recurses := true, apart := false, narrowed := true }
def FlowReachUptoSaid : Prop := flowReachUptoRow.holds Try.pinned (OpenSpec.upto flowReachSpec)

/-- 'seedcornlaw26.FlowAbove', WHERE WHAT IT READS IS OF BULK AT MOST 1048576: true; the input reads as it did. -/
def flowAboveUptoRow : OpenClaim := { program := "ytdiknjjhegckcaa", sum := "da517e1725be52b188629523021e78436b87459646b680f9f58fde9d45c99807", func := "seedcorn/seedcornlaw26.FlowAbove", spec := "flowAbove", unfollowed := true, recurses := true, apart := false, narrowed := true }
def FlowAboveUptoSaid : Prop := flowAboveUptoRow.holds Try.pinned (OpenSpec.upto flowAboveSpec)

/-- 'seedcornlaw26.FlowMust', WHERE WHAT IT READS IS OF BULK AT MOST 1048576: true; the input reads as it did. -/
def flowMustUptoRow : OpenClaim := { program := "ytdiknjjhegckcaa", sum := "da517e1725be52b188629523021e78436b87459646b680f9f58fde9d45c99807", func := "seedcorn/seedcornlaw26.FlowMust", spec := "flowMust", unfollowed := true, recurses := true, apart := false, narrowed := true }
def FlowMustUptoSaid : Prop := flowMustUptoRow.holds Try.pinned (OpenSpec.upto flowMustSpec)

/-- 'seedcornlaw26.FlowCut', WHERE WHAT IT READS IS OF BULK AT MOST 1048576: true; the input reads as it did. -/
def flowCutUptoRow : OpenClaim := { program := "ytdiknjjhegckcaa", sum := "da517e1725be52b188629523021e78436b87459646b680f9f58fde9d45c99807", func := "seedcorn/seedcornlaw26.FlowCut", spec := "flowCut", unfollowed := true, recurses := true, apart := false, narrowed := true }
def FlowCutUptoSaid : Prop := flowCutUptoRow.holds Try.pinned (OpenSpec.upto flowCutSpec)

/-- 'seedcornlaw26.FlowRow', WHERE WHAT IT READS IS OF BULK AT MOST 1048576: true; the input reads as it did. -/
def flowRowUptoRow : OpenClaim := { program := "ytdiknjjhegckcaa", sum := "da517e1725be52b188629523021e78436b87459646b680f9f58fde9d45c99807", func := "seedcorn/seedcornlaw26.FlowRow", spec := "flowRow", unfollowed := true, recurses := true, apart := false, narrowed := true }
def FlowRowUptoSaid : Prop := flowRowUptoRow.holds Try.pinned (OpenSpec.upto flowRowSpec)

/-- 'seedcornlaw26.FlowMore', WHERE WHAT IT READS IS OF BULK AT MOST 1048576: true; the input reads as it did. -/
def flowMoreUptoRow : OpenClaim := { program := "ytdiknjjhegckcaa", sum := "da517e1725be52b188629523021e78436b87459646b680f9f58fde9d45c99807", func := "seedcorn/seedcornlaw26.FlowMore", spec := "flowMore", unfollowed := true, recurses := true, apart := false, narrowed := true }
def FlowMoreUptoSaid : Prop := flowMoreUptoRow.holds Try.pinned (OpenSpec.upto flowMoreSpec)

/-- 'seedcornlaw26.FlowRows', WHERE WHAT IT READS IS OF BULK AT MOST 1048576: true; the input reads as it did. -/
def flowRowsUptoRow : OpenClaim := { program := "ytdiknjjhegckcaa", sum := "da517e1725be52b188629523021e78436b87459646b680f9f58fde9d45c99807", func := "seedcorn/seedcornlaw26.FlowRows", spec := "flowRows", unfollowed := true, recurses := true, apart := false, narrowed := true }
def FlowRowsUptoSaid : Prop := flowRowsUptoRow.holds Try.pinned (OpenSpec.upto flowRowsSpec)

/-- 'seedcornlaw26.FlowNext', WHERE WHAT IT READS IS OF BULK AT MOST 1048576: true; the input reads as it did. -/
def flowNextUptoRow : OpenClaim := { program := "ytdiknjjhegckcaa", sum := "da517e1725be52b188629523021e78436b87459646b680f9f58fde9d45c99807", func := "seedcorn/seedcornlaw26.FlowNext", spec := "flowNext", unfollowed := true, recurses := true, apart := false, narrowed := true }
def FlowNextUptoSaid : Prop := flowNextUptoRow.holds Try.pinned (OpenSpec.upto flowNextSpec)

end Rows
end Go.Proofs.Ytdiknjjhegckcaa
