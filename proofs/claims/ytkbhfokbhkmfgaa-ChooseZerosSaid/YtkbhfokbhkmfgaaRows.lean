/-
  No cell of these rows narrows 'for every input' (looked for: loops, veiled, ifaces, maps, wideKeys, modest, calm, conditions, laid).
  DERIVED. THE GIVEN ROWS OF THIS SEAT. 6 by the template 'for every input the law returns true; each argument reads behind the call as it read before'; 0 by the template 'total and deterministic' (their statements: YtkbhfokbhkmfgaaTotals.lean).
  GIVEN WITH THE SEED: the statements are not yours to turn. If you find one false, say at which input.
  Laid BY PROGRAM, IN A SANDBOX (cutbox-rows.mjs): the forced cells as the released guide's own fill.sh prints them over the translation 4d64ada4b3289bb2… (all of the seat's roots in one cut). By AI agents, Wed Nov 11 2026. No macro, syntax, notation, axiom, sorry.
-/
import Derived.Test.YtkbhfokbhkmfgaaChecked
import GoSem.Claim
import GoSem.ClaimJoined
import GoSem.ClaimMapViews
import Derived.JoinedTies
import Derived.KernelRfl
namespace Go.Proofs.Ytkbhfokbhkmfgaa
/- THE CELL 'sum', in the pinned program and in every row, IS THE sha256 OF THE DUMP (.gsa) THAT YtkbhfokbhkmfgaaProg.lean LOADS. Nothing in Lean hashes anything: it is a label: what it is worth is what the hold of that sum in a sandbox is worth. -/
noncomputable def Try.pinned : Pinned := { name := "ytkbhfokbhkmfgaa", sum := "4d64ada4b3289bb26227011b1aea38faca36925092130898345d1a6502afec0d", checked := Try.checked }
namespace Rows
def none {H : Type} : Left H := { results := [], args := [] }

/-- 'seedcornlaw29.ChooseDoes': WHATEVER THE INPUT: true; the input reads as it did. -/
def chooseDoesSpec : ChangeSpec := { name := "chooseDoes", fn := fun _ => fun
  | [d1, d2, d3] => { results := [.lit (.bool true)], args := [d1, d2, d3] }
  | _ => none }
def chooseDoesRow : OpenClaim := { program := "ytkbhfokbhkmfgaa", sum := "4d64ada4b3289bb26227011b1aea38faca36925092130898345d1a6502afec0d", func := "seedcorn/seedcornlaw29.ChooseDoes", spec := "chooseDoes", unfollowed := true, recurses := true, apart := false }
def ChooseDoesSaid : Prop := chooseDoesRow.holds Try.pinned (OpenSpec.ofChange chooseDoesSpec)

/-- ITS FALSE NEIGHBOUR: 'it returns false'. Refute it at one input. -/
def chooseDoesWrong : ChangeSpec := { name := "chooseDoes", fn := fun _ => fun
  | [d1, d2, d3] => { results := [.lit (.bool false)], args := [d1, d2, d3] }
  | _ => none }
def ChooseDoesWrongFalsely : Prop := chooseDoesRow.holds Try.pinned (OpenSpec.ofChange chooseDoesWrong)

/-- 'seedcornlaw29.ChoosePlaces': WHATEVER THE INPUT: true; the input reads as it did. -/
def choosePlacesSpec : ChangeSpec := { name := "choosePlaces", fn := fun _ => fun
  | [d1, d2, d3] => { results := [.lit (.bool true)], args := [d1, d2, d3] }
  | _ => none }
def choosePlacesRow : OpenClaim := { program := "ytkbhfokbhkmfgaa", sum := "4d64ada4b3289bb26227011b1aea38faca36925092130898345d1a6502afec0d", func := "seedcorn/seedcornlaw29.ChoosePlaces", spec := "choosePlaces", unfollowed := true, recurses := true, apart := false }
def ChoosePlacesSaid : Prop := choosePlacesRow.holds Try.pinned (OpenSpec.ofChange choosePlacesSpec)

/-- ITS FALSE NEIGHBOUR: 'it returns false'. Refute it at one input. -/
def choosePlacesWrong : ChangeSpec := { name := "choosePlaces", fn := fun _ => fun
  | [d1, d2, d3] => { results := [.lit (.bool false)], args := [d1, d2, d3] }
  | _ => none }
def ChoosePlacesWrongFalsely : Prop := choosePlacesRow.holds Try.pinned (OpenSpec.ofChange choosePlacesWrong)

/-- 'seedcornlaw29.ChooseZeros': WHATEVER THE INPUT: true; the input reads as it did. -/
def chooseZerosSpec : ChangeSpec := { name := "chooseZeros", fn := fun _ => fun
  | [d1, d2, d3] => { results := [.lit (.bool true)], args := [d1, d2, d3] }
  | _ => none }
def chooseZerosRow : OpenClaim := { program := "ytkbhfokbhkmfgaa", sum := "4d64ada4b3289bb26227011b1aea38faca36925092130898345d1a6502afec0d", func := "seedcorn/seedcornlaw29.ChooseZeros", spec := "chooseZeros", unfollowed := true, recurses := true, apart := false }
def ChooseZerosSaid : Prop := chooseZerosRow.holds Try.pinned (OpenSpec.ofChange chooseZerosSpec)

/-- ITS FALSE NEIGHBOUR: 'it returns false'. Refute it at one input. -/
def chooseZerosWrong : ChangeSpec := { name := "chooseZeros", fn := fun _ => fun
  | [d1, d2, d3] => { results := [.lit (.bool false)], args := [d1, d2, d3] }
  | _ => none }
def ChooseZerosWrongFalsely : Prop := chooseZerosRow.holds Try.pinned (OpenSpec.ofChange chooseZerosWrong)

/-- 'seedcornlaw29.ChooseLong': WHATEVER THE INPUT: true; the input reads as it did. -/
def chooseLongSpec : ChangeSpec := { name := "chooseLong", fn := fun _ => fun
  | [d1, d2, d3] => { results := [.lit (.bool true)], args := [d1, d2, d3] }
  | _ => none }
def chooseLongRow : OpenClaim := { program := "ytkbhfokbhkmfgaa", sum := "4d64ada4b3289bb26227011b1aea38faca36925092130898345d1a6502afec0d", func := "seedcorn/seedcornlaw29.ChooseLong", spec := "chooseLong", unfollowed := true, recurses := true, apart := false }
def ChooseLongSaid : Prop := chooseLongRow.holds Try.pinned (OpenSpec.ofChange chooseLongSpec)

/-- ITS FALSE NEIGHBOUR: 'it returns false'. Refute it at one input. -/
def chooseLongWrong : ChangeSpec := { name := "chooseLong", fn := fun _ => fun
  | [d1, d2, d3] => { results := [.lit (.bool false)], args := [d1, d2, d3] }
  | _ => none }
def ChooseLongWrongFalsely : Prop := chooseLongRow.holds Try.pinned (OpenSpec.ofChange chooseLongWrong)

/-- 'seedcornlaw29.ChooseLive': WHATEVER THE INPUT: true; the input reads as it did. -/
def chooseLiveSpec : ChangeSpec := { name := "chooseLive", fn := fun _ => fun
  | [d1, d2] => { results := [.lit (.bool true)], args := [d1, d2] }
  | _ => none }
def chooseLiveRow : OpenClaim := { program := "ytkbhfokbhkmfgaa", sum := "4d64ada4b3289bb26227011b1aea38faca36925092130898345d1a6502afec0d", func := "seedcorn/seedcornlaw29.ChooseLive", spec := "chooseLive", unfollowed := true, recurses := true, apart := false }
def ChooseLiveSaid : Prop := chooseLiveRow.holds Try.pinned (OpenSpec.ofChange chooseLiveSpec)

/-- ITS FALSE NEIGHBOUR: 'it returns false'. Refute it at one input. -/
def chooseLiveWrong : ChangeSpec := { name := "chooseLive", fn := fun _ => fun
  | [d1, d2] => { results := [.lit (.bool false)], args := [d1, d2] }
  | _ => none }
def ChooseLiveWrongFalsely : Prop := chooseLiveRow.holds Try.pinned (OpenSpec.ofChange chooseLiveWrong)

/-- 'seedcornlaw29.ChooseNeeds': WHATEVER THE INPUT: true; the input reads as it did. -/
def chooseNeedsSpec : ChangeSpec := { name := "chooseNeeds", fn := fun _ => fun
  | [d1, d2] => { results := [.lit (.bool true)], args := [d1, d2] }
  | _ => none }
def chooseNeedsRow : OpenClaim := { program := "ytkbhfokbhkmfgaa", sum := "4d64ada4b3289bb26227011b1aea38faca36925092130898345d1a6502afec0d", func := "seedcorn/seedcornlaw29.ChooseNeeds", spec := "chooseNeeds", unfollowed := true, recurses := true, apart := false }
def ChooseNeedsSaid : Prop := chooseNeedsRow.holds Try.pinned (OpenSpec.ofChange chooseNeedsSpec)

/-- ITS FALSE NEIGHBOUR: 'it returns false'. Refute it at one input. -/
def chooseNeedsWrong : ChangeSpec := { name := "chooseNeeds", fn := fun _ => fun
  | [d1, d2] => { results := [.lit (.bool false)], args := [d1, d2] }
  | _ => none }
def ChooseNeedsWrongFalsely : Prop := chooseNeedsRow.holds Try.pinned (OpenSpec.ofChange chooseNeedsWrong)

/- THE SECOND FORM. 'bulk': how many values and letters a reading holds, each counted each time it is reached (what is shared counts as often as it is met; a slice's spare places count too). A statement '..UptoSaid' is the law's where the arguments, and the package variables that the reading takes, are together of bulk at most 1048576: NARROWER than '..Said'. Prove '..Said' where nothing that the law and all that it calls make is longer than what came in: it says more and counts as full. Else prove '..UptoSaid'. A law counts once. -/
mutual
def uptoBulk {H : Type} : DataW H → Nat
  | .lit (.string bytes) => bytes.length + 1
  | .lit _ => 1
  | .nil => 1
  | .ptr d => uptoBulk d + 1
  | .slice elems spare => uptoBulkAll elems + uptoBulkAll spare + 1
  | .agg parts => uptoBulkAll parts + 1
  | .iface _ d => uptoBulk d + 1
  | .map entries => uptoBulkEntries entries + 1
  | .held _ => 1
def uptoBulkAll {H : Type} : List (DataW H) → Nat
  | [] => 0
  | d :: r => uptoBulk d + uptoBulkAll r
def uptoBulkEntries {H : Type} : List (Lit × DataW H) → Nat
  | [] => 0
  | x :: r => uptoBulkEntry x + uptoBulkEntries r
def uptoBulkEntry {H : Type} : Lit × DataW H → Nat
  | (.string bytes, d) => bytes.length + uptoBulk d + 1
  | (_, d) => uptoBulk d + 1
 end
def uptoSmall : (H : Type) → List (DataW H) → Bool := fun _ ds => decide (uptoBulkAll ds ≤ 1048576)
def OpenSpec.upto (s : _root_.Go.ChangeSpec) : _root_.Go.OpenSpec := { _root_.Go.OpenSpec.ofChange s with cond := some uptoSmall }

/-- 'seedcornlaw29.ChooseDoes', WHERE WHAT IT READS IS OF BULK AT MOST 1048576: true; the input reads as it did. -/
def chooseDoesUptoRow : OpenClaim := { program := "ytkbhfokbhkmfgaa", sum := "4d64ada4b3289bb26227011b1aea38faca36925092130898345d1a6502afec0d", func := "seedcorn/seedcornlaw29.ChooseDoes", spec := "chooseDoes", unfollowed := true, recurses := true, apart := false, narrowed := true }
def ChooseDoesUptoSaid : Prop := chooseDoesUptoRow.holds Try.pinned (OpenSpec.upto chooseDoesSpec)

/-- 'seedcornlaw29.ChoosePlaces', WHERE WHAT IT READS IS OF BULK AT MOST 1048576: true; the input reads as it did. -/
def choosePlacesUptoRow : OpenClaim := { program := "ytkbhfokbhkmfgaa", sum := "4d64ada4b3289bb26227011b1aea38faca36925092130898345d1a6502afec0d", func := "seedcorn/seedcornlaw29.ChoosePlaces", spec := "choosePlaces", unfollowed := true, recurses := true, apart := false, narrowed := true }
def ChoosePlacesUptoSaid : Prop := choosePlacesUptoRow.holds Try.pinned (OpenSpec.upto choosePlacesSpec)

/-- 'seedcornlaw29.ChooseZeros', WHERE WHAT IT READS IS OF BULK AT MOST 1048576: true; the input reads as it did. -/
def chooseZerosUptoRow : OpenClaim := { program := "ytkbhfokbhkmfgaa", sum := "4d64ada4b3289bb26227011b1aea38faca36925092130898345d1a6502afec0d", func := "seedcorn/seedcornlaw29.ChooseZeros", spec := "chooseZeros", unfollowed := true, recurses := true, apart := false, narrowed := true }
def ChooseZerosUptoSaid : Prop := chooseZerosUptoRow.holds Try.pinned (OpenSpec.upto chooseZerosSpec)

/-- 'seedcornlaw29.ChooseLong', WHERE WHAT IT READS IS OF BULK AT MOST 1048576: true; the input reads as it did. -/
def chooseLongUptoRow : OpenClaim := { program := "ytkbhfokbhkmfgaa", sum := "4d64ada4b3289bb26227011b1aea38faca36925092130898345d1a6502afec0d", func := "seedcorn/seedcornlaw29.ChooseLong", spec := "chooseLong", unfollowed := true, recurses := true, apart := false, narrowed := true }
def ChooseLongUptoSaid : Prop := chooseLongUptoRow.holds Try.pinned (OpenSpec.upto chooseLongSpec)

/-- 'seedcornlaw29.ChooseLive', WHERE WHAT IT READS IS OF BULK AT MOST 1048576: true; the input reads as it did. -/
def chooseLiveUptoRow : OpenClaim := { program := "ytkbhfokbhkmfgaa", sum := "4d64ada4b3289bb26227011b1aea38faca36925092130898345d1a6502afec0d", func := "seedcorn/seedcornlaw29.ChooseLive", spec := "chooseLive", unfollowed := true, recurses := true, apart := false, narrowed := true }
def ChooseLiveUptoSaid : Prop := chooseLiveUptoRow.holds Try.pinned (OpenSpec.upto chooseLiveSpec)

/-- 'seedcornlaw29.ChooseNeeds', WHERE WHAT IT READS IS OF BULK AT MOST 1048576: true; the input reads as it did. -/
def chooseNeedsUptoRow : OpenClaim := { program := "ytkbhfokbhkmfgaa", sum := "4d64ada4b3289bb26227011b1aea38faca36925092130898345d1a6502afec0d", func := "seedcorn/seedcornlaw29.ChooseNeeds", spec := "chooseNeeds", unfollowed := true, recurses := true, apart := false, narrowed := true }
def ChooseNeedsUptoSaid : Prop := chooseNeedsUptoRow.holds Try.pinned (OpenSpec.upto chooseNeedsSpec)

end Rows
end Go.Proofs.Ytkbhfokbhkmfgaa
