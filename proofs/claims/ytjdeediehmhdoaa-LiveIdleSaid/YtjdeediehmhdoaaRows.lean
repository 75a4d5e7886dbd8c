/-
  No cell of these rows narrows 'for every input' (looked for: loops, veiled, ifaces, maps, wideKeys, modest, calm, conditions, laid).
  DERIVED. THE GIVEN ROWS OF THIS SEAT. 8 by the template 'for every input the law returns true; each argument reads behind the call as it read before'; 0 by the template 'total and deterministic' (their statements: YtjdeediehmhdoaaTotals.lean).
  GIVEN WITH THE SEED: the statements are not yours to turn. If you find one false, say at which input.
  Laid BY PROGRAM, IN A SANDBOX (cutbox-rows.mjs): the forced cells as the released guide's own fill.sh prints them over the translation 1f3b268082cd8801… (all of the seat's roots in one cut). By AI agents, Wed Nov 11 2026. No macro, syntax, notation, axiom, sorry.
-/
import Derived.Test.YtjdeediehmhdoaaChecked
import GoSem.Claim
import GoSem.ClaimJoined
import GoSem.ClaimMapViews
import Derived.JoinedTies
import Derived.KernelRfl
namespace Go.Proofs.Ytjdeediehmhdoaa
/- THE CELL 'sum', in the pinned program and in every row, IS THE sha256 OF THE DUMP (.gsa) THAT YtjdeediehmhdoaaProg.lean LOADS. Nothing in Lean hashes anything: it is a label: what it is worth is what the hold of that sum in a sandbox is worth. -/
noncomputable def Try.pinned : Pinned := { name := "ytjdeediehmhdoaa", sum := "1f3b268082cd8801b0dc212c2cf340c7cb3828260fbf5fe35046e93d6d47b575", checked := Try.checked }
namespace Rows
def none {H : Type} : Left H := { results := [], args := [] }

/-- 'seedcornlaw27.LiveOf': WHATEVER THE INPUT: true; the input reads as it did. -/
def liveOfSpec : ChangeSpec := { name := "liveOf", fn := fun _ => fun
  | [d] => { results := [.lit (.bool true)], args := [d] }
  | _ => none }
def liveOfRow : OpenClaim := { program := "ytjdeediehmhdoaa", sum := "1f3b268082cd8801b0dc212c2cf340c7cb3828260fbf5fe35046e93d6d47b575", func := "seedcorn/seedcornlaw27.LiveOf", spec := "liveOf", unfollowed := true, recurses := true, apart := false }
def LiveOfSaid : Prop := liveOfRow.holds Try.pinned (OpenSpec.ofChange liveOfSpec)

/-- ITS FALSE NEIGHBOUR: 'it returns false'. Refute it at one input. -/
def liveOfWrong : ChangeSpec := { name := "liveOf", fn := fun _ => fun
  | [d] => { results := [.lit (.bool false)], args := [d] }
  | _ => none }
def LiveOfWrongFalsely : Prop := liveOfRow.holds Try.pinned (OpenSpec.ofChange liveOfWrong)

/-- 'seedcornlaw27.LiveCheck': WHATEVER THE INPUT: true; the input reads as it did. -/
def liveCheckSpec : ChangeSpec := { name := "liveCheck", fn := fun _ => fun
  | [d1, d2, d3] => { results := [.lit (.bool true)], args := [d1, d2, d3] }
  | _ => none }
def liveCheckRow : OpenClaim := { program := "ytjdeediehmhdoaa", sum := "1f3b268082cd8801b0dc212c2cf340c7cb3828260fbf5fe35046e93d6d47b575", func := "seedcorn/seedcornlaw27.LiveCheck", spec := "liveCheck", unfollowed := true, recurses := true, apart := false }
def LiveCheckSaid : Prop := liveCheckRow.holds Try.pinned (OpenSpec.ofChange liveCheckSpec)

/-- ITS FALSE NEIGHBOUR: 'it returns false'. Refute it at one input. -/
def liveCheckWrong : ChangeSpec := { name := "liveCheck", fn := fun _ => fun
  | [d1, d2, d3] => { results := [.lit (.bool false)], args := [d1, d2, d3] }
  | _ => none }
def LiveCheckWrongFalsely : Prop := liveCheckRow.holds Try.pinned (OpenSpec.ofChange liveCheckWrong)

/-- 'seedcornlaw27.LiveBehind': WHATEVER THE INPUT: true; the input reads as it did. -/
def liveBehindSpec : ChangeSpec := { name := "liveBehind", fn := fun _ => fun
  | [d1, d2, d3] => { results := [.lit (.bool true)], args := [d1, d2, d3] }
  | _ => none }
def liveBehindRow : OpenClaim := { program := "ytjdeediehmhdoaa", sum := "1f3b268082cd8801b0dc212c2cf340c7cb3828260fbf5fe35046e93d6d47b575", func := "seedcorn/seedcornlaw27.LiveBehind", spec := "liveBehind", unfollowed := true, recurses := true, apart := false }
def LiveBehindSaid : Prop := liveBehindRow.holds Try.pinned (OpenSpec.ofChange liveBehindSpec)

/-- ITS FALSE NEIGHBOUR: 'it returns false'. Refute it at one input. -/
def liveBehindWrong : ChangeSpec := { name := "liveBehind", fn := fun _ => fun
  | [d1, d2, d3] => { results := [.lit (.bool false)], args := [d1, d2, d3] }
  | _ => none }
def LiveBehindWrongFalsely : Prop := liveBehindRow.holds Try.pinned (OpenSpec.ofChange liveBehindWrong)

/-- 'seedcornlaw27.LiveLeast': WHATEVER THE INPUT: true; the input reads as it did. -/
def liveLeastSpec : ChangeSpec := { name := "liveLeast", fn := fun _ => fun
  | [d1, d2] => { results := [.lit (.bool true)], args := [d1, d2] }
  | _ => none }
def liveLeastRow : OpenClaim := { program := "ytjdeediehmhdoaa", sum := "1f3b268082cd8801b0dc212c2cf340c7cb3828260fbf5fe35046e93d6d47b575", func := "seedcorn/seedcornlaw27.LiveLeast", spec := "liveLeast", unfollowed := true, recurses := true, apart := false }
def LiveLeastSaid : Prop := liveLeastRow.holds Try.pinned (OpenSpec.ofChange liveLeastSpec)

/-- ITS FALSE NEIGHBOUR: 'it returns false'. Refute it at one input. -/
def liveLeastWrong : ChangeSpec := { name := "liveLeast", fn := fun _ => fun
  | [d1, d2] => { results := [.lit (.bool false)], args := [d1, d2] }
  | _ => none }
def LiveLeastWrongFalsely : Prop := liveLeastRow.holds Try.pinned (OpenSpec.ofChange liveLeastWrong)

/-- 'seedcornlaw27.LiveReads': WHATEVER THE INPUT: true; the input reads as it did. -/
def liveReadsSpec : ChangeSpec := { name := "liveReads", fn := fun _ => fun
  | [d1, d2, d3] => { results := [.lit (.bool true)], args := [d1, d2, d3] }
  | _ => none }
def liveReadsRow : OpenClaim := { program := "ytjdeediehmhdoaa", sum := "1f3b268082cd8801b0dc212c2cf340c7cb3828260fbf5fe35046e93d6d47b575", func := "seedcorn/seedcornlaw27.LiveReads", spec := "liveReads", unfollowed := true, recurses := true, apart := false }
def LiveReadsSaid : Prop := liveReadsRow.holds Try.pinned (OpenSpec.ofChange liveReadsSpec)

/-- ITS FALSE NEIGHBOUR: 'it returns false'. Refute it at one input. -/
def liveReadsWrong : ChangeSpec := { name := "liveReads", fn := fun _ => fun
  | [d1, d2, d3] => { results := [.lit (.bool false)], args := [d1, d2, d3] }
  | _ => none }
def LiveReadsWrongFalsely : Prop := liveReadsRow.holds Try.pinned (OpenSpec.ofChange liveReadsWrong)

/-- 'seedcornlaw27.LiveWay': WHATEVER THE INPUT: true; the input reads as it did. -/
def liveWaySpec : ChangeSpec := { name := "liveWay", fn := fun _ => fun
  | [d] => { results := [.lit (.bool true)], args := [d] }
  | _ => none }
def liveWayRow : OpenClaim := { program := "ytjdeediehmhdoaa", sum := "1f3b268082cd8801b0dc212c2cf340c7cb3828260fbf5fe35046e93d6d47b575", func := "seedcorn/seedcornlaw27.LiveWay", spec := "liveWay", unfollowed := true, recurses := true, apart := false }
def LiveWaySaid : Prop := liveWayRow.holds Try.pinned (OpenSpec.ofChange liveWaySpec)

/-- ITS FALSE NEIGHBOUR: 'it returns false'. Refute it at one input. -/
def liveWayWrong : ChangeSpec := { name := "liveWay", fn := fun _ => fun
  | [d] => { results := [.lit (.bool false)], args := [d] }
  | _ => none }
def LiveWayWrongFalsely : Prop := liveWayRow.holds Try.pinned (OpenSpec.ofChange liveWayWrong)

/-- 'seedcornlaw27.LiveMeets': WHATEVER THE INPUT: true; the input reads as it did. -/
def liveMeetsSpec : ChangeSpec := { name := "liveMeets", fn := fun _ => fun
  | [d1, d2, d3] => { results := [.lit (.bool true)], args := [d1, d2, d3] }
  | _ => none }
def liveMeetsRow : OpenClaim := { program := "ytjdeediehmhdoaa", sum := "1f3b268082cd8801b0dc212c2cf340c7cb3828260fbf5fe35046e93d6d47b575", func := "seedcorn/seedcornlaw27.LiveMeets", spec := "liveMeets", unfollowed := true, recurses := true, apart := false }
def LiveMeetsSaid : Prop := liveMeetsRow.holds Try.pinned (OpenSpec.ofChange liveMeetsSpec)

/-- ITS FALSE NEIGHBOUR: 'it returns false'. Refute it at one input. -/
def liveMeetsWrong : ChangeSpec := { name := "liveMeets", fn := fun _ => fun
  | [d1, d2, d3] => { results := [.lit (.bool false)], args := [d1, d2, d3] }
  | _ => none }
def LiveMeetsWrongFalsely : Prop := liveMeetsRow.holds Try.pinned (OpenSpec.ofChange liveMeetsWrong)

/-- 'seedcornlaw27.LiveIdle': WHATEVER THE INPUT: true; the input reads as it did. -/
def liveIdleSpec : ChangeSpec := { name := "liveIdle", fn := fun _ => fun
  | [d1, d2, d3] => { results := [.lit (.bool true)], args := [d1, d2, d3] }
  | _ => none }
def liveIdleRow : OpenClaim := { program := "ytjdeediehmhdoaa", sum := "1f3b268082cd8801b0dc212c2cf340c7cb3828260fbf5fe35046e93d6d47b575", func := "seedcorn/seedcornlaw27.LiveIdle", spec := "liveIdle", unfollowed := true, recurses := true, apart := false }
def LiveIdleSaid : Prop := liveIdleRow.holds Try.pinned (OpenSpec.ofChange liveIdleSpec)

/-- ITS FALSE NEIGHBOUR: 'it returns false'. Refute it at one input. -/
def liveIdleWrong : ChangeSpec := { name := "liveIdle", fn := fun _ => fun
  | [d1, d2, d3] => { results := [.lit (.bool false)], args := [d1, d2, d3] }
  | _ => none }
def LiveIdleWrongFalsely : Prop := liveIdleRow.holds Try.pinned (OpenSpec.ofChange liveIdleWrong)

/- THE SECOND FORM. 'bulk': how many values and letters a reading holds, each counted each time it is reached (what is shared counts as often as it is met; a slice's spare places count too). A statement '..UptoSaid' is the law's where the arguments, and the package variables that the reading takes, are together of bulk at most 1048576: NARROWER than '..Said'. Prove '..Said' where nothing that the law and all that it calls make is longer than what came in: it says more and counts as full. Else prove '..UptoSaid'. A law counts once. -/
mutual
def uptoBulk {H : Type} : DataW H → Nat
  | .lit (.string bytes) => bytes.length + 1
  | .lit _ => 1
  | .nil => 1
  | .ptr d => uptoBulk d + 1
  | .slice elems spare => uptoBulkAll elems + uptoBulkAll spare + 1
  | .agg parts => uptoBulkAll parts + 1
  | .iface _ d => uptoBulk d + 1
  | .map entries => uptoBulkEntries entries + 1
  | .held _ => 1
def uptoBulkAll {H : Type} : List (DataW H) → Nat
  | [] => 0
  | d :: r => uptoBulk d + uptoBulkAll r
def uptoBulkEntries {H : Type} : List (Lit × DataW H) → Nat
  | [] => 0
  | x :: r => uptoBulkEntry x + uptoBulkEntries r
def uptoBulkEntry {H : Type} : Lit × DataW H → Nat
  | (.string bytes, d) => bytes.length + uptoBulk d + 1
  | (_, d) => uptoBulk d + 1
 end
def uptoSmall : (H : Type) → List (DataW H) → Bool := fun _ ds => decide (uptoBulkAll ds ≤ 1048576)
def OpenSpec.upto (s : _root_.Go.ChangeSpec) : _root_.Go.OpenSpec := { _root_.Go.OpenSpec.ofChange s with cond := some uptoSmall }

/-- 'seedcornlaw27.LiveOf', WHERE WHAT IT READS IS OF BULK AT MOST 1048576: true; the input reads as it did. -/
def liveOfUptoRow : OpenClaim := { program := "ytjdeediehmhdoaa", sum := "1f3b268082cd8801b0dc212c2cf340c7cb3828260fbf5fe35046e93d6d47b575", func := "seedcorn/seedcornlaw27.LiveOf", spec := "liveOf", unfollowed := true, recurses := true, apart := false, narrowed := true }
def LiveOfUptoSaid : Prop := liveOfUptoRow.holds Try.pinned (OpenSpec.upto liveOfSpec)

/-- 'seedcornlaw27.LiveCheck', WHERE WHAT IT READS IS OF BULK AT MOST 1048576: true; the input reads as it did. -/
def liveCheckUptoRow : OpenClaim := { program := "ytjdeediehmhdoaa", sum := "1f3b268082cd8801b0dc212c2cf340c7cb3828260fbf5fe35046e93d6d47b575", func := "seedcorn/seedcornlaw27.LiveCheck", spec := "liveCheck", unfollowed := true, recurses := true, apart := false, narrowed := true }
def LiveCheckUptoSaid : Prop := liveCheckUptoRow.holds Try.pinned (OpenSpec.upto liveCheckSpec)

/-- 'seedcornlaw27.LiveBehind', WHERE WHAT IT READS IS OF BULK AT MOST 1048576: true; the input reads as it did. -/
def liveBehindUptoRow : OpenClaim := { program := "ytjdeediehmhdoaa", sum := "1f3b268082cd8801b0dc212c2cf340c7cb3828260fbf5fe35046e93d6d47b575", func := "seedcorn/seedcornlaw27.LiveBehind", spec := "liveBehind", unfollowed := true, recurses := true, apart := false, narrowed := true }
def LiveBehindUptoSaid : Prop := liveBehindUptoRow.holds Try.pinned (OpenSpec.upto liveBehindSpec)

/-- 'seedcornlaw27.LiveLeast', WHERE WHAT IT READS IS OF BULK AT MOST 1048576: true; the input reads as it did. -/
def liveLeastUptoRow : OpenClaim := { program := "ytjdeediehmhdoaa", sum := "1f3b268082cd8801b0dc212c2cf340c7cb3828260fbf5fe35046e93d6d47b575", func := "seedcorn/seedcornlaw27.LiveLeast", spec := "liveLeast", unfollowed := true, recurses := true, apart := false, narrowed := true }
def LiveLeastUptoSaid : Prop := liveLeastUptoRow.holds Try.pinned (OpenSpec.upto liveLeastSpec)

/-- 'seedcornlaw27.LiveReads', WHERE WHAT IT READS IS OF BULK AT MOST 1048576: true; the input reads as it did. -/
def liveReadsUptoRow : OpenClaim := { program := "ytjdeediehmhdoaa", sum := "1f3b268082cd8801b0dc212c2cf340c7cb3828260fbf5fe35046e93d6d47b575", func := "seedcorn/seedcornlaw27.LiveReads", spec := "liveReads", unfollowed := true, recurses := true, apart := false, narrowed := true }
def LiveReadsUptoSaid : Prop := liveReadsUptoRow.holds Try.pinned (OpenSpec.upto liveReadsSpec)

/-- 'seedcornlaw27.LiveWay', WHERE WHAT IT READS IS OF BULK AT MOST 1048576: true; the input reads as it did. -/
def liveWayUptoRow : OpenClaim := { program := "ytjdeediehmhdoaa", sum := "1f3b268082cd8801b0dc212c2cf340c7cb3828260fbf5fe35046e93d6d47b575", func := "seedcorn/seedcornlaw27.LiveWay", spec := "liveWay", unfollowed := true, recurses := true, apart := false, narrowed := true }
def LiveWayUptoSaid : Prop := liveWayUptoRow.holds Try.pinned (OpenSpec.upto liveWaySpec)

/-- 'seedcornlaw27.LiveMeets', WHERE WHAT IT READS IS OF BULK AT MOST 1048576: true; the input reads as it did. -/
def liveMeetsUptoRow : OpenClaim := { program := "ytjdeediehmhdoaa", sum := "1f3b268082cd8801b0dc212c2cf340c7cb3828260fbf5fe35046e93d6d47b575", func := "seedcorn/seedcornlaw27.LiveMeets", spec := "liveMeets", unfollowed := true, recurses := true, apart := false, narrowed := true }
def LiveMeetsUptoSaid : Prop := liveMeetsUptoRow.holds Try.pinned (OpenSpec.upto liveMeetsSpec)

/-- 'seedcornlaw27.LiveIdle', WHERE WHAT IT READS IS OF BULK AT MOST 1048576: true; the input reads as it did. -/
def liveIdleUptoRow : OpenClaim := { program := "ytjdeediehmhdoaa", sum := "1f3b268082cd8801b0dc212c2cf340c7cb3828260fbf5fe35046e93d6d47b575", func := "seedcorn/seedcornlaw27.LiveIdle", spec := "liveIdle", unfollowed := true, recurses := true, apart := false, narrowed := true }
def LiveIdleUptoSaid : Prop := liveIdleUptoRow.holds Try.pinned (OpenSpec.upto liveIdleSpec)

end Rows
end Go.Proofs.Ytjdeediehmhdoaa
