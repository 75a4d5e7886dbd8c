/-
  No cell of these rows narrows 'for every input' (looked for: loops, veiled, ifaces, maps, wideKeys, modest, calm, conditions, laid).
  DERIVED. THE GIVEN ROWS OF THIS SEAT. 7 by the template 'for every input the law returns true; each argument reads behind the call as it read before'; 0 by the template 'total and deterministic' (their statements: YtjoldjcfabbekaaTotals.lean).
  GIVEN WITH THE SEED: the statements are not yours to turn. If you find one false, say at which input.
  Laid BY PROGRAM, IN A SANDBOX (cutbox-rows.mjs): the forced cells as the released guide's own fill.sh prints them over the translation 97b3bbdf61314f19… (all of the seat's roots in one cut). By AI agents, Wed Nov 11 2026. No macro, syntax, notation, axiom, sorry.
-/
import Derived.Test.YtjoldjcfabbekaaChecked
import GoSem.Claim
import GoSem.ClaimJoined
import GoSem.ClaimMapViews
import Derived.JoinedTies
import Derived.KernelRfl
namespace Go.Proofs.Ytjoldjcfabbekaa
/- THE CELL 'sum', in the pinned program and in every row, IS THE sha256 OF THE DUMP (.gsa) THAT YtjoldjcfabbekaaProg.lean LOADS. Nothing in Lean hashes anything: it is a label: what it is worth is what the hold of that sum in a sandbox is worth. -/
noncomputable def Try.pinned : Pinned := { name := "ytjoldjcfabbekaa", sum := "97b3bbdf61314f193c45f6a463b7f12ec13448a2f4b80455da253df42820c2df", checked := Try.checked }
namespace Rows
def none {H : Type} : Left H := { results := [], args := [] }

/-- 'seedcornlaw10.ExecRuns': WHATEVER THE INPUT: true; the input reads as it did. -/
def execRunsSpec : ChangeSpec := { name := "execRuns", fn := fun _ => fun
  | [d1, d2, d3] => { results := [.lit (.bool true)], args := [d1, d2, d3] }
  | _ => none }
def execRunsRow : OpenClaim := { program := "ytjoldjcfabbekaa", sum := "97b3bbdf61314f193c45f6a463b7f12ec13448a2f4b80455da253df42820c2df", func := "seedcorn/seedcornlaw10.ExecRuns", spec := "execRuns", unfollowed := true, recurses := true, apart := false }
def ExecRunsSaid : Prop := execRunsRow.holds Try.pinned (OpenSpec.ofChange execRunsSpec)

/-- ITS FALSE NEIGHBOUR: 'it returns false'. Refute it at one input. -/
def execRunsWrong : ChangeSpec := { name := "execRuns", fn := fun _ => fun
  | [d1, d2, d3] => { results := [.lit (.bool false)], args := [d1, d2, d3] }
  | _ => none }
def ExecRunsWrongFalsely : Prop := execRunsRow.holds Try.pinned (OpenSpec.ofChange execRunsWrong)

/-- 'seedcornlaw10.ExecSplits': WHATEVER THE INPUT: true; the input reads as it did. -/
def execSplitsSpec : ChangeSpec := { name := "execSplits", fn := fun _ => fun
  | [d1, d2] => { results := [.lit (.bool true)], args := [d1, d2] }
  | _ => none }
def execSplitsRow : OpenClaim := { program := "ytjoldjcfabbekaa", sum := "97b3bbdf61314f193c45f6a463b7f12ec13448a2f4b80455da253df42820c2df", func := "seedcorn/seedcornlaw10.ExecSplits", spec := "execSplits", unfollowed := true, recurses := true, apart := false }
def ExecSplitsSaid : Prop := execSplitsRow.holds Try.pinned (OpenSpec.ofChange execSplitsSpec)

/-- ITS FALSE NEIGHBOUR: 'it returns false'. Refute it at one input. -/
def execSplitsWrong : ChangeSpec := { name := "execSplits", fn := fun _ => fun
  | [d1, d2] => { results := [.lit (.bool false)], args := [d1, d2] }
  | _ => none }
def ExecSplitsWrongFalsely : Prop := execSplitsRow.holds Try.pinned (OpenSpec.ofChange execSplitsWrong)

/-- 'seedcornlaw10.ExecStays': WHATEVER THE INPUT: true; the input reads as it did. -/
def execStaysSpec : ChangeSpec := { name := "execStays", fn := fun _ => fun
  | [d1, d2, d3] => { results := [.lit (.bool true)], args := [d1, d2, d3] }
  | _ => none }
def execStaysRow : OpenClaim := { program := "ytjoldjcfabbekaa", sum := "97b3bbdf61314f193c45f6a463b7f12ec13448a2f4b80455da253df42820c2df", func := "seedcorn/seedcornlaw10.ExecStays", spec := "execStays", unfollowed := true, recurses := true, apart := false }
def ExecStaysSaid : Prop := execStaysRow.holds Try.pinned (OpenSpec.ofChange execStaysSpec)

/-- ITS FALSE NEIGHBOUR: 'it returns false'. Refute it at one input. -/
def execStaysWrong : ChangeSpec := { name := "execStays", fn := fun _ => fun
  | [d1, d2, d3] => { results := [.lit (.bool false)], args := [d1, d2, d3] }
  | _ => none }
def ExecStaysWrongFalsely : Prop := execStaysRow.holds Try.pinned (OpenSpec.ofChange execStaysWrong)

/-- 'seedcornlaw10.ExecWords': WHATEVER THE INPUT: true; the input reads as it did. -/
def execWordsSpec : ChangeSpec := { name := "execWords", fn := fun _ => fun
  | [d1, d2, d3] => { results := [.lit (.bool true)], args := [d1, d2, d3] }
  | _ => none }
def execWordsRow : OpenClaim := { program := "ytjoldjcfabbekaa", sum := "97b3bbdf61314f193c45f6a463b7f12ec13448a2f4b80455da253df42820c2df", func := "seedcorn/seedcornlaw10.ExecWords", spec := "execWords", unfollowed := true, recurses := true, apart := false }
def ExecWordsSaid : Prop := execWordsRow.holds Try.pinned (OpenSpec.ofChange execWordsSpec)

/-- ITS FALSE NEIGHBOUR: 'it returns false'. Refute it at one input. -/
def execWordsWrong : ChangeSpec := { name := "execWords", fn := fun _ => fun
  | [d1, d2, d3] => { results := [.lit (.bool false)], args := [d1, d2, d3] }
  | _ => none }
def ExecWordsWrongFalsely : Prop := execWordsRow.holds Try.pinned (OpenSpec.ofChange execWordsWrong)

/-- 'seedcornlaw10.ExecSame': WHATEVER THE INPUT: true; the input reads as it did. -/
def execSameSpec : ChangeSpec := { name := "execSame", fn := fun _ => fun
  | [d1, d2] => { results := [.lit (.bool true)], args := [d1, d2] }
  | _ => none }
def execSameRow : OpenClaim := { program := "ytjoldjcfabbekaa", sum := "97b3bbdf61314f193c45f6a463b7f12ec13448a2f4b80455da253df42820c2df", func := "seedcorn/seedcornlaw10.ExecSame", spec := "execSame", unfollowed := true, recurses := true, apart := false }
def ExecSameSaid : Prop := execSameRow.holds Try.pinned (OpenSpec.ofChange execSameSpec)

/-- ITS FALSE NEIGHBOUR: 'it returns false'. Refute it at one input. -/
def execSameWrong : ChangeSpec := { name := "execSame", fn := fun _ => fun
  | [d1, d2] => { results := [.lit (.bool false)], args := [d1, d2] }
  | _ => none }
def ExecSameWrongFalsely : Prop := execSameRow.holds Try.pinned (OpenSpec.ofChange execSameWrong)

/-- 'seedcornlaw10.ExecGoes': WHATEVER THE INPUT: true; the input reads as it did. -/
def execGoesSpec : ChangeSpec := { name := "execGoes", fn := fun _ => fun
  | [d] => { results := [.lit (.bool true)], args := [d] }
  | _ => none }
def execGoesRow : OpenClaim := { program := "ytjoldjcfabbekaa", sum := "97b3bbdf61314f193c45f6a463b7f12ec13448a2f4b80455da253df42820c2df", func := "seedcorn/seedcornlaw10.ExecGoes", spec := "execGoes", unfollowed := true, recurses := true, apart := false }
def ExecGoesSaid : Prop := execGoesRow.holds Try.pinned (OpenSpec.ofChange execGoesSpec)

/-- ITS FALSE NEIGHBOUR: 'it returns false'. Refute it at one input. -/
def execGoesWrong : ChangeSpec := { name := "execGoes", fn := fun _ => fun
  | [d] => { results := [.lit (.bool false)], args := [d] }
  | _ => none }
def ExecGoesWrongFalsely : Prop := execGoesRow.holds Try.pinned (OpenSpec.ofChange execGoesWrong)

/-- 'seedcornlaw10.ExecBytes': WHATEVER THE INPUT: true; the input reads as it did. -/
def execBytesSpec : ChangeSpec := { name := "execBytes", fn := fun _ => fun
  | [d1, d2, d3] => { results := [.lit (.bool true)], args := [d1, d2, d3] }
  | _ => none }
def execBytesRow : OpenClaim := { program := "ytjoldjcfabbekaa", sum := "97b3bbdf61314f193c45f6a463b7f12ec13448a2f4b80455da253df42820c2df", func := "seedcorn/seedcornlaw10.ExecBytes", spec := "execBytes", unfollowed := true, recurses := true, apart := false }
def ExecBytesSaid : Prop := execBytesRow.holds Try.pinned (OpenSpec.ofChange execBytesSpec)

/-- ITS FALSE NEIGHBOUR: 'it returns false'. Refute it at one input. -/
def execBytesWrong : ChangeSpec := { name := "execBytes", fn := fun _ => fun
  | [d1, d2, d3] => { results := [.lit (.bool false)], args := [d1, d2, d3] }
  | _ => none }
def ExecBytesWrongFalsely : Prop := execBytesRow.holds Try.pinned (OpenSpec.ofChange execBytesWrong)

/- THE SECOND FORM. 'bulk': how many values and letters a reading holds, each counted each time it is reached (what is shared counts as often as it is met; a slice's spare places count too). A statement '..UptoSaid' is the law's where the arguments, and the package variables that the reading takes, are together of bulk at most 1048576: NARROWER than '..Said'. Prove '..Said' where nothing that the law and all that it calls make is longer than what came in: it says more and counts as full. Else prove '..UptoSaid'. A law counts once. -/
mutual
def uptoBulk {H : Type} : DataW H → Nat
  | .lit (.string bytes) => bytes.length + 1
  | .lit _ => 1
  | .nil => 1
  | .ptr d => uptoBulk d + 1
  | .slice elems spare => uptoBulkAll elems + uptoBulkAll spare + 1
  | .agg parts => uptoBulkAll parts + 1
  | .iface _ d => uptoBulk d + 1
  | .map entries => uptoBulkEntries entries + 1
  | .held _ => 1
def uptoBulkAll {H : Type} : List (DataW H) → Nat
  | [] => 0
  | d :: r => uptoBulk d + uptoBulkAll r
def uptoBulkEntries {H : Type} : List (Lit × DataW H) → Nat
  | [] => 0
  | x :: r => uptoBulkEntry x + uptoBulkEntries r
def uptoBulkEntry {H : Type} : Lit × DataW H → Nat
  | (.string bytes, d) => bytes.length + uptoBulk d + 1
  | (_, d) => uptoBulk d + 1
 end
def uptoSmall : (H : Type) → List (DataW H) → Bool := fun _ ds => decide (uptoBulkAll ds ≤ 1048576)
def OpenSpec.upto (s : _root_.Go.ChangeSpec) : _root_.Go.OpenSpec := { _root_.Go.OpenSpec.ofChange s with cond := some uptoSmall }

/-- 'seedcornlaw10.ExecRuns', WHERE WHAT IT READS IS OF BULK AT MOST 1048576: true; the input reads as it did. -/
def execRunsUptoRow : OpenClaim := { program := "ytjoldjcfabbekaa", sum := "97b3bbdf61314f193c45f6a463b7f12ec13448a2f4b80455da253df42820c2df", func := "seedcorn/seedcornlaw10.ExecRuns", spec := "execRuns", unfollowed := true, recurses := true, apart := false, narrowed := true }
def ExecRunsUptoSaid : Prop := execRunsUptoRow.holds Try.pinned (OpenSpec.upto execRunsSpec)

/-- 'seedcornlaw10.ExecSplits', WHERE WHAT IT READS IS OF BULK AT MOST 1048576: true; the input reads as it did. -/
def execSplitsUptoRow : OpenClaim := { program := "ytjoldjcfabbekaa", sum := "97b3bbdf61314f193c45f6a463b7f12ec13448a2f4b80455da253df42820c2df", func := "seedcorn/seedcornlaw10.ExecSplits", spec := "execSplits", unfollowed := true, recurses := true, apart := false, narrowed := true }
def ExecSplitsUptoSaid : Prop := execSplitsUptoRow.holds Try.pinned (OpenSpec.upto execSplitsSpec)

/-- 'seedcornlaw10.ExecStays', WHERE WHAT IT READS IS OF BULK AT MOST 1048576: true; the input reads as it did. -/
def execStaysUptoRow : OpenClaim := { program := "ytjoldjcfabbekaa", sum := "97b3bbdf61314f193c45f6a463b7f12ec13448a2f4b80455da253df42820c2df", func := "seedcorn/seedcornlaw10.ExecStays", spec := "execStays", unfollowed := true, recurses := true, apart := false, narrowed := true }
def ExecStaysUptoSaid : Prop := execStaysUptoRow.holds Try.pinned (OpenSpec.upto execStaysSpec)

/-- 'seedcornlaw10.ExecWords', WHERE WHAT IT READS IS OF BULK AT MOST 1048576: true; the input reads as it did. -/
def execWordsUptoRow : OpenClaim := { program := "ytjoldjcfabbekaa", sum := "97b3bbdf61314f193c45f6a463b7f12ec13448a2f4b80455da253df42820c2df", func := "seedcorn/seedcornlaw10.ExecWords", spec := "execWords", unfollowed := true, recurses := true, apart := false, narrowed := true }
def ExecWordsUptoSaid : Prop := execWordsUptoRow.holds Try.pinned (OpenSpec.upto execWordsSpec)

/-- 'seedcornlaw10.ExecSame', WHERE WHAT IT READS IS OF BULK AT MOST 1048576: true; the input reads as it did. -/
def execSameUptoRow : OpenClaim := { program := "ytjoldjcfabbekaa", sum := "97b3bbdf61314f193c45f6a463b7f12ec13448a2f4b80455da253df42820c2df", func := "seedcorn/seedcornlaw10.ExecSame", spec := "execSame", unfollowed := true, recurses := true, apart := false, narrowed := true }
def ExecSameUptoSaid : Prop := execSameUptoRow.holds Try.pinned (OpenSpec.upto execSameSpec)

/-- 'seedcornlaw10.ExecGoes', WHERE WHAT IT READS IS OF BULK AT MOST 1048576: true; the input reads as it did. -/
def execGoesUptoRow : OpenClaim := { program := "ytjoldjcfabbekaa", sum := "97b3bbdf61314f193c45f6a463b7f12ec13448a2f4b80455da253df42820c2df", func := "seedcorn/seedcornlaw10.ExecGoes", spec := "execGoes", unfollowed := true, recurses := true, apart := false, narrowed := true }
def ExecGoesUptoSaid : Prop := execGoesUptoRow.holds Try.pinned (OpenSpec.upto execGoesSpec)

/-- 'seedcornlaw10.ExecBytes', WHERE WHAT IT READS IS OF BULK AT MOST 1048576: true; the input reads as it did. -/
def execBytesUptoRow : OpenClaim := { program := "ytjoldjcfabbekaa", sum := "97b3bbdf61314f193c45f6a463b7f12ec13448a2f4b80455da253df42820c2df", func := "seedcorn/seedcornlaw10.ExecBytes", spec := "execBytes", unfollowed := true, recurses := true, apart := false, narrowed := true }
def ExecBytesUptoSaid : Prop := execBytesUptoRow.holds Try.pinned (OpenSpec.upto execBytesSpec)

end Rows
end Go.Proofs.Ytjoldjcfabbekaa
