/-
  No cell of these rows narrows 'for every input' (looked for: loops, veiled, ifaces, maps, wideKeys, modest, calm, conditions, laid).
  DERIVED. THE GIVEN ROWS OF THIS SEAT. 12 by the template 'for every input the law returns true; each argument reads behind the call as it read before'; 0 by the template 'total and deterministic' (their statements: YtmjcjmljnliaoaaTotals.lean).
  GIVEN WITH THE SEED: the statements are not yours to turn. If you find one false, say at which input.
  Laid BY PROGRAM, IN A SANDBOX (cutbox-rows.mjs): the forced cells as the released guide's own fill.sh prints them over the translation b2af66cd20f2ce22… (all of the seat's roots in one cut). By AI agents, Wed Nov 11 2026. No macro, syntax, notation, axiom, sorry.
-/
import Derived.Test.YtmjcjmljnliaoaaChecked
import GoSem.Claim
import GoSem.ClaimJoined
import GoSem.ClaimMapViews
import Derived.JoinedTies
import Derived.KernelRfl
namespace Go.Proofs.Ytmjcjmljnliaoaa
/- THE CELL 'sum', in the pinned program and in every row, IS THE sha256 OF THE DUMP (.gsa) THAT YtmjcjmljnliaoaaProg.lean LOADS. Nothing in Lean hashes anything: it is a label: what it is worth is what the hold of that sum in a sandbox is worth. -/
noncomputable def Try.pinned : Pinned := { name := "ytmjcjmljnliaoaa", sum := "b2af66cd20f2ce222b2a293f19e2b3ccceaebda07cc38970c4f78a9301fc2c1f", checked := Try.checked }
namespace Rows
def none {H : Type} : Left H := { results := [], args := [] }

/-- 'sandpilelaw56.WireChecks': WHATEVER THE INPUT: true; the input reads as it did. -/
def wireChecksSpec : ChangeSpec := { name := "wireChecks", fn := fun _ => fun
  | [d1, d2] => { results := [.lit (.bool true)], args := [d1, d2] }
  | _ => none }
def wireChecksRow : OpenClaim := { program := "ytmjcjmljnliaoaa", sum := "b2af66cd20f2ce222b2a293f19e2b3ccceaebda07cc38970c4f78a9301fc2c1f", func := "sandpile/sandpilelaw56.WireChecks", spec := "wireChecks", unfollowed := true, recurses := true, apart := false }
def WireChecksSaid : Prop := wireChecksRow.holds Try.pinned (OpenSpec.ofChange wireChecksSpec)

/-- ITS FALSE NEIGHBOUR: 'it returns false'. Refute it at one input. -/
def wireChecksWrong : ChangeSpec := { name := "wireChecks", fn := fun _ => fun
  | [d1, d2] => { results := [.lit (.bool false)], args := [d1, d2] }
  | _ => none }
def WireChecksWrongFalsely : Prop := wireChecksRow.holds Try.pinned (OpenSpec.ofChange wireChecksWrong)

/-- 'sandpilelaw56.WireRests': WHATEVER THE INPUT: true; the input reads as it did. -/
def wireRestsSpec : ChangeSpec := { name := "wireRests", fn := fun _ => fun
  | [d1, d2, d3] => { results := [.lit (.bool true)], args := [d1, d2, d3] }
  | _ => none }
def wireRestsRow : OpenClaim := { program := "ytmjcjmljnliaoaa", sum := "b2af66cd20f2ce222b2a293f19e2b3ccceaebda07cc38970c4f78a9301fc2c1f", func := "sandpile/sandpilelaw56.WireRests", spec := "wireRests", unfollowed := true, recurses := true, apart := false }
def WireRestsSaid : Prop := wireRestsRow.holds Try.pinned (OpenSpec.ofChange wireRestsSpec)

/-- ITS FALSE NEIGHBOUR: 'it returns false'. Refute it at one input. -/
def wireRestsWrong : ChangeSpec := { name := "wireRests", fn := fun _ => fun
  | [d1, d2, d3] => { results := [.lit (.bool false)], args := [d1, d2, d3] }
  | _ => none }
def WireRestsWrongFalsely : Prop := wireRestsRow.holds Try.pinned (OpenSpec.ofChange wireRestsWrong)

/-- 'sandpilelaw54.ProcessorChecks': WHATEVER THE INPUT: true; the input reads as it did. -/
def processorChecksSpec : ChangeSpec := { name := "processorChecks", fn := fun _ => fun
  | [d1, d2] => { results := [.lit (.bool true)], args := [d1, d2] }
  | _ => none }
def processorChecksRow : OpenClaim := { program := "ytmjcjmljnliaoaa", sum := "b2af66cd20f2ce222b2a293f19e2b3ccceaebda07cc38970c4f78a9301fc2c1f", func := "sandpile/sandpilelaw54.ProcessorChecks", spec := "processorChecks", unfollowed := true, recurses := true, apart := false }
def ProcessorChecksSaid : Prop := processorChecksRow.holds Try.pinned (OpenSpec.ofChange processorChecksSpec)

/-- ITS FALSE NEIGHBOUR: 'it returns false'. Refute it at one input. -/
def processorChecksWrong : ChangeSpec := { name := "processorChecks", fn := fun _ => fun
  | [d1, d2] => { results := [.lit (.bool false)], args := [d1, d2] }
  | _ => none }
def ProcessorChecksWrongFalsely : Prop := processorChecksRow.holds Try.pinned (OpenSpec.ofChange processorChecksWrong)

/-- 'sandpilelaw54.ProcessorSorts': WHATEVER THE INPUT: true; the input reads as it did. -/
def processorSortsSpec : ChangeSpec := { name := "processorSorts", fn := fun _ => fun
  | [d] => { results := [.lit (.bool true)], args := [d] }
  | _ => none }
def processorSortsRow : OpenClaim := { program := "ytmjcjmljnliaoaa", sum := "b2af66cd20f2ce222b2a293f19e2b3ccceaebda07cc38970c4f78a9301fc2c1f", func := "sandpile/sandpilelaw54.ProcessorSorts", spec := "processorSorts", unfollowed := true, recurses := true, apart := false }
def ProcessorSortsSaid : Prop := processorSortsRow.holds Try.pinned (OpenSpec.ofChange processorSortsSpec)

/-- ITS FALSE NEIGHBOUR: 'it returns false'. Refute it at one input. -/
def processorSortsWrong : ChangeSpec := { name := "processorSorts", fn := fun _ => fun
  | [d] => { results := [.lit (.bool false)], args := [d] }
  | _ => none }
def ProcessorSortsWrongFalsely : Prop := processorSortsRow.holds Try.pinned (OpenSpec.ofChange processorSortsWrong)

/-- 'sandpilelaw54.ProcessorCommutes': WHATEVER THE INPUT: true; the input reads as it did. -/
def processorCommutesSpec : ChangeSpec := { name := "processorCommutes", fn := fun _ => fun
  | [d1, d2, d3] => { results := [.lit (.bool true)], args := [d1, d2, d3] }
  | _ => none }
def processorCommutesRow : OpenClaim := { program := "ytmjcjmljnliaoaa", sum := "b2af66cd20f2ce222b2a293f19e2b3ccceaebda07cc38970c4f78a9301fc2c1f", func := "sandpile/sandpilelaw54.ProcessorCommutes", spec := "processorCommutes", unfollowed := true, recurses := true, apart := false }
def ProcessorCommutesSaid : Prop := processorCommutesRow.holds Try.pinned (OpenSpec.ofChange processorCommutesSpec)

/-- ITS FALSE NEIGHBOUR: 'it returns false'. Refute it at one input. -/
def processorCommutesWrong : ChangeSpec := { name := "processorCommutes", fn := fun _ => fun
  | [d1, d2, d3] => { results := [.lit (.bool false)], args := [d1, d2, d3] }
  | _ => none }
def ProcessorCommutesWrongFalsely : Prop := processorCommutesRow.holds Try.pinned (OpenSpec.ofChange processorCommutesWrong)

/-- 'sandpilelaw54.ProcessorRuns': WHATEVER THE INPUT: true; the input reads as it did. -/
def processorRunsSpec : ChangeSpec := { name := "processorRuns", fn := fun _ => fun
  | [d1, d2, d3] => { results := [.lit (.bool true)], args := [d1, d2, d3] }
  | _ => none }
def processorRunsRow : OpenClaim := { program := "ytmjcjmljnliaoaa", sum := "b2af66cd20f2ce222b2a293f19e2b3ccceaebda07cc38970c4f78a9301fc2c1f", func := "sandpile/sandpilelaw54.ProcessorRuns", spec := "processorRuns", unfollowed := true, recurses := true, apart := false }
def ProcessorRunsSaid : Prop := processorRunsRow.holds Try.pinned (OpenSpec.ofChange processorRunsSpec)

/-- ITS FALSE NEIGHBOUR: 'it returns false'. Refute it at one input. -/
def processorRunsWrong : ChangeSpec := { name := "processorRuns", fn := fun _ => fun
  | [d1, d2, d3] => { results := [.lit (.bool false)], args := [d1, d2, d3] }
  | _ => none }
def ProcessorRunsWrongFalsely : Prop := processorRunsRow.holds Try.pinned (OpenSpec.ofChange processorRunsWrong)

/-- 'sandpilelaw54.ProcessorSplits': WHATEVER THE INPUT: true; the input reads as it did. -/
def processorSplitsSpec : ChangeSpec := { name := "processorSplits", fn := fun _ => fun
  | [d1, d2, d3] => { results := [.lit (.bool true)], args := [d1, d2, d3] }
  | _ => none }
def processorSplitsRow : OpenClaim := { program := "ytmjcjmljnliaoaa", sum := "b2af66cd20f2ce222b2a293f19e2b3ccceaebda07cc38970c4f78a9301fc2c1f", func := "sandpile/sandpilelaw54.ProcessorSplits", spec := "processorSplits", unfollowed := true, recurses := true, apart := false }
def ProcessorSplitsSaid : Prop := processorSplitsRow.holds Try.pinned (OpenSpec.ofChange processorSplitsSpec)

/-- ITS FALSE NEIGHBOUR: 'it returns false'. Refute it at one input. -/
def processorSplitsWrong : ChangeSpec := { name := "processorSplits", fn := fun _ => fun
  | [d1, d2, d3] => { results := [.lit (.bool false)], args := [d1, d2, d3] }
  | _ => none }
def ProcessorSplitsWrongFalsely : Prop := processorSplitsRow.holds Try.pinned (OpenSpec.ofChange processorSplitsWrong)

/-- 'sandpilelaw54.ProcessorReads': WHATEVER THE INPUT: true; the input reads as it did. -/
def processorReadsSpec : ChangeSpec := { name := "processorReads", fn := fun _ => fun
  | [d1, d2, d3] => { results := [.lit (.bool true)], args := [d1, d2, d3] }
  | _ => none }
def processorReadsRow : OpenClaim := { program := "ytmjcjmljnliaoaa", sum := "b2af66cd20f2ce222b2a293f19e2b3ccceaebda07cc38970c4f78a9301fc2c1f", func := "sandpile/sandpilelaw54.ProcessorReads", spec := "processorReads", unfollowed := true, recurses := true, apart := false }
def ProcessorReadsSaid : Prop := processorReadsRow.holds Try.pinned (OpenSpec.ofChange processorReadsSpec)

/-- ITS FALSE NEIGHBOUR: 'it returns false'. Refute it at one input. -/
def processorReadsWrong : ChangeSpec := { name := "processorReads", fn := fun _ => fun
  | [d1, d2, d3] => { results := [.lit (.bool false)], args := [d1, d2, d3] }
  | _ => none }
def ProcessorReadsWrongFalsely : Prop := processorReadsRow.holds Try.pinned (OpenSpec.ofChange processorReadsWrong)

/-- 'sandpilelaw56.WireAgrees': WHATEVER THE INPUT: true; the input reads as it did. -/
def wireAgreesSpec : ChangeSpec := { name := "wireAgrees", fn := fun _ => fun
  | [d1, d2] => { results := [.lit (.bool true)], args := [d1, d2] }
  | _ => none }
def wireAgreesRow : OpenClaim := { program := "ytmjcjmljnliaoaa", sum := "b2af66cd20f2ce222b2a293f19e2b3ccceaebda07cc38970c4f78a9301fc2c1f", func := "sandpile/sandpilelaw56.WireAgrees", spec := "wireAgrees", unfollowed := true, recurses := true, apart := false }
def WireAgreesSaid : Prop := wireAgreesRow.holds Try.pinned (OpenSpec.ofChange wireAgreesSpec)

/-- ITS FALSE NEIGHBOUR: 'it returns false'. Refute it at one input. -/
def wireAgreesWrong : ChangeSpec := { name := "wireAgrees", fn := fun _ => fun
  | [d1, d2] => { results := [.lit (.bool false)], args := [d1, d2] }
  | _ => none }
def WireAgreesWrongFalsely : Prop := wireAgreesRow.holds Try.pinned (OpenSpec.ofChange wireAgreesWrong)

/-- 'sandpilelaw54.ProcessorReaches': WHATEVER THE INPUT: true; the input reads as it did. -/
def processorReachesSpec : ChangeSpec := { name := "processorReaches", fn := fun _ => fun
  | [d1, d2] => { results := [.lit (.bool true)], args := [d1, d2] }
  | _ => none }
def processorReachesRow : OpenClaim := { program := "ytmjcjmljnliaoaa", sum := "b2af66cd20f2ce222b2a293f19e2b3ccceaebda07cc38970c4f78a9301fc2c1f", func := "sandpile/sandpilelaw54.ProcessorReaches", spec := "processorReaches", unfollowed := true, recurses := true, apart := false }
def ProcessorReachesSaid : Prop := processorReachesRow.holds Try.pinned (OpenSpec.ofChange processorReachesSpec)

/-- ITS FALSE NEIGHBOUR: 'it returns false'. Refute it at one input. -/
def processorReachesWrong : ChangeSpec := { name := "processorReaches", fn := fun _ => fun
  | [d1, d2] => { results := [.lit (.bool false)], args := [d1, d2] }
  | _ => none }
def ProcessorReachesWrongFalsely : Prop := processorReachesRow.holds Try.pinned (OpenSpec.ofChange processorReachesWrong)

/-- 'sandpilelaw54.ProcessorCloses': WHATEVER THE INPUT: true; the input reads as it did. -/
def processorClosesSpec : ChangeSpec := { name := "processorCloses", fn := fun _ => fun
  | [d1, d2] => { results := [.lit (.bool true)], args := [d1, d2] }
  | _ => none }
def processorClosesRow : OpenClaim := { program := "ytmjcjmljnliaoaa", sum := "b2af66cd20f2ce222b2a293f19e2b3ccceaebda07cc38970c4f78a9301fc2c1f", func := "sandpile/sandpilelaw54.ProcessorCloses", spec := "processorCloses", unfollowed := true, recurses := true, apart := false }
def ProcessorClosesSaid : Prop := processorClosesRow.holds Try.pinned (OpenSpec.ofChange processorClosesSpec)

/-- ITS FALSE NEIGHBOUR: 'it returns false'. Refute it at one input. -/
def processorClosesWrong : ChangeSpec := { name := "processorCloses", fn := fun _ => fun
  | [d1, d2] => { results := [.lit (.bool false)], args := [d1, d2] }
  | _ => none }
def ProcessorClosesWrongFalsely : Prop := processorClosesRow.holds Try.pinned (OpenSpec.ofChange processorClosesWrong)

/-- 'sandpilelaw54.ProcessorOrders': WHATEVER THE INPUT: true; the input reads as it did. -/
def processorOrdersSpec : ChangeSpec := { name := "processorOrders", fn := fun _ => fun
  | [d1, d2, d3] => { results := [.lit (.bool true)], args := [d1, d2, d3] }
  | _ => none }
def processorOrdersRow : OpenClaim := { program := "ytmjcjmljnliaoaa", sum := "b2af66cd20f2ce222b2a293f19e2b3ccceaebda07cc38970c4f78a9301fc2c1f", func := "sandpile/sandpilelaw54.ProcessorOrders", spec := "processorOrders", unfollowed := true, recurses := true, apart := false }
def ProcessorOrdersSaid : Prop := processorOrdersRow.holds Try.pinned (OpenSpec.ofChange processorOrdersSpec)

/-- ITS FALSE NEIGHBOUR: 'it returns false'. Refute it at one input. -/
def processorOrdersWrong : ChangeSpec := { name := "processorOrders", fn := fun _ => fun
  | [d1, d2, d3] => { results := [.lit (.bool false)], args := [d1, d2, d3] }
  | _ => none }
def ProcessorOrdersWrongFalsely : Prop := processorOrdersRow.holds Try.pinned (OpenSpec.ofChange processorOrdersWrong)

/- THE SECOND FORM. 'bulk': how many values and letters a reading holds, each counted each time it is reached (what is shared counts as often as it is met; a slice's spare places count too). A statement '..UptoSaid' is the law's where the arguments, and the package variables that the reading takes, are together of bulk at most 1048576: NARROWER than '..Said'. Prove '..Said' where nothing that the law and all that it calls make is longer than what came in: it says more and counts as full. Else prove '..UptoSaid'. A law counts once. -/
mutual
def uptoBulk {H : Type} : DataW H → Nat
  | .lit (.string bytes) => bytes.length + 1
  | .lit _ => 1
  | .nil => 1
  | .ptr d => uptoBulk d + 1
  | .slice elems spare => uptoBulkAll elems + uptoBulkAll spare + 1
  | .agg parts => uptoBulkAll parts + 1
  | .iface _ d => uptoBulk d + 1
  | .map entries => uptoBulkEntries entries + 1
  | .held _ => 1
def uptoBulkAll {H : Type} : List (DataW H) → Nat
  | [] => 0
  | d :: r => uptoBulk d + uptoBulkAll r
def uptoBulkEntries {H : Type} : List (Lit × DataW H) → Nat
  | [] => 0
  | x :: r => uptoBulkEntry x + uptoBulkEntries r
def uptoBulkEntry {H : Type} : Lit × DataW H → Nat
  | (.string bytes, d) => bytes.length + uptoBulk d + 1
  | (_, d) => uptoBulk d + 1
 end
def uptoSmall : (H : Type) → List (DataW H) → Bool := fun _ ds => decide (uptoBulkAll ds ≤ 1048576)
def OpenSpec.upto (s : _root_.Go.ChangeSpec) : _root_.Go.OpenSpec := { _root_.Go.OpenSpec.ofChange s with cond := some uptoSmall }

/-- 'sandpilelaw56.WireChecks', WHERE WHAT IT READS IS OF BULK AT MOST 1048576: true; the input reads as it did. -/
def wireChecksUptoRow : OpenClaim := { program := "ytmjcjmljnliaoaa", sum := "b2af66cd20f2ce222b2a293f19e2b3ccceaebda07cc38970c4f78a9301fc2c1f", func := "sandpile/sandpilelaw56.WireChecks", spec := "wireChecks", unfollowed := true, recurses := true, apart := false, narrowed := true }
def WireChecksUptoSaid : Prop := wireChecksUptoRow.holds Try.pinned (OpenSpec.upto wireChecksSpec)

/-- 'sandpilelaw56.WireRests', WHERE WHAT IT READS IS OF BULK AT MOST 1048576: true; the input reads as it did. -/
def wireRestsUptoRow : OpenClaim := { program := "ytmjcjmljnliaoaa", sum := "b2af66cd20f2ce222b2a293f19e2b3ccceaebda07cc38970c4f78a9301fc2c1f", func := "sandpile/sandpilelaw56.WireRests", spec := "wireRests", unfollowed := true, recurses := true, apart := false, narrowed := true }
def WireRestsUptoSaid : Prop := wireRestsUptoRow.holds Try.pinned (OpenSpec.upto wireRestsSpec)

/-- 'sandpilelaw54.ProcessorChecks', WHERE WHAT IT READS IS OF BULK AT MOST 1048576: true; the input reads as it did. -/
def processorChecksUptoRow : OpenClaim := { program := "ytmjcjmljnliaoaa", sum := "b2af66cd20f2ce222b2a293f19e2b3ccceaebda07cc38970c4f78a9301fc2c1f", func := "sandpile/sandpilelaw54.ProcessorChecks", spec := "processorChecks", unfollowed := true, recurses := true, apart := false, narrowed := true }
def ProcessorChecksUptoSaid : Prop := processorChecksUptoRow.holds Try.pinned (OpenSpec.upto processorChecksSpec)

/-- 'sandpilelaw54.ProcessorSorts', WHERE WHAT IT READS IS OF BULK AT MOST 1048576: true; the input reads as it did. -/
def processorSortsUptoRow : OpenClaim := { program := "ytmjcjmljnliaoaa", sum := "b2af66cd20f2ce222b2a293f19e2b3ccceaebda07cc38970c4f78a9301fc2c1f", func := "sandpile/sandpilelaw54.ProcessorSorts", spec := "processorSorts", unfollowed := true, recurses := true, apart := false, narrowed := true }
def ProcessorSortsUptoSaid : Prop := processorSortsUptoRow.holds Try.pinned (OpenSpec.upto processorSortsSpec)

/-- 'sandpilelaw54.ProcessorCommutes', WHERE WHAT IT READS IS OF BULK AT MOST 1048576: true; the input reads as it did. -/
def processorCommutesUptoRow : OpenClaim := { program := "ytmjcjmljnliaoaa", sum := "b2af66cd20f2ce222b2a293f19e2b3ccceaebda07cc38970c4f78a9301fc2c1f", func := "sandpile/sandpilelaw54.ProcessorCommutes", spec := "processorCommutes", unfollowed := true, recurses := true, apart := false, narrowed := true }
def ProcessorCommutesUptoSaid : Prop := processorCommutesUptoRow.holds Try.pinned (OpenSpec.upto processorCommutesSpec)

/-- 'sandpilelaw54.ProcessorRuns', WHERE WHAT IT READS IS OF BULK AT MOST 1048576: true; the input reads as it did. -/
def processorRunsUptoRow : OpenClaim := { program := "ytmjcjmljnliaoaa", sum := "b2af66cd20f2ce222b2a293f19e2b3ccceaebda07cc38970c4f78a9301fc2c1f", func := "sandpile/sandpilelaw54.ProcessorRuns", spec := "processorRuns", unfollowed := true, recurses := true, apart := false, narrowed := true }
def ProcessorRunsUptoSaid : Prop := processorRunsUptoRow.holds Try.pinned (OpenSpec.upto processorRunsSpec)

/-- 'sandpilelaw54.ProcessorSplits', WHERE WHAT IT READS IS OF BULK AT MOST 1048576: true; the input reads as it did. -/
def processorSplitsUptoRow : OpenClaim := { program := "ytmjcjmljnliaoaa", sum := "b2af66cd20f2ce222b2a293f19e2b3ccceaebda07cc38970c4f78a9301fc2c1f", func := "sandpile/sandpilelaw54.ProcessorSplits", spec := "processorSplits", unfollowed := true, recurses := true, apart := false, narrowed := true }
def ProcessorSplitsUptoSaid : Prop := processorSplitsUptoRow.holds Try.pinned (OpenSpec.upto processorSplitsSpec)

/-- 'sandpilelaw54.ProcessorReads', WHERE WHAT IT READS IS OF BULK AT MOST 1048576: true; the input reads as it did. -/
def processorReadsUptoRow : OpenClaim := { program := "ytmjcjmljnliaoaa", sum := "b2af66cd20f2ce222b2a293f19e2b3ccceaebda07cc38970c4f78a9301fc2c1f", func := "sandpile/sandpilelaw54.ProcessorReads", spec := "processorReads", unfollowed := true, recurses := true, apart := false, narrowed := true }
def ProcessorReadsUptoSaid : Prop := processorReadsUptoRow.holds Try.pinned (OpenSpec.upto processorReadsSpec)

/-- 'sandpilelaw56.WireAgrees', WHERE WHAT IT READS IS OF BULK AT MOST 1048576: true; the input reads as it did. -/
def wireAgreesUptoRow : OpenClaim := { program := "ytmjcjmljnliaoaa", sum := "b2af66cd20f2ce222b2a293f19e2b3ccceaebda07cc38970c4f78a9301fc2c1f", func := "sandpile/sandpilelaw56.WireAgrees", spec := "wireAgrees", unfollowed := true, recurses := true, apart := false, narrowed := true }
def WireAgreesUptoSaid : Prop := wireAgreesUptoRow.holds Try.pinned (OpenSpec.upto wireAgreesSpec)

/-- 'sandpilelaw54.ProcessorReaches', WHERE WHAT IT READS IS OF BULK AT MOST 1048576: true; the input reads as it did. -/
def processorReachesUptoRow : OpenClaim := { program := "ytmjcjmljnliaoaa", sum := "b2af66cd20f2ce222b2a293f19e2b3ccceaebda07cc38970c4f78a9301fc2c1f", func := "sandpile/sandpilelaw54.ProcessorReaches", spec := "processorReaches", unfollowed := true, recurses := true, apart := false, narrowed := true }
def ProcessorReachesUptoSaid : Prop := processorReachesUptoRow.holds Try.pinned (OpenSpec.upto processorReachesSpec)

/-- 'sandpilelaw54.ProcessorCloses', WHERE WHAT IT READS IS OF BULK AT MOST 1048576: true; the input reads as it did. -/
def processorClosesUptoRow : OpenClaim := { program := "ytmjcjmljnliaoaa", sum := "b2af66cd20f2ce222b2a293f19e2b3ccceaebda07cc38970c4f78a9301fc2c1f", func := "sandpile/sandpilelaw54.ProcessorCloses", spec := "processorCloses", unfollowed := true, recurses := true, apart := false, narrowed := true }
def ProcessorClosesUptoSaid : Prop := processorClosesUptoRow.holds Try.pinned (OpenSpec.upto processorClosesSpec)

/-- 'sandpilelaw54.ProcessorOrders', WHERE WHAT IT READS IS OF BULK AT MOST 1048576: true; the input reads as it did. -/
def processorOrdersUptoRow : OpenClaim := { program := "ytmjcjmljnliaoaa", sum := "b2af66cd20f2ce222b2a293f19e2b3ccceaebda07cc38970c4f78a9301fc2c1f", func := "sandpile/sandpilelaw54.ProcessorOrders", spec := "processorOrders", unfollowed := true, recurses := true, apart := false, narrowed := true }
def ProcessorOrdersUptoSaid : Prop := processorOrdersUptoRow.holds Try.pinned (OpenSpec.upto processorOrdersSpec)

end Rows
end Go.Proofs.Ytmjcjmljnliaoaa
