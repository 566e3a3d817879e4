/-
  No cell of these rows narrows 'for every input' (looked for: loops, veiled, ifaces, maps, wideKeys, modest, calm, conditions, laid).
  DERIVED. THE GIVEN ROWS OF THIS SEAT. 8 by the template 'for every input the law returns true; each argument reads behind the call as it read before'; 0 by the template 'total and deterministic' (their statements: YtpgopmmobbemcaaGreatTotals.lean).
  GIVEN WITH THE SEED: the statements are not yours to turn. If you find one false, say at which input.
  Laid BY PROGRAM, IN A SANDBOX (cutbox-rows.mjs): the forced cells as the released guide's own fill.sh prints them over the translation 13ae4d8f5baa0303… (all of the seat's roots in one cut). By AI agents, Wed Nov 11 2026. No macro, syntax, notation, axiom, sorry.
-/
import Derived.Test.YtpgopmmobbemcaaGreatChecked
import GoSem.Claim
import GoSem.ClaimJoined
import GoSem.ClaimMapViews
import Derived.JoinedTies
import Derived.KernelRfl
namespace Go.Proofs.YtpgopmmobbemcaaGreat
/- THE CELL 'sum', in the pinned program and in every row, IS THE sha256 OF THE DUMP (.gsa) THAT YtpgopmmobbemcaaGreatProg.lean LOADS. Nothing in Lean hashes anything: it is a label: what it is worth is what the hold of that sum in a sandbox is worth. -/
noncomputable def Tryz.pinned : Pinned := { name := "ytpgopmmobbemcaagreat", sum := "13ae4d8f5baa030323e4cf775765f9775b7542d5dbfe0dc73ec2ce099f5bbb94", checked := Tryz.checked }
namespace Rows
def none {H : Type} : Left H := { results := [], args := [] }

/-- 'sandpilelaw43.DollarCheapens': WHATEVER THE INPUT: true; the input reads as it did. -/
def dollarCheapensSpec : ChangeSpec := { name := "dollarCheapens", fn := fun _ => fun
  | [d1, d2] => { results := [.lit (.bool true)], args := [d1, d2] }
  | _ => none }
def dollarCheapensRow : OpenClaim := { program := "ytpgopmmobbemcaagreat", sum := "13ae4d8f5baa030323e4cf775765f9775b7542d5dbfe0dc73ec2ce099f5bbb94", func := "sandpile/sandpilelaw43.DollarCheapens", spec := "dollarCheapens", unfollowed := true, recurses := true, plainKeys := false, apart := false }
def DollarCheapensSaid : Prop := dollarCheapensRow.holds Tryz.pinned (OpenSpec.ofChange dollarCheapensSpec)

/-- ITS FALSE NEIGHBOUR: 'it returns false'. Refute it at one input. -/
def dollarCheapensWrong : ChangeSpec := { name := "dollarCheapens", fn := fun _ => fun
  | [d1, d2] => { results := [.lit (.bool false)], args := [d1, d2] }
  | _ => none }
def DollarCheapensWrongFalsely : Prop := dollarCheapensRow.holds Tryz.pinned (OpenSpec.ofChange dollarCheapensWrong)

/-- 'sandpilelaw43.DollarBorrows': WHATEVER THE INPUT: true; the input reads as it did. -/
def dollarBorrowsSpec : ChangeSpec := { name := "dollarBorrows", fn := fun _ => fun
  | [d1, d2, d3] => { results := [.lit (.bool true)], args := [d1, d2, d3] }
  | _ => none }
def dollarBorrowsRow : OpenClaim := { program := "ytpgopmmobbemcaagreat", sum := "13ae4d8f5baa030323e4cf775765f9775b7542d5dbfe0dc73ec2ce099f5bbb94", func := "sandpile/sandpilelaw43.DollarBorrows", spec := "dollarBorrows", unfollowed := true, recurses := true, plainKeys := false, apart := false }
def DollarBorrowsSaid : Prop := dollarBorrowsRow.holds Tryz.pinned (OpenSpec.ofChange dollarBorrowsSpec)

/-- ITS FALSE NEIGHBOUR: 'it returns false'. Refute it at one input. -/
def dollarBorrowsWrong : ChangeSpec := { name := "dollarBorrows", fn := fun _ => fun
  | [d1, d2, d3] => { results := [.lit (.bool false)], args := [d1, d2, d3] }
  | _ => none }
def DollarBorrowsWrongFalsely : Prop := dollarBorrowsRow.holds Tryz.pinned (OpenSpec.ofChange dollarBorrowsWrong)

/-- 'sandpilelaw43.DollarSolves': WHATEVER THE INPUT: true; the input reads as it did. -/
def dollarSolvesSpec : ChangeSpec := { name := "dollarSolves", fn := fun _ => fun
  | [d1, d2, d3] => { results := [.lit (.bool true)], args := [d1, d2, d3] }
  | _ => none }
def dollarSolvesRow : OpenClaim := { program := "ytpgopmmobbemcaagreat", sum := "13ae4d8f5baa030323e4cf775765f9775b7542d5dbfe0dc73ec2ce099f5bbb94", func := "sandpile/sandpilelaw43.DollarSolves", spec := "dollarSolves", unfollowed := true, recurses := true, plainKeys := false, apart := false }
def DollarSolvesSaid : Prop := dollarSolvesRow.holds Tryz.pinned (OpenSpec.ofChange dollarSolvesSpec)

/-- ITS FALSE NEIGHBOUR: 'it returns false'. Refute it at one input. -/
def dollarSolvesWrong : ChangeSpec := { name := "dollarSolves", fn := fun _ => fun
  | [d1, d2, d3] => { results := [.lit (.bool false)], args := [d1, d2, d3] }
  | _ => none }
def DollarSolvesWrongFalsely : Prop := dollarSolvesRow.holds Tryz.pinned (OpenSpec.ofChange dollarSolvesWrong)

/-- 'sandpilelaw43.DollarCosts': WHATEVER THE INPUT: true; the input reads as it did. -/
def dollarCostsSpec : ChangeSpec := { name := "dollarCosts", fn := fun _ => fun
  | [d1, d2, d3] => { results := [.lit (.bool true)], args := [d1, d2, d3] }
  | _ => none }
def dollarCostsRow : OpenClaim := { program := "ytpgopmmobbemcaagreat", sum := "13ae4d8f5baa030323e4cf775765f9775b7542d5dbfe0dc73ec2ce099f5bbb94", func := "sandpile/sandpilelaw43.DollarCosts", spec := "dollarCosts", unfollowed := true, recurses := true, plainKeys := false, apart := false }
def DollarCostsSaid : Prop := dollarCostsRow.holds Tryz.pinned (OpenSpec.ofChange dollarCostsSpec)

/-- ITS FALSE NEIGHBOUR: 'it returns false'. Refute it at one input. -/
def dollarCostsWrong : ChangeSpec := { name := "dollarCosts", fn := fun _ => fun
  | [d1, d2, d3] => { results := [.lit (.bool false)], args := [d1, d2, d3] }
  | _ => none }
def DollarCostsWrongFalsely : Prop := dollarCostsRow.holds Tryz.pinned (OpenSpec.ofChange dollarCostsWrong)

/-- 'sandpilelaw43.DollarDecides': WHATEVER THE INPUT: true; the input reads as it did. -/
def dollarDecidesSpec : ChangeSpec := { name := "dollarDecides", fn := fun _ => fun
  | [d1, d2, d3] => { results := [.lit (.bool true)], args := [d1, d2, d3] }
  | _ => none }
def dollarDecidesRow : OpenClaim := { program := "ytpgopmmobbemcaagreat", sum := "13ae4d8f5baa030323e4cf775765f9775b7542d5dbfe0dc73ec2ce099f5bbb94", func := "sandpile/sandpilelaw43.DollarDecides", spec := "dollarDecides", unfollowed := true, recurses := true, plainKeys := false, apart := false }
def DollarDecidesSaid : Prop := dollarDecidesRow.holds Tryz.pinned (OpenSpec.ofChange dollarDecidesSpec)

/-- ITS FALSE NEIGHBOUR: 'it returns false'. Refute it at one input. -/
def dollarDecidesWrong : ChangeSpec := { name := "dollarDecides", fn := fun _ => fun
  | [d1, d2, d3] => { results := [.lit (.bool false)], args := [d1, d2, d3] }
  | _ => none }
def DollarDecidesWrongFalsely : Prop := dollarDecidesRow.holds Tryz.pinned (OpenSpec.ofChange dollarDecidesWrong)

/-- 'sandpilelaw43.DollarBounds': WHATEVER THE INPUT: true; the input reads as it did. -/
def dollarBoundsSpec : ChangeSpec := { name := "dollarBounds", fn := fun _ => fun
  | [d1, d2, d3] => { results := [.lit (.bool true)], args := [d1, d2, d3] }
  | _ => none }
def dollarBoundsRow : OpenClaim := { program := "ytpgopmmobbemcaagreat", sum := "13ae4d8f5baa030323e4cf775765f9775b7542d5dbfe0dc73ec2ce099f5bbb94", func := "sandpile/sandpilelaw43.DollarBounds", spec := "dollarBounds", unfollowed := true, recurses := true, plainKeys := false, apart := false }
def DollarBoundsSaid : Prop := dollarBoundsRow.holds Tryz.pinned (OpenSpec.ofChange dollarBoundsSpec)

/-- ITS FALSE NEIGHBOUR: 'it returns false'. Refute it at one input. -/
def dollarBoundsWrong : ChangeSpec := { name := "dollarBounds", fn := fun _ => fun
  | [d1, d2, d3] => { results := [.lit (.bool false)], args := [d1, d2, d3] }
  | _ => none }
def DollarBoundsWrongFalsely : Prop := dollarBoundsRow.holds Tryz.pinned (OpenSpec.ofChange dollarBoundsWrong)

/-- 'sandpilelaw43.DollarMoves': WHATEVER THE INPUT: true; the input reads as it did. -/
def dollarMovesSpec : ChangeSpec := { name := "dollarMoves", fn := fun _ => fun
  | [d1, d2] => { results := [.lit (.bool true)], args := [d1, d2] }
  | _ => none }
def dollarMovesRow : OpenClaim := { program := "ytpgopmmobbemcaagreat", sum := "13ae4d8f5baa030323e4cf775765f9775b7542d5dbfe0dc73ec2ce099f5bbb94", func := "sandpile/sandpilelaw43.DollarMoves", spec := "dollarMoves", unfollowed := true, recurses := true, plainKeys := false, apart := false }
def DollarMovesSaid : Prop := dollarMovesRow.holds Tryz.pinned (OpenSpec.ofChange dollarMovesSpec)

/-- ITS FALSE NEIGHBOUR: 'it returns false'. Refute it at one input. -/
def dollarMovesWrong : ChangeSpec := { name := "dollarMoves", fn := fun _ => fun
  | [d1, d2] => { results := [.lit (.bool false)], args := [d1, d2] }
  | _ => none }
def DollarMovesWrongFalsely : Prop := dollarMovesRow.holds Tryz.pinned (OpenSpec.ofChange dollarMovesWrong)

/-- 'sandpilelaw43.DollarPlays': WHATEVER THE INPUT: true; the input reads as it did. -/
def dollarPlaysSpec : ChangeSpec := { name := "dollarPlays", fn := fun _ => fun
  | [d1, d2, d3] => { results := [.lit (.bool true)], args := [d1, d2, d3] }
  | _ => none }
def dollarPlaysRow : OpenClaim := { program := "ytpgopmmobbemcaagreat", sum := "13ae4d8f5baa030323e4cf775765f9775b7542d5dbfe0dc73ec2ce099f5bbb94", func := "sandpile/sandpilelaw43.DollarPlays", spec := "dollarPlays", unfollowed := true, recurses := true, plainKeys := false, apart := false }
def DollarPlaysSaid : Prop := dollarPlaysRow.holds Tryz.pinned (OpenSpec.ofChange dollarPlaysSpec)

/-- ITS FALSE NEIGHBOUR: 'it returns false'. Refute it at one input. -/
def dollarPlaysWrong : ChangeSpec := { name := "dollarPlays", fn := fun _ => fun
  | [d1, d2, d3] => { results := [.lit (.bool false)], args := [d1, d2, d3] }
  | _ => none }
def DollarPlaysWrongFalsely : Prop := dollarPlaysRow.holds Tryz.pinned (OpenSpec.ofChange dollarPlaysWrong)

/- THE SECOND FORM. 'bulk': how many values and letters a reading holds, each counted each time it is reached (what is shared counts as often as it is met; a slice's spare places count too). A statement '..UptoSaid' is the law's where the arguments, and the package variables that the reading takes, are together of bulk at most 1048576: NARROWER than '..Said'. Prove '..Said' where nothing that the law and all that it calls make is longer than what came in: it says more and counts as full. Else prove '..UptoSaid'. A law counts once. -/
mutual
def uptoBulk {H : Type} : DataW H → Nat
  | .lit (.string bytes) => bytes.length + 1
  | .lit _ => 1
  | .nil => 1
  | .ptr d => uptoBulk d + 1
  | .slice elems spare => uptoBulkAll elems + uptoBulkAll spare + 1
  | .agg parts => uptoBulkAll parts + 1
  | .iface _ d => uptoBulk d + 1
  | .map entries => uptoBulkEntries entries + 1
  | .held _ => 1
def uptoBulkAll {H : Type} : List (DataW H) → Nat
  | [] => 0
  | d :: r => uptoBulk d + uptoBulkAll r
def uptoBulkEntries {H : Type} : List (Lit × DataW H) → Nat
  | [] => 0
  | x :: r => uptoBulkEntry x + uptoBulkEntries r
def uptoBulkEntry {H : Type} : Lit × DataW H → Nat
  | (.string bytes, d) => bytes.length + uptoBulk d + 1
  | (_, d) => uptoBulk d + 1
 end
def uptoSmall : (H : Type) → List (DataW H) → Bool := fun _ ds => decide (uptoBulkAll ds ≤ 1048576)
def OpenSpec.upto (s : _root_.Go.ChangeSpec) : _root_.Go.OpenSpec := { _root_.Go.OpenSpec.ofChange s with cond := some uptoSmall }

/-- 'sandpilelaw43.DollarCheapens', WHERE WHAT IT READS IS OF BULK AT MOST 1048576: true; the input reads as it did. -/
def dollarCheapensUptoRow : OpenClaim := { program := "ytpgopmmobbemcaagreat", sum := "13ae4d8f5baa030323e4cf775765f9775b7542d5dbfe0dc73ec2ce099f5bbb94", func := "sandpile/sandpilelaw43.DollarCheapens", spec := "dollarCheapens", unfollowed := true, recurses := true, plainKeys := false, apart := false, narrowed := true }
def DollarCheapensUptoSaid : Prop := dollarCheapensUptoRow.holds Tryz.pinned (OpenSpec.upto dollarCheapensSpec)

/-- 'sandpilelaw43.DollarBorrows', WHERE WHAT IT READS IS OF BULK AT MOST 1048576: true; the input reads as it did. -/
def dollarBorrowsUptoRow : OpenClaim := { program := "ytpgopmmobbemcaagreat", sum := "13ae4d8f5baa030323e4cf775765f9775b7542d5dbfe0dc73ec2ce099f5bbb94", func := "sandpile/sandpilelaw43.DollarBorrows", spec := "dollarBorrows", unfollowed := true, recurses := true, plainKeys := false, apart := false, narrowed := true }
def DollarBorrowsUptoSaid : Prop := dollarBorrowsUptoRow.holds Tryz.pinned (OpenSpec.upto dollarBorrowsSpec)

/-- 'sandpilelaw43.DollarSolves', WHERE WHAT IT READS IS OF BULK AT MOST 1048576: true; the input reads as it did. -/
def dollarSolvesUptoRow : OpenClaim := { program := "ytpgopmmobbemcaagreat", sum := "13ae4d8f5baa030323e4cf775765f9775b7542d5dbfe0dc73ec2ce099f5bbb94", func := "sandpile/sandpilelaw43.DollarSolves", spec := "dollarSolves", unfollowed := true, recurses := true, plainKeys := false, apart := false, narrowed := true }
def DollarSolvesUptoSaid : Prop := dollarSolvesUptoRow.holds Tryz.pinned (OpenSpec.upto dollarSolvesSpec)

/-- 'sandpilelaw43.DollarCosts', WHERE WHAT IT READS IS OF BULK AT MOST 1048576: true; the input reads as it did. -/
def dollarCostsUptoRow : OpenClaim := { program := "ytpgopmmobbemcaagreat", sum := "13ae4d8f5baa030323e4cf775765f9775b7542d5dbfe0dc73ec2ce099f5bbb94", func := "sandpile/sandpilelaw43.DollarCosts", spec := "dollarCosts", unfollowed := true, recurses := true, plainKeys := false, apart := false, narrowed := true }
def DollarCostsUptoSaid : Prop := dollarCostsUptoRow.holds Tryz.pinned (OpenSpec.upto dollarCostsSpec)

/-- 'sandpilelaw43.DollarDecides', WHERE WHAT IT READS IS OF BULK AT MOST 1048576: true; the input reads as it did. -/
def dollarDecidesUptoRow : OpenClaim := { program := "ytpgopmmobbemcaagreat", sum := "13ae4d8f5baa030323e4cf775765f9775b7542d5dbfe0dc73ec2ce099f5bbb94", func := "sandpile/sandpilelaw43.DollarDecides", spec := "dollarDecides", unfollowed := true, recurses := true, plainKeys := false, apart := false, narrowed := true }
def DollarDecidesUptoSaid : Prop := dollarDecidesUptoRow.holds Tryz.pinned (OpenSpec.upto dollarDecidesSpec)

/-- 'sandpilelaw43.DollarBounds', WHERE WHAT IT READS IS OF BULK AT MOST 1048576: true; the input reads as it did. -/
def dollarBoundsUptoRow : OpenClaim := { program := "ytpgopmmobbemcaagreat", sum := "13ae4d8f5baa030323e4cf775765f9775b7542d5dbfe0dc73ec2ce099f5bbb94", func := "sandpile/sandpilelaw43.DollarBounds", spec := "dollarBounds", unfollowed := true, recurses := true, plainKeys := false, apart := false, narrowed := true }
def DollarBoundsUptoSaid : Prop := dollarBoundsUptoRow.holds Tryz.pinned (OpenSpec.upto dollarBoundsSpec)

/-- 'sandpilelaw43.DollarMoves', WHERE WHAT IT READS IS OF BULK AT MOST 1048576: true; the input reads as it did. -/
def dollarMovesUptoRow : OpenClaim := { program := "ytpgopmmobbemcaagreat", sum := "13ae4d8f5baa030323e4cf775765f9775b7542d5dbfe0dc73ec2ce099f5bbb94", func := "sandpile/sandpilelaw43.DollarMoves", spec := "dollarMoves", unfollowed := true, recurses := true, plainKeys := false, apart := false, narrowed := true }
def DollarMovesUptoSaid : Prop := dollarMovesUptoRow.holds Tryz.pinned (OpenSpec.upto dollarMovesSpec)

/-- 'sandpilelaw43.DollarPlays', WHERE WHAT IT READS IS OF BULK AT MOST 1048576: true; the input reads as it did. -/
def dollarPlaysUptoRow : OpenClaim := { program := "ytpgopmmobbemcaagreat", sum := "13ae4d8f5baa030323e4cf775765f9775b7542d5dbfe0dc73ec2ce099f5bbb94", func := "sandpile/sandpilelaw43.DollarPlays", spec := "dollarPlays", unfollowed := true, recurses := true, plainKeys := false, apart := false, narrowed := true }
def DollarPlaysUptoSaid : Prop := dollarPlaysUptoRow.holds Tryz.pinned (OpenSpec.upto dollarPlaysSpec)

end Rows
end Go.Proofs.YtpgopmmobbemcaaGreat
