/-
  No cell of these rows narrows 'for every input' (looked for: loops, veiled, ifaces, maps, wideKeys, modest, calm, conditions, laid).
  DERIVED. THE GIVEN ROWS OF THIS SEAT. 6 by the template 'for every input the law returns true; each argument reads behind the call as it read before'; 0 by the template 'total and deterministic' (their statements: YtnigfddanoaonaaGreatTotals.lean).
  GIVEN WITH THE SEED: the statements are not yours to turn. If you find one false, say at which input.
  Laid BY PROGRAM, IN A SANDBOX (cutbox-rows.mjs): the forced cells as the released guide's own fill.sh prints them over the translation 2717395d28f21dae… (all of the seat's roots in one cut). By AI agents, Wed Nov 11 2026. No macro, syntax, notation, axiom, sorry.
-/
import Derived.Test.YtnigfddanoaonaaGreatChecked
import GoSem.Claim
import GoSem.ClaimJoined
import GoSem.ClaimMapViews
import Derived.JoinedTies
import Derived.KernelRfl
namespace Go.Proofs.YtnigfddanoaonaaGreat
/- THE CELL 'sum', in the pinned program and in every row, IS THE sha256 OF THE DUMP (.gsa) THAT YtnigfddanoaonaaGreatProg.lean LOADS. Nothing in Lean hashes anything: it is a label: what it is worth is what the hold of that sum in a sandbox is worth. -/
noncomputable def Tryz.pinned : Pinned := { name := "ytnigfddanoaonaagreat", sum := "2717395d28f21dae18cc6a3326dd72f190d2378598c7bd381fade82139d440e2", checked := Tryz.checked }
namespace Rows
def none {H : Type} : Left H := { results := [], args := [] }

/-- 'sandpilelaw55.NetworkAbelian': WHATEVER THE INPUT: true; the input reads as it did. -/
def networkAbelianSpec : ChangeSpec := { name := "networkAbelian", fn := fun _ => fun
  | [d1, d2, d3] => { results := [.lit (.bool true)], args := [d1, d2, d3] }
  | _ => none }
def networkAbelianRow : OpenClaim := { program := "ytnigfddanoaonaagreat", sum := "2717395d28f21dae18cc6a3326dd72f190d2378598c7bd381fade82139d440e2", func := "sandpile/sandpilelaw55.NetworkAbelian", spec := "networkAbelian", unfollowed := true, recurses := true, apart := false }
def NetworkAbelianSaid : Prop := networkAbelianRow.holds Tryz.pinned (OpenSpec.ofChange networkAbelianSpec)

/-- ITS FALSE NEIGHBOUR: 'it returns false'. Refute it at one input. -/
def networkAbelianWrong : ChangeSpec := { name := "networkAbelian", fn := fun _ => fun
  | [d1, d2, d3] => { results := [.lit (.bool false)], args := [d1, d2, d3] }
  | _ => none }
def NetworkAbelianWrongFalsely : Prop := networkAbelianRow.holds Tryz.pinned (OpenSpec.ofChange networkAbelianWrong)

/-- 'sandpilelaw55.NetworkLeast': WHATEVER THE INPUT: true; the input reads as it did. -/
def networkLeastSpec : ChangeSpec := { name := "networkLeast", fn := fun _ => fun
  | [d1, d2] => { results := [.lit (.bool true)], args := [d1, d2] }
  | _ => none }
def networkLeastRow : OpenClaim := { program := "ytnigfddanoaonaagreat", sum := "2717395d28f21dae18cc6a3326dd72f190d2378598c7bd381fade82139d440e2", func := "sandpile/sandpilelaw55.NetworkLeast", spec := "networkLeast", unfollowed := true, recurses := true, apart := false }
def NetworkLeastSaid : Prop := networkLeastRow.holds Tryz.pinned (OpenSpec.ofChange networkLeastSpec)

/-- ITS FALSE NEIGHBOUR: 'it returns false'. Refute it at one input. -/
def networkLeastWrong : ChangeSpec := { name := "networkLeast", fn := fun _ => fun
  | [d1, d2] => { results := [.lit (.bool false)], args := [d1, d2] }
  | _ => none }
def NetworkLeastWrongFalsely : Prop := networkLeastRow.holds Tryz.pinned (OpenSpec.ofChange networkLeastWrong)

/-- 'sandpilelaw55.NetworkPiles': WHATEVER THE INPUT: true; the input reads as it did. -/
def networkPilesSpec : ChangeSpec := { name := "networkPiles", fn := fun _ => fun
  | [d1, d2, d3] => { results := [.lit (.bool true)], args := [d1, d2, d3] }
  | _ => none }
def networkPilesRow : OpenClaim := { program := "ytnigfddanoaonaagreat", sum := "2717395d28f21dae18cc6a3326dd72f190d2378598c7bd381fade82139d440e2", func := "sandpile/sandpilelaw55.NetworkPiles", spec := "networkPiles", unfollowed := true, recurses := true, apart := false }
def NetworkPilesSaid : Prop := networkPilesRow.holds Tryz.pinned (OpenSpec.ofChange networkPilesSpec)

/-- ITS FALSE NEIGHBOUR: 'it returns false'. Refute it at one input. -/
def networkPilesWrong : ChangeSpec := { name := "networkPiles", fn := fun _ => fun
  | [d1, d2, d3] => { results := [.lit (.bool false)], args := [d1, d2, d3] }
  | _ => none }
def NetworkPilesWrongFalsely : Prop := networkPilesRow.holds Tryz.pinned (OpenSpec.ofChange networkPilesWrong)

/-- 'sandpilelaw55.NetworkRouters': WHATEVER THE INPUT: true; the input reads as it did. -/
def networkRoutersSpec : ChangeSpec := { name := "networkRouters", fn := fun _ => fun
  | [d1, d2, d3] => { results := [.lit (.bool true)], args := [d1, d2, d3] }
  | _ => none }
def networkRoutersRow : OpenClaim := { program := "ytnigfddanoaonaagreat", sum := "2717395d28f21dae18cc6a3326dd72f190d2378598c7bd381fade82139d440e2", func := "sandpile/sandpilelaw55.NetworkRouters", spec := "networkRouters", unfollowed := true, recurses := true, apart := false }
def NetworkRoutersSaid : Prop := networkRoutersRow.holds Tryz.pinned (OpenSpec.ofChange networkRoutersSpec)

/-- ITS FALSE NEIGHBOUR: 'it returns false'. Refute it at one input. -/
def networkRoutersWrong : ChangeSpec := { name := "networkRouters", fn := fun _ => fun
  | [d1, d2, d3] => { results := [.lit (.bool false)], args := [d1, d2, d3] }
  | _ => none }
def NetworkRoutersWrongFalsely : Prop := networkRoutersRow.holds Tryz.pinned (OpenSpec.ofChange networkRoutersWrong)

/-- 'sandpilelaw55.NetworkRotates': WHATEVER THE INPUT: true; the input reads as it did. -/
def networkRotatesSpec : ChangeSpec := { name := "networkRotates", fn := fun _ => fun
  | [d1, d2, d3] => { results := [.lit (.bool true)], args := [d1, d2, d3] }
  | _ => none }
def networkRotatesRow : OpenClaim := { program := "ytnigfddanoaonaagreat", sum := "2717395d28f21dae18cc6a3326dd72f190d2378598c7bd381fade82139d440e2", func := "sandpile/sandpilelaw55.NetworkRotates", spec := "networkRotates", unfollowed := true, recurses := true, apart := false }
def NetworkRotatesSaid : Prop := networkRotatesRow.holds Tryz.pinned (OpenSpec.ofChange networkRotatesSpec)

/-- ITS FALSE NEIGHBOUR: 'it returns false'. Refute it at one input. -/
def networkRotatesWrong : ChangeSpec := { name := "networkRotates", fn := fun _ => fun
  | [d1, d2, d3] => { results := [.lit (.bool false)], args := [d1, d2, d3] }
  | _ => none }
def NetworkRotatesWrongFalsely : Prop := networkRotatesRow.holds Tryz.pinned (OpenSpec.ofChange networkRotatesWrong)

/-- 'sandpilelaw55.NetworkTopples': WHATEVER THE INPUT: true; the input reads as it did. -/
def networkTopplesSpec : ChangeSpec := { name := "networkTopples", fn := fun _ => fun
  | [d1, d2, d3] => { results := [.lit (.bool true)], args := [d1, d2, d3] }
  | _ => none }
def networkTopplesRow : OpenClaim := { program := "ytnigfddanoaonaagreat", sum := "2717395d28f21dae18cc6a3326dd72f190d2378598c7bd381fade82139d440e2", func := "sandpile/sandpilelaw55.NetworkTopples", spec := "networkTopples", unfollowed := true, recurses := true, apart := false }
def NetworkTopplesSaid : Prop := networkTopplesRow.holds Tryz.pinned (OpenSpec.ofChange networkTopplesSpec)

/-- ITS FALSE NEIGHBOUR: 'it returns false'. Refute it at one input. -/
def networkTopplesWrong : ChangeSpec := { name := "networkTopples", fn := fun _ => fun
  | [d1, d2, d3] => { results := [.lit (.bool false)], args := [d1, d2, d3] }
  | _ => none }
def NetworkTopplesWrongFalsely : Prop := networkTopplesRow.holds Tryz.pinned (OpenSpec.ofChange networkTopplesWrong)

/- THE SECOND FORM. 'bulk': how many values and letters a reading holds, each counted each time it is reached (what is shared counts as often as it is met; a slice's spare places count too). A statement '..UptoSaid' is the law's where the arguments, and the package variables that the reading takes, are together of bulk at most 1048576: NARROWER than '..Said'. Prove '..Said' where nothing that the law and all that it calls make is longer than what came in: it says more and counts as full. Else prove '..UptoSaid'. A law counts once. -/
mutual
def uptoBulk {H : Type} : DataW H → Nat
  | .lit (.string bytes) => bytes.length + 1
  | .lit _ => 1
  | .nil => 1
  | .ptr d => uptoBulk d + 1
  | .slice elems spare => uptoBulkAll elems + uptoBulkAll spare + 1
  | .agg parts => uptoBulkAll parts + 1
  | .iface _ d => uptoBulk d + 1
  | .map entries => uptoBulkEntries entries + 1
  | .held _ => 1
def uptoBulkAll {H : Type} : List (DataW H) → Nat
  | [] => 0
  | d :: r => uptoBulk d + uptoBulkAll r
def uptoBulkEntries {H : Type} : List (Lit × DataW H) → Nat
  | [] => 0
  | x :: r => uptoBulkEntry x + uptoBulkEntries r
def uptoBulkEntry {H : Type} : Lit × DataW H → Nat
  | (.string bytes, d) => bytes.length + uptoBulk d + 1
  | (_, d) => uptoBulk d + 1
 end
def uptoSmall : (H : Type) → List (DataW H) → Bool := fun _ ds => decide (uptoBulkAll ds ≤ 1048576)
def OpenSpec.upto (s : _root_.Go.ChangeSpec) : _root_.Go.OpenSpec := { _root_.Go.OpenSpec.ofChange s with cond := some uptoSmall }

/-- 'sandpilelaw55.NetworkAbelian', WHERE WHAT IT READS IS OF BULK AT MOST 1048576: true; the input reads as it did. -/
def networkAbelianUptoRow : OpenClaim := { program := "ytnigfddanoaonaagreat", sum := "2717395d28f21dae18cc6a3326dd72f190d2378598c7bd381fade82139d440e2", func := "sandpile/sandpilelaw55.NetworkAbelian", spec := "networkAbelian", unfollowed := true, recurses := true, apart := false, narrowed := true }
def NetworkAbelianUptoSaid : Prop := networkAbelianUptoRow.holds Tryz.pinned (OpenSpec.upto networkAbelianSpec)

/-- 'sandpilelaw55.NetworkLeast', WHERE WHAT IT READS IS OF BULK AT MOST 1048576: true; the input reads as it did. -/
def networkLeastUptoRow : OpenClaim := { program := "ytnigfddanoaonaagreat", sum := "2717395d28f21dae18cc6a3326dd72f190d2378598c7bd381fade82139d440e2", func := "sandpile/sandpilelaw55.NetworkLeast", spec := "networkLeast", unfollowed := true, recurses := true, apart := false, narrowed := true }
def NetworkLeastUptoSaid : Prop := networkLeastUptoRow.holds Tryz.pinned (OpenSpec.upto networkLeastSpec)

/-- 'sandpilelaw55.NetworkPiles', WHERE WHAT IT READS IS OF BULK AT MOST 1048576: true; the input reads as it did. -/
def networkPilesUptoRow : OpenClaim := { program := "ytnigfddanoaonaagreat", sum := "2717395d28f21dae18cc6a3326dd72f190d2378598c7bd381fade82139d440e2", func := "sandpile/sandpilelaw55.NetworkPiles", spec := "networkPiles", unfollowed := true, recurses := true, apart := false, narrowed := true }
def NetworkPilesUptoSaid : Prop := networkPilesUptoRow.holds Tryz.pinned (OpenSpec.upto networkPilesSpec)

/-- 'sandpilelaw55.NetworkRouters', WHERE WHAT IT READS IS OF BULK AT MOST 1048576: true; the input reads as it did. -/
def networkRoutersUptoRow : OpenClaim := { program := "ytnigfddanoaonaagreat", sum := "2717395d28f21dae18cc6a3326dd72f190d2378598c7bd381fade82139d440e2", func := "sandpile/sandpilelaw55.NetworkRouters", spec := "networkRouters", unfollowed := true, recurses := true, apart := false, narrowed := true }
def NetworkRoutersUptoSaid : Prop := networkRoutersUptoRow.holds Tryz.pinned (OpenSpec.upto networkRoutersSpec)

/-- 'sandpilelaw55.NetworkRotates', WHERE WHAT IT READS IS OF BULK AT MOST 1048576: true; the input reads as it did. -/
def networkRotatesUptoRow : OpenClaim := { program := "ytnigfddanoaonaagreat", sum := "2717395d28f21dae18cc6a3326dd72f190d2378598c7bd381fade82139d440e2", func := "sandpile/sandpilelaw55.NetworkRotates", spec := "networkRotates", unfollowed := true, recurses := true, apart := false, narrowed := true }
def NetworkRotatesUptoSaid : Prop := networkRotatesUptoRow.holds Tryz.pinned (OpenSpec.upto networkRotatesSpec)

/-- 'sandpilelaw55.NetworkTopples', WHERE WHAT IT READS IS OF BULK AT MOST 1048576: true; the input reads as it did. -/
def networkTopplesUptoRow : OpenClaim := { program := "ytnigfddanoaonaagreat", sum := "2717395d28f21dae18cc6a3326dd72f190d2378598c7bd381fade82139d440e2", func := "sandpile/sandpilelaw55.NetworkTopples", spec := "networkTopples", unfollowed := true, recurses := true, apart := false, narrowed := true }
def NetworkTopplesUptoSaid : Prop := networkTopplesUptoRow.holds Tryz.pinned (OpenSpec.upto networkTopplesSpec)

end Rows
end Go.Proofs.YtnigfddanoaonaaGreat
