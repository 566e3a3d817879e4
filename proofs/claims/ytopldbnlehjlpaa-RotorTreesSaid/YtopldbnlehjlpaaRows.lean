/-
  No cell of these rows narrows 'for every input' (looked for: loops, veiled, ifaces, maps, wideKeys, modest, calm, conditions, laid).
  DERIVED. THE GIVEN ROWS OF THIS SEAT. 8 by the template 'for every input the law returns true; each argument reads behind the call as it read before'; 0 by the template 'total and deterministic' (their statements: YtopldbnlehjlpaaTotals.lean).
  GIVEN WITH THE SEED: the statements are not yours to turn. If you find one false, say at which input.
  Laid BY PROGRAM, IN A SANDBOX (cutbox-rows.mjs): the forced cells as the released guide's own fill.sh prints them over the translation ad51120f807678c6… (all of the seat's roots in one cut). By AI agents, Wed Nov 11 2026. No macro, syntax, notation, axiom, sorry.
-/
import Derived.Test.YtopldbnlehjlpaaChecked
import GoSem.Claim
import GoSem.ClaimJoined
import GoSem.ClaimMapViews
import Derived.JoinedTies
import Derived.KernelRfl
namespace Go.Proofs.Ytopldbnlehjlpaa
/- THE CELL 'sum', in the pinned program and in every row, IS THE sha256 OF THE DUMP (.gsa) THAT YtopldbnlehjlpaaProg.lean LOADS. Nothing in Lean hashes anything: it is a label: what it is worth is what the hold of that sum in a sandbox is worth. -/
noncomputable def Try.pinned : Pinned := { name := "ytopldbnlehjlpaa", sum := "ad51120f807678c694e0f044801ae3b003ba3d1995122819dcba50b84875b230", checked := Try.checked }
namespace Rows
def none {H : Type} : Left H := { results := [], args := [] }

/-- 'sandpilelaw45.RotorSteps': WHATEVER THE INPUT: true; the input reads as it did. -/
def rotorStepsSpec : ChangeSpec := { name := "rotorSteps", fn := fun _ => fun
  | [d1, d2] => { results := [.lit (.bool true)], args := [d1, d2] }
  | _ => none }
def rotorStepsRow : OpenClaim := { program := "ytopldbnlehjlpaa", sum := "ad51120f807678c694e0f044801ae3b003ba3d1995122819dcba50b84875b230", func := "sandpile/sandpilelaw45.RotorSteps", spec := "rotorSteps", unfollowed := true, recurses := true, apart := false }
def RotorStepsSaid : Prop := rotorStepsRow.holds Try.pinned (OpenSpec.ofChange rotorStepsSpec)

/-- ITS FALSE NEIGHBOUR: 'it returns false'. Refute it at one input. -/
def rotorStepsWrong : ChangeSpec := { name := "rotorSteps", fn := fun _ => fun
  | [d1, d2] => { results := [.lit (.bool false)], args := [d1, d2] }
  | _ => none }
def RotorStepsWrongFalsely : Prop := rotorStepsRow.holds Try.pinned (OpenSpec.ofChange rotorStepsWrong)

/-- 'sandpilelaw45.RotorRoutes': WHATEVER THE INPUT: true; the input reads as it did. -/
def rotorRoutesSpec : ChangeSpec := { name := "rotorRoutes", fn := fun _ => fun
  | [d1, d2] => { results := [.lit (.bool true)], args := [d1, d2] }
  | _ => none }
def rotorRoutesRow : OpenClaim := { program := "ytopldbnlehjlpaa", sum := "ad51120f807678c694e0f044801ae3b003ba3d1995122819dcba50b84875b230", func := "sandpile/sandpilelaw45.RotorRoutes", spec := "rotorRoutes", unfollowed := true, recurses := true, apart := false }
def RotorRoutesSaid : Prop := rotorRoutesRow.holds Try.pinned (OpenSpec.ofChange rotorRoutesSpec)

/-- ITS FALSE NEIGHBOUR: 'it returns false'. Refute it at one input. -/
def rotorRoutesWrong : ChangeSpec := { name := "rotorRoutes", fn := fun _ => fun
  | [d1, d2] => { results := [.lit (.bool false)], args := [d1, d2] }
  | _ => none }
def RotorRoutesWrongFalsely : Prop := rotorRoutesRow.holds Try.pinned (OpenSpec.ofChange rotorRoutesWrong)

/-- 'sandpilelaw45.RotorAll': WHATEVER THE INPUT: true; the input reads as it did. -/
def rotorAllSpec : ChangeSpec := { name := "rotorAll", fn := fun _ => fun
  | [d1, d2] => { results := [.lit (.bool true)], args := [d1, d2] }
  | _ => none }
def rotorAllRow : OpenClaim := { program := "ytopldbnlehjlpaa", sum := "ad51120f807678c694e0f044801ae3b003ba3d1995122819dcba50b84875b230", func := "sandpile/sandpilelaw45.RotorAll", spec := "rotorAll", unfollowed := true, recurses := true, apart := false }
def RotorAllSaid : Prop := rotorAllRow.holds Try.pinned (OpenSpec.ofChange rotorAllSpec)

/-- ITS FALSE NEIGHBOUR: 'it returns false'. Refute it at one input. -/
def rotorAllWrong : ChangeSpec := { name := "rotorAll", fn := fun _ => fun
  | [d1, d2] => { results := [.lit (.bool false)], args := [d1, d2] }
  | _ => none }
def RotorAllWrongFalsely : Prop := rotorAllRow.holds Try.pinned (OpenSpec.ofChange rotorAllWrong)

/-- 'sandpilelaw45.RotorAdds': WHATEVER THE INPUT: true; the input reads as it did. -/
def rotorAddsSpec : ChangeSpec := { name := "rotorAdds", fn := fun _ => fun
  | [d1, d2] => { results := [.lit (.bool true)], args := [d1, d2] }
  | _ => none }
def rotorAddsRow : OpenClaim := { program := "ytopldbnlehjlpaa", sum := "ad51120f807678c694e0f044801ae3b003ba3d1995122819dcba50b84875b230", func := "sandpile/sandpilelaw45.RotorAdds", spec := "rotorAdds", unfollowed := true, recurses := true, apart := false }
def RotorAddsSaid : Prop := rotorAddsRow.holds Try.pinned (OpenSpec.ofChange rotorAddsSpec)

/-- ITS FALSE NEIGHBOUR: 'it returns false'. Refute it at one input. -/
def rotorAddsWrong : ChangeSpec := { name := "rotorAdds", fn := fun _ => fun
  | [d1, d2] => { results := [.lit (.bool false)], args := [d1, d2] }
  | _ => none }
def RotorAddsWrongFalsely : Prop := rotorAddsRow.holds Try.pinned (OpenSpec.ofChange rotorAddsWrong)

/-- 'sandpilelaw45.RotorTrees': WHATEVER THE INPUT: true; the input reads as it did. -/
def rotorTreesSpec : ChangeSpec := { name := "rotorTrees", fn := fun _ => fun
  | [d1, d2] => { results := [.lit (.bool true)], args := [d1, d2] }
  | _ => none }
def rotorTreesRow : OpenClaim := { program := "ytopldbnlehjlpaa", sum := "ad51120f807678c694e0f044801ae3b003ba3d1995122819dcba50b84875b230", func := "sandpile/sandpilelaw45.RotorTrees", spec := "rotorTrees", unfollowed := true, recurses := true, apart := false }
def RotorTreesSaid : Prop := rotorTreesRow.holds Try.pinned (OpenSpec.ofChange rotorTreesSpec)

/-- ITS FALSE NEIGHBOUR: 'it returns false'. Refute it at one input. -/
def rotorTreesWrong : ChangeSpec := { name := "rotorTrees", fn := fun _ => fun
  | [d1, d2] => { results := [.lit (.bool false)], args := [d1, d2] }
  | _ => none }
def RotorTreesWrongFalsely : Prop := rotorTreesRow.holds Try.pinned (OpenSpec.ofChange rotorTreesWrong)

/-- 'sandpilelaw45.RotorPicks': WHATEVER THE INPUT: true; the input reads as it did. -/
def rotorPicksSpec : ChangeSpec := { name := "rotorPicks", fn := fun _ => fun
  | [d1, d2] => { results := [.lit (.bool true)], args := [d1, d2] }
  | _ => none }
def rotorPicksRow : OpenClaim := { program := "ytopldbnlehjlpaa", sum := "ad51120f807678c694e0f044801ae3b003ba3d1995122819dcba50b84875b230", func := "sandpile/sandpilelaw45.RotorPicks", spec := "rotorPicks", unfollowed := true, recurses := true, apart := false }
def RotorPicksSaid : Prop := rotorPicksRow.holds Try.pinned (OpenSpec.ofChange rotorPicksSpec)

/-- ITS FALSE NEIGHBOUR: 'it returns false'. Refute it at one input. -/
def rotorPicksWrong : ChangeSpec := { name := "rotorPicks", fn := fun _ => fun
  | [d1, d2] => { results := [.lit (.bool false)], args := [d1, d2] }
  | _ => none }
def RotorPicksWrongFalsely : Prop := rotorPicksRow.holds Try.pinned (OpenSpec.ofChange rotorPicksWrong)

/-- 'sandpilelaw45.RotorOrder': WHATEVER THE INPUT: true; the input reads as it did. -/
def rotorOrderSpec : ChangeSpec := { name := "rotorOrder", fn := fun _ => fun
  | [d1, d2] => { results := [.lit (.bool true)], args := [d1, d2] }
  | _ => none }
def rotorOrderRow : OpenClaim := { program := "ytopldbnlehjlpaa", sum := "ad51120f807678c694e0f044801ae3b003ba3d1995122819dcba50b84875b230", func := "sandpile/sandpilelaw45.RotorOrder", spec := "rotorOrder", unfollowed := true, recurses := true, apart := false }
def RotorOrderSaid : Prop := rotorOrderRow.holds Try.pinned (OpenSpec.ofChange rotorOrderSpec)

/-- ITS FALSE NEIGHBOUR: 'it returns false'. Refute it at one input. -/
def rotorOrderWrong : ChangeSpec := { name := "rotorOrder", fn := fun _ => fun
  | [d1, d2] => { results := [.lit (.bool false)], args := [d1, d2] }
  | _ => none }
def RotorOrderWrongFalsely : Prop := rotorOrderRow.holds Try.pinned (OpenSpec.ofChange rotorOrderWrong)

/-- 'sandpilelaw45.RotorFires': WHATEVER THE INPUT: true; the input reads as it did. -/
def rotorFiresSpec : ChangeSpec := { name := "rotorFires", fn := fun _ => fun
  | [d1, d2, d3] => { results := [.lit (.bool true)], args := [d1, d2, d3] }
  | _ => none }
def rotorFiresRow : OpenClaim := { program := "ytopldbnlehjlpaa", sum := "ad51120f807678c694e0f044801ae3b003ba3d1995122819dcba50b84875b230", func := "sandpile/sandpilelaw45.RotorFires", spec := "rotorFires", unfollowed := true, recurses := true, apart := false }
def RotorFiresSaid : Prop := rotorFiresRow.holds Try.pinned (OpenSpec.ofChange rotorFiresSpec)

/-- ITS FALSE NEIGHBOUR: 'it returns false'. Refute it at one input. -/
def rotorFiresWrong : ChangeSpec := { name := "rotorFires", fn := fun _ => fun
  | [d1, d2, d3] => { results := [.lit (.bool false)], args := [d1, d2, d3] }
  | _ => none }
def RotorFiresWrongFalsely : Prop := rotorFiresRow.holds Try.pinned (OpenSpec.ofChange rotorFiresWrong)

/- THE SECOND FORM. 'bulk': how many values and letters a reading holds, each counted each time it is reached (what is shared counts as often as it is met; a slice's spare places count too). A statement '..UptoSaid' is the law's where the arguments, and the package variables that the reading takes, are together of bulk at most 1048576: NARROWER than '..Said'. Prove '..Said' where nothing that the law and all that it calls make is longer than what came in: it says more and counts as full. Else prove '..UptoSaid'. A law counts once. -/
mutual
def uptoBulk {H : Type} : DataW H → Nat
  | .lit (.string bytes) => bytes.length + 1
  | .lit _ => 1
  | .nil => 1
  | .ptr d => uptoBulk d + 1
  | .slice elems spare => uptoBulkAll elems + uptoBulkAll spare + 1
  | .agg parts => uptoBulkAll parts + 1
  | .iface _ d => uptoBulk d + 1
  | .map entries => uptoBulkEntries entries + 1
  | .held _ => 1
def uptoBulkAll {H : Type} : List (DataW H) → Nat
  | [] => 0
  | d :: r => uptoBulk d + uptoBulkAll r
def uptoBulkEntries {H : Type} : List (Lit × DataW H) → Nat
  | [] => 0
  | x :: r => uptoBulkEntry x + uptoBulkEntries r
def uptoBulkEntry {H : Type} : Lit × DataW H → Nat
  | (.string bytes, d) => bytes.length + uptoBulk d + 1
  | (_, d) => uptoBulk d + 1
 end
def uptoSmall : (H : Type) → List (DataW H) → Bool := fun _ ds => decide (uptoBulkAll ds ≤ 1048576)
def OpenSpec.upto (s : _root_.Go.ChangeSpec) : _root_.Go.OpenSpec := { _root_.Go.OpenSpec.ofChange s with cond := some uptoSmall }

/-- 'sandpilelaw45.RotorSteps', WHERE WHAT IT READS IS OF BULK AT MOST 1048576: true; the input reads as it did. -/
def rotorStepsUptoRow : OpenClaim := { program := "ytopldbnlehjlpaa", sum := "ad51120f807678c694e0f044801ae3b003ba3d1995122819dcba50b84875b230", func := "sandpile/sandpilelaw45.RotorSteps", spec := "rotorSteps", unfollowed := true, recurses := true, apart := false, narrowed := true }
def RotorStepsUptoSaid : Prop := rotorStepsUptoRow.holds Try.pinned (OpenSpec.upto rotorStepsSpec)

/-- 'sandpilelaw45.RotorRoutes', WHERE WHAT IT READS IS OF BULK AT MOST 1048576: true; the input reads as it did. -/
def rotorRoutesUptoRow : OpenClaim := { program := "ytopldbnlehjlpaa", sum := "ad51120f807678c694e0f044801ae3b003ba3d1995122819dcba50b84875b230", func := "sandpile/sandpilelaw45.RotorRoutes", spec := "rotorRoutes", unfollowed := true, recurses := true, apart := false, narrowed := true }
def RotorRoutesUptoSaid : Prop := rotorRoutesUptoRow.holds Try.pinned (OpenSpec.upto rotorRoutesSpec)

/-- 'sandpilelaw45.RotorAll', WHERE WHAT IT READS IS OF BULK AT MOST 1048576: true; the input reads as it did. -/
def rotorAllUptoRow : OpenClaim := { program := "ytopldbnlehjlpaa", sum := "ad51120f807678c694e0f044801ae3b003ba3d1995122819dcba50b84875b230", func := "sandpile/sandpilelaw45.RotorAll", spec := "rotorAll", unfollowed := true, recurses := true, apart := false, narrowed := true }
def RotorAllUptoSaid : Prop := rotorAllUptoRow.holds Try.pinned (OpenSpec.upto rotorAllSpec)

/-- 'sandpilelaw45.RotorAdds', WHERE WHAT IT READS IS OF BULK AT MOST 1048576: true; the input reads as it did. -/
def rotorAddsUptoRow : OpenClaim := { program := "ytopldbnlehjlpaa", sum := "ad51120f807678c694e0f044801ae3b003ba3d1995122819dcba50b84875b230", func := "sandpile/sandpilelaw45.RotorAdds", spec := "rotorAdds", unfollowed := true, recurses := true, apart := false, narrowed := true }
def RotorAddsUptoSaid : Prop := rotorAddsUptoRow.holds Try.pinned (OpenSpec.upto rotorAddsSpec)

/-- 'sandpilelaw45.RotorTrees', WHERE WHAT IT READS IS OF BULK AT MOST 1048576: true; the input reads as it did. -/
def rotorTreesUptoRow : OpenClaim := { program := "ytopldbnlehjlpaa", sum := "ad51120f807678c694e0f044801ae3b003ba3d1995122819dcba50b84875b230", func := "sandpile/sandpilelaw45.RotorTrees", spec := "rotorTrees", unfollowed := true, recurses := true, apart := false, narrowed := true }
def RotorTreesUptoSaid : Prop := rotorTreesUptoRow.holds Try.pinned (OpenSpec.upto rotorTreesSpec)

/-- 'sandpilelaw45.RotorPicks', WHERE WHAT IT READS IS OF BULK AT MOST 1048576: true; the input reads as it did. -/
def rotorPicksUptoRow : OpenClaim := { program := "ytopldbnlehjlpaa", sum := "ad51120f807678c694e0f044801ae3b003ba3d1995122819dcba50b84875b230", func := "sandpile/sandpilelaw45.RotorPicks", spec := "rotorPicks", unfollowed := true, recurses := true, apart := false, narrowed := true }
def RotorPicksUptoSaid : Prop := rotorPicksUptoRow.holds Try.pinned (OpenSpec.upto rotorPicksSpec)

/-- 'sandpilelaw45.RotorOrder', WHERE WHAT IT READS IS OF BULK AT MOST 1048576: true; the input reads as it did. -/
def rotorOrderUptoRow : OpenClaim := { program := "ytopldbnlehjlpaa", sum := "ad51120f807678c694e0f044801ae3b003ba3d1995122819dcba50b84875b230", func := "sandpile/sandpilelaw45.RotorOrder", spec := "rotorOrder", unfollowed := true, recurses := true, apart := false, narrowed := true }
def RotorOrderUptoSaid : Prop := rotorOrderUptoRow.holds Try.pinned (OpenSpec.upto rotorOrderSpec)

/-- 'sandpilelaw45.RotorFires', WHERE WHAT IT READS IS OF BULK AT MOST 1048576: true; the input reads as it did. -/
def rotorFiresUptoRow : OpenClaim := { program := "ytopldbnlehjlpaa", sum := "ad51120f807678c694e0f044801ae3b003ba3d1995122819dcba50b84875b230", func := "sandpile/sandpilelaw45.RotorFires", spec := "rotorFires", unfollowed := true, recurses := true, apart := false, narrowed := true }
def RotorFiresUptoSaid : Prop := rotorFiresUptoRow.holds Try.pinned (OpenSpec.upto rotorFiresSpec)

end Rows
end Go.Proofs.Ytopldbnlehjlpaa
