/-
  DERIVED. GIVEN WITH THE SEED: THE CARDS: each row of YthpknfoahimopaaGreatDoorRows.lean that lists a variable, with what it lists TIED to the program's text (the seventh form; the later family's looks); each row that meets fmt, with fmt's text TOLD by the authors' own Lean function (tested against real Go, not proved from fmt's source: count such statements apart). THE CARD IS WHAT COUNTS. Prove the row's statement (the work); the ties are given (YthpknfoahimopaaGreatDoorTie.lean); close each card by the builder's one call (the guide's Derived/Test/ToyasCard.lean, 'card_holds'). Laid BY PROGRAM, IN A SANDBOX (cutbox-door.mjs). By AI agents, Wed Nov 11 2026. No macro, syntax, notation, axiom, sorry.
-/
import Derived.Test.YthpknfoahimopaaGreatDoorRows
import GoSem.ClaimSeven
namespace Go.Proofs.YthpknfoahimopaaGreatDoor
namespace Rows

/-- THE TIED CARD OF 'sandpilelaw02.FractionMakes'. -/
def fractionMakesCard : Claim7 := { stood := { row := fractionMakesRow, standIns := [], harness := (true, "b82a1295ea715ae845548bcfbe437ee53315b98a501120c16e571b4cc909fde4"), looks := true }, kinds := [], alts := [], laidByText := true, laidKinds := [.data, .data, .data, .sentinel, .sentinel], laidTests := true, laidLooks := .later }
def FractionMakesCardSaid : Prop := Claim7.holds Tryz.pinned (.plain (OpenSpec.ofChange fractionMakesSpec)) fractionMakesCard

/-- THE TIED CARD OF 'sandpilelaw02.FractionRing'. -/
def fractionRingCard : Claim7 := { stood := { row := fractionRingRow, standIns := [], harness := (true, "b82a1295ea715ae845548bcfbe437ee53315b98a501120c16e571b4cc909fde4"), looks := true }, kinds := [], alts := [], laidByText := true, laidKinds := [.data, .data, .data, .sentinel, .sentinel], laidTests := true, laidLooks := .later }
def FractionRingCardSaid : Prop := Claim7.holds Tryz.pinned (.plain (OpenSpec.ofChange fractionRingSpec)) fractionRingCard

/-- THE TIED CARD OF 'sandpilelaw02.FractionChecks'. -/
def fractionChecksCard : Claim7 := { stood := { row := fractionChecksRow, standIns := [], harness := (true, "b82a1295ea715ae845548bcfbe437ee53315b98a501120c16e571b4cc909fde4"), looks := true }, kinds := [], alts := [], laidByText := true, laidKinds := [.data, .data, .data, .sentinel, .sentinel], laidTests := true, laidLooks := .later }
def FractionChecksCardSaid : Prop := Claim7.holds Tryz.pinned (.plain (OpenSpec.ofChange fractionChecksSpec)) fractionChecksCard

/-- THE TIED CARD OF 'sandpilelaw02.FractionComputes'. -/
def fractionComputesCard : Claim7 := { stood := { row := fractionComputesRow, standIns := [], harness := (true, "b82a1295ea715ae845548bcfbe437ee53315b98a501120c16e571b4cc909fde4"), looks := true }, kinds := [], alts := [], laidByText := true, laidKinds := [.data, .data, .data, .sentinel, .sentinel], laidTests := true, laidLooks := .later }
def FractionComputesCardSaid : Prop := Claim7.holds Tryz.pinned (.plain (OpenSpec.ofChange fractionComputesSpec)) fractionComputesCard

/-- THE TIED CARD OF 'sandpilelaw02.FractionUndoes'. -/
def fractionUndoesCard : Claim7 := { stood := { row := fractionUndoesRow, standIns := [], harness := (true, "b82a1295ea715ae845548bcfbe437ee53315b98a501120c16e571b4cc909fde4"), looks := true }, kinds := [], alts := [], laidByText := true, laidKinds := [.data, .data, .data, .sentinel, .sentinel], laidTests := true, laidLooks := .later }
def FractionUndoesCardSaid : Prop := Claim7.holds Tryz.pinned (.plain (OpenSpec.ofChange fractionUndoesSpec)) fractionUndoesCard

/-- THE TIED CARD OF 'sandpilelaw02.FractionReads'. -/
def fractionReadsCard : Claim7 := { stood := { row := fractionReadsRow, standIns := [], harness := (true, "b82a1295ea715ae845548bcfbe437ee53315b98a501120c16e571b4cc909fde4"), looks := true }, kinds := [], alts := [], laidByText := true, laidKinds := [.data, .data, .data, .sentinel, .sentinel], laidTests := true, laidLooks := .later }
def FractionReadsCardSaid : Prop := Claim7.holds Tryz.pinned (.plain (OpenSpec.ofChange fractionReadsSpec)) fractionReadsCard

/-- THE TIED CARD OF 'sandpilelaw02.FractionSums'. -/
def fractionSumsCard : Claim7 := { stood := { row := fractionSumsRow, standIns := [], harness := (true, "b82a1295ea715ae845548bcfbe437ee53315b98a501120c16e571b4cc909fde4"), looks := true }, kinds := [], alts := [], laidByText := true, laidKinds := [.data, .data, .data, .sentinel, .sentinel], laidTests := true, laidLooks := .later }
def FractionSumsCardSaid : Prop := Claim7.holds Tryz.pinned (.plain (OpenSpec.ofChange fractionSumsSpec)) fractionSumsCard

/-- THE SECOND FORM's CARD OF 'sandpilelaw02.FractionMakes'. -/
def fractionMakesUptoCard : Claim7 := { stood := { row := fractionMakesUptoRow, standIns := [], harness := (true, "b82a1295ea715ae845548bcfbe437ee53315b98a501120c16e571b4cc909fde4"), looks := true }, kinds := [], alts := [], laidByText := true, laidKinds := [.data, .data, .data, .sentinel, .sentinel], laidTests := true, laidLooks := .later }
def FractionMakesUptoCardSaid : Prop := Claim7.holds Tryz.pinned (.plain (OpenSpec.upto fractionMakesSpec)) fractionMakesUptoCard

/-- THE SECOND FORM's CARD OF 'sandpilelaw02.FractionRing'. -/
def fractionRingUptoCard : Claim7 := { stood := { row := fractionRingUptoRow, standIns := [], harness := (true, "b82a1295ea715ae845548bcfbe437ee53315b98a501120c16e571b4cc909fde4"), looks := true }, kinds := [], alts := [], laidByText := true, laidKinds := [.data, .data, .data, .sentinel, .sentinel], laidTests := true, laidLooks := .later }
def FractionRingUptoCardSaid : Prop := Claim7.holds Tryz.pinned (.plain (OpenSpec.upto fractionRingSpec)) fractionRingUptoCard

/-- THE SECOND FORM's CARD OF 'sandpilelaw02.FractionChecks'. -/
def fractionChecksUptoCard : Claim7 := { stood := { row := fractionChecksUptoRow, standIns := [], harness := (true, "b82a1295ea715ae845548bcfbe437ee53315b98a501120c16e571b4cc909fde4"), looks := true }, kinds := [], alts := [], laidByText := true, laidKinds := [.data, .data, .data, .sentinel, .sentinel], laidTests := true, laidLooks := .later }
def FractionChecksUptoCardSaid : Prop := Claim7.holds Tryz.pinned (.plain (OpenSpec.upto fractionChecksSpec)) fractionChecksUptoCard

/-- THE SECOND FORM's CARD OF 'sandpilelaw02.FractionComputes'. -/
def fractionComputesUptoCard : Claim7 := { stood := { row := fractionComputesUptoRow, standIns := [], harness := (true, "b82a1295ea715ae845548bcfbe437ee53315b98a501120c16e571b4cc909fde4"), looks := true }, kinds := [], alts := [], laidByText := true, laidKinds := [.data, .data, .data, .sentinel, .sentinel], laidTests := true, laidLooks := .later }
def FractionComputesUptoCardSaid : Prop := Claim7.holds Tryz.pinned (.plain (OpenSpec.upto fractionComputesSpec)) fractionComputesUptoCard

/-- THE SECOND FORM's CARD OF 'sandpilelaw02.FractionUndoes'. -/
def fractionUndoesUptoCard : Claim7 := { stood := { row := fractionUndoesUptoRow, standIns := [], harness := (true, "b82a1295ea715ae845548bcfbe437ee53315b98a501120c16e571b4cc909fde4"), looks := true }, kinds := [], alts := [], laidByText := true, laidKinds := [.data, .data, .data, .sentinel, .sentinel], laidTests := true, laidLooks := .later }
def FractionUndoesUptoCardSaid : Prop := Claim7.holds Tryz.pinned (.plain (OpenSpec.upto fractionUndoesSpec)) fractionUndoesUptoCard

/-- THE SECOND FORM's CARD OF 'sandpilelaw02.FractionReads'. -/
def fractionReadsUptoCard : Claim7 := { stood := { row := fractionReadsUptoRow, standIns := [], harness := (true, "b82a1295ea715ae845548bcfbe437ee53315b98a501120c16e571b4cc909fde4"), looks := true }, kinds := [], alts := [], laidByText := true, laidKinds := [.data, .data, .data, .sentinel, .sentinel], laidTests := true, laidLooks := .later }
def FractionReadsUptoCardSaid : Prop := Claim7.holds Tryz.pinned (.plain (OpenSpec.upto fractionReadsSpec)) fractionReadsUptoCard

/-- THE SECOND FORM's CARD OF 'sandpilelaw02.FractionSums'. -/
def fractionSumsUptoCard : Claim7 := { stood := { row := fractionSumsUptoRow, standIns := [], harness := (true, "b82a1295ea715ae845548bcfbe437ee53315b98a501120c16e571b4cc909fde4"), looks := true }, kinds := [], alts := [], laidByText := true, laidKinds := [.data, .data, .data, .sentinel, .sentinel], laidTests := true, laidLooks := .later }
def FractionSumsUptoCardSaid : Prop := Claim7.holds Tryz.pinned (.plain (OpenSpec.upto fractionSumsSpec)) fractionSumsUptoCard
end Rows
end Go.Proofs.YthpknfoahimopaaGreatDoor
