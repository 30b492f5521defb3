/-
  DERIVED. GIVEN WITH THE SEED: THE CARDS: each row of YtofjmkmjdaccgaaGreatDoorRows.lean that lists a variable, with what it lists TIED to the program's text (the seventh form; the later family's looks); each row that meets fmt, with fmt's text TOLD by the authors' own Lean function (tested against real Go, not proved from fmt's source: count such statements apart). THE CARD IS WHAT COUNTS. Prove the row's statement (the work); the ties are given (YtofjmkmjdaccgaaGreatDoorTie.lean); close each card by the builder's one call (the guide's Derived/Test/ToyasCard.lean, 'card_holds'). Laid BY PROGRAM, IN A SANDBOX (cutbox-door.mjs). By AI agents, Wed Nov 11 2026. No macro, syntax, notation, axiom, sorry.
-/
import Derived.Test.YtofjmkmjdaccgaaGreatDoorRows
import GoSem.ClaimSeven
namespace Go.Proofs.YtofjmkmjdaccgaaGreatDoor
namespace Rows

/-- THE TIED CARD OF 'flagstonewhole.WholeDevices'. -/
def wholeDevicesCard : Claim7 := { stood := { row := wholeDevicesRow, standIns := [], harness := (true, "6ce4608c2e507a996376285cf4f6f8e8e9216a8b171c438b18c1825f64ade542"), looks := true }, kinds := [], alts := [], laidByText := true, laidKinds := [.data, .data, .data, .data, .sentinel, .sentinel, .listed, .data, .pinned], laidTests := true, laidLooks := .later }
def WholeDevicesCardSaid : Prop := Claim7.holds Tryz.pinned (.plain (OpenSpec.ofChange wholeDevicesSpec)) wholeDevicesCard

/-- THE TIED CARD OF 'flagstonewhole.WholeAssignments'. -/
def wholeAssignmentsCard : Claim7 := { stood := { row := wholeAssignmentsRow, standIns := [], harness := (true, "6ce4608c2e507a996376285cf4f6f8e8e9216a8b171c438b18c1825f64ade542"), looks := true }, kinds := [], alts := [], laidByText := true, laidKinds := [.data, .data, .data, .data, .sentinel, .sentinel, .listed, .data, .pinned], laidTests := true, laidLooks := .later }
def WholeAssignmentsCardSaid : Prop := Claim7.holds Tryz.pinned (.plain (OpenSpec.ofChange wholeAssignmentsSpec)) wholeAssignmentsCard

/-- THE SECOND FORM's CARD OF 'flagstonewhole.WholeDevices'. -/
def wholeDevicesUptoCard : Claim7 := { stood := { row := wholeDevicesUptoRow, standIns := [], harness := (true, "6ce4608c2e507a996376285cf4f6f8e8e9216a8b171c438b18c1825f64ade542"), looks := true }, kinds := [], alts := [], laidByText := true, laidKinds := [.data, .data, .data, .data, .sentinel, .sentinel, .listed, .data, .pinned], laidTests := true, laidLooks := .later }
def WholeDevicesUptoCardSaid : Prop := Claim7.holds Tryz.pinned (.plain (OpenSpec.upto wholeDevicesSpec)) wholeDevicesUptoCard

/-- THE SECOND FORM's CARD OF 'flagstonewhole.WholeAssignments'. -/
def wholeAssignmentsUptoCard : Claim7 := { stood := { row := wholeAssignmentsUptoRow, standIns := [], harness := (true, "6ce4608c2e507a996376285cf4f6f8e8e9216a8b171c438b18c1825f64ade542"), looks := true }, kinds := [], alts := [], laidByText := true, laidKinds := [.data, .data, .data, .data, .sentinel, .sentinel, .listed, .data, .pinned], laidTests := true, laidLooks := .later }
def WholeAssignmentsUptoCardSaid : Prop := Claim7.holds Tryz.pinned (.plain (OpenSpec.upto wholeAssignmentsSpec)) wholeAssignmentsUptoCard
end Rows
end Go.Proofs.YtofjmkmjdaccgaaGreatDoor
