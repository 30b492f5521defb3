/-
  DERIVED. GIVEN WITH THE SEED: THE CARDS: each row of YtpkipeakklpadaaGreatDoorRows.lean that lists a variable, with what it lists TIED to the program's text (the seventh form; the later family's looks); each row that meets fmt, with fmt's text TOLD by the authors' own Lean function (tested against real Go, not proved from fmt's source: count such statements apart). THE CARD IS WHAT COUNTS. Prove the row's statement (the work); the ties are given (YtpkipeakklpadaaGreatDoorTie.lean); close each card by the builder's one call (the guide's Derived/Test/ToyasCard.lean, 'card_holds'). Laid BY PROGRAM, IN A SANDBOX (cutbox-door.mjs). By AI agents, Wed Nov 11 2026. No macro, syntax, notation, axiom, sorry.
-/
import Derived.Test.YtpkipeakklpadaaGreatDoorRows
import GoSem.ClaimSeven
namespace Go.Proofs.YtpkipeakklpadaaGreatDoor
namespace Rows

/-- THE TIED CARD OF 'flagstonelaw6.ShapeEnvironments'. -/
def shapeEnvironmentsCard : Claim7 := { stood := { row := shapeEnvironmentsRow, standIns := [], harness := (true, "d99d74e0deb868c622a035b660566210dbabcf569726551bc96d94a1bc74ef37"), looks := true }, kinds := [], alts := [], laidByText := true, laidKinds := [.data, .data, .data, .data, .data, .data, .widerDeep, .sentinel, .sentinel, .listed, .data, .pinned], laidTests := true, laidLooks := .later }
def ShapeEnvironmentsCardSaid : Prop := Claim7.holds Tryz.pinned (.plain (OpenSpec.ofChange shapeEnvironmentsSpec)) shapeEnvironmentsCard

/-- THE TIED CARD OF 'flagstonelaw6.ShapeFronts'. -/
def shapeFrontsCard : Claim7 := { stood := { row := shapeFrontsRow, standIns := [], harness := (true, "d99d74e0deb868c622a035b660566210dbabcf569726551bc96d94a1bc74ef37"), looks := true }, kinds := [], alts := [], laidByText := true, laidKinds := [.data, .data, .data, .data, .data, .data, .widerDeep, .sentinel, .sentinel, .listed, .data, .pinned], laidTests := true, laidLooks := .later }
def ShapeFrontsCardSaid : Prop := Claim7.holds Tryz.pinned (.plain (OpenSpec.ofChange shapeFrontsSpec)) shapeFrontsCard

/-- THE TIED CARD OF 'flagstonelaw21.DeltaChanges'. -/
def deltaChangesCard : Claim7 := { stood := { row := deltaChangesRow, standIns := [], harness := (true, "d99d74e0deb868c622a035b660566210dbabcf569726551bc96d94a1bc74ef37"), looks := true }, kinds := [], alts := [], laidByText := true, laidKinds := [.data, .data, .data, .widerDeep, .data, .pinned], laidTests := true, laidLooks := .later }
def DeltaChangesCardSaid : Prop := Claim7.holds Tryz.pinned (.plain (OpenSpec.ofChange deltaChangesSpec)) deltaChangesCard

/-- THE TIED CARD OF 'flagstonelaw21.DeltaDiffs'. -/
def deltaDiffsCard : Claim7 := { stood := { row := deltaDiffsRow, standIns := [], harness := (true, "d99d74e0deb868c622a035b660566210dbabcf569726551bc96d94a1bc74ef37"), looks := true }, kinds := [], alts := [], laidByText := true, laidKinds := [.data, .data, .data, .widerDeep, .data, .pinned], laidTests := true, laidLooks := .later }
def DeltaDiffsCardSaid : Prop := Claim7.holds Tryz.pinned (.plain (OpenSpec.ofChange deltaDiffsSpec)) deltaDiffsCard

/-- THE SECOND FORM's CARD OF 'flagstonelaw6.ShapeEnvironments'. -/
def shapeEnvironmentsUptoCard : Claim7 := { stood := { row := shapeEnvironmentsUptoRow, standIns := [], harness := (true, "d99d74e0deb868c622a035b660566210dbabcf569726551bc96d94a1bc74ef37"), looks := true }, kinds := [], alts := [], laidByText := true, laidKinds := [.data, .data, .data, .data, .data, .data, .widerDeep, .sentinel, .sentinel, .listed, .data, .pinned], laidTests := true, laidLooks := .later }
def ShapeEnvironmentsUptoCardSaid : Prop := Claim7.holds Tryz.pinned (.plain (OpenSpec.upto shapeEnvironmentsSpec)) shapeEnvironmentsUptoCard

/-- THE SECOND FORM's CARD OF 'flagstonelaw6.ShapeFronts'. -/
def shapeFrontsUptoCard : Claim7 := { stood := { row := shapeFrontsUptoRow, standIns := [], harness := (true, "d99d74e0deb868c622a035b660566210dbabcf569726551bc96d94a1bc74ef37"), looks := true }, kinds := [], alts := [], laidByText := true, laidKinds := [.data, .data, .data, .data, .data, .data, .widerDeep, .sentinel, .sentinel, .listed, .data, .pinned], laidTests := true, laidLooks := .later }
def ShapeFrontsUptoCardSaid : Prop := Claim7.holds Tryz.pinned (.plain (OpenSpec.upto shapeFrontsSpec)) shapeFrontsUptoCard

/-- THE SECOND FORM's CARD OF 'flagstonelaw21.DeltaChanges'. -/
def deltaChangesUptoCard : Claim7 := { stood := { row := deltaChangesUptoRow, standIns := [], harness := (true, "d99d74e0deb868c622a035b660566210dbabcf569726551bc96d94a1bc74ef37"), looks := true }, kinds := [], alts := [], laidByText := true, laidKinds := [.data, .data, .data, .widerDeep, .data, .pinned], laidTests := true, laidLooks := .later }
def DeltaChangesUptoCardSaid : Prop := Claim7.holds Tryz.pinned (.plain (OpenSpec.upto deltaChangesSpec)) deltaChangesUptoCard

/-- THE SECOND FORM's CARD OF 'flagstonelaw21.DeltaDiffs'. -/
def deltaDiffsUptoCard : Claim7 := { stood := { row := deltaDiffsUptoRow, standIns := [], harness := (true, "d99d74e0deb868c622a035b660566210dbabcf569726551bc96d94a1bc74ef37"), looks := true }, kinds := [], alts := [], laidByText := true, laidKinds := [.data, .data, .data, .widerDeep, .data, .pinned], laidTests := true, laidLooks := .later }
def DeltaDiffsUptoCardSaid : Prop := Claim7.holds Tryz.pinned (.plain (OpenSpec.upto deltaDiffsSpec)) deltaDiffsUptoCard
end Rows
end Go.Proofs.YtpkipeakklpadaaGreatDoor
