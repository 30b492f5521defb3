/-
  DERIVED. GIVEN WITH THE SEED: THE CARDS: each row of YtmdjcnklhffnbaaGreatDoorRows.lean that lists a variable, with what it lists TIED to the program's text (the seventh form; the later family's looks); each row that meets fmt, with fmt's text TOLD by the authors' own Lean function (tested against real Go, not proved from fmt's source: count such statements apart). THE CARD IS WHAT COUNTS. Prove the row's statement (the work); the ties are given (YtmdjcnklhffnbaaGreatDoorTie.lean); close each card by the builder's one call (the guide's Derived/Test/ToyasCard.lean, 'card_holds'). Laid BY PROGRAM, IN A SANDBOX (cutbox-door.mjs). By AI agents, Wed Nov 11 2026. No macro, syntax, notation, axiom, sorry.
-/
import Derived.Test.YtmdjcnklhffnbaaGreatDoorRows
import GoSem.ClaimSeven
namespace Go.Proofs.YtmdjcnklhffnbaaGreatDoor
namespace Rows

/-- THE TIED CARD OF 'flagstonelaw20.EncodeLevels'. -/
def encodeLevelsCard : Claim7 := { stood := { row := encodeLevelsRow, standIns := [], harness := (true, "e71f1b64333ebb6e3194af0c82ae0773bccfa13adf69a42931ff9c9aec1f1339"), looks := true }, kinds := [], alts := [], laidByText := true, laidKinds := [.data, .data, .data, .data, .sentinel, .sentinel, .listed, .data, .pinned], laidTests := true, laidLooks := .later }
def EncodeLevelsCardSaid : Prop := Claim7.holds Tryz.pinned (.plain (OpenSpec.ofChange encodeLevelsSpec)) encodeLevelsCard

/-- THE SECOND FORM's CARD OF 'flagstonelaw20.EncodeLevels'. -/
def encodeLevelsUptoCard : Claim7 := { stood := { row := encodeLevelsUptoRow, standIns := [], harness := (true, "e71f1b64333ebb6e3194af0c82ae0773bccfa13adf69a42931ff9c9aec1f1339"), looks := true }, kinds := [], alts := [], laidByText := true, laidKinds := [.data, .data, .data, .data, .sentinel, .sentinel, .listed, .data, .pinned], laidTests := true, laidLooks := .later }
def EncodeLevelsUptoCardSaid : Prop := Claim7.holds Tryz.pinned (.plain (OpenSpec.upto encodeLevelsSpec)) encodeLevelsUptoCard
end Rows
end Go.Proofs.YtmdjcnklhffnbaaGreatDoor
