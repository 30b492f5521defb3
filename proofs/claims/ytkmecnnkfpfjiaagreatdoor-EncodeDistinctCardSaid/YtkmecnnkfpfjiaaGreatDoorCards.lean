/-
  DERIVED. GIVEN WITH THE SEED: THE CARDS: each row of YtkmecnnkfpfjiaaGreatDoorRows.lean that lists a variable, with what it lists TIED to the program's text (the seventh form; the later family's looks); each row that meets fmt, with fmt's text TOLD by the authors' own Lean function (tested against real Go, not proved from fmt's source: count such statements apart). THE CARD IS WHAT COUNTS. Prove the row's statement (the work); the ties are given (YtkmecnnkfpfjiaaGreatDoorTie.lean); close each card by the builder's one call (the guide's Derived/Test/ToyasCard.lean, 'card_holds'). Laid BY PROGRAM, IN A SANDBOX (cutbox-door.mjs). By AI agents, Wed Nov 11 2026. No macro, syntax, notation, axiom, sorry.
-/
import Derived.Test.YtkmecnnkfpfjiaaGreatDoorRows
import GoSem.ClaimSeven
namespace Go.Proofs.YtkmecnnkfpfjiaaGreatDoor
namespace Rows

/-- THE TIED CARD OF 'flagstonelaw20.EncodeDistinct'. -/
def encodeDistinctCard : Claim7 := { stood := { row := encodeDistinctRow, standIns := [], harness := (true, "acc29ee9c8be2cdac423d0328b74503d99ef32579f434cb84c02d1ed2dba4d1e"), looks := true }, kinds := [], alts := [], laidByText := true, laidKinds := [.data, .data, .data, .data, .data, .data, .widerDeep, .sentinel, .sentinel, .listed, .data, .pinned], laidTests := true, laidLooks := .later }
def EncodeDistinctCardSaid : Prop := Claim7.holds Tryz.pinned (.plain (OpenSpec.ofChange encodeDistinctSpec)) encodeDistinctCard

/-- THE SECOND FORM's CARD OF 'flagstonelaw20.EncodeDistinct'. -/
def encodeDistinctUptoCard : Claim7 := { stood := { row := encodeDistinctUptoRow, standIns := [], harness := (true, "acc29ee9c8be2cdac423d0328b74503d99ef32579f434cb84c02d1ed2dba4d1e"), looks := true }, kinds := [], alts := [], laidByText := true, laidKinds := [.data, .data, .data, .data, .data, .data, .widerDeep, .sentinel, .sentinel, .listed, .data, .pinned], laidTests := true, laidLooks := .later }
def EncodeDistinctUptoCardSaid : Prop := Claim7.holds Tryz.pinned (.plain (OpenSpec.upto encodeDistinctSpec)) encodeDistinctUptoCard
end Rows
end Go.Proofs.YtkmecnnkfpfjiaaGreatDoor
