/-
  DERIVED. GIVEN WITH THE SEED: THE CARDS: each row of YtmaledpldlbfmaaGreatDoorRows.lean that lists a variable, with what it lists TIED to the program's text (the seventh form; the later family's looks); each row that meets fmt, with fmt's text TOLD by the authors' own Lean function (tested against real Go, not proved from fmt's source: count such statements apart). THE CARD IS WHAT COUNTS. Prove the row's statement (the work); the ties are given (YtmaledpldlbfmaaGreatDoorTie.lean); close each card by the builder's one call (the guide's Derived/Test/ToyasCard.lean, 'card_holds'). Laid BY PROGRAM, IN A SANDBOX (cutbox-door.mjs). By AI agents, Wed Nov 11 2026. No macro, syntax, notation, axiom, sorry.
-/
import Derived.Test.YtmaledpldlbfmaaGreatDoorRows
import GoSem.ClaimSeven
namespace Go.Proofs.YtmaledpldlbfmaaGreatDoor
namespace Rows

/-- THE TIED CARD OF 'flagstonewhole.WholeEvidence'. -/
def wholeEvidenceCard : Claim7 := { stood := { row := wholeEvidenceRow, standIns := [], harness := (true, "ce213fcc90215ef829757116c4dadaf8d7d4c6161ef23b4c921e1c15ae618b79"), looks := true }, kinds := [], alts := [], laidByText := true, laidKinds := [.listed, .data], laidTests := true, laidLooks := .later }
def WholeEvidenceCardSaid : Prop := Claim7.holds Tryz.pinned (.plain (OpenSpec.ofChange wholeEvidenceSpec)) wholeEvidenceCard

/-- THE TIED CARD OF 'flagstonewhole.WholeArrival'. -/
def wholeArrivalCard : Claim7 := { stood := { row := wholeArrivalRow, standIns := [], harness := (true, "ce213fcc90215ef829757116c4dadaf8d7d4c6161ef23b4c921e1c15ae618b79"), looks := true }, kinds := [], alts := [], laidByText := true, laidKinds := [.data, .listed, .data, .pinned], laidTests := true, laidLooks := .later }
def WholeArrivalCardSaid : Prop := Claim7.holds Tryz.pinned (.plain (OpenSpec.ofChange wholeArrivalSpec)) wholeArrivalCard

/-- THE TIED CARD OF 'flagstonewhole.WholeSubjects'. -/
def wholeSubjectsCard : Claim7 := { stood := { row := wholeSubjectsRow, standIns := [], harness := (true, "ce213fcc90215ef829757116c4dadaf8d7d4c6161ef23b4c921e1c15ae618b79"), looks := true }, kinds := [], alts := [], laidByText := true, laidKinds := [.data, .data, .data, .data, .sentinel, .sentinel, .listed, .data, .pinned], laidTests := true, laidLooks := .later }
def WholeSubjectsCardSaid : Prop := Claim7.holds Tryz.pinned (.plain (OpenSpec.ofChange wholeSubjectsSpec)) wholeSubjectsCard

/-- THE SECOND FORM's CARD OF 'flagstonewhole.WholeEvidence'. -/
def wholeEvidenceUptoCard : Claim7 := { stood := { row := wholeEvidenceUptoRow, standIns := [], harness := (true, "ce213fcc90215ef829757116c4dadaf8d7d4c6161ef23b4c921e1c15ae618b79"), looks := true }, kinds := [], alts := [], laidByText := true, laidKinds := [.listed, .data], laidTests := true, laidLooks := .later }
def WholeEvidenceUptoCardSaid : Prop := Claim7.holds Tryz.pinned (.plain (OpenSpec.upto wholeEvidenceSpec)) wholeEvidenceUptoCard

/-- THE SECOND FORM's CARD OF 'flagstonewhole.WholeArrival'. -/
def wholeArrivalUptoCard : Claim7 := { stood := { row := wholeArrivalUptoRow, standIns := [], harness := (true, "ce213fcc90215ef829757116c4dadaf8d7d4c6161ef23b4c921e1c15ae618b79"), looks := true }, kinds := [], alts := [], laidByText := true, laidKinds := [.data, .listed, .data, .pinned], laidTests := true, laidLooks := .later }
def WholeArrivalUptoCardSaid : Prop := Claim7.holds Tryz.pinned (.plain (OpenSpec.upto wholeArrivalSpec)) wholeArrivalUptoCard

/-- THE SECOND FORM's CARD OF 'flagstonewhole.WholeSubjects'. -/
def wholeSubjectsUptoCard : Claim7 := { stood := { row := wholeSubjectsUptoRow, standIns := [], harness := (true, "ce213fcc90215ef829757116c4dadaf8d7d4c6161ef23b4c921e1c15ae618b79"), looks := true }, kinds := [], alts := [], laidByText := true, laidKinds := [.data, .data, .data, .data, .sentinel, .sentinel, .listed, .data, .pinned], laidTests := true, laidLooks := .later }
def WholeSubjectsUptoCardSaid : Prop := Claim7.holds Tryz.pinned (.plain (OpenSpec.upto wholeSubjectsSpec)) wholeSubjectsUptoCard
end Rows
end Go.Proofs.YtmaledpldlbfmaaGreatDoor
