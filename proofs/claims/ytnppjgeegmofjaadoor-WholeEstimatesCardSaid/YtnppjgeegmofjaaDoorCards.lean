/-
  DERIVED. GIVEN WITH THE SEED: THE CARDS: each row of YtnppjgeegmofjaaDoorRows.lean that lists a variable, with what it lists TIED to the program's text (the seventh form; the later family's looks); each row that meets fmt, with fmt's text TOLD by the authors' own Lean function (tested against real Go, not proved from fmt's source: count such statements apart). THE CARD IS WHAT COUNTS. Prove the row's statement (the work); the ties are given (YtnppjgeegmofjaaDoorTie.lean); close each card by the builder's one call (the guide's Derived/Test/ToyasCard.lean, 'card_holds'). Laid BY PROGRAM, IN A SANDBOX (cutbox-door.mjs). By AI agents, Wed Nov 11 2026. No macro, syntax, notation, axiom, sorry.
-/
import Derived.Test.YtnppjgeegmofjaaDoorRows
import GoSem.ClaimSeven
namespace Go.Proofs.YtnppjgeegmofjaaDoor
namespace Rows

/-- THE TIED CARD OF 'flagstonewhole.WholeEstimates'. -/
def wholeEstimatesCard : Claim7 := { stood := { row := wholeEstimatesRow, standIns := [], harness := (true, "4ce39b415e31f76602d22ca06e59c11dedf45be8aa95a4a4faef1add9c5afb6b"), looks := false }, kinds := [], alts := [], laidByText := true, laidKinds := [.data, .pinned], laidTests := true, laidLooks := .later }
def WholeEstimatesCardSaid : Prop := Claim7.holds Tryd.pinned (.plain (OpenSpec.ofChange wholeEstimatesSpec)) wholeEstimatesCard

/-- THE SECOND FORM's CARD OF 'flagstonewhole.WholeEstimates'. -/
def wholeEstimatesUptoCard : Claim7 := { stood := { row := wholeEstimatesUptoRow, standIns := [], harness := (true, "4ce39b415e31f76602d22ca06e59c11dedf45be8aa95a4a4faef1add9c5afb6b"), looks := false }, kinds := [], alts := [], laidByText := true, laidKinds := [.data, .pinned], laidTests := true, laidLooks := .later }
def WholeEstimatesUptoCardSaid : Prop := Claim7.holds Tryd.pinned (.plain (OpenSpec.upto wholeEstimatesSpec)) wholeEstimatesUptoCard
end Rows
end Go.Proofs.YtnppjgeegmofjaaDoor
