/-
  DERIVED. GIVEN WITH THE SEED: THE CARDS: each row of YtmiiklmfnagbbaaDoorRows.lean that lists a variable, with what it lists TIED to the program's text (the seventh form; the later family's looks); each row that meets fmt, with fmt's text TOLD by the authors' own Lean function (tested against real Go, not proved from fmt's source: count such statements apart). THE CARD IS WHAT COUNTS. Prove the row's statement (the work); the ties are given (YtmiiklmfnagbbaaDoorTie.lean); close each card by the builder's one call (the guide's Derived/Test/ToyasCard.lean, 'card_holds'). Laid BY PROGRAM, IN A SANDBOX (cutbox-door.mjs). By AI agents, Wed Nov 11 2026. No macro, syntax, notation, axiom, sorry.
-/
import Derived.Test.YtmiiklmfnagbbaaDoorRows
import GoSem.ClaimSeven
namespace Go.Proofs.YtmiiklmfnagbbaaDoor
namespace Rows

/-- THE TIED CARD OF 'flagstonewhole.WholeShares'. -/
def wholeSharesCard : Claim7 := { stood := { row := wholeSharesRow, standIns := [], harness := (true, "1d2508ce1375ab12d12c95c981d13666f6b91bcd078953961fa5a4be5743d0cf"), looks := false }, kinds := [], alts := [], laidByText := true, laidKinds := [.data, .pinned], laidTests := true, laidLooks := .later }
def WholeSharesCardSaid : Prop := Claim7.holds Tryd.pinned (.plain (OpenSpec.ofChange wholeSharesSpec)) wholeSharesCard

/-- THE TIED CARD OF 'flagstonewhole.WholeEstimates'. -/
def wholeEstimatesCard : Claim7 := { stood := { row := wholeEstimatesRow, standIns := [], harness := (true, "1d2508ce1375ab12d12c95c981d13666f6b91bcd078953961fa5a4be5743d0cf"), looks := false }, kinds := [], alts := [], laidByText := true, laidKinds := [.data, .pinned], laidTests := true, laidLooks := .later }
def WholeEstimatesCardSaid : Prop := Claim7.holds Tryd.pinned (.plain (OpenSpec.ofChange wholeEstimatesSpec)) wholeEstimatesCard

/-- THE TIED CARD OF 'flagstonewhole.WholeLevel'. -/
def wholeLevelCard : Claim7 := { stood := { row := wholeLevelRow, standIns := [], harness := (true, "1d2508ce1375ab12d12c95c981d13666f6b91bcd078953961fa5a4be5743d0cf"), looks := false }, kinds := [], alts := [], laidByText := true, laidKinds := [.listed, .data], laidTests := true, laidLooks := .later }
def WholeLevelCardSaid : Prop := Claim7.holds Tryd.pinned (.plain (OpenSpec.ofChange wholeLevelSpec)) wholeLevelCard

/-- THE SECOND FORM's CARD OF 'flagstonewhole.WholeShares'. -/
def wholeSharesUptoCard : Claim7 := { stood := { row := wholeSharesUptoRow, standIns := [], harness := (true, "1d2508ce1375ab12d12c95c981d13666f6b91bcd078953961fa5a4be5743d0cf"), looks := false }, kinds := [], alts := [], laidByText := true, laidKinds := [.data, .pinned], laidTests := true, laidLooks := .later }
def WholeSharesUptoCardSaid : Prop := Claim7.holds Tryd.pinned (.plain (OpenSpec.upto wholeSharesSpec)) wholeSharesUptoCard

/-- THE SECOND FORM's CARD OF 'flagstonewhole.WholeEstimates'. -/
def wholeEstimatesUptoCard : Claim7 := { stood := { row := wholeEstimatesUptoRow, standIns := [], harness := (true, "1d2508ce1375ab12d12c95c981d13666f6b91bcd078953961fa5a4be5743d0cf"), looks := false }, kinds := [], alts := [], laidByText := true, laidKinds := [.data, .pinned], laidTests := true, laidLooks := .later }
def WholeEstimatesUptoCardSaid : Prop := Claim7.holds Tryd.pinned (.plain (OpenSpec.upto wholeEstimatesSpec)) wholeEstimatesUptoCard

/-- THE SECOND FORM's CARD OF 'flagstonewhole.WholeLevel'. -/
def wholeLevelUptoCard : Claim7 := { stood := { row := wholeLevelUptoRow, standIns := [], harness := (true, "1d2508ce1375ab12d12c95c981d13666f6b91bcd078953961fa5a4be5743d0cf"), looks := false }, kinds := [], alts := [], laidByText := true, laidKinds := [.listed, .data], laidTests := true, laidLooks := .later }
def WholeLevelUptoCardSaid : Prop := Claim7.holds Tryd.pinned (.plain (OpenSpec.upto wholeLevelSpec)) wholeLevelUptoCard
end Rows
end Go.Proofs.YtmiiklmfnagbbaaDoor
