/- ShapeFronts: the closed facts of the row, apart: they need much memory. -/
import Derived.Test.YtpkipeakklpadaaGreatDoorCards
import Derived.Test.YtpkipeakklpadaaGreatDoorTie
import Derived.ProofKit
set_option linter.unusedVariables false
set_option linter.unusedSimpArgs false
namespace Go.Proofs.YtpkipeakklpadaaGreatDoor
open Go Go.ChangeShapes Go.WideShapes Go.ChangeAt Go.RowKit
theorem Mr:joinedFacts Tryz.pinned.checked.prog 4 Tryz.f4 (OpenSpec.ofChange Rows.shapeFrontsSpec).bare Rows.shapeFrontsRow=true:=by kernel_rfl
end Go.Proofs.YtpkipeakklpadaaGreatDoor
