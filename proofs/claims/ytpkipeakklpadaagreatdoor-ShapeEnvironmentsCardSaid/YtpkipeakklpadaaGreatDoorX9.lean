/- ShapeEnvironments: the row's closed facts, apart: they need much memory. -/
import Derived.Test.YtpkipeakklpadaaGreatDoorCards
import Derived.Test.YtpkipeakklpadaaGreatDoorTie
import Derived.ProofKit
set_option linter.unusedVariables false
set_option linter.unusedSimpArgs false
namespace Go.Proofs.YtpkipeakklpadaaGreatDoor
open Go Go.ChangeShapes Go.WideShapes Go.ChangeAt Go.RowKit
theorem MU:joinedFacts Tryz.pinned.checked.prog 3 Tryz.f3 (OpenSpec.ofChange Rows.shapeEnvironmentsSpec).bare Rows.shapeEnvironmentsRow=true:=by kernel_rfl
end Go.Proofs.YtpkipeakklpadaaGreatDoor
