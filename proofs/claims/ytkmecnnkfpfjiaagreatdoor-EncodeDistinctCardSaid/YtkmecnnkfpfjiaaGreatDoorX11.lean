/- EncodeDistinct: the closed facts of the row, apart: they need much memory. -/
import Derived.Test.YtkmecnnkfpfjiaaGreatDoorCards
import Derived.Test.YtkmecnnkfpfjiaaGreatDoorTie
import Derived.ProofKit
set_option linter.unusedVariables false
set_option linter.unusedSimpArgs false
namespace Go.Proofs.YtkmecnnkfpfjiaaGreatDoor
open Go Go.ChangeShapes Go.WideShapes Go.ChangeAt Go.RowKit
theorem Rs:joinedFacts Tryz.pinned.checked.prog 3 Tryz.f3 (OpenSpec.ofChange Rows.encodeDistinctSpec).bare Rows.encodeDistinctRow=true:=by kernel_rfl
end Go.Proofs.YtkmecnnkfpfjiaaGreatDoor
