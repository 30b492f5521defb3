/- WholeEstimates: the closed facts of the row, apart: they need much memory. -/
import Derived.Test.YtnppjgeegmofjaaDoorCards
import Derived.Test.YtnppjgeegmofjaaDoorTie
import Derived.ProofKit
set_option linter.unusedVariables false
set_option linter.unusedSimpArgs false
namespace Go.Proofs.YtnppjgeegmofjaaDoor
open Go Go.ChangeShapes Go.WideShapes Go.ChangeAt Go.RowKit
theorem zx:joinedFacts Tryd.pinned.checked.prog 3 Tryd.f3 (OpenSpec.ofChange Rows.wholeEstimatesSpec).bare Rows.wholeEstimatesRow=true:=by kernel_rfl
end Go.Proofs.YtnppjgeegmofjaaDoor
