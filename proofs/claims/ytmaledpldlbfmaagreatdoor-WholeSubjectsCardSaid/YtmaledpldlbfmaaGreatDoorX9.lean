/- The closed facts of the row wholeSubjects, part 1. The closed facts of the row wholeSubjects, part 2. The closed facts of the row wholeSubjects, part 3. The closed facts of the row wholeSubjects, part 4. The closed facts of the row wholeSubjects. -/
import Derived.Test.YtmaledpldlbfmaaGreatDoorCards
import Derived.Test.YtmaledpldlbfmaaGreatDoorTie
import Derived.ProofKit
set_option linter.unusedVariables false
set_option linter.unusedSimpArgs false
namespace Go.Proofs.YtmaledpldlbfmaaGreatDoor
open Go Go.ChangeShapes Go.WideShapes Go.ChangeAt Go.RowKit
theorem xx:(Rows.wholeSubjectsRow.wf (OpenSpec.ofChange (OpenSpec.ofChange Rows.wholeSubjectsSpec).bare))=true:=by kernel_rfl
theorem xt:(namedTie Tryz.pinned.checked.prog Rows.wholeSubjectsRow.named (OpenSpec.ofChange Rows.wholeSubjectsSpec).bare.vars)=true:=by kernel_rfl
theorem xn:((Tryz.pinned.checked.prog.stopKnobs==[]))=true:=by kernel_rfl
theorem vT:((Rows.wholeSubjectsRow.named==Tryz.pinned.checked.prog.varsNamed 5))=true:=by kernel_rfl
theorem vP:((Rows.wholeSubjectsRow.loops==(Tryz.f5.params.toList++(OpenSpec.ofChange Rows.wholeSubjectsSpec).bare.plain.varTypes Tryz.pinned.checked.prog).any (Tryz.pinned.checked.prog.loopsFrom ·)))=true:=by kernel_rfl
theorem vL:((Rows.wholeSubjectsRow.ifacesOut==Tryz.f5.resultTypes.toList.any (Tryz.pinned.checked.prog.ifacesRec ·)))=true:=by kernel_rfl
theorem vH:(Tryz.pinned.checked.prog.stopsHeard)=true:=by kernel_rfl
theorem vD:((Rows.wholeSubjectsRow.kinds==(if Rows.wholeSubjectsRow.domain.isEmpty then [] else Tryz.f5.params.toList.map λt=>match Tryz.pinned.checked.prog.underlying t with | some (.int k)=>some k | _=>none)))=true:=by kernel_rfl
end Go.Proofs.YtmaledpldlbfmaaGreatDoor

namespace Go.Proofs.YtmaledpldlbfmaaGreatDoor
open Go Go.ChangeShapes Go.WideShapes Go.ChangeAt Go.RowKit
theorem xw:(laidOutB Tryz.pinned.checked.prog)=true:=by kernel_rfl
theorem xr:((Rows.wholeSubjectsRow.stops==[]))=true:=by kernel_rfl
theorem xm:((Rows.wholeSubjectsRow.inPlace==Tryz.pinned.checked.prog.inPlace 5))=true:=by kernel_rfl
theorem vS:((Rows.wholeSubjectsRow.maps==(Tryz.f5.params.toList++(OpenSpec.ofChange Rows.wholeSubjectsSpec).bare.plain.varTypes Tryz.pinned.checked.prog).any (Tryz.pinned.checked.prog.mapsRec ·)))=true:=by kernel_rfl
theorem vO:((Rows.wholeSubjectsRow.wideKeys==(Tryz.f5.params.toList++(OpenSpec.ofChange Rows.wholeSubjectsSpec).bare.plain.varTypes Tryz.pinned.checked.prog++Tryz.f5.resultTypes.toList).any (Tryz.pinned.checked.prog.wideKeysFrom ·)))=true:=by kernel_rfl
theorem vK:((Rows.wholeSubjectsRow.loopsOut==Tryz.f5.resultTypes.toList.any (Tryz.pinned.checked.prog.loopsFrom ·)))=true:=by kernel_rfl
theorem vG:(Tryz.pinned.checked.prog.mayEnter)=true:=by kernel_rfl
theorem vC:((Rows.wholeSubjectsRow.pinned==Rows.wholeSubjectsRow.pinnedBy))=true:=by kernel_rfl
end Go.Proofs.YtmaledpldlbfmaaGreatDoor

namespace Go.Proofs.YtmaledpldlbfmaaGreatDoor
open Go Go.ChangeShapes Go.WideShapes Go.ChangeAt Go.RowKit
theorem xv:(mapsRowed Tryz.pinned.checked.prog)=true:=by kernel_rfl
theorem xq:((Tryz.pinned.checked.prog.stops==[]))=true:=by kernel_rfl
theorem vV:((Rows.wholeSubjectsRow.unfollowed==Tryz.pinned.checked.prog.unfollowed 5))=true:=by kernel_rfl
theorem vR:((Rows.wholeSubjectsRow.ifaces==(Tryz.f5.params.toList++(OpenSpec.ofChange Rows.wholeSubjectsSpec).bare.plain.varTypes Tryz.pinned.checked.prog).any (Tryz.pinned.checked.prog.ifacesRec ·)))=true:=by kernel_rfl
theorem vN:((OpenSpec.ofChange Rows.wholeSubjectsSpec).bare.vars.all (Tryz.pinned.checked.prog.varReadable ·))=true:=by kernel_rfl
theorem vJ:((Rows.wholeSubjectsRow.plainKeys==Tryz.pinned.checked.prog.plainKeys))=true:=by kernel_rfl
theorem vF:((Rows.wholeSubjectsRow.lifted==Tryz.pinned.checked.prog.liftsFinal))=true:=by kernel_rfl
theorem vB:((Rows.wholeSubjectsRow.veiled==(Tryz.f5.params.toList++(OpenSpec.ofChange Rows.wholeSubjectsSpec).bare.plain.varTypes Tryz.pinned.checked.prog++Tryz.f5.resultTypes.toList).any (Tryz.pinned.checked.prog.veiledRec ·)))=true:=by kernel_rfl
end Go.Proofs.YtmaledpldlbfmaaGreatDoor

namespace Go.Proofs.YtmaledpldlbfmaaGreatDoor
open Go Go.ChangeShapes Go.WideShapes Go.ChangeAt Go.RowKit
theorem xu:(Tryz.f5.params.all (Tryz.pinned.checked.prog.readableRec ·))=true:=by kernel_rfl
theorem xp:((Rows.wholeSubjectsRow.knobs==[]))=true:=by kernel_rfl
theorem vU:((Rows.wholeSubjectsRow.recurses==Tryz.pinned.checked.prog.recurses 5))=true:=by kernel_rfl
theorem vQ:((Rows.wholeSubjectsRow.mapsOut==Tryz.pinned.checked.prog.mapsAmong Tryz.f5.resultTypes.toList))=true:=by kernel_rfl
theorem vM:(Tryz.f5.resultTypes.all (λt=>Tryz.pinned.checked.prog.readableRec t&&decide (t < Tryz.pinned.checked.prog.types.size)))=true:=by kernel_rfl
theorem vI:(Rows.wholeSubjectsRow.shortTexts.isNone)=true:=by kernel_rfl
theorem vE:((Tryz.pinned.checked.prog.make==some Rows.wholeSubjectsRow.make))=true:=by kernel_rfl
theorem vA:(Rows.wholeSubjectsRow.veiledFits Tryz.pinned.checked.prog Tryz.f5.params.toList (Tryz.f5.params.toList++(OpenSpec.ofChange Rows.wholeSubjectsSpec).bare.plain.varTypes Tryz.pinned.checked.prog++Tryz.f5.resultTypes.toList))=true:=by kernel_rfl
end Go.Proofs.YtmaledpldlbfmaaGreatDoor

namespace Go.Proofs.YtmaledpldlbfmaaGreatDoor
open Go Go.ChangeShapes Go.WideShapes Go.ChangeAt Go.RowKit
theorem an5 {a b:Bool} (h1:a=true) (h2:b=true):(a&&b)=true:=by rw [h1,h2];rfl
set_option maxRecDepth 1000000 in
theorem yP:joinedFacts Tryz.pinned.checked.prog 5 Tryz.f5 (OpenSpec.ofChange Rows.wholeSubjectsSpec).bare Rows.wholeSubjectsRow=true:=by
 unfold joinedFacts
 exact (an5 (an5 (an5 (an5 (an5 (an5 (an5 (an5 (an5 (an5 (an5 (an5 (an5 (an5 (an5 (an5 (an5 (an5 (an5 (an5 (an5 (an5 (an5 (an5 (an5 (an5 (an5 (an5 (an5 (an5 (an5 xx xw) xv) xu) xt) xr) xq) xp) xn) xm) vV) vU) vT) vS) vR) vQ) vP) vO) vN) vM) vL) vK) vJ) vI) vH) vG) vF) vE) vD) vC) vB) vA)
end Go.Proofs.YtmaledpldlbfmaaGreatDoor
