/- The closed facts of the row wholeDevices, part 1. The closed facts of the row wholeDevices, part 2. The closed facts of the row wholeDevices, part 3. The closed facts of the row wholeDevices, part 4. The closed facts of the row wholeDevices. -/
import Derived.Test.YtofjmkmjdaccgaaGreatDoorCards
import Derived.Test.YtofjmkmjdaccgaaGreatDoorTie
import Derived.ProofKit
set_option linter.unusedVariables false
set_option linter.unusedSimpArgs false
namespace Go.Proofs.YtofjmkmjdaccgaaGreatDoor
open Go Go.ChangeShapes Go.WideShapes Go.ChangeAt Go.RowKit
theorem yB:(Rows.wholeDevicesRow.wf (OpenSpec.ofChange (OpenSpec.ofChange Rows.wholeDevicesSpec).bare))=true:=by kernel_rfl
theorem yx:(namedTie Tryz.pinned.checked.prog Rows.wholeDevicesRow.named (OpenSpec.ofChange Rows.wholeDevicesSpec).bare.vars)=true:=by kernel_rfl
theorem yr:((Tryz.pinned.checked.prog.stopKnobs==[]))=true:=by kernel_rfl
theorem w0:((Rows.wholeDevicesRow.named==Tryz.pinned.checked.prog.varsNamed 3))=true:=by kernel_rfl
theorem wW:((Rows.wholeDevicesRow.loops==(Tryz.f3.params.toList++(OpenSpec.ofChange Rows.wholeDevicesSpec).bare.plain.varTypes Tryz.pinned.checked.prog).any (Tryz.pinned.checked.prog.loopsFrom ·)))=true:=by kernel_rfl
theorem wS:((Rows.wholeDevicesRow.ifacesOut==Tryz.f3.resultTypes.toList.any (Tryz.pinned.checked.prog.ifacesRec ·)))=true:=by kernel_rfl
theorem wN:(Tryz.pinned.checked.prog.stopsHeard)=true:=by kernel_rfl
theorem wJ:((Rows.wholeDevicesRow.kinds==(if Rows.wholeDevicesRow.domain.isEmpty then [] else Tryz.f3.params.toList.map λt=>match Tryz.pinned.checked.prog.underlying t with | some (.int k)=>some k | _=>none)))=true:=by kernel_rfl
end Go.Proofs.YtofjmkmjdaccgaaGreatDoor

namespace Go.Proofs.YtofjmkmjdaccgaaGreatDoor
open Go Go.ChangeShapes Go.WideShapes Go.ChangeAt Go.RowKit
theorem yA:(laidOutB Tryz.pinned.checked.prog)=true:=by kernel_rfl
theorem yw:((Rows.wholeDevicesRow.stops==[]))=true:=by kernel_rfl
theorem yq:((Rows.wholeDevicesRow.inPlace==Tryz.pinned.checked.prog.inPlace 3))=true:=by kernel_rfl
theorem wZ:((Rows.wholeDevicesRow.maps==(Tryz.f3.params.toList++(OpenSpec.ofChange Rows.wholeDevicesSpec).bare.plain.varTypes Tryz.pinned.checked.prog).any (Tryz.pinned.checked.prog.mapsRec ·)))=true:=by kernel_rfl
theorem wV:((Rows.wholeDevicesRow.wideKeys==(Tryz.f3.params.toList++(OpenSpec.ofChange Rows.wholeDevicesSpec).bare.plain.varTypes Tryz.pinned.checked.prog++Tryz.f3.resultTypes.toList).any (Tryz.pinned.checked.prog.wideKeysFrom ·)))=true:=by kernel_rfl
theorem wQ:((Rows.wholeDevicesRow.loopsOut==Tryz.f3.resultTypes.toList.any (Tryz.pinned.checked.prog.loopsFrom ·)))=true:=by kernel_rfl
theorem wM:(Tryz.pinned.checked.prog.mayEnter)=true:=by kernel_rfl
theorem wI:((Rows.wholeDevicesRow.pinned==Rows.wholeDevicesRow.pinnedBy))=true:=by kernel_rfl
end Go.Proofs.YtofjmkmjdaccgaaGreatDoor

namespace Go.Proofs.YtofjmkmjdaccgaaGreatDoor
open Go Go.ChangeShapes Go.WideShapes Go.ChangeAt Go.RowKit
theorem yz:(mapsRowed Tryz.pinned.checked.prog)=true:=by kernel_rfl
theorem yv:((Tryz.pinned.checked.prog.stops==[]))=true:=by kernel_rfl
theorem w5:((Rows.wholeDevicesRow.unfollowed==Tryz.pinned.checked.prog.unfollowed 3))=true:=by kernel_rfl
theorem wY:((Rows.wholeDevicesRow.ifaces==(Tryz.f3.params.toList++(OpenSpec.ofChange Rows.wholeDevicesSpec).bare.plain.varTypes Tryz.pinned.checked.prog).any (Tryz.pinned.checked.prog.ifacesRec ·)))=true:=by kernel_rfl
theorem wU:((OpenSpec.ofChange Rows.wholeDevicesSpec).bare.vars.all (Tryz.pinned.checked.prog.varReadable ·))=true:=by kernel_rfl
theorem wP:((Rows.wholeDevicesRow.plainKeys==Tryz.pinned.checked.prog.plainKeys))=true:=by kernel_rfl
theorem wL:((Rows.wholeDevicesRow.lifted==Tryz.pinned.checked.prog.liftsFinal))=true:=by kernel_rfl
theorem wH:((Rows.wholeDevicesRow.veiled==(Tryz.f3.params.toList++(OpenSpec.ofChange Rows.wholeDevicesSpec).bare.plain.varTypes Tryz.pinned.checked.prog++Tryz.f3.resultTypes.toList).any (Tryz.pinned.checked.prog.veiledRec ·)))=true:=by kernel_rfl
end Go.Proofs.YtofjmkmjdaccgaaGreatDoor

namespace Go.Proofs.YtofjmkmjdaccgaaGreatDoor
open Go Go.ChangeShapes Go.WideShapes Go.ChangeAt Go.RowKit
theorem yy:(Tryz.f3.params.all (Tryz.pinned.checked.prog.readableRec ·))=true:=by kernel_rfl
theorem yu:((Rows.wholeDevicesRow.knobs==[]))=true:=by kernel_rfl
theorem w4:((Rows.wholeDevicesRow.recurses==Tryz.pinned.checked.prog.recurses 3))=true:=by kernel_rfl
theorem wX:((Rows.wholeDevicesRow.mapsOut==Tryz.pinned.checked.prog.mapsAmong Tryz.f3.resultTypes.toList))=true:=by kernel_rfl
theorem wT:(Tryz.f3.resultTypes.all (λt=>Tryz.pinned.checked.prog.readableRec t&&decide (t < Tryz.pinned.checked.prog.types.size)))=true:=by kernel_rfl
theorem wO:(Rows.wholeDevicesRow.shortTexts.isNone)=true:=by kernel_rfl
theorem wK:((Tryz.pinned.checked.prog.make==some Rows.wholeDevicesRow.make))=true:=by kernel_rfl
theorem wG:(Rows.wholeDevicesRow.veiledFits Tryz.pinned.checked.prog Tryz.f3.params.toList (Tryz.f3.params.toList++(OpenSpec.ofChange Rows.wholeDevicesSpec).bare.plain.varTypes Tryz.pinned.checked.prog++Tryz.f3.resultTypes.toList))=true:=by kernel_rfl
end Go.Proofs.YtofjmkmjdaccgaaGreatDoor

namespace Go.Proofs.YtofjmkmjdaccgaaGreatDoor
open Go Go.ChangeShapes Go.WideShapes Go.ChangeAt Go.RowKit
theorem an3 {a b:Bool} (h1:a=true) (h2:b=true):(a&&b)=true:=by rw [h1,h2];rfl
set_option maxRecDepth 1000000 in
theorem Am:joinedFacts Tryz.pinned.checked.prog 3 Tryz.f3 (OpenSpec.ofChange Rows.wholeDevicesSpec).bare Rows.wholeDevicesRow=true:=by
 unfold joinedFacts
 exact (an3 (an3 (an3 (an3 (an3 (an3 (an3 (an3 (an3 (an3 (an3 (an3 (an3 (an3 (an3 (an3 (an3 (an3 (an3 (an3 (an3 (an3 (an3 (an3 (an3 (an3 (an3 (an3 (an3 (an3 (an3 yB yA) yz) yy) yx) yw) yv) yu) yr) yq) w5) w4) w0) wZ) wY) wX) wW) wV) wU) wT) wS) wQ) wP) wO) wN) wM) wL) wK) wJ) wI) wH) wG)
end Go.Proofs.YtofjmkmjdaccgaaGreatDoor
