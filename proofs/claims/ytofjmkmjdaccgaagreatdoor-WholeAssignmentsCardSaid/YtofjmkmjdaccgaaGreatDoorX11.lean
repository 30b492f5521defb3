/- The closed facts of the row wholeAssignments, part 1. The closed facts of the row wholeAssignments, part 2. The closed facts of the row wholeAssignments, part 3. The closed facts of the row wholeAssignments, part 4. The closed facts of the row wholeAssignments. -/
import Derived.Test.YtofjmkmjdaccgaaGreatDoorCards
import Derived.Test.YtofjmkmjdaccgaaGreatDoorTie
import Derived.ProofKit
set_option linter.unusedVariables false
set_option linter.unusedSimpArgs false
namespace Go.Proofs.YtofjmkmjdaccgaaGreatDoor
open Go Go.ChangeShapes Go.WideShapes Go.ChangeAt Go.RowKit
theorem BP:(Rows.wholeAssignmentsRow.wf (OpenSpec.ofChange (OpenSpec.ofChange Rows.wholeAssignmentsSpec).bare))=true:=by kernel_rfl
theorem BL:(namedTie Tryz.pinned.checked.prog Rows.wholeAssignmentsRow.named (OpenSpec.ofChange Rows.wholeAssignmentsSpec).bare.vars)=true:=by kernel_rfl
theorem BH:((Tryz.pinned.checked.prog.stopKnobs==[]))=true:=by kernel_rfl
theorem zC:((Rows.wholeAssignmentsRow.named==Tryz.pinned.checked.prog.varsNamed 4))=true:=by kernel_rfl
theorem zy:((Rows.wholeAssignmentsRow.loops==(Tryz.f4.params.toList++(OpenSpec.ofChange Rows.wholeAssignmentsSpec).bare.plain.varTypes Tryz.pinned.checked.prog).any (Tryz.pinned.checked.prog.loopsFrom ·)))=true:=by kernel_rfl
theorem zt:((Rows.wholeAssignmentsRow.ifacesOut==Tryz.f4.resultTypes.toList.any (Tryz.pinned.checked.prog.ifacesRec ·)))=true:=by kernel_rfl
theorem zo:(Tryz.pinned.checked.prog.stopsHeard)=true:=by kernel_rfl
theorem zk:((Rows.wholeAssignmentsRow.kinds==(if Rows.wholeAssignmentsRow.domain.isEmpty then [] else Tryz.f4.params.toList.map λt=>match Tryz.pinned.checked.prog.underlying t with | some (.int k)=>some k | _=>none)))=true:=by kernel_rfl
end Go.Proofs.YtofjmkmjdaccgaaGreatDoor

namespace Go.Proofs.YtofjmkmjdaccgaaGreatDoor
open Go Go.ChangeShapes Go.WideShapes Go.ChangeAt Go.RowKit
theorem BO:(laidOutB Tryz.pinned.checked.prog)=true:=by kernel_rfl
theorem BK:((Rows.wholeAssignmentsRow.stops==[]))=true:=by kernel_rfl
theorem BG:((Rows.wholeAssignmentsRow.inPlace==Tryz.pinned.checked.prog.inPlace 4))=true:=by kernel_rfl
theorem zB:((Rows.wholeAssignmentsRow.maps==(Tryz.f4.params.toList++(OpenSpec.ofChange Rows.wholeAssignmentsSpec).bare.plain.varTypes Tryz.pinned.checked.prog).any (Tryz.pinned.checked.prog.mapsRec ·)))=true:=by kernel_rfl
theorem zx:((Rows.wholeAssignmentsRow.wideKeys==(Tryz.f4.params.toList++(OpenSpec.ofChange Rows.wholeAssignmentsSpec).bare.plain.varTypes Tryz.pinned.checked.prog++Tryz.f4.resultTypes.toList).any (Tryz.pinned.checked.prog.wideKeysFrom ·)))=true:=by kernel_rfl
theorem zr:((Rows.wholeAssignmentsRow.loopsOut==Tryz.f4.resultTypes.toList.any (Tryz.pinned.checked.prog.loopsFrom ·)))=true:=by kernel_rfl
theorem zn:(Tryz.pinned.checked.prog.mayEnter)=true:=by kernel_rfl
theorem zj:((Rows.wholeAssignmentsRow.pinned==Rows.wholeAssignmentsRow.pinnedBy))=true:=by kernel_rfl
end Go.Proofs.YtofjmkmjdaccgaaGreatDoor

namespace Go.Proofs.YtofjmkmjdaccgaaGreatDoor
open Go Go.ChangeShapes Go.WideShapes Go.ChangeAt Go.RowKit
theorem BN:(mapsRowed Tryz.pinned.checked.prog)=true:=by kernel_rfl
theorem BJ:((Tryz.pinned.checked.prog.stops==[]))=true:=by kernel_rfl
theorem zE:((Rows.wholeAssignmentsRow.unfollowed==Tryz.pinned.checked.prog.unfollowed 4))=true:=by kernel_rfl
theorem zA:((Rows.wholeAssignmentsRow.ifaces==(Tryz.f4.params.toList++(OpenSpec.ofChange Rows.wholeAssignmentsSpec).bare.plain.varTypes Tryz.pinned.checked.prog).any (Tryz.pinned.checked.prog.ifacesRec ·)))=true:=by kernel_rfl
theorem zw:((OpenSpec.ofChange Rows.wholeAssignmentsSpec).bare.vars.all (Tryz.pinned.checked.prog.varReadable ·))=true:=by kernel_rfl
theorem zq:((Rows.wholeAssignmentsRow.plainKeys==Tryz.pinned.checked.prog.plainKeys))=true:=by kernel_rfl
theorem zm:((Rows.wholeAssignmentsRow.lifted==Tryz.pinned.checked.prog.liftsFinal))=true:=by kernel_rfl
theorem zi:((Rows.wholeAssignmentsRow.veiled==(Tryz.f4.params.toList++(OpenSpec.ofChange Rows.wholeAssignmentsSpec).bare.plain.varTypes Tryz.pinned.checked.prog++Tryz.f4.resultTypes.toList).any (Tryz.pinned.checked.prog.veiledRec ·)))=true:=by kernel_rfl
end Go.Proofs.YtofjmkmjdaccgaaGreatDoor

namespace Go.Proofs.YtofjmkmjdaccgaaGreatDoor
open Go Go.ChangeShapes Go.WideShapes Go.ChangeAt Go.RowKit
theorem BM:(Tryz.f4.params.all (Tryz.pinned.checked.prog.readableRec ·))=true:=by kernel_rfl
theorem BI:((Rows.wholeAssignmentsRow.knobs==[]))=true:=by kernel_rfl
theorem zD:((Rows.wholeAssignmentsRow.recurses==Tryz.pinned.checked.prog.recurses 4))=true:=by kernel_rfl
theorem zz:((Rows.wholeAssignmentsRow.mapsOut==Tryz.pinned.checked.prog.mapsAmong Tryz.f4.resultTypes.toList))=true:=by kernel_rfl
theorem zu:(Tryz.f4.resultTypes.all (λt=>Tryz.pinned.checked.prog.readableRec t&&decide (t < Tryz.pinned.checked.prog.types.size)))=true:=by kernel_rfl
theorem zp:(Rows.wholeAssignmentsRow.shortTexts.isNone)=true:=by kernel_rfl
theorem zl:((Tryz.pinned.checked.prog.make==some Rows.wholeAssignmentsRow.make))=true:=by kernel_rfl
theorem zh:(Rows.wholeAssignmentsRow.veiledFits Tryz.pinned.checked.prog Tryz.f4.params.toList (Tryz.f4.params.toList++(OpenSpec.ofChange Rows.wholeAssignmentsSpec).bare.plain.varTypes Tryz.pinned.checked.prog++Tryz.f4.resultTypes.toList))=true:=by kernel_rfl
end Go.Proofs.YtofjmkmjdaccgaaGreatDoor

namespace Go.Proofs.YtofjmkmjdaccgaaGreatDoor
open Go Go.ChangeShapes Go.WideShapes Go.ChangeAt Go.RowKit
theorem an4 {a b:Bool} (h1:a=true) (h2:b=true):(a&&b)=true:=by rw [h1,h2];rfl
set_option maxRecDepth 1000000 in
theorem Ec:joinedFacts Tryz.pinned.checked.prog 4 Tryz.f4 (OpenSpec.ofChange Rows.wholeAssignmentsSpec).bare Rows.wholeAssignmentsRow=true:=by
 unfold joinedFacts
 exact (an4 (an4 (an4 (an4 (an4 (an4 (an4 (an4 (an4 (an4 (an4 (an4 (an4 (an4 (an4 (an4 (an4 (an4 (an4 (an4 (an4 (an4 (an4 (an4 (an4 (an4 (an4 (an4 (an4 (an4 (an4 BP BO) BN) BM) BL) BK) BJ) BI) BH) BG) zE) zD) zC) zB) zA) zz) zy) zx) zw) zu) zt) zr) zq) zp) zo) zn) zm) zl) zk) zj) zi) zh)
end Go.Proofs.YtofjmkmjdaccgaaGreatDoor
