/- WholeDevices: two ids of one person are served alike by the flags of the experiments in which the person has a slot. Conditions: those of the given row and of the given tie, no others. -/
import Derived.Test.YtofjmkmjdaccgaaGreatDoorX9
import Derived.Test.YtofjmkmjdaccgaaGreatDoorX8
import Derived.Test.YtofjmkmjdaccgaaGreatDoorCards
import Derived.Test.YtofjmkmjdaccgaaGreatDoorTie
set_option linter.unusedVariables false
set_option linter.unusedSimpArgs false
namespace Go.Proofs.YtofjmkmjdaccgaaGreatDoor
open Go Go.ChangeShapes Go.WideShapes Go.ChangeAt Go.RowKit Go.Deep Go.Ab Go.WF
theorem zV:Tryz.pinned.checked.prog.funcNamed Rows.wholeDevicesRow.func=some 3:=by kernel_rfl
theorem CE:Tryz.f3.isInstance Tryz.pinned.checked.prog Rows.wholeDevicesRow.origin Rows.wholeDevicesRow.targs:=of_decide_eq_true (by kernel_rfl)
theorem Bg:Tryz.f3.isWrapper Tryz.pinned.checked.prog Rows.wholeDevicesRow.wrapper Rows.wholeDevicesRow.mainSum:=by
 unfold Func.isWrapper;first | (rw [if_pos (by decide +kernel)];kernel_rfl) | (rw [if_neg (by decide +kernel)];exact ⟨rfl,rfl⟩)
theorem sI:Rows.WholeDevicesSaid:=
 OpenClaim.holds_of_cond 3 Tryz.f3 rfl rfl rfl rfl rfl rfl rfl ⟨rfl,rfl,rfl,rfl,rfl⟩ rfl rfl rfl rfl rfl zV Tryz.func3 Am CE Bg
  (λos started H enc _ F=>by rw [OpenClaim.pre_eq_preRow];exact x9 os started H enc F)
theorem zM (f:FuncId) (fn:Func) (hf:Tryz.pinned.checked.prog.funcNamed "flagstone/flagstonewhole.WholeDevices"=some f) (hfn:Tryz.pinned.checked.prog.funcs[f]?=some fn) :
  true=Tryz.pinned.checked.prog.looks []/\∀ (j:Nat) t,fn.params[j]?=some t->Tryz.pinned.checked.prog.wantsStandIn t=false:=by
 obtain rfl:f=3:=Option.some.inj ((show Tryz.prog.funcNamed "flagstone/flagstonewhole.WholeDevices"=some 3 by kernel_rfl).symm.trans hf) |>.symm
 obtain rfl:fn=Tryz.f3:=(Option.some.inj (Tryz.func3.symm.trans hfn)).symm
 refine ⟨by kernel_rfl,λj t ht=>?_⟩
 rw [Tryz.params3] at ht
 have hm:t∈[24,5,25,5,5]:=by simpa using Array.mem_of_getElem? ht
 have hall:([24,5,25,5,5].all λu=>!Tryz.prog.wantsStandIn u)=true:=by kernel_rfl
 exact (show Tryz.prog.wantsStandIn t=false by simpa using List.all_eq_true.1 hall t hm)
theorem x_holds:Rows.WholeDevicesCardSaid:=
 Claim7.holds_tied_plain_at .later [] _ _ _ _ sI (λ_ h=>by cases h) (by kernel_rfl) (λ_ h=>by cases h) wholeDevices_row_tie rfl ⟨rfl,rfl⟩ (by kernel_rfl) rfl zM (by kernel_rfl)
end Go.Proofs.YtofjmkmjdaccgaaGreatDoor
