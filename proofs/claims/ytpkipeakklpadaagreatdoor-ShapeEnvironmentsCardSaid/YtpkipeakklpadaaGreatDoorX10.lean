/- ShapeEnvironments: whatever bytes the draw starts from, the shapes and the reference agree on the environment and on its spoilt copies. Conditions: those of the given row and of the given tie, no others. -/
import Derived.Test.YtpkipeakklpadaaGreatDoorX9
import Derived.Test.YtpkipeakklpadaaGreatDoorX8
import Derived.Test.YtpkipeakklpadaaGreatDoorCards
import Derived.Test.YtpkipeakklpadaaGreatDoorTie
set_option linter.unusedVariables false
set_option linter.unusedSimpArgs false
namespace Go.Proofs.YtpkipeakklpadaaGreatDoor
open Go Go.ChangeShapes Go.WideShapes Go.ChangeAt Go.RowKit Go.Deep Go.Ab Go.T Go.SH
theorem MB:Tryz.pinned.checked.prog.funcNamed Rows.shapeEnvironmentsRow.func=some 3:=by kernel_rfl
theorem OT:Tryz.f3.isInstance Tryz.pinned.checked.prog Rows.shapeEnvironmentsRow.origin Rows.shapeEnvironmentsRow.targs:=of_decide_eq_true (by kernel_rfl)
theorem Oa:Tryz.f3.isWrapper Tryz.pinned.checked.prog Rows.shapeEnvironmentsRow.wrapper Rows.shapeEnvironmentsRow.mainSum:=by
 unfold Func.isWrapper;first | (rw [if_pos (by decide +kernel)];kernel_rfl) | (rw [if_neg (by decide +kernel)];exact ⟨rfl,rfl⟩)
theorem Cs:Rows.ShapeEnvironmentsSaid:=
 OpenClaim.holds_of_cond 3 Tryz.f3 rfl rfl rfl rfl rfl rfl rfl ⟨rfl,rfl,rfl,rfl,rfl⟩ rfl rfl rfl rfl rfl MB Tryz.func3 MU OT Oa
  (λos started H enc _ F=>by rw [OpenClaim.pre_eq_preRow];exact KH os started H enc F)
theorem Me (f:FuncId) (fn:Func) (hf:Tryz.pinned.checked.prog.funcNamed "flagstone/flagstonelaw6.ShapeEnvironments"=some f) (hfn:Tryz.pinned.checked.prog.funcs[f]?=some fn) :
  true=Tryz.pinned.checked.prog.looks []/\∀ (j:Nat) t,fn.params[j]?=some t->Tryz.pinned.checked.prog.wantsStandIn t=false:=by
 obtain rfl:f=3:=Option.some.inj ((show Tryz.prog.funcNamed "flagstone/flagstonelaw6.ShapeEnvironments"=some 3 by kernel_rfl).symm.trans hf) |>.symm
 obtain rfl:fn=Tryz.f3:=(Option.some.inj (Tryz.func3.symm.trans hfn)).symm
 refine ⟨by kernel_rfl,λj t ht=>?_⟩
 rw [Tryz.params3] at ht
 have hm:t∈[22]:=by simpa using Array.mem_of_getElem? ht
 have hall:([22].all λu=>!Tryz.prog.wantsStandIn u)=true:=by kernel_rfl
 exact (show Tryz.prog.wantsStandIn t=false by simpa using List.all_eq_true.1 hall t hm)
theorem x_holds:Rows.ShapeEnvironmentsCardSaid:=
 Claim7.holds_tied_plain_at .later [] _ _ _ _ Cs (λ_ h=>by cases h) (by kernel_rfl) (λ_ h=>by cases h) shapeEnvironments_row_tie rfl ⟨rfl,rfl⟩ (by kernel_rfl) rfl Me (by kernel_rfl)
end Go.Proofs.YtpkipeakklpadaaGreatDoor
