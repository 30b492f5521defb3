/- WholeAssignments: identity merges change no treatment. Conditions: those of the given row and of the given tie, no others. -/
import Derived.Test.YtofjmkmjdaccgaaGreatDoorX11
import Derived.Test.YtofjmkmjdaccgaaGreatDoorX10
import Derived.Test.YtofjmkmjdaccgaaGreatDoorCards
import Derived.Test.YtofjmkmjdaccgaaGreatDoorTie
set_option linter.unusedVariables false
set_option linter.unusedSimpArgs false
namespace Go.Proofs.YtofjmkmjdaccgaaGreatDoor
open Go Go.ChangeShapes Go.WideShapes Go.ChangeAt Go.RowKit Go.Deep Go.Ab Go.WF
theorem Dx:Tryz.pinned.checked.prog.funcNamed Rows.wholeAssignmentsRow.func=some 4:=by kernel_rfl
theorem HB:Tryz.f4.isInstance Tryz.pinned.checked.prog Rows.wholeAssignmentsRow.origin Rows.wholeAssignmentsRow.targs:=of_decide_eq_true (by kernel_rfl)
theorem Fc:Tryz.f4.isWrapper Tryz.pinned.checked.prog Rows.wholeAssignmentsRow.wrapper Rows.wholeAssignmentsRow.mainSum:=by
 unfold Func.isWrapper;first | (rw [if_pos (by decide +kernel)];kernel_rfl) | (rw [if_neg (by decide +kernel)];exact ⟨rfl,rfl⟩)
theorem u7:Rows.WholeAssignmentsSaid:=
 OpenClaim.holds_of_cond 4 Tryz.f4 rfl rfl rfl rfl rfl rfl rfl ⟨rfl,rfl,rfl,rfl,rfl⟩ rfl rfl rfl rfl rfl Dx Tryz.func4 Ec HB Fc
  (λos started H enc _ F=>by rw [OpenClaim.pre_eq_preRow];exact Bf os started H enc F)
theorem Dj (f:FuncId) (fn:Func) (hf:Tryz.pinned.checked.prog.funcNamed "flagstone/flagstonewhole.WholeAssignments"=some f) (hfn:Tryz.pinned.checked.prog.funcs[f]?=some fn) :
  true=Tryz.pinned.checked.prog.looks []/\∀ (j:Nat) t,fn.params[j]?=some t->Tryz.pinned.checked.prog.wantsStandIn t=false:=by
 obtain rfl:f=4:=Option.some.inj ((show Tryz.prog.funcNamed "flagstone/flagstonewhole.WholeAssignments"=some 4 by kernel_rfl).symm.trans hf) |>.symm
 obtain rfl:fn=Tryz.f4:=(Option.some.inj (Tryz.func4.symm.trans hfn)).symm
 refine ⟨by kernel_rfl,λj t ht=>?_⟩
 rw [Tryz.params4] at ht
 have hm:t∈[24,25]:=by simpa using Array.mem_of_getElem? ht
 have hall:([24,25].all λu=>!Tryz.prog.wantsStandIn u)=true:=by kernel_rfl
 exact (show Tryz.prog.wantsStandIn t=false by simpa using List.all_eq_true.1 hall t hm)
theorem x_holds:Rows.WholeAssignmentsCardSaid:=
 Claim7.holds_tied_plain_at .later [] _ _ _ _ u7 (λ_ h=>by cases h) (by kernel_rfl) (λ_ h=>by cases h) wholeAssignments_row_tie rfl ⟨rfl,rfl⟩ (by kernel_rfl) rfl Dj (by kernel_rfl)
end Go.Proofs.YtofjmkmjdaccgaaGreatDoor
