/- WholeEstimates: the mean of the scores without predictions is the difference of the means by the cap, and variances add up Conditions: those of the given row and of the given tie, no others. -/
import Derived.Test.YtnppjgeegmofjaaDoorX7
import Derived.Test.YtnppjgeegmofjaaDoorX6
import Derived.Test.YtnppjgeegmofjaaDoorCards
import Derived.Test.YtnppjgeegmofjaaDoorTie
set_option linter.unusedVariables false
set_option linter.unusedSimpArgs false
namespace Go.Proofs.YtnppjgeegmofjaaDoor
open Go Go.ChangeShapes Go.WideShapes Go.ChangeAt Go.RowKit Go.Ab Go.WE
theorem y6:Tryd.pinned.checked.prog.funcNamed Rows.wholeEstimatesRow.func=some 3:=by kernel_rfl
theorem BU:Tryd.f3.isInstance Tryd.pinned.checked.prog Rows.wholeEstimatesRow.origin Rows.wholeEstimatesRow.targs:=of_decide_eq_true (by kernel_rfl)
theorem AN:Tryd.f3.isWrapper Tryd.pinned.checked.prog Rows.wholeEstimatesRow.wrapper Rows.wholeEstimatesRow.mainSum:=by
 unfold Func.isWrapper;first | (rw [if_pos (by decide +kernel)];kernel_rfl) | (rw [if_neg (by decide +kernel)];exact ⟨rfl,rfl⟩)
theorem rb:Rows.WholeEstimatesSaid:=
 OpenClaim.holds_of_cond 3 Tryd.f3 rfl rfl rfl rfl rfl rfl rfl ⟨rfl,rfl,rfl,rfl,rfl⟩ rfl rfl rfl rfl rfl y6 Tryd.func3 zx BU AN
  (λos started H enc _ F=>by rw [OpenClaim.pre_eq_preRow];exact w0 os started H enc F)
theorem yW (f:FuncId) (fn:Func) (hf:Tryd.pinned.checked.prog.funcNamed "flagstone/flagstonewhole.WholeEstimates"=some f) (hfn:Tryd.pinned.checked.prog.funcs[f]?=some fn) :
  false=Tryd.pinned.checked.prog.looks []/\∀ (j:Nat) t,fn.params[j]?=some t->Tryd.pinned.checked.prog.wantsStandIn t=false:=by
 obtain rfl:f=3:=Option.some.inj ((show Tryd.prog.funcNamed "flagstone/flagstonewhole.WholeEstimates"=some 3 by kernel_rfl).symm.trans hf) |>.symm
 obtain rfl:fn=Tryd.f3:=(Option.some.inj (Tryd.func3.symm.trans hfn)).symm
 refine ⟨by kernel_rfl,λj t ht=>?_⟩
 rw [Tryd.params3] at ht
 have hm:t∈[22]:=by simpa using Array.mem_of_getElem? ht
 have hall:([22].all λu=>!Tryd.prog.wantsStandIn u)=true:=by kernel_rfl
 exact (show Tryd.prog.wantsStandIn t=false by simpa using List.all_eq_true.1 hall t hm)
theorem x_holds:Rows.WholeEstimatesCardSaid:=
 Claim7.holds_tied_plain_at .later [] _ _ _ _ rb (λ_ h=>by cases h) (by kernel_rfl) (λ_ h=>by cases h) wholeEstimates_row_tie rfl ⟨rfl,rfl⟩ (by kernel_rfl) rfl yW (by kernel_rfl)
end Go.Proofs.YtnppjgeegmofjaaDoor
