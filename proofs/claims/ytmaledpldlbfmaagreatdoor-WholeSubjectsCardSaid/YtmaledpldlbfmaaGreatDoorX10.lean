/- WholeSubjects: at every time the register's links and the events' links connect the same ids. Conditions: those of the given row and of the given tie, no others. -/
import Derived.Test.YtmaledpldlbfmaaGreatDoorX9
import Derived.Test.YtmaledpldlbfmaaGreatDoorX8
import Derived.Test.YtmaledpldlbfmaaGreatDoorCards
import Derived.Test.YtmaledpldlbfmaaGreatDoorTie
set_option linter.unusedVariables false
set_option linter.unusedSimpArgs false
namespace Go.Proofs.YtmaledpldlbfmaaGreatDoor
open Go Go.ChangeShapes Go.WideShapes Go.ChangeAt Go.RowKit Go.Deep Go.Ab Go.WF
theorem yB:Tryz.pinned.checked.prog.funcNamed Rows.wholeSubjectsRow.func=some 5:=by kernel_rfl
theorem AY:Tryz.f5.isInstance Tryz.pinned.checked.prog Rows.wholeSubjectsRow.origin Rows.wholeSubjectsRow.targs:=of_decide_eq_true (by kernel_rfl)
theorem zt:Tryz.f5.isWrapper Tryz.pinned.checked.prog Rows.wholeSubjectsRow.wrapper Rows.wholeSubjectsRow.mainSum:=by
 unfold Func.isWrapper;first | (rw [if_pos (by decide +kernel)];kernel_rfl) | (rw [if_neg (by decide +kernel)];exact ⟨rfl,rfl⟩)
theorem rK:Rows.WholeSubjectsSaid:=
 OpenClaim.holds_of_cond 5 Tryz.f5 rfl rfl rfl rfl rfl rfl rfl ⟨rfl,rfl,rfl,rfl,rfl⟩ rfl rfl rfl rfl rfl yB Tryz.func5 yP AY zt
  (λos started H enc _ F=>by rw [OpenClaim.pre_eq_preRow];exact w8 os started H enc F)
theorem yx (f:FuncId) (fn:Func) (hf:Tryz.pinned.checked.prog.funcNamed "flagstone/flagstonewhole.WholeSubjects"=some f) (hfn:Tryz.pinned.checked.prog.funcs[f]?=some fn) :
  true=Tryz.pinned.checked.prog.looks []/\∀ (j:Nat) t,fn.params[j]?=some t->Tryz.pinned.checked.prog.wantsStandIn t=false:=by
 obtain rfl:f=5:=Option.some.inj ((show Tryz.prog.funcNamed "flagstone/flagstonewhole.WholeSubjects"=some 5 by kernel_rfl).symm.trans hf) |>.symm
 obtain rfl:fn=Tryz.f5:=(Option.some.inj (Tryz.func5.symm.trans hfn)).symm
 refine ⟨by kernel_rfl,λj t ht=>?_⟩
 rw [Tryz.params5] at ht
 have hm:t∈[66,67,5,5,5]:=by simpa using Array.mem_of_getElem? ht
 have hall:([66,67,5,5,5].all λu=>!Tryz.prog.wantsStandIn u)=true:=by kernel_rfl
 exact (show Tryz.prog.wantsStandIn t=false by simpa using List.all_eq_true.1 hall t hm)
theorem x_holds:Rows.WholeSubjectsCardSaid:=
 Claim7.holds_tied_plain_at .later [] _ _ _ _ rK (λ_ h=>by cases h) (by kernel_rfl) (λ_ h=>by cases h) wholeSubjects_row_tie rfl ⟨rfl,rfl⟩ (by kernel_rfl) rfl yx (by kernel_rfl)
end Go.Proofs.YtmaledpldlbfmaaGreatDoor
