/- EncodeDistinct: whatever bytes the draws start from, two well-formed environments have the same encoding exactly if they are equal. Conditions: those of the given row and of the given tie, no others. -/
import Derived.Test.YtkmecnnkfpfjiaaGreatDoorX11
import Derived.Test.YtkmecnnkfpfjiaaGreatDoorX10
import Derived.Test.YtkmecnnkfpfjiaaGreatDoorCards
import Derived.Test.YtkmecnnkfpfjiaaGreatDoorTie
set_option linter.unusedVariables false
set_option linter.unusedSimpArgs false
namespace Go.Proofs.YtkmecnnkfpfjiaaGreatDoor
open Go Go.ChangeShapes Go.WideShapes Go.ChangeAt Go.RowKit Go.Deep Go.Ab Go.T Go.SH
theorem Q4:Tryz.pinned.checked.prog.funcNamed Rows.encodeDistinctRow.func=some 3:=by kernel_rfl
theorem TR:Tryz.f3.isInstance Tryz.pinned.checked.prog Rows.encodeDistinctRow.origin Rows.encodeDistinctRow.targs:=of_decide_eq_true (by kernel_rfl)
theorem S6:Tryz.f3.isWrapper Tryz.pinned.checked.prog Rows.encodeDistinctRow.wrapper Rows.encodeDistinctRow.mainSum:=by
 unfold Func.isWrapper;first | (rw [if_pos (by decide +kernel)];kernel_rfl) | (rw [if_neg (by decide +kernel)];exact ⟨rfl,rfl⟩)
theorem EM:Rows.EncodeDistinctSaid:=
 OpenClaim.holds_of_cond 3 Tryz.f3 rfl rfl rfl rfl rfl rfl rfl ⟨rfl,rfl,rfl,rfl,rfl⟩ rfl rfl rfl rfl rfl Q4 Tryz.func3 Rs TR S6
  (λos started H enc _ F=>by rw [OpenClaim.pre_eq_preRow];exact Om os started H enc F)
theorem Qz (f:FuncId) (fn:Func) (hf:Tryz.pinned.checked.prog.funcNamed "flagstone/flagstonelaw20.EncodeDistinct"=some f) (hfn:Tryz.pinned.checked.prog.funcs[f]?=some fn) :
  true=Tryz.pinned.checked.prog.looks []/\∀ (j:Nat) t,fn.params[j]?=some t->Tryz.pinned.checked.prog.wantsStandIn t=false:=by
 obtain rfl:f=3:=Option.some.inj ((show Tryz.prog.funcNamed "flagstone/flagstonelaw20.EncodeDistinct"=some 3 by kernel_rfl).symm.trans hf) |>.symm
 obtain rfl:fn=Tryz.f3:=(Option.some.inj (Tryz.func3.symm.trans hfn)).symm
 refine ⟨by kernel_rfl,λj t ht=>?_⟩
 rw [Tryz.params3] at ht
 have hm:t∈[22,22,4]:=by simpa using Array.mem_of_getElem? ht
 have hall:([22,22,4].all λu=>!Tryz.prog.wantsStandIn u)=true:=by kernel_rfl
 exact (show Tryz.prog.wantsStandIn t=false by simpa using List.all_eq_true.1 hall t hm)
theorem x_holds:Rows.EncodeDistinctCardSaid:=
 Claim7.holds_tied_plain_at .later [] _ _ _ _ EM (λ_ h=>by cases h) (by kernel_rfl) (λ_ h=>by cases h) encodeDistinct_row_tie rfl ⟨rfl,rfl⟩ (by kernel_rfl) rfl Qz (by kernel_rfl)
end Go.Proofs.YtkmecnnkfpfjiaaGreatDoor
