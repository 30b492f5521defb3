/- ShapeFronts: whatever bytes the draw starts from and whatever numbers there are, the first elements of the lists of a changed environment that is well-formed are well-formed. Conditions: those of the given row and of the given tie, no others. -/
import Derived.Test.YtpkipeakklpadaaGreatDoorX9
import Derived.Test.YtpkipeakklpadaaGreatDoorX8
import Derived.Test.YtpkipeakklpadaaGreatDoorCards
import Derived.Test.YtpkipeakklpadaaGreatDoorTie
set_option linter.unusedVariables false
set_option linter.unusedSimpArgs false
namespace Go.Proofs.YtpkipeakklpadaaGreatDoor
open Go Go.ChangeShapes Go.WideShapes Go.ChangeAt Go.RowKit Go.Deep Go.Ab Go.T Go.SH
theorem L7:Tryz.pinned.checked.prog.funcNamed Rows.shapeFrontsRow.func=some 4:=by kernel_rfl
theorem Ol:Tryz.f4.isInstance Tryz.pinned.checked.prog Rows.shapeFrontsRow.origin Rows.shapeFrontsRow.targs:=of_decide_eq_true (by kernel_rfl)
theorem Nv:Tryz.f4.isWrapper Tryz.pinned.checked.prog Rows.shapeFrontsRow.wrapper Rows.shapeFrontsRow.mainSum:=by
 unfold Func.isWrapper;first | (rw [if_pos (by decide +kernel)];kernel_rfl) | (rw [if_neg (by decide +kernel)];exact ⟨rfl,rfl⟩)
theorem BN:Rows.ShapeFrontsSaid:=
 OpenClaim.holds_of_cond 4 Tryz.f4 rfl rfl rfl rfl rfl rfl rfl ⟨rfl,rfl,rfl,rfl,rfl⟩ rfl rfl rfl rfl rfl L7 Tryz.func4 Mr Ol Nv
  (λos started H enc _ F=>by rw [OpenClaim.pre_eq_preRow];exact J5 os started H enc F)
theorem LD (f:FuncId) (fn:Func) (hf:Tryz.pinned.checked.prog.funcNamed "flagstone/flagstonelaw6.ShapeFronts"=some f) (hfn:Tryz.pinned.checked.prog.funcs[f]?=some fn) :
  true=Tryz.pinned.checked.prog.looks []/\∀ (j:Nat) t,fn.params[j]?=some t->Tryz.pinned.checked.prog.wantsStandIn t=false:=by
 obtain rfl:f=4:=Option.some.inj ((show Tryz.prog.funcNamed "flagstone/flagstonelaw6.ShapeFronts"=some 4 by kernel_rfl).symm.trans hf) |>.symm
 obtain rfl:fn=Tryz.f4:=(Option.some.inj (Tryz.func4.symm.trans hfn)).symm
 refine ⟨by kernel_rfl,λj t ht=>?_⟩
 rw [Tryz.params4] at ht
 have hm:t∈[22,3,3,3,3]:=by simpa using Array.mem_of_getElem? ht
 have hall:([22,3,3,3,3].all λu=>!Tryz.prog.wantsStandIn u)=true:=by kernel_rfl
 exact (show Tryz.prog.wantsStandIn t=false by simpa using List.all_eq_true.1 hall t hm)
theorem x_holds:Rows.ShapeFrontsCardSaid:=
 Claim7.holds_tied_plain_at .later [] _ _ _ _ BN (λ_ h=>by cases h) (by kernel_rfl) (λ_ h=>by cases h) shapeFronts_row_tie rfl ⟨rfl,rfl⟩ (by kernel_rfl) rfl LD (by kernel_rfl)
end Go.Proofs.YtpkipeakklpadaaGreatDoor
