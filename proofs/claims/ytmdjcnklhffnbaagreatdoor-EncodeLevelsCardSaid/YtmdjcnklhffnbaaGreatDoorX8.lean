/- EncodeLevels: changes with conditions of up to a hundred levels are read, and with more are not. Conditions: those of the given row and of the given tie, no others. -/
import Derived.Test.YtmdjcnklhffnbaaGreatDoorX7
import Derived.Test.YtmdjcnklhffnbaaGreatDoorCards
import Derived.Test.YtmdjcnklhffnbaaGreatDoorTie
namespace Go.Proofs.YtmdjcnklhffnbaaGreatDoor
open Go Go.ChangeShapes Go.WideShapes Go.ChangeAt Go.RowKit Go.Ab Go.TE

theorem named3 : Tryz.pinned.checked.prog.funcNamed Rows.encodeLevelsRow.func = some 3 := by kernel_rfl
theorem facts3 : joinedFacts Tryz.pinned.checked.prog 3 Tryz.f3 (OpenSpec.ofChange Rows.encodeLevelsSpec).bare Rows.encodeLevelsRow = true := by kernel_rfl
theorem inst3 : Tryz.f3.isInstance Tryz.pinned.checked.prog Rows.encodeLevelsRow.origin Rows.encodeLevelsRow.targs := of_decide_eq_true (by kernel_rfl)
theorem wrap3 : Tryz.f3.isWrapper Tryz.pinned.checked.prog Rows.encodeLevelsRow.wrapper Rows.encodeLevelsRow.mainSum := by
  unfold Func.isWrapper; first | (rw [if_pos (by decide +kernel)]; kernel_rfl) | (rw [if_neg (by decide +kernel)]; exact ⟨rfl, rfl⟩)
theorem row_holds3 : Rows.EncodeLevelsSaid :=
  OpenClaim.holds_of_cond 3 Tryz.f3 rfl rfl rfl rfl rfl rfl rfl ⟨rfl, rfl, rfl, rfl, rfl⟩ rfl rfl rfl rfl rfl named3 Tryz.func3 facts3 inst3 wrap3
    (fun os started H enc _ F => by rw [OpenClaim.pre_eq_preRow]; exact lifted3 os started H enc F)

theorem plain3 (f : FuncId) (fn : Func) (hf : Tryz.pinned.checked.prog.funcNamed "flagstone/flagstonelaw20.EncodeLevels" = some f) (hfn : Tryz.pinned.checked.prog.funcs[f]? = some fn) :
    true = Tryz.pinned.checked.prog.looks [] ∧ ∀ (j : Nat) t, fn.params[j]? = some t → Tryz.pinned.checked.prog.wantsStandIn t = false := by
  obtain rfl : f = 3 := Option.some.inj ((show Tryz.prog.funcNamed "flagstone/flagstonelaw20.EncodeLevels" = some 3 by kernel_rfl).symm.trans hf) |>.symm
  obtain rfl : fn = Tryz.f3 := (Option.some.inj (Tryz.func3.symm.trans hfn)).symm
  refine ⟨by kernel_rfl, fun j t ht => ?_⟩
  rw [Tryz.params3] at ht
  have hm : t ∈ [3] := by simpa using Array.mem_of_getElem? ht
  have hall : ([3].all fun u => !Tryz.prog.wantsStandIn u) = true := by kernel_rfl
  exact (show Tryz.prog.wantsStandIn t = false by simpa using List.all_eq_true.1 hall t hm)

/-- The card. -/
theorem x_holds : Rows.EncodeLevelsCardSaid :=
  Claim7.holds_tied_plain_at .later [] _ _ _ _ row_holds3 (fun _ h => by cases h) (by kernel_rfl) (fun _ h => by cases h) encodeLevels_row_tie rfl ⟨rfl, rfl⟩ (by kernel_rfl) rfl plain3 (by kernel_rfl)
end Go.Proofs.YtmdjcnklhffnbaaGreatDoor
