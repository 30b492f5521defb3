/- ShapeSplits: for any ranges, spans, codes and any two numbers the law returns true, and its arguments read as before. Conditions: those of the given row and of the given tie, no others. -/
import Derived.Test.YtnldpiohcmgkdaaGreatDoorX7
namespace Go.Proofs.YtnldpiohcmgkdaaGreatDoor
open Go Go.ChangeShapes Go.WideShapes Go.ChangeAt Go.RowKit Go.Deep Go.Ab Go.SH
theorem named4 : Tryz.pinned.checked.prog.funcNamed Rows.shapeSplitsRow.func = some 4 := by kernel_rfl
theorem facts4 : joinedFacts Tryz.pinned.checked.prog 4 Tryz.f4 (OpenSpec.ofChange Rows.shapeSplitsSpec).bare Rows.shapeSplitsRow = true := by kernel_rfl
theorem inst4 : Tryz.f4.isInstance Tryz.pinned.checked.prog Rows.shapeSplitsRow.origin Rows.shapeSplitsRow.targs := of_decide_eq_true (by kernel_rfl)
theorem wrap4 : Tryz.f4.isWrapper Tryz.pinned.checked.prog Rows.shapeSplitsRow.wrapper Rows.shapeSplitsRow.mainSum := by
  unfold Func.isWrapper; first | (rw [if_pos (by decide +kernel)]; kernel_rfl) | (rw [if_neg (by decide +kernel)]; exact ⟨rfl, rfl⟩)
theorem row_holds4 : Rows.ShapeSplitsSaid :=
  OpenClaim.holds_of_cond 4 Tryz.f4 rfl rfl rfl rfl rfl rfl rfl ⟨rfl, rfl, rfl, rfl, rfl⟩ rfl rfl rfl rfl rfl named4 Tryz.func4 facts4 inst4 wrap4
    (fun os started H enc _ F => by rw [OpenClaim.pre_eq_preRow]; exact lifted4 os started H enc F)
theorem plain4 (f : FuncId) (fn : Func) (hf : Tryz.pinned.checked.prog.funcNamed "flagstone/flagstonelaw6.ShapeSplits" = some f) (hfn : Tryz.pinned.checked.prog.funcs[f]? = some fn) :
    true = Tryz.pinned.checked.prog.looks [] ∧ ∀ (j : Nat) t, fn.params[j]? = some t → Tryz.pinned.checked.prog.wantsStandIn t = false := by
  obtain rfl : f = 4 := Option.some.inj ((show Tryz.prog.funcNamed "flagstone/flagstonelaw6.ShapeSplits" = some 4 by kernel_rfl).symm.trans hf) |>.symm
  obtain rfl : fn = Tryz.f4 := (Option.some.inj (Tryz.func4.symm.trans hfn)).symm
  refine ⟨by kernel_rfl, fun j t ht => ?_⟩
  rw [Tryz.params4] at ht
  have hm : t ∈ [37, 38, 26, 3, 3] := by simpa using Array.mem_of_getElem? ht
  have hall : ([37, 38, 26, 3, 3].all fun u => !Tryz.prog.wantsStandIn u) = true := by kernel_rfl
  exact (show Tryz.prog.wantsStandIn t = false by simpa using List.all_eq_true.1 hall t hm)
theorem x_holds : Rows.ShapeSplitsCardSaid :=
  Claim7.holds_tied_plain_at .later [] _ _ _ _ row_holds4 (fun _ h => by cases h) (by kernel_rfl) (fun _ h => by cases h) shapeSplits_row_tie rfl ⟨rfl, rfl⟩ (by kernel_rfl) rfl plain4 (by kernel_rfl)
end Go.Proofs.YtnldpiohcmgkdaaGreatDoor
