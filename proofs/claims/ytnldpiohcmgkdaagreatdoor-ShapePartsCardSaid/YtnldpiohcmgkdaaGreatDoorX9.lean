/- ShapeParts: for any codes and any two numbers the law returns true, and its arguments read as before. Conditions: those of the given row and of the given tie, no others. -/
import Derived.Test.YtnldpiohcmgkdaaGreatDoorX8
namespace Go.Proofs.YtnldpiohcmgkdaaGreatDoor
open Go Go.ChangeShapes Go.WideShapes Go.ChangeAt Go.RowKit Go.Deep Go.Ab Go.SH

theorem named9 : Tryz.pinned.checked.prog.funcNamed Rows.shapePartsRow.func = some 9 := by kernel_rfl
theorem facts9 : joinedFacts Tryz.pinned.checked.prog 9 Tryz.f9 (OpenSpec.ofChange Rows.shapePartsSpec).bare Rows.shapePartsRow = true := by kernel_rfl
theorem inst9 : Tryz.f9.isInstance Tryz.pinned.checked.prog Rows.shapePartsRow.origin Rows.shapePartsRow.targs := of_decide_eq_true (by kernel_rfl)
theorem wrap9 : Tryz.f9.isWrapper Tryz.pinned.checked.prog Rows.shapePartsRow.wrapper Rows.shapePartsRow.mainSum := by
  unfold Func.isWrapper; first | (rw [if_pos (by decide +kernel)]; kernel_rfl) | (rw [if_neg (by decide +kernel)]; exact ⟨rfl, rfl⟩)
theorem row_holds9 : Rows.ShapePartsSaid :=
  OpenClaim.holds_of_cond 9 Tryz.f9 rfl rfl rfl rfl rfl rfl rfl ⟨rfl, rfl, rfl, rfl, rfl⟩ rfl rfl rfl rfl rfl named9 Tryz.func9 facts9 inst9 wrap9
    (fun os started H enc _ F => by rw [OpenClaim.pre_eq_preRow]; exact lifted9 os started H enc F)

theorem plain9 (f : FuncId) (fn : Func) (hf : Tryz.pinned.checked.prog.funcNamed "flagstone/flagstonelaw6.ShapeParts" = some f) (hfn : Tryz.pinned.checked.prog.funcs[f]? = some fn) :
    true = Tryz.pinned.checked.prog.looks [] ∧ ∀ (j : Nat) t, fn.params[j]? = some t → Tryz.pinned.checked.prog.wantsStandIn t = false := by
  obtain rfl : f = 9 := Option.some.inj ((show Tryz.prog.funcNamed "flagstone/flagstonelaw6.ShapeParts" = some 9 by kernel_rfl).symm.trans hf) |>.symm
  obtain rfl : fn = Tryz.f9 := (Option.some.inj (Tryz.func9.symm.trans hfn)).symm
  refine ⟨by kernel_rfl, fun j t ht => ?_⟩
  rw [Tryz.params9] at ht
  have hm : t ∈ [26, 3, 3] := by simpa using Array.mem_of_getElem? ht
  have hall : ([26, 3, 3].all fun u => !Tryz.prog.wantsStandIn u) = true := by kernel_rfl
  exact (show Tryz.prog.wantsStandIn t = false by simpa using List.all_eq_true.1 hall t hm)

/-- The card. -/
theorem x_holds : Rows.ShapePartsCardSaid :=
  Claim7.holds_tied_plain_at .later [] _ _ _ _ row_holds9 (fun _ h => by cases h) (by kernel_rfl) (fun _ h => by cases h) shapeParts_row_tie rfl ⟨rfl, rfl⟩ (by kernel_rfl) rfl plain9 (by kernel_rfl)
end Go.Proofs.YtnldpiohcmgkdaaGreatDoor
