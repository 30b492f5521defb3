/- ShapeServes: for any Serve, codes and any number the law returns true, and its arguments read as before. Conditions: those of the given row and of the given tie, no others. -/
import Derived.Test.YtnldpiohcmgkdaaGreatDoorX8
namespace Go.Proofs.YtnldpiohcmgkdaaGreatDoor
open Go Go.ChangeShapes Go.WideShapes Go.ChangeAt Go.RowKit Go.Deep Go.Ab Go.SH
theorem named5 : Tryz.pinned.checked.prog.funcNamed Rows.shapeServesRow.func = some 5 := by kernel_rfl
theorem facts5 : joinedFacts Tryz.pinned.checked.prog 5 Tryz.f5 (OpenSpec.ofChange Rows.shapeServesSpec).bare Rows.shapeServesRow = true := by kernel_rfl
theorem inst5 : Tryz.f5.isInstance Tryz.pinned.checked.prog Rows.shapeServesRow.origin Rows.shapeServesRow.targs := of_decide_eq_true (by kernel_rfl)
theorem wrap5 : Tryz.f5.isWrapper Tryz.pinned.checked.prog Rows.shapeServesRow.wrapper Rows.shapeServesRow.mainSum := by
  unfold Func.isWrapper; first | (rw [if_pos (by decide +kernel)]; kernel_rfl) | (rw [if_neg (by decide +kernel)]; exact ⟨rfl, rfl⟩)
theorem row_holds5 : Rows.ShapeServesSaid :=
  OpenClaim.holds_of_cond 5 Tryz.f5 rfl rfl rfl rfl rfl rfl rfl ⟨rfl, rfl, rfl, rfl, rfl⟩ rfl rfl rfl rfl rfl named5 Tryz.func5 facts5 inst5 wrap5
    (fun os started H enc _ F => by rw [OpenClaim.pre_eq_preRow]; exact lifted5 os started H enc F)
theorem plain5 (f : FuncId) (fn : Func) (hf : Tryz.pinned.checked.prog.funcNamed "flagstone/flagstonelaw6.ShapeServes" = some f) (hfn : Tryz.pinned.checked.prog.funcs[f]? = some fn) :
    true = Tryz.pinned.checked.prog.looks [] ∧ ∀ (j : Nat) t, fn.params[j]? = some t → Tryz.pinned.checked.prog.wantsStandIn t = false := by
  obtain rfl : f = 5 := Option.some.inj ((show Tryz.prog.funcNamed "flagstone/flagstonelaw6.ShapeServes" = some 5 by kernel_rfl).symm.trans hf) |>.symm
  obtain rfl : fn = Tryz.f5 := (Option.some.inj (Tryz.func5.symm.trans hfn)).symm
  refine ⟨by kernel_rfl, fun j t ht => ?_⟩
  rw [Tryz.params5] at ht
  have hm : t ∈ [56, 26, 3] := by simpa using Array.mem_of_getElem? ht
  have hall : ([56, 26, 3].all fun u => !Tryz.prog.wantsStandIn u) = true := by kernel_rfl
  exact (show Tryz.prog.wantsStandIn t = false by simpa using List.all_eq_true.1 hall t hm)
theorem x_holds : Rows.ShapeServesCardSaid :=
  Claim7.holds_tied_plain_at .later [] _ _ _ _ row_holds5 (fun _ h => by cases h) (by kernel_rfl) (fun _ h => by cases h) shapeServes_row_tie rfl ⟨rfl, rfl⟩ (by kernel_rfl) rfl plain5 (by kernel_rfl)
end Go.Proofs.YtnldpiohcmgkdaaGreatDoor
