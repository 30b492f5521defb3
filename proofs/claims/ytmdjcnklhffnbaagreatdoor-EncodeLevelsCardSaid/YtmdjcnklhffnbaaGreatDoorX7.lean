/- EncodeLevels: the row's reading, its witness, the call. -/
import Derived.Test.YtmdjcnklhffnbaaGreatDoorX6
import Derived.ProofKit
import Derived.Lay
import Derived.LaidOnce
import Derived.OpenShut
import Derived.Below
import Derived.ChangeOld
import Derived.SevenTiedAt
import Derived.Deep.DeepHandedRow
import Derived.Deep.DeepWitnessRowRef
namespace Go.Proofs.YtmdjcnklhffnbaaGreatDoor
open Go Go.ChangeShapes Go.WideShapes Go.ChangeAt Go.RowKit Go.Ab Go.TE

theorem own3 : ownKnob Tryz.prog.godebug = none := by kernel_rfl
theorem laidOut3 : laidOutB Tryz.prog = true := by kernel_rfl
def zArgs3 : Array Value := #[.int .i64 0]
abbrev lds3 : List (String × DataW Unit) := Rows.encodeLevelsRow.laid
theorem plainH3 (w : World) : laidMetH Tryz.prog lds3 w = laidMet Tryz.prog lds3 w := MakeChecks.laidMetH_plain _ _ _ (by kernel_rfl)
noncomputable def wit3 (os : Os) : World := World.laidAll Tryz.prog os lds3
theorem laid_met3 (os : Os) : laidMet Tryz.prog lds3 ((wit3 os).forCall (fun _ _ => 0) ⟨#[], zArgs3, []⟩).memory := laidMet_laidAll _ (by kernel_rfl) (by kernel_rfl)
set_option maxRecDepth 100000 in
theorem witness_row3 (os : Os) {H : Type} (enc : TypeId × Value → H) :
    (OpenSpec.ofChange Rows.encodeLevelsSpec).preRow enc Tryz.prog Tryz.f3 Rows.encodeLevelsRow.domain false lds3 ((wit3 os).forCall (fun _ _ => 0) ⟨#[], zArgs3, []⟩).memory zArgs3 := by
  have hw : (DataW.whole enc Tryz.prog ((wit3 os).forCall (fun _ _ => 0) ⟨#[], zArgs3, []⟩).memory Tryz.f3.params.toList (OpenSpec.ofChange Rows.encodeLevelsSpec).vars false zArgs3.toList 12).map (fun x => (x.1, x.2.1)) = some
      ([.lit (.int .i64 0)], []) := by kernel_rfl
  obtain ⟨⟨x1, x2, x3⟩, hx, hx1⟩ := Option.map_eq_some_iff.1 hw
  simp only [Prod.mk.injEq] at hx1
  obtain ⟨rfl, rfl⟩ := hx1
  exact OpenSpec.preRow_of_cond 12 hx (by kernel_rfl) (fun k hk => by cases hk) (by kernel_rfl) (laid_met3 os)
set_option maxRecDepth 100000 in
theorem lifted3 (os : Os) (started : os.Started) (H : Type) (enc : TypeId × Value → H) (F : Stop.Interp) :
    ReturnsInHanded {} Tryz.checked os 3 .any ((OpenSpec.ofChange Rows.encodeLevelsSpec).preRow enc Tryz.prog Tryz.f3 Rows.encodeLevelsRow.domain false lds3) (((OpenSpec.ofChange Rows.encodeLevelsSpec).at F).post enc Tryz.prog Tryz.f3 false true false false) := by
  refine returnsInHanded_of_row (C := Tryz.checked) (s := OpenSpec.ofChange Rows.encodeLevelsSpec) own3 started (by kernel_rfl) Tryz.func3
    (witness_row_atRef (enc := enc) (C := Tryz.checked) false (wit3 os) zArgs3 (World.laidAll_os _ _ _) (by kernel_rfl) (by kernel_rfl) (by kernel_rfl) (witness_row3 os enc)) ?_
  intro W base args ds gs before hval0 hW _ _ _ hL hO _
  have hval : ∀ (j : Nat) t v, Tryz.f3.params[j]? = some t → args[j]? = some v → Value.okWide Tryz.prog W .any base t v := hval0
  have hW' := hW
  obtain ⟨p, q, hA0, hV, rfl, _, _⟩ := hW
  have hA : DataW.TrodAll enc Tryz.prog W 0 (fun _ => true) true Tryz.f3.params.toList args.toList ds p := hA0
  rw [Tryz.params3] at hA hval
  obtain ⟨v0, vs0, d0, ds0, p0, q0, hargs, rfl, rfl, h0, r0⟩ := trodAll_cons hA
  obtain ⟨rfl, rfl, rfl⟩ := trodAll_nil r0
  obtain rfl : args = #[v0] := by cases args; simp_all
  obtain ⟨rfl, rfl⟩ := trodVars_none hV
  obtain ⟨a0, rfl, rfl, rfl, wa0⟩ := open_int Tryz.underlying3 (hval 0 3 v0 rfl rfl) h0
  have hL' : laidMet Tryz.prog lds3 W := by rw [← plainH3]; exact hL
  have hct := levels_ex a0
  have hstand : Stand W [.int .i64 a0] [.int .i64 a0] := ⟨⟨.int _ _, rfl⟩, trivial⟩
  refine (calls_true_of (fun _ _ h => by cases h) hct hstand).mono fun e W' ⟨he, bel⟩ => ?_
  subst he
  exact ⟨_, rfl, _, _, _, [], _, [], hW', trodAll_mk1 (shut_bool Tryz.underlying4 _), (trodAll_cons_mk (shut_int Tryz.underlying3 wa0) trodAll_mk0), rfl, bel.frame _, fun h => by cases h⟩
end Go.Proofs.YtmdjcnklhffnbaaGreatDoor
