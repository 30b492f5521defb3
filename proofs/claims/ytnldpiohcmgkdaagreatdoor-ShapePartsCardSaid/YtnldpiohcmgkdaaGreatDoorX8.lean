/- ShapeParts: the row's reading, its witness, the call. -/
import Derived.Test.YtnldpiohcmgkdaaGreatDoorX7
import Derived.ProofKit
import Derived.Lay
import Derived.LaidOnce
import Derived.OpenShut
import Derived.Below
import Derived.ChangeOld
import Derived.SevenTiedAt
import Derived.Deep.DeepHandedRow
import Derived.Deep.DeepWitnessRowRef
namespace Go.Proofs.YtnldpiohcmgkdaaGreatDoor
open Go Go.ChangeShapes Go.WideShapes Go.ChangeAt Go.RowKit Go.Deep Go.Ab Go.SH

theorem own9 : ownKnob Tryz.prog.godebug = none := by kernel_rfl
theorem laidOut9 : laidOutB Tryz.prog = true := by kernel_rfl
def zArgs9 : Array Value := #[.slice none 0 0, .int .i64 0, .int .i64 0]
abbrev lds9 : List (String × DataW Unit) := Rows.shapePartsRow.laid
theorem plainH9 (w : World) : laidMetH Tryz.prog lds9 w = laidMet Tryz.prog lds9 w := MakeChecks.laidMetH_plain _ _ _ (by kernel_rfl)
noncomputable def wit9 (os : Os) : World := World.laidAll Tryz.prog os lds9
theorem laid_met9 (os : Os) : laidMet Tryz.prog lds9 ((wit9 os).forCall (fun _ _ => 0) ⟨#[], zArgs9, []⟩).memory := laidMet_laidAll _ (by kernel_rfl) (by kernel_rfl)
set_option maxRecDepth 100000 in
theorem witness_row9 (os : Os) {H : Type} (enc : TypeId × Value → H) :
    (OpenSpec.ofChange Rows.shapePartsSpec).preRow enc Tryz.prog Tryz.f9 Rows.shapePartsRow.domain false lds9 ((wit9 os).forCall (fun _ _ => 0) ⟨#[], zArgs9, []⟩).memory zArgs9 := by
  have hw : (DataW.whole enc Tryz.prog ((wit9 os).forCall (fun _ _ => 0) ⟨#[], zArgs9, []⟩).memory Tryz.f9.params.toList (OpenSpec.ofChange Rows.shapePartsSpec).vars false zArgs9.toList 12).map (fun x => (x.1, x.2.1)) = some
      ([.nil, .lit (.int .i64 0), .lit (.int .i64 0)], []) := by kernel_rfl
  obtain ⟨⟨x1, x2, x3⟩, hx, hx1⟩ := Option.map_eq_some_iff.1 hw
  simp only [Prod.mk.injEq] at hx1
  obtain ⟨rfl, rfl⟩ := hx1
  exact OpenSpec.preRow_of_cond 12 hx (by kernel_rfl) (fun k hk => by cases hk) (by kernel_rfl) (laid_met9 os)
set_option maxRecDepth 100000 in
theorem lifted9 (os : Os) (started : os.Started) (H : Type) (enc : TypeId × Value → H) (F : Stop.Interp) :
    ReturnsInHanded {} Tryz.checked os 9 .any ((OpenSpec.ofChange Rows.shapePartsSpec).preRow enc Tryz.prog Tryz.f9 Rows.shapePartsRow.domain false lds9) (((OpenSpec.ofChange Rows.shapePartsSpec).at F).post enc Tryz.prog Tryz.f9 false true false false) := by
  refine returnsInHanded_of_row (C := Tryz.checked) (s := OpenSpec.ofChange Rows.shapePartsSpec) own9 started (by kernel_rfl) Tryz.func9
    (witness_row_atRef (enc := enc) (C := Tryz.checked) false (wit9 os) zArgs9 (World.laidAll_os _ _ _) (by kernel_rfl) (by kernel_rfl) (by kernel_rfl) (witness_row9 os enc)) ?_
  intro W base args ds gs before hval0 hW _ _ _ hL hO _
  have hval : ∀ (j : Nat) t v, Tryz.f9.params[j]? = some t → args[j]? = some v → Value.okWide Tryz.prog W .any base t v := hval0
  have hW' := hW
  obtain ⟨p, q, hA0, hV, rfl, _, _⟩ := hW
  have hA : DataW.TrodAll enc Tryz.prog W 0 (fun _ => true) true Tryz.f9.params.toList args.toList ds p := hA0
  rw [Tryz.params9] at hA hval
  obtain ⟨v0, vs0, d0, ds0, p0, q0, hargs, rfl, rfl, h0, r0⟩ := trodAll_cons hA
  obtain ⟨v1, vs1, d1, ds1, p1, q1, rfl, rfl, rfl, h1, r1⟩ := trodAll_cons r0
  obtain ⟨v2, vs2, d2, ds2, p2, q2, rfl, rfl, rfl, h2, r2⟩ := trodAll_cons r1
  obtain ⟨rfl, rfl, rfl⟩ := trodAll_nil r2
  obtain rfl : args = #[v0, v1, v2] := by cases args; simp_all
  obtain ⟨rfl, rfl⟩ := trodVars_none hV
  have lt0 : ∀ x ∈ p0, x.block < W.heap.size := by obtain ⟨m, hm⟩ := h0; exact DataW.trod_lt m _ _ _ hm
  obtain ⟨l, ol, rl, kl⟩ := slice_rep Tryz.underlying26 (hval 0 26 v0 rfl rfl) h0 (N := bulkD d0) rdBytes (Nat.le_refl _)
  obtain ⟨a, rfl, rfl, rfl, wa⟩ := open_int Tryz.underlying3 (hval 1 3 v1 rfl rfl) h1
  obtain ⟨b, rfl, rfl, rfl, wb⟩ := open_int Tryz.underlying3 (hval 2 3 v2 rfl rfl) h2
  have hL' : laidMet Tryz.prog lds9 W := by rw [← plainH9]; exact hL
  have hG := globs2_of hL' hO (by simp [lds9, Rows.shapePartsRow]) (by simp [lds9, Rows.shapePartsRow]) (by simp [lds9, Rows.shapePartsRow]) (by simp [lds9, Rows.shapePartsRow]) (by simp [lds9, Rows.shapePartsRow]) (by simp [lds9, Rows.shapePartsRow]) (by simp [lds9, Rows.shapePartsRow]) (by simp [lds9, Rows.shapePartsRow])
  have hct := sparts_ok (n := l.length) (g := fun j => l.getD j 0) (fun j hj => by
    rw [List.getD_eq_getElem?_getD, List.getElem?_eq_getElem hj]; exact ol _ (List.getElem_mem hj)) a b
  have hstand : Stand W [byteS l, .int .i64 a, .int .i64 b] [v0, .int .i64 a, .int .i64 b] := ⟨⟨rl, kl⟩, ⟨.int _ _, rfl⟩, ⟨.int _ _, rfl⟩, trivial⟩
  refine (calls_true_of hG hct hstand).mono fun e W' ⟨he, bel⟩ => ?_
  subst he
  exact ⟨_, rfl, _, _, _, [], _, [], hW', trodAll_mk1 (shut_bool Tryz.underlying4 _), (trodAll_cons_mk (Below.trod laidOut9 (by kernel_rfl) (of_decide_eq_true (by kernel_rfl)) h0 bel lt0) (trodAll_cons_mk (shut_int Tryz.underlying3 wa) (trodAll_cons_mk (shut_int Tryz.underlying3 wb) trodAll_mk0))), rfl, bel.frame _, fun h => by cases h⟩
end Go.Proofs.YtnldpiohcmgkdaaGreatDoor
