/- ShapeExprs: the row's reading, its witness, the call. -/
import Derived.Test.YtnldpiohcmgkdaaGreatDoorX7
import Derived.ProofKit
import Derived.Lay
import Derived.LaidOnce
import Derived.OpenShut
import Derived.Below
import Derived.ChangeOld
import Derived.SevenTiedAt
import Derived.Deep.DeepHandedRow
import Derived.Deep.DeepWitnessRowRef
namespace Go.Proofs.YtnldpiohcmgkdaaGreatDoor
open Go Go.ChangeShapes Go.WideShapes Go.ChangeAt Go.RowKit Go.Deep Go.Ab Go.SH
theorem struct_repU {P : Program} {H : Type} {enc : TypeId × Value → H} {W : World} {base : Nat} {t : TypeId} {fs : Array Field} {v : Value} {d : DataW H} {p : List MemPlace} {α : Type} {cl : α → List AV} {Ok : α → Prop} (hs : P.underlying t = some (.struct fs))
    (hv : Value.okWide P W .any base t v) (h : DataW.Trod enc P W 0 (fun _ => true) true t v d p) {N : Nat} (hr : ∀ n, Reads enc P W N n t cl Ok) (hb : bulkD d ≤ N) :
    ∃ a, Ok a ∧ Rep (startCx W) (.agg (cl a)) v ∧ (AV.agg (cl a)).keys = [] := by
  obtain ⟨cs, rfl, _⟩ := okWide_struct hs hv
  obtain ⟨n, hn⟩ := h
  have hx := hr n (Value.agg cs).cells.toList (d, p) hn
  simp only at hx
  obtain ⟨a, h1, h2⟩ := hx hb
  obtain ⟨h3, h4⟩ := CellsR.agg (vs := cs) h1
  exact ⟨a, h2, h3, h4⟩
theorem own3 : ownKnob Tryz.prog.godebug = none := by kernel_rfl
theorem laidOut3 : laidOutB Tryz.prog = true := by kernel_rfl
def zArgs3 : Array Value := #[.agg #[.int .i64 0, .string ByteArray.empty, .string ByteArray.empty, .slice none 0 0, .slice none 0 0], .slice none 0 0]
abbrev lds3 : List (String × DataW Unit) := Rows.shapeExprsUptoRow.laid
theorem plainH3 (w : World) : laidMetH Tryz.prog lds3 w = laidMet Tryz.prog lds3 w := MakeChecks.laidMetH_plain _ _ _ (by kernel_rfl)
noncomputable def wit3 (os : Os) : World := World.laidAll Tryz.prog os lds3
theorem laid_met3 (os : Os) : laidMet Tryz.prog lds3 ((wit3 os).forCall (fun _ _ => 0) ⟨#[], zArgs3, []⟩).memory := laidMet_laidAll _ (by kernel_rfl) (by kernel_rfl)
set_option maxRecDepth 100000 in
theorem witness_row3 (os : Os) {H : Type} (enc : TypeId × Value → H) :
    (Rows.OpenSpec.upto Rows.shapeExprsSpec).preRow enc Tryz.prog Tryz.f3 Rows.shapeExprsUptoRow.domain false lds3 ((wit3 os).forCall (fun _ _ => 0) ⟨#[], zArgs3, []⟩).memory zArgs3 := by
  have hw : (DataW.whole enc Tryz.prog ((wit3 os).forCall (fun _ _ => 0) ⟨#[], zArgs3, []⟩).memory Tryz.f3.params.toList (Rows.OpenSpec.upto Rows.shapeExprsSpec).vars false zArgs3.toList 12).map (fun x => (x.1, x.2.1)) = some
      ([.agg [.lit (.int .i64 0), .lit (.string []), .lit (.string []), .nil, .nil], .nil], []) := by kernel_rfl
  obtain ⟨⟨x1, x2, x3⟩, hx, hx1⟩ := Option.map_eq_some_iff.1 hw
  simp only [Prod.mk.injEq] at hx1
  obtain ⟨rfl, rfl⟩ := hx1
  exact OpenSpec.preRow_of_cond 12 hx (by kernel_rfl) (fun k hk => by cases hk; kernel_rfl) (by kernel_rfl) (laid_met3 os)
set_option maxRecDepth 100000 in
theorem lifted3 (os : Os) (started : os.Started) (H : Type) (enc : TypeId × Value → H) (F : Stop.Interp) :
    ReturnsInHanded {} Tryz.checked os 3 .any ((Rows.OpenSpec.upto Rows.shapeExprsSpec).preRow enc Tryz.prog Tryz.f3 Rows.shapeExprsUptoRow.domain false lds3) (((Rows.OpenSpec.upto Rows.shapeExprsSpec).at F).post enc Tryz.prog Tryz.f3 false true false false) := by
  refine returnsInHanded_of_row (C := Tryz.checked) (s := Rows.OpenSpec.upto Rows.shapeExprsSpec) own3 started (by kernel_rfl) Tryz.func3
    (witness_row_atRef (enc := enc) (C := Tryz.checked) false (wit3 os) zArgs3 (World.laidAll_os _ _ _) (by kernel_rfl) (by kernel_rfl) (by kernel_rfl) (witness_row3 os enc)) ?_
  intro W base args ds gs before hval0 hW _ hcond _ hL hO _
  have hval : ∀ (j : Nat) t v, Tryz.f3.params[j]? = some t → args[j]? = some v → Value.okWide Tryz.prog W .any base t v := hval0
  have hW' := hW
  obtain ⟨p, q, hA0, hV, rfl, _, _⟩ := hW
  have hA : DataW.TrodAll enc Tryz.prog W 0 (fun _ => true) true Tryz.f3.params.toList args.toList ds p := hA0
  rw [Tryz.params3] at hA hval
  obtain ⟨v0, vs0, d0, ds0, p0, q0, hargs, rfl, rfl, h0, r0⟩ := trodAll_cons hA
  obtain ⟨v1, vs1, d1, ds1, p1, q1, rfl, rfl, rfl, h1, r1⟩ := trodAll_cons r0
  obtain ⟨rfl, rfl, rfl⟩ := trodAll_nil r1
  obtain rfl : args = #[v0, v1] := by cases args; simp_all
  obtain ⟨rfl, rfl⟩ := trodVars_none hV
  have hb := of_decide_eq_true (hcond _ rfl)
  rw [bulkAll_eq] at hb
  simp only [List.append_nil, bulkL] at hb
  have lt : ∀ {t : TypeId} {v : Value} {d : DataW H} {p : List MemPlace}, DataW.Trod enc Tryz.prog W 0 (fun _ => true) true t v d p → ∀ x ∈ p, x.block < W.heap.size := fun h => by
    obtain ⟨m, hm⟩ := h; exact DataW.trod_lt m _ _ _ hm
  obtain ⟨e, oe, re, ke⟩ := struct_repU Tryz.underlying25 (hval 0 25 v0 rfl rfl) h0 rdExp (by omega)
  obtain ⟨c, oc, rc, kc⟩ := slice_rep Tryz.underlying26 (hval 1 26 v1 rfl rfl) h1 (N := bulkD d1) rdBytes (Nat.le_refl _)
  have hL' : laidMet Tryz.prog lds3 W := by rw [← plainH3]; exact hL
  have hG := globs2_of hL' hO (by simp [lds3, Rows.shapeExprsUptoRow]) (by simp [lds3, Rows.shapeExprsUptoRow]) (by simp [lds3, Rows.shapeExprsUptoRow]) (by simp [lds3, Rows.shapeExprsUptoRow]) (by simp [lds3, Rows.shapeExprsUptoRow]) (by simp [lds3, Rows.shapeExprsUptoRow]) (by simp [lds3, Rows.shapeExprsUptoRow]) (by simp [lds3, Rows.shapeExprsUptoRow])
  have hct := exprs_ok (n := c.length) (g := fun j => c.getD j 0) (fun j hj => by
    rw [List.getD_eq_getElem?_getD, List.getElem?_eq_getElem hj]; exact oc _ (List.getElem_mem hj)) e oe
  rw [eC_c] at hct
  have hstand : Stand W [.agg e.c, byteS c] [v0, v1] := ⟨⟨re, ke⟩, ⟨rc, kc⟩, trivial⟩
  refine (calls_true_of hG hct hstand).mono fun e W' ⟨he, bel⟩ => ?_
  subst he
  exact ⟨_, rfl, _, _, _, [], _, [], hW', trodAll_mk1 (shut_bool Tryz.underlying4 _), (trodAll_cons_mk (Below.trod laidOut3 (by kernel_rfl) (of_decide_eq_true (by kernel_rfl)) h0 bel (lt h0)) (trodAll_cons_mk (Below.trod laidOut3 (by kernel_rfl) (of_decide_eq_true (by kernel_rfl)) h1 bel (lt h1)) trodAll_mk0)), rfl, bel.frame _, fun h => by cases h⟩
end Go.Proofs.YtnldpiohcmgkdaaGreatDoor
