/- ShapeSplits: the row's reading, its witness, the call. -/
import Derived.Test.YtnldpiohcmgkdaaGreatDoorX6
import Derived.ProofKit
import Derived.Lay
import Derived.LaidOnce
import Derived.OpenShut
import Derived.Below
import Derived.ChangeOld
import Derived.SevenTiedAt
import Derived.Deep.DeepHandedRow
import Derived.Deep.DeepWitnessRowRef
namespace Go.Proofs.YtnldpiohcmgkdaaGreatDoor
open Go Go.ChangeShapes Go.WideShapes Go.ChangeAt Go.RowKit Go.Deep Go.Ab Go.SH
section
variable {H : Type} {enc : TypeId × Value → H} {w : World} {N : Nat}
theorem rdIntN (n : Nat) : Reads enc Tryz.prog w N n 3 (fun z : Int => [.int .i64 z]) (fun _ => True) := (reads_int Tryz.underlying3).map id (fun _ => rfl) fun _ _ => trivial
theorem rdRngN (n : Nat) : Reads enc Tryz.prog w N n 52 rngC (fun _ => True) :=
  (reads_struct (sz := 1 + (1 + (1 + 0))) Tryz.underlying52 (by kernel_rfl) fun m _ => readsF_cons (rdIntN m) rfl (by kernel_rfl) (readsF_cons (rdIntN m) rfl (by kernel_rfl) (readsF_cons (rdIntN m) rfl (by kernel_rfl) readsF_nil))).map (fun p => (p.1, p.2.1, p.2.2.1)) (fun _ => rfl) fun p h => trivial
theorem rdSpnN (n : Nat) : Reads enc Tryz.prog w N n 45 spnC (fun _ => True) :=
  (reads_struct (sz := 1 + (1 + 0)) Tryz.underlying45 (by kernel_rfl) fun m _ => readsF_cons (rdIntN m) rfl (by kernel_rfl) (readsF_cons (rdIntN m) rfl (by kernel_rfl) readsF_nil)).map (fun p => (p.1, p.2.1)) (fun _ => rfl) fun p h => trivial
theorem rdRngsN (n : Nat) : Reads enc Tryz.prog w N n 37 (fun l : List (Int × Int × Int) => [rngL l]) (fun _ => True) :=
  (reads_slice (e := 52) (sz := 3) (cl := rngC) (Ok := fun _ => True) (fun l j => rngC (l.getD j default)) Tryz.underlying37 (by kernel_rfl) (by omega) (fun _ => rfl) (fun _ _ _ => rfl) (fun m _ => rdRngN m)).map id (fun _ => rfl) fun _ _ => trivial
theorem rdSpnsN (n : Nat) : Reads enc Tryz.prog w N n 38 (fun l : List (Int × Int) => [spnL l]) (fun _ => True) :=
  (reads_slice (e := 45) (sz := 2) (cl := spnC) (Ok := fun _ => True) (fun l j => spnC (l.getD j default)) Tryz.underlying38 (by kernel_rfl) (by omega) (fun _ => rfl) (fun _ _ _ => rfl) (fun m _ => rdSpnN m)).map id (fun _ => rfl) fun _ _ => trivial
end
theorem own4 : ownKnob Tryz.prog.godebug = none := by kernel_rfl
theorem laidOut4 : laidOutB Tryz.prog = true := by kernel_rfl
def zArgs4 : Array Value := #[.slice none 0 0, .slice none 0 0, .slice none 0 0, .int .i64 0, .int .i64 0]
abbrev lds4 : List (String × DataW Unit) := Rows.shapeSplitsRow.laid
theorem plainH4 (w : World) : laidMetH Tryz.prog lds4 w = laidMet Tryz.prog lds4 w := MakeChecks.laidMetH_plain _ _ _ (by kernel_rfl)
noncomputable def wit4 (os : Os) : World := World.laidAll Tryz.prog os lds4
theorem laid_met4 (os : Os) : laidMet Tryz.prog lds4 ((wit4 os).forCall (fun _ _ => 0) ⟨#[], zArgs4, []⟩).memory := laidMet_laidAll _ (by kernel_rfl) (by kernel_rfl)
set_option maxRecDepth 100000 in
theorem witness_row4 (os : Os) {H : Type} (enc : TypeId × Value → H) :
    (OpenSpec.ofChange Rows.shapeSplitsSpec).preRow enc Tryz.prog Tryz.f4 Rows.shapeSplitsRow.domain false lds4 ((wit4 os).forCall (fun _ _ => 0) ⟨#[], zArgs4, []⟩).memory zArgs4 := by
  have hw : (DataW.whole enc Tryz.prog ((wit4 os).forCall (fun _ _ => 0) ⟨#[], zArgs4, []⟩).memory Tryz.f4.params.toList (OpenSpec.ofChange Rows.shapeSplitsSpec).vars false zArgs4.toList 12).map (fun x => (x.1, x.2.1)) = some
      ([.nil, .nil, .nil, .lit (.int .i64 0), .lit (.int .i64 0)], []) := by kernel_rfl
  obtain ⟨⟨x1, x2, x3⟩, hx, hx1⟩ := Option.map_eq_some_iff.1 hw
  simp only [Prod.mk.injEq] at hx1
  obtain ⟨rfl, rfl⟩ := hx1
  exact OpenSpec.preRow_of_cond 12 hx (by kernel_rfl) (fun k hk => by cases hk) (by kernel_rfl) (laid_met4 os)
set_option maxRecDepth 100000 in
theorem lifted4 (os : Os) (started : os.Started) (H : Type) (enc : TypeId × Value → H) (F : Stop.Interp) :
    ReturnsInHanded {} Tryz.checked os 4 .any ((OpenSpec.ofChange Rows.shapeSplitsSpec).preRow enc Tryz.prog Tryz.f4 Rows.shapeSplitsRow.domain false lds4) (((OpenSpec.ofChange Rows.shapeSplitsSpec).at F).post enc Tryz.prog Tryz.f4 false true false false) := by
  refine returnsInHanded_of_row (C := Tryz.checked) (s := OpenSpec.ofChange Rows.shapeSplitsSpec) own4 started (by kernel_rfl) Tryz.func4
    (witness_row_atRef (enc := enc) (C := Tryz.checked) false (wit4 os) zArgs4 (World.laidAll_os _ _ _) (by kernel_rfl) (by kernel_rfl) (by kernel_rfl) (witness_row4 os enc)) ?_
  intro W base args ds gs before hval0 hW _ _ _ hL hO _
  have hval : ∀ (j : Nat) t v, Tryz.f4.params[j]? = some t → args[j]? = some v → Value.okWide Tryz.prog W .any base t v := hval0
  have hW' := hW
  obtain ⟨p, q, hA0, hV, rfl, _, _⟩ := hW
  have hA : DataW.TrodAll enc Tryz.prog W 0 (fun _ => true) true Tryz.f4.params.toList args.toList ds p := hA0
  rw [Tryz.params4] at hA hval
  obtain ⟨v0, vs0, d0, ds0, p0, q0, hargs, rfl, rfl, h0, r0⟩ := trodAll_cons hA
  obtain ⟨v1, vs1, d1, ds1, p1, q1, rfl, rfl, rfl, h1, r1⟩ := trodAll_cons r0
  obtain ⟨v2, vs2, d2, ds2, p2, q2, rfl, rfl, rfl, h2, r2⟩ := trodAll_cons r1
  obtain ⟨v3, vs3, d3, ds3, p3, q3, rfl, rfl, rfl, h3, r3⟩ := trodAll_cons r2
  obtain ⟨v4, vs4, d4, ds4, p4, q4, rfl, rfl, rfl, h4, r4⟩ := trodAll_cons r3
  obtain ⟨rfl, rfl, rfl⟩ := trodAll_nil r4
  obtain rfl : args = #[v0, v1, v2, v3, v4] := by cases args; simp_all
  obtain ⟨rfl, rfl⟩ := trodVars_none hV
  have lt0 : ∀ x ∈ p0, x.block < W.heap.size := by obtain ⟨m, hm⟩ := h0; exact DataW.trod_lt m _ _ _ hm
  have lt1 : ∀ x ∈ p1, x.block < W.heap.size := by obtain ⟨m, hm⟩ := h1; exact DataW.trod_lt m _ _ _ hm
  have lt2 : ∀ x ∈ p2, x.block < W.heap.size := by obtain ⟨m, hm⟩ := h2; exact DataW.trod_lt m _ _ _ hm
  obtain ⟨l, ol, rl, kl⟩ := slice_rep Tryz.underlying37 (hval 0 37 v0 rfl rfl) h0 (N := bulkD d0) rdRngsN (Nat.le_refl _)
  obtain ⟨s, os', rs, ks⟩ := slice_rep Tryz.underlying38 (hval 1 38 v1 rfl rfl) h1 (N := bulkD d1) rdSpnsN (Nat.le_refl _)
  obtain ⟨c, oc, rc, kc⟩ := slice_rep Tryz.underlying26 (hval 2 26 v2 rfl rfl) h2 (N := bulkD d2) rdBytes (Nat.le_refl _)
  obtain ⟨a, rfl, rfl, rfl, wa⟩ := open_int Tryz.underlying3 (hval 3 3 v3 rfl rfl) h3
  obtain ⟨b, rfl, rfl, rfl, wb⟩ := open_int Tryz.underlying3 (hval 4 3 v4 rfl rfl) h4
  have hL' : laidMet Tryz.prog lds4 W := by rw [← plainH4]; exact hL
  have hG := globs2_of hL' hO (by simp [lds4, Rows.shapeSplitsRow]) (by simp [lds4, Rows.shapeSplitsRow]) (by simp [lds4, Rows.shapeSplitsRow]) (by simp [lds4, Rows.shapeSplitsRow]) (by simp [lds4, Rows.shapeSplitsRow]) (by simp [lds4, Rows.shapeSplitsRow]) (by simp [lds4, Rows.shapeSplitsRow]) (by simp [lds4, Rows.shapeSplitsRow])
  have hct := splits_ok (n := c.length) (g := fun j => c.getD j 0) (fun j hj => by
    rw [List.getD_eq_getElem?_getD, List.getElem?_eq_getElem hj]; exact oc _ (List.getElem_mem hj)) l s a b
  have hstand : Stand W [rngL l, spnL s, byteS c, .int .i64 a, .int .i64 b] [v0, v1, v2, .int .i64 a, .int .i64 b] := ⟨⟨rl, kl⟩, ⟨rs, ks⟩, ⟨rc, kc⟩, ⟨.int _ _, rfl⟩, ⟨.int _ _, rfl⟩, trivial⟩
  refine (calls_true_of hG hct hstand).mono fun e W' ⟨he, bel⟩ => ?_
  subst he
  exact ⟨_, rfl, _, _, _, [], _, [], hW', trodAll_mk1 (shut_bool Tryz.underlying4 _), (trodAll_cons_mk (Below.trod laidOut4 (by kernel_rfl) (of_decide_eq_true (by kernel_rfl)) h0 bel lt0) (trodAll_cons_mk (Below.trod laidOut4 (by kernel_rfl) (of_decide_eq_true (by kernel_rfl)) h1 bel lt1) (trodAll_cons_mk (Below.trod laidOut4 (by kernel_rfl) (of_decide_eq_true (by kernel_rfl)) h2 bel lt2) (trodAll_cons_mk (shut_int Tryz.underlying3 wa) (trodAll_cons_mk (shut_int Tryz.underlying3 wb) trodAll_mk0))))), rfl, bel.frame _, fun h => by cases h⟩
end Go.Proofs.YtnldpiohcmgkdaaGreatDoor
