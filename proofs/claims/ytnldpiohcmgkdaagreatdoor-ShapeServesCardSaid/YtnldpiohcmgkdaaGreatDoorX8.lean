/- ShapeServes: the row's reading, its witness, the call. -/
import Derived.Test.YtnldpiohcmgkdaaGreatDoorX7
import Derived.ProofKit
import Derived.Lay
import Derived.LaidOnce
import Derived.OpenShut
import Derived.Below
import Derived.ChangeOld
import Derived.SevenTiedAt
import Derived.Deep.DeepHandedRow
import Derived.Deep.DeepWitnessRowRef
namespace Go.Proofs.YtnldpiohcmgkdaaGreatDoor
open Go Go.ChangeShapes Go.WideShapes Go.ChangeAt Go.RowKit Go.Deep Go.Ab Go.SH
section
variable {H : Type} {enc : TypeId × Value → H} {w : World} {N : Nat}
theorem rdIntS (n : Nat) : Reads enc Tryz.prog w N n 3 (fun z : Int => [.int .i64 z]) (fun _ => True) := (reads_int Tryz.underlying3).map id (fun _ => rfl) fun _ _ => trivial
theorem rdStrS (n : Nat) : ReadsW enc Tryz.prog w n 9 (fun s : List UInt8 => [.str s]) lenS := (readsW_str Tryz.underlying9).map id (fun _ => rfl) fun s h => Nat.le_trans h (by decide)
theorem rdRngS (n : Nat) : Reads enc Tryz.prog w N n 52 rngC (fun _ => True) :=
  (reads_struct (sz := 1 + (1 + (1 + 0))) Tryz.underlying52 (by kernel_rfl) fun m _ => readsF_cons (rdIntS m) rfl (by kernel_rfl) (readsF_cons (rdIntS m) rfl (by kernel_rfl) (readsF_cons (rdIntS m) rfl (by kernel_rfl) readsF_nil))).map (fun p => (p.1, p.2.1, p.2.2.1)) (fun _ => rfl) fun p h => trivial
theorem rdRngsS (n : Nat) : Reads enc Tryz.prog w N n 37 (fun l : List (Int × Int × Int) => [rngL l]) (fun _ => True) :=
  (reads_slice (e := 52) (sz := 3) (cl := rngC) (Ok := fun _ => True) (fun l j => rngC (l.getD j default)) Tryz.underlying37 (by kernel_rfl) (by omega) (fun _ => rfl) (fun _ _ _ => rfl) (fun m _ => rdRngS m)).map id (fun _ => rfl) fun l h => trivial
theorem rdServeS (n : Nat) : ReadsW enc Tryz.prog w n 56 SERVE.c (fun v => lenS v.kind ∧ lenS v.by' ∧ lenS v.salt) :=
  (readsW_struct (sz := 1 + (1 + (1 + (1 + (1 + 0))))) Tryz.underlying56 (by kernel_rfl) fun m _ => readsFW_cons (readsW_of fun N => rdIntS (N := N) m) rfl (by kernel_rfl) (readsFW_cons (rdStrS m) rfl (by kernel_rfl) (readsFW_cons (rdStrS m) rfl (by kernel_rfl) (readsFW_cons (rdStrS m) rfl (by kernel_rfl) (readsFW_cons (readsW_of fun N => rdRngsS (N := N) m) rfl (by kernel_rfl) readsFW_nil))))).map
    (fun p => (⟨p.1, p.2.1, p.2.2.1, p.2.2.2.1, p.2.2.2.2.1⟩ : SERVE)) (fun _ => rfl) fun p h => ⟨h.2.1, h.2.2.1, h.2.2.2.1⟩
end
theorem struct_repW {H : Type} {enc : TypeId × Value → H} {P : Program} {w : World} {α : Type} {base : Nat} {t : TypeId} {fs : Array Field} {v : Value} {d : DataW H} {p : List MemPlace} {cl : α → List AV} {Ok : α → Prop} (hs : P.underlying t = some (.struct fs))
    (hv : Value.okWide P w .any base t v) (h : DataW.Trod enc P w 0 (fun _ => true) true t v d p) (hr : ∀ n, ReadsW enc P w n t cl Ok) (hb : ∀ k ∈ d.weights P t, k ≤ reachBytes) :
    ∃ a, Ok a ∧ Rep (startCx w) (.agg (cl a)) v ∧ (AV.agg (cl a)).keys = [] := by
  obtain ⟨cs, rfl, _⟩ := okWide_struct hs hv
  obtain ⟨n, hn⟩ := h
  obtain ⟨a, h1, h2⟩ := hr n (Value.agg cs).cells.toList (d, p) hn hb
  obtain ⟨h3, h4⟩ := CellsR.agg (vs := cs) h1
  exact ⟨a, h2, h3, h4⟩
theorem own5 : ownKnob Tryz.prog.godebug = none := by kernel_rfl
theorem laidOut5 : laidOutB Tryz.prog = true := by kernel_rfl
def zArgs5 : Array Value := #[.agg #[.int .i64 0, .string ByteArray.empty, .string ByteArray.empty, .string ByteArray.empty, .slice none 0 0], .slice none 0 0, .int .i64 0]
abbrev lds5 : List (String × DataW Unit) := Rows.shapeServesRow.laid
theorem plainH5 (w : World) : laidMetH Tryz.prog lds5 w = laidMet Tryz.prog lds5 w := MakeChecks.laidMetH_plain _ _ _ (by kernel_rfl)
noncomputable def wit5 (os : Os) : World := World.laidAll Tryz.prog os lds5
theorem laid_met5 (os : Os) : laidMet Tryz.prog lds5 ((wit5 os).forCall (fun _ _ => 0) ⟨#[], zArgs5, []⟩).memory := laidMet_laidAll _ (by kernel_rfl) (by kernel_rfl)
set_option maxRecDepth 100000 in
theorem witness_row5 (os : Os) {H : Type} (enc : TypeId × Value → H) :
    (OpenSpec.ofChange Rows.shapeServesSpec).preRow enc Tryz.prog Tryz.f5 Rows.shapeServesRow.domain false lds5 ((wit5 os).forCall (fun _ _ => 0) ⟨#[], zArgs5, []⟩).memory zArgs5 := by
  have hw : (DataW.whole enc Tryz.prog ((wit5 os).forCall (fun _ _ => 0) ⟨#[], zArgs5, []⟩).memory Tryz.f5.params.toList (OpenSpec.ofChange Rows.shapeServesSpec).vars false zArgs5.toList 12).map (fun x => (x.1, x.2.1)) = some
      ([.agg [.lit (.int .i64 0), .lit (.string []), .lit (.string []), .lit (.string []), .nil], .nil, .lit (.int .i64 0)], []) := by kernel_rfl
  obtain ⟨⟨x1, x2, x3⟩, hx, hx1⟩ := Option.map_eq_some_iff.1 hw
  simp only [Prod.mk.injEq] at hx1
  obtain ⟨rfl, rfl⟩ := hx1
  exact OpenSpec.preRow_of_cond 12 hx (by kernel_rfl) (fun k hk => by cases hk) (by kernel_rfl) (laid_met5 os)
set_option maxRecDepth 100000 in
theorem lifted5 (os : Os) (started : os.Started) (H : Type) (enc : TypeId × Value → H) (F : Stop.Interp) :
    ReturnsInHanded {} Tryz.checked os 5 .any ((OpenSpec.ofChange Rows.shapeServesSpec).preRow enc Tryz.prog Tryz.f5 Rows.shapeServesRow.domain false lds5) (((OpenSpec.ofChange Rows.shapeServesSpec).at F).post enc Tryz.prog Tryz.f5 false true false false) := by
  refine returnsInHanded_of_row (C := Tryz.checked) (s := OpenSpec.ofChange Rows.shapeServesSpec) own5 started (by kernel_rfl) Tryz.func5
    (witness_row_atRef (enc := enc) (C := Tryz.checked) false (wit5 os) zArgs5 (World.laidAll_os _ _ _) (by kernel_rfl) (by kernel_rfl) (by kernel_rfl) (witness_row5 os enc)) ?_
  intro W base args ds gs before hval0 hW _ _ hwt hL hO _
  have hval : ∀ (j : Nat) t v, Tryz.f5.params[j]? = some t → args[j]? = some v → Value.okWide Tryz.prog W .any base t v := hval0
  have hW' := hW
  obtain ⟨p, q, hA0, hV, rfl, _, _⟩ := hW
  have hA : DataW.TrodAll enc Tryz.prog W 0 (fun _ => true) true Tryz.f5.params.toList args.toList ds p := hA0
  rw [Tryz.params5] at hA hval
  obtain ⟨v0, vs0, d0, ds0, p0, q0, hargs, rfl, rfl, h0, r0⟩ := trodAll_cons hA
  obtain ⟨v1, vs1, d1, ds1, p1, q1, rfl, rfl, rfl, h1, r1⟩ := trodAll_cons r0
  obtain ⟨v2, vs2, d2, ds2, p2, q2, rfl, rfl, rfl, h2, r2⟩ := trodAll_cons r1
  obtain ⟨rfl, rfl, rfl⟩ := trodAll_nil r2
  obtain rfl : args = #[v0, v1, v2] := by cases args; simp_all
  obtain ⟨rfl, rfl⟩ := trodVars_none hV
  have lt0 : ∀ x ∈ p0, x.block < W.heap.size := by obtain ⟨m, hm⟩ := h0; exact DataW.trod_lt m _ _ _ hm
  have lt1 : ∀ x ∈ p1, x.block < W.heap.size := by obtain ⟨m, hm⟩ := h1; exact DataW.trod_lt m _ _ _ hm
  obtain ⟨v, ov, rv, kv⟩ := struct_repW Tryz.underlying56 (hval 0 56 v0 rfl rfl) h0 rdServeS (fun k hk => of_decide_eq_true (List.all_eq_true.1 hwt k (DataW.weights_mem_each (j := 0) (t := 56) (d := d0) (by rw [Tryz.params5]; rfl) rfl k hk)))
  obtain ⟨c, oc, rc, kc⟩ := slice_rep Tryz.underlying26 (hval 1 26 v1 rfl rfl) h1 (N := bulkD d1) rdBytes (Nat.le_refl _)
  obtain ⟨a, rfl, rfl, rfl, wa⟩ := open_int Tryz.underlying3 (hval 2 3 v2 rfl rfl) h2
  have hL' : laidMet Tryz.prog lds5 W := by rw [← plainH5]; exact hL
  have hG := globs2_of hL' hO (by simp [lds5, Rows.shapeServesRow]) (by simp [lds5, Rows.shapeServesRow]) (by simp [lds5, Rows.shapeServesRow]) (by simp [lds5, Rows.shapeServesRow]) (by simp [lds5, Rows.shapeServesRow]) (by simp [lds5, Rows.shapeServesRow]) (by simp [lds5, Rows.shapeServesRow]) (by simp [lds5, Rows.shapeServesRow])
  have hct := serves_ok (n := c.length) (g := fun j => c.getD j 0) (fun j hj => by
    rw [List.getD_eq_getElem?_getD, List.getElem?_eq_getElem hj]; exact oc _ (List.getElem_mem hj)) v ov a
  have hstand : Stand W [.agg v.c, byteS c, .int .i64 a] [v0, v1, .int .i64 a] := ⟨⟨rv, kv⟩, ⟨rc, kc⟩, ⟨.int _ _, rfl⟩, trivial⟩
  refine (calls_true_of hG hct hstand).mono fun e W' ⟨he, bel⟩ => ?_
  subst he
  exact ⟨_, rfl, _, _, _, [], _, [], hW', trodAll_mk1 (shut_bool Tryz.underlying4 _), (trodAll_cons_mk (Below.trod laidOut5 (by kernel_rfl) (of_decide_eq_true (by kernel_rfl)) h0 bel lt0) (trodAll_cons_mk (Below.trod laidOut5 (by kernel_rfl) (of_decide_eq_true (by kernel_rfl)) h1 bel lt1) (trodAll_cons_mk (shut_int Tryz.underlying3 wa) trodAll_mk0))), rfl, bel.frame _, fun h => by cases h⟩
end Go.Proofs.YtnldpiohcmgkdaaGreatDoor
