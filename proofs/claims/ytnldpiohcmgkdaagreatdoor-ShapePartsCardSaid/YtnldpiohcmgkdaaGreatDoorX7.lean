/- The package variables that a row lists, as the evaluator's globals. The Shape seat's globals out of a row's list; a slice's and a struct's arguments. Listed variables that hold slices of texts. The globals of the draws out of a row's list; a slice of bytes that came in. -/
import Derived.Test.YtnldpiohcmgkdaaGreatDoorX6
import Derived.FnData
import Derived.MakeChecks
import Derived.Test.YtnldpiohcmgkdaaGreatDoorCards
import Derived.Test.YtnldpiohcmgkdaaGreatDoorTie
namespace Go.Ab
open Go Go.RowKit
section
variable {H : Type} (enc : TypeId × Value → H) (P : Program) (w : World) (held : Bool)
/-- Whatever reads as this datum at this type is these cells. -/
def RX (t : TypeId) (d : DataW H) (us : List AV) : Prop :=
  us.length = P.cellsOf t ∧ ∀ n cs p, DataW.trod enc P w 0 (fun _ => true) held n t cs = some (d, p) → CellsR (startCx w) us cs
variable {enc P w held}
theorem rx_int {t : TypeId} {k : IntKind} {z : Int} (ht : P.underlying t = some (.int k)) (hc : P.cellsOf t = 1) : RX enc P w held t (.lit (.int k z)) [.int k z] := ⟨hc.symm, fun n cs p h => by
  obtain ⟨z', rfl, hx, _⟩ := DataW.trod_int ht h
  simp only [Prod.mk.injEq, DataW.lit.injEq, Lit.int.injEq, true_and] at hx
  obtain ⟨rfl, _⟩ := hx
  exact .one1 rfl rfl (.int _ _)⟩
theorem rx_str {t : TypeId} {s : List UInt8} (ht : P.underlying t = some .string) (hc : P.cellsOf t = 1) : RX enc P w held t (.lit (.string s)) [.str s] := ⟨hc.symm, fun n cs p h => by
  obtain ⟨z, rfl, hx, _⟩ := DataW.trod_string ht h
  simp only [Prod.mk.injEq, DataW.lit.injEq, Lit.string.injEq] at hx
  obtain ⟨rfl, _⟩ := hx
  refine .one1 rfl rfl ?_
  have := Rep.str (c := startCx w) z.data.toList
  rwa [Array.toArray_toList] at this⟩
theorem rx_iface {t : TypeId} {ms : Array (String × TypeId)} {nm : String} {d : DataW H} (ht : P.underlying t = some (.interface ms)) (hc : P.cellsOf t = 1) : RX enc P w held t (.iface nm d) [.nni] := ⟨hc.symm, fun n cs p h => by
  cases n with
  | zero => simp [DataW.trod] at h
  | succ n =>
    unfold DataW.trod at h
    rw [ht] at h
    split at h <;> simp_all
    exact .one1 rfl rfl (.nni _ _)⟩
theorem rx_flat {c : Cx} {cs : List Value} {sz : Nat} : ∀ (us : List (List AV)) (k : Nat), (∀ (i : Nat) (u : List AV), us[i]? = some u → CellsR c u ((cs.drop ((k + i) * sz)).take sz) ∧ u.length = sz) → cs.length = (k + us.length) * sz → CellsR c us.flatten (cs.drop (k * sz))
  | [], k, _, hl => by
    rw [List.drop_eq_nil_of_le (by simp at hl; omega)]
    exact .nil _
  | u :: us, k, h, hl => by
    have h0 := h 0 u rfl
    have ih := rx_flat us (k + 1) (fun i v hv => by
      have := h (i + 1) v (by simpa using hv)
      rwa [show k + (i + 1) = k + 1 + i by omega] at this) (by rw [hl]; simp only [List.length_cons]; congr 1; omega)
    have e : cs.drop (k * sz) = (cs.drop (k * sz)).take sz ++ cs.drop ((k + 1) * sz) := by
      rw [show (k + 1) * sz = k * sz + sz by rw [Nat.add_mul, Nat.one_mul], ← List.drop_drop, List.take_append_drop]
    rw [e, List.flatten_cons]
    exact h0.1.append ih
theorem rx_array {t e : TypeId} {m sz : Nat} {ds : List (DataW H)} {us : List (List AV)} (ht : P.underlying t = some (.array m e)) (he : P.cellsOf e = sz) (hc : P.cellsOf t = m * sz) (hl : us.length = m)
    (h : ∀ (i : Nat) (d : DataW H) (u : List AV), ds[i]? = some d → us[i]? = some u → RX enc P w held e d u) (hd : ds.length = m) : RX enc P w held t (.agg ds) us.flatten := by
  have hu : ∀ (i : Nat) (u : List AV), us[i]? = some u → u.length = sz := fun i u hi => by
    have hlt := (List.getElem?_eq_some_iff.1 hi).1
    rw [(h i (ds[i]'(by omega)) u (List.getElem?_eq_getElem _) hi).1, he]
  refine ⟨?_, fun n cs p hx => ?_⟩
  · rw [hc, List.length_flatten, ← hl]
    have : ∀ l : List (List AV), (∀ (i : Nat) (u : List AV), l[i]? = some u → u.length = sz) → (l.map List.length).sum = l.length * sz := by
      intro l
      induction l with
      | nil => intro _; simp
      | cons a r ih =>
        intro h
        have h0 := h 0 a rfl
        have h1 := ih fun i u hi => h (i + 1) u (by simpa using hi)
        simp only [List.map_cons, List.sum_cons, h1, h0, List.length_cons, Nat.add_mul, Nat.one_mul]; omega
    exact this us hu
  · cases n with
    | zero => simp [DataW.trod] at hx
    | succ n =>
      simp only [DataW.trod, ht, he, hc] at hx
      split at hx
      · rename_i hcl
        obtain ⟨xs, hm, hxe⟩ := Option.map_eq_some_iff.1 hx
        have hxs : xs.map (·.1) = ds := by
          have := congrArg Prod.fst hxe
          simpa using this
        obtain ⟨hxl, hat⟩ := mapM_at hm
        have hxl : xs.length = m := by simpa using hxl
        have := rx_flat (c := startCx w) (cs := cs) (sz := sz) us 0 (fun i u hi => by
          have hlt := (List.getElem?_eq_some_iff.1 hi).1
          have hlt2 : i < xs.length := by omega
          have hf := hat i i (List.getElem?_range (by omega))
          rw [List.getElem?_eq_getElem hlt2] at hf
          have hdi : ds[i]? = some (xs[i]'hlt2).1 := by
            have := congrArg (·[i]?) hxs
            simp only [List.getElem?_map, List.getElem?_eq_getElem hlt2, Option.map_some] at this
            exact this.symm
          refine ⟨?_, hu i u hi⟩
          rw [Nat.zero_add]
          exact (h i _ u hdi hi).2 n _ (xs[i]'hlt2).2 hf) (by rw [hcl, Nat.zero_add, hl])
        simpa using this
      · cases hx
theorem rx_two {t : TypeId} {f0 f1 : Field} {d0 d1 : DataW H} {u0 u1 : List AV} (ht : P.underlying t = some (.struct #[f0, f1])) (h0 : RX enc P w held f0.type d0 u0) (h1 : RX enc P w held f1.type d1 u1) (o0 : f0.offset = 0) (o1 : f1.offset = P.cellsOf f0.type) (hc : P.cellsOf t = P.cellsOf f0.type + P.cellsOf f1.type) :
    RX enc P w held t (.agg [d0, d1]) (u0 ++ u1) := by
  refine ⟨by rw [List.length_append, h0.1, h1.1, hc], fun n cs p hx => ?_⟩
  obtain ⟨xs, m, rfl, hxe, hl, hxl, hf⟩ := DataW.trod_struct ht hx
  match xs, hxl with
  | [y0, y1], _ =>
    simp only [List.map_cons, List.map_nil, Prod.mk.injEq, DataW.agg.injEq, List.cons.injEq, and_true] at hxe
    obtain ⟨⟨rfl, rfl⟩, _⟩ := hxe
    have a0 := hf 0 f0 rfl
    have a1 := hf 1 f1 rfl
    rw [o0, List.drop_zero] at a0
    rw [o1] at a1
    have b0 := h0.2 m _ y0.2 a0
    have b1 := h1.2 m _ y1.2 a1
    have e : cs = cs.take (P.cellsOf f0.type) ++ (cs.drop (P.cellsOf f0.type)).take (P.cellsOf f1.type) := by
      rw [List.take_of_length_le (l := cs.drop (P.cellsOf f0.type)) (by rw [List.length_drop]; omega), List.take_append_drop]
    rw [e]
    exact b0.append b1
/-- A table of numbers. -/
theorem rx_ints {t e : TypeId} {m : Nat} {k : IntKind} {zs : List Int} (ht : P.underlying t = some (.array m e)) (he : P.underlying e = some (.int k)) (hc : P.cellsOf e = 1) (hct : P.cellsOf t = m) (hl : zs.length = m) :
    RX enc P w held t (.agg (zs.map fun z => .lit (.int k z))) (zs.map fun z => .int k z) := by
  have := rx_array (enc := enc) (P := P) (w := w) (held := held) (ds := zs.map fun z => (.lit (.int k z) : DataW H)) (us := zs.map fun z => [AV.int k z]) ht hc (by rw [hct, Nat.mul_one]) (by simpa using hl) (fun i d u hd hu => by
    rw [List.getElem?_map, Option.map_eq_some_iff] at hd hu
    obtain ⟨z, hz, rfl⟩ := hd
    obtain ⟨z', hz', rfl⟩ := hu
    obtain rfl : z = z' := by rw [hz] at hz'; exact Option.some.inj hz'
    exact rx_int he hc) (by simpa using hl)
  rwa [show (zs.map fun z => [AV.int k z]).flatten = zs.map fun z => AV.int k z by induction zs with
    | nil => rfl
    | cons a r ih => rw [List.map_cons, List.flatten_cons, List.map_cons, List.singleton_append]; congr 1; clear hl this ih; induction r with
      | nil => rfl
      | cons b q ih => rw [List.map_cons, List.flatten_cons, ih]; rfl] at this
end
theorem laid_at {P : Program} {w : World} : ∀ {laid : List (String × DataW Unit)} {ps : List MemPlace}, DataW.LaidVars P w laid ps → ∀ {nm : String} {d : DataW Unit}, (nm, d) ∈ laid →
    ∃ g t cs fuel p, P.globalNamed nm = some g ∧ (P.globals[g]?).map (·.type) = some t ∧ w.var? P nm = some cs ∧ DataW.trod (fun _ => ()) P w 0 (fun _ => true) false fuel t cs.toList = some (d, p)
  | [], _, _, _, _, hm => by simp at hm
  | (n0, d0) :: r, ps, h, nm, d, hm => by
    obtain ⟨g, t, cs, fuel, p, q, h1, h2, h3, h4, h5, _⟩ := h
    rcases List.mem_cons.1 hm with e | hm
    · simp only [Prod.mk.injEq] at e
      obtain ⟨rfl, rfl⟩ := e
      exact ⟨g, t, cs, fuel, p, h1, h2, h3, h4⟩
    · exact laid_at h5 hm
theorem rep_cells {w : World} {g : Nat} {us : List AV} {cs : Array Value} (hv : ∀ i, w.cell? ⟨g, i, none⟩ = cs[i]?) (h : CellsR (startCx w) us cs.toList) : Rep (startCx w) (.elt us 0) (.pointer (some ⟨g, 0, none⟩)) := by
  have hi : ∀ (i : Nat) (u : AV), us[i]? = some u → ∃ v, cs[i]? = some v ∧ Rep (startCx w) u v := fun i u hu => by
    have hlt := (List.getElem?_eq_some_iff.1 hu).1
    have hlt' : i < cs.size := by have := h.len; simp at this; omega
    refine ⟨cs[i], Array.getElem?_eq_getElem hlt', ?_⟩
    have := h.rep i u hu
    rwa [List.getD_eq_getElem?_getD, Array.getElem?_toList, Array.getElem?_eq_getElem hlt'] at this
  refine .elt us 0 g 0 (fun i => (cs[i]?).getD undef) (keysL_nil fun u hu => (h.one u hu).2) (fun i u hu => ?_) (fun i u hu => ?_)
  · obtain ⟨v, h1, h2⟩ := hi i u hu
    rw [Nat.zero_add]
    refine ⟨(h.one u (List.mem_of_getElem? hu)).1, ?_, v, ?_⟩
    · show w.cell? _ = _
      rw [hv, h1]; rfl
    · rw [hv, h1]
  · obtain ⟨v, h1, h2⟩ := hi i u hu
    rw [h1]; exact h2
theorem rep_glob {P : Program} {w : World} {laid : List (String × DataW Unit)} (h : laidMet P laid w) {nm : String} {d : DataW Unit} {g : Nat} {t : TypeId} {us : List AV} (hm : (nm, d) ∈ laid) (hg : P.globalNamed nm = some g) (ht : (P.globals[g]?).map (·.type) = some t)
    (hr : RX (fun _ => ()) P w false t d us) : Rep (startCx w) (.elt us 0) (.pointer (some ⟨g, 0, none⟩)) := by
  obtain ⟨ps, hl, _⟩ := h
  obtain ⟨g', t', cs, fuel, p, h1, h2, h3, h4⟩ := laid_at hl hm
  obtain rfl := Option.some.inj (hg.symm.trans h1)
  obtain rfl := Option.some.inj (ht.symm.trans h2)
  exact rep_cells (fun i => World.var?_cell h1 h3 i) (hr.2 fuel _ p h4)
theorem calls_true_of {P : Program} {G : Nat → Option (List AV)} {f : FuncId} {l : List AV} {os : List AO} {xs : List Value} {w : World} (hg : ∀ g cs, G g = some cs → Rep (startCx w) (.elt cs 0) (.pointer (some ⟨g, 0, none⟩))) (h : Ct P G f l [] (.bool true, os)) (hs : Stand w l xs) :
    Calls P f xs.toArray w fun e w' => e = .returned (.bool true) ∧ Below w.heap.size w w' := by
  obtain ⟨h1, h2, h3⟩ := hs.spec
  refine (h.1 (startCx w) xs.toArray ⟨fun _ _ h => h, hg⟩ (startCx_objs w) (by simpa using h1) (fun i u hu => ?_) (by rw [h2]; simp)).mono ?_
  · have := h3 i u hu
    simpa [Array.getD_eq_getD_getElem?, List.getD_eq_getElem?_getD] using this
  · rintro e w' ⟨c', x, rfl, rfl, _, hF, _, hr, _, _⟩
    cases hr
    refine ⟨rfl, hF.os, hF.tape, hF.output, hF.size, fun b hb => hF.block b hb ?_⟩
    rintro ⟨k, o, ho, _⟩
    simp [enterObjs, alook] at ho
end Go.Ab

namespace Go.SH
open Go Go.Ab Go.Proofs Go.RowKit Go.Proofs.YtnldpiohcmgkdaaGreatDoor
set_option linter.unusedVariables false
set_option linter.unusedSimpArgs false
mutual
theorem bulk_eq {H : Type} : ∀ d : DataW H, Rows.uptoBulk d = bulkD d
  | .lit (.string _) => by simp only [Rows.uptoBulk, bulkD]
  | .lit (.int _ _) => by simp only [Rows.uptoBulk, bulkD]
  | .lit (.bool _) => by simp only [Rows.uptoBulk, bulkD]
  | .lit (.float _ _) => by simp only [Rows.uptoBulk, bulkD]
  | .lit .nil => by simp only [Rows.uptoBulk, bulkD]
  | .nil => by simp only [Rows.uptoBulk, bulkD]
  | .ptr d => by simp only [Rows.uptoBulk, bulkD, bulk_eq d]
  | .slice a b => by simp only [Rows.uptoBulk, bulkD, bulkAll_eq a, bulkAll_eq b]
  | .agg a => by simp only [Rows.uptoBulk, bulkD, bulkAll_eq a]
  | .iface _ d => by simp only [Rows.uptoBulk, bulkD, bulk_eq d]
  | .map a => by simp only [Rows.uptoBulk, bulkD, bulkM_eq a]
  | .held _ => by simp only [Rows.uptoBulk, bulkD]
theorem bulkAll_eq {H : Type} : ∀ l : List (DataW H), Rows.uptoBulkAll l = bulkL l
  | [] => by simp only [Rows.uptoBulkAll, bulkL]
  | d :: r => by simp only [Rows.uptoBulkAll, bulkL, bulk_eq d, bulkAll_eq r]
theorem bulkM_eq {H : Type} : ∀ l : List (Lit × DataW H), Rows.uptoBulkEntries l = bulkM l
  | [] => by simp only [Rows.uptoBulkEntries, bulkM]
  | d :: r => by simp only [Rows.uptoBulkEntries, bulkM, bulkE_eq d, bulkM_eq r]
theorem bulkE_eq {H : Type} : ∀ x : Lit × DataW H, Rows.uptoBulkEntry x = bulkE x
  | (.string _, d) => by simp only [Rows.uptoBulkEntry, bulkE, bulk_eq d]
  | (.int _ _, d) => by simp only [Rows.uptoBulkEntry, bulkE, bulk_eq d]
  | (.bool _, d) => by simp only [Rows.uptoBulkEntry, bulkE, bulk_eq d]
  | (.float _ _, d) => by simp only [Rows.uptoBulkEntry, bulkE, bulk_eq d]
  | (.nil, d) => by simp only [Rows.uptoBulkEntry, bulkE, bulk_eq d]
end
/-- The numbers of a table. -/
def dints : List (DataW Unit) → List Int
  | .lit (.int _ z) :: r => z :: dints r
  | _ => []
def dpairs : List (DataW Unit) → List (Int × Int)
  | .agg [.lit (.int _ y), .lit (.int _ z)] :: r => (y, z) :: dpairs r
  | _ => []
def parts : DataW Unit → List (DataW Unit)
  | .agg ds => ds
  | _ => []
theorem rxSpace {w : World} {d : DataW Unit} (hd : d = .agg ((dints (parts d)).map fun z => .lit (.int .u8 z))) (hl : (dints (parts d)).length = 256) (hc : dcells d = (dints (parts d)).map fun z => .int .u8 z) : RX (fun _ => ()) Tryz.prog w false 179 d (dcells d) := by
  rw [hc]
  have := rx_ints (enc := fun _ => ()) (P := Tryz.prog) (w := w) (held := false) (t := 179) (e := 5) (m := 256) (k := .u8) (zs := dints (parts d)) Tryz.underlying179 Tryz.underlying5 (by kernel_rfl) (by kernel_rfl) hl
  rwa [← hd] at this
theorem rxAccept {w : World} {d : DataW Unit} (hd : d = .agg ((dpairs (parts d)).map fun p => .agg [.lit (.int .u8 p.1), .lit (.int .u8 p.2)])) (hl : (dpairs (parts d)).length = 16) (hc : dcells d = ((dpairs (parts d)).map fun p => [AV.int .u8 p.1] ++ [AV.int .u8 p.2]).flatten) : RX (fun _ => ()) Tryz.prog w false 185 d (dcells d) := by
  rw [hc]
  have := rx_array (enc := fun _ => ()) (P := Tryz.prog) (w := w) (held := false) (t := 185) (e := 184) (m := 16) (sz := 2) (ds := (dpairs (parts d)).map fun p => .agg [.lit (.int .u8 p.1), .lit (.int .u8 p.2)]) (us := (dpairs (parts d)).map fun p => [AV.int .u8 p.1] ++ [AV.int .u8 p.2]) Tryz.underlying185 (by kernel_rfl) (by kernel_rfl) (by simpa using hl) (fun i d u hd hu => by
    rw [List.getElem?_map, Option.map_eq_some_iff] at hd hu
    obtain ⟨z, hz, rfl⟩ := hd
    obtain ⟨z', hz', rfl⟩ := hu
    obtain rfl : z = z' := by rw [hz] at hz'; exact Option.some.inj hz'
    exact rx_two Tryz.underlying184 (rx_int Tryz.underlying5 (by kernel_rfl)) (rx_int Tryz.underlying5 (by kernel_rfl)) rfl (by kernel_rfl) (by kernel_rfl)) (by simpa using hl)
  rwa [← hd] at this
set_option maxRecDepth 100000 in
/-- The variable that no row lists: some number. -/
theorem maxLen_cell {w : World} (h : w.ShapedOpen Tryz.prog) : Rep (startCx w) (.elt [.num .i64] 0) (.pointer (some ⟨7, 0, none⟩)) := by
  obtain ⟨cs, h1, h2, h3⟩ := h.1 7 #[.int .i64 0] 3 (of_decide_eq_true (by kernel_rfl)) (by kernel_rfl)
  obtain ⟨ts, e1, e2, e3⟩ := h3 (by kernel_rfl)
  have e0 : Tryz.prog.cellTypes Tryz.prog.depth 3 = some [3] := by kernel_rfl
  rw [e0] at e1
  obtain rfl := Option.some.inj e1
  have hlt : 0 < cs.size := by rw [h2]; decide
  obtain ⟨u, hu, hok⟩ := e3 0 cs[0] (Array.getElem?_eq_getElem hlt)
  simp only [List.length_singleton, Nat.mod_one, List.getElem?_cons_zero, Option.some.injEq] at hu
  subst hu
  unfold Cell.ok at hok
  rw [show Tryz.prog.underlying 3 = some (.int .i64) from Tryz.underlying3] at hok
  have hcell : ∀ i, w.cell? ⟨7, i, none⟩ = cs[i]? := fun i => by
    unfold World.cell?
    simp [h1]
  refine rep_cells hcell ⟨by simpa using h2, fun u hu => by simp at hu; subst hu; exact ⟨rfl, rfl⟩, fun i u hu => ?_⟩
  cases i with
  | succ i => simp at hu
  | zero =>
    simp at hu; subst hu
    rw [List.getD_eq_getElem?_getD, Array.getElem?_toList, Array.getElem?_eq_getElem hlt]
    show Rep _ _ cs[0]
    generalize cs[0] = v at hok ⊢
    cases v with
    | int k n => obtain ⟨rfl, _⟩ := hok; exact .num _ _
    | _ => simp at hok
/-- Whatever a row lists, as long as the five tables are on its list. -/
theorem globs_of {w : World} {laid : List (String × DataW Unit)} (h : laidMet Tryz.prog laid w) (ho : w.ShapedOpen Tryz.prog)
    (m3 : ("strings.asciiSpace", Rows.laid_strings_asciiSpace) ∈ laid) (m4 : ("unicode/utf8.first", Rows.laid_unicode_utf8_first) ∈ laid) (m5 : ("unicode/utf8.acceptRanges", Rows.laid_unicode_utf8_acceptRanges) ∈ laid)
    (m8 : ("strconv.ErrSyntax", Rows.laid_strconv_ErrSyntax) ∈ laid) (m9 : ("strconv.ErrRange", Rows.laid_strconv_ErrRange) ∈ laid) :
    ∀ g cs, V.G g = some cs → Rep (startCx w) (.elt cs 0) (.pointer (some ⟨g, 0, none⟩)) := by
  intro g cs hg
  have hg : globs g = some cs := hg
  unfold globs at hg
  by_cases h3 : g = 3
  · subst h3
    obtain rfl := Option.some.inj hg
    exact rep_glob h m3 (by kernel_rfl) (by kernel_rfl) (rxSpace (by kernel_rfl) (by kernel_rfl) (by kernel_rfl))
  rw [beqF h3, cond_false] at hg
  by_cases h4 : g = 4
  · subst h4
    obtain rfl := Option.some.inj hg
    exact rep_glob h m4 (by kernel_rfl) (by kernel_rfl) (rxSpace (by kernel_rfl) (by kernel_rfl) (by kernel_rfl))
  rw [beqF h4, cond_false] at hg
  by_cases h5 : g = 5
  · subst h5
    obtain rfl := Option.some.inj hg
    exact rep_glob h m5 (by kernel_rfl) (by kernel_rfl) (rxAccept (by kernel_rfl) (by kernel_rfl) (by kernel_rfl))
  rw [beqF h5, cond_false] at hg
  by_cases h7 : g = 7
  · subst h7
    obtain rfl := Option.some.inj hg
    exact maxLen_cell ho
  rw [beqF h7, cond_false] at hg
  by_cases h8 : g = 8
  · subst h8
    obtain rfl := Option.some.inj hg
    exact rep_glob h m8 (by kernel_rfl) (by kernel_rfl) (rx_iface Tryz.underlying219 (by kernel_rfl))
  rw [beqF h8, cond_false] at hg
  by_cases h9 : g = 9
  · subst h9
    obtain rfl := Option.some.inj hg
    exact rep_glob h m9 (by kernel_rfl) (by kernel_rfl) (rx_iface Tryz.underlying219 (by kernel_rfl))
  rw [beqF h9, cond_false] at hg
  cases hg
end Go.SH

namespace Go.Ab
open Go Go.RowKit
section
variable {H : Type} {enc : TypeId × Value → H} {P : Program} {w : World} {held : Bool}
theorem rx_strs {t e : TypeId} {l : List (List UInt8)} (ht : P.underlying t = some (.slice e)) (he : P.underlying e = some .string) (hc : P.cellsOf e = 1) (hct : P.cellsOf t = 1) :
    RX enc P w held t (.slice (l.map fun s => .lit (.string s)) []) [.sl .no 1 l.length fun j => [.str (l.getD j [])]] := ⟨hct.symm, fun n cs p h => by
  rcases DataW.trod_slice ht h with ⟨_, hx⟩ | ⟨ad, len, cap, elems, rest, m, rfl, rfl, hx, _, hle, hcap, hel, hat, hsp, _⟩
  · simp at hx
  simp only [Prod.mk.injEq, DataW.slice.injEq] at hx
  obtain ⟨⟨h1, h2⟩, _⟩ := hx
  have h2 : rest = [] := by cases rest with | nil => rfl | cons => simp at h2
  subst h2
  have hcl : cap = len := by have := (hsp rfl).1; simp at this; omega
  subst hcl
  have hll : l.length = cap := by have := congrArg List.length h1; simp at this; omega
  subst hll
  have hel1 : ∀ i, i < l.length → ∃ v, w.cells? 0 (ad.add (i * 1)) 1 = some [v] ∧ Rep (startCx w) (.str (l.getD i [])) v := by
    intro i hi
    have hi' : i < elems.length := by omega
    have := hat i hi
    rw [hc, List.getElem?_eq_getElem hi', Option.bind_eq_some_iff] at this
    obtain ⟨vs, g1, g2⟩ := this
    have e1 : elems[i].1 = .lit (.string (l.getD i [])) := by
      have := congrArg (fun q => q[i]?) h1
      simp [hi, hi'] at this
      rw [← this]; simp [List.getD, hi]
    obtain ⟨y, hy⟩ : ∃ y, elems[i] = (DataW.lit (.string (l.getD i [])), y) := ⟨elems[i].2, by rw [← e1]⟩
    rw [hy] at g2
    have g3 := (rx_str (enc := enc) (P := P) (w := w) (held := held) he hc).2 m vs y g2
    have g4 : vs.length = 1 := by have := g3.len; simpa using this
    obtain ⟨v, rfl⟩ := List.length_eq_one_iff.1 g4
    exact ⟨v, g1, by simpa using g3.rep 0 _ rfl⟩
  have hspot : 0 < l.length → ad.spot = none := by
    intro h0
    obtain ⟨v, g1, _⟩ := hel1 0 h0
    obtain ⟨h3, h4⟩ := cells?_at g1
    have h5 := h4 0 (by omega)
    rw [Nat.zero_mul] at h5
    have e0 : ((ad.add 0).add 0) = ad := by unfold Addr.add; simp
    rw [e0] at h5
    exact World.cell?_spot h5
  have hadd : ∀ i, i < l.length → (ad.add (i * 1)).add 0 = ⟨ad.block, ad.off + (i * 1 + 0), none⟩ := by
    intro i hi
    have hs := hspot (by omega)
    obtain ⟨b, o, sp⟩ := ad
    simp only at hs
    subst hs
    unfold Addr.add
    by_cases c1 : i * 1 = 0
    · simp [c1]
    · simp [c1]
  have hcell : ∀ (j i : Nat) (u : AV), j < l.length → [AV.str (l.getD j [])][i]? = some u → ∃ v, w.cell? ⟨ad.block, ad.off + (j * 1 + i), none⟩ = some v ∧ Rep (startCx w) u v := by
    intro j i u hj hu
    cases i with
    | succ i => simp at hu
    | zero =>
      simp at hu; subst hu
      obtain ⟨v, g1, g2⟩ := hel1 j hj
      obtain ⟨h3, h4⟩ := cells?_at g1
      have h5 := h4 0 (by omega)
      rw [hadd j hj] at h5
      exact ⟨v, h5, by simpa [List.getD] using g2⟩
  refine .one1 rfl rfl (.sl .no 1 l.length _ ad l.length (fun j i => (w.cell? ⟨ad.block, ad.off + (j * 1 + i), none⟩).getD undef) hspot (Nat.le_refl _) trivial (fun j hj => ⟨rfl, rfl⟩) (fun j i u hj hu => ?_) (fun j i u hj hu => ?_))
  · obtain ⟨v, g1, _⟩ := hcell j i u hj hu
    refine ⟨?_, ?_, v, g1⟩
    · cases i with
      | zero => simp at hu; subst hu; rfl
      | succ i => simp at hu
    · show w.cell? _ = _
      rw [g1]; rfl
  · obtain ⟨v, g1, g2⟩ := hcell j i u hj hu
    rw [g1]; exact g2⟩
end
end Go.Ab

namespace Go.SH
open Go Go.Ab Go.Proofs Go.RowKit Go.Proofs.YtnldpiohcmgkdaaGreatDoor
set_option linter.unusedVariables false
set_option linter.unusedSimpArgs false
def dstrs : List (DataW Unit) → List (List UInt8)
  | .lit (.string s) :: r => s :: dstrs r
  | _ => []
def dlists : List (DataW Unit) → List (List (List UInt8))
  | .slice es _ :: r => dstrs es :: dlists r
  | _ => []
theorem rx_texts {w : World} {t m : Nat} {d : DataW Unit} (ht : Tryz.prog.underlying t = some (.array m 9)) (hc : Tryz.prog.cellsOf t = m * 1) (hd : d = .agg ((dstrs (parts d)).map fun s => .lit (.string s))) (hl : (dstrs (parts d)).length = m) (he : tcells d = (dstrs (parts d)).map fun s => .str s) : RX (fun _ => ()) Tryz.prog w false t d (tcells d) := by
  rw [he]
  have := rx_array (enc := fun _ => ()) (P := Tryz.prog) (w := w) (held := false) (t := t) (e := 9) (m := m) (sz := 1) (ds := (dstrs (parts d)).map fun s => .lit (.string s)) (us := (dstrs (parts d)).map fun s => [AV.str s]) ht (by kernel_rfl) hc (by simpa using hl) (fun i d u hd hu => by
    rw [List.getElem?_map, Option.map_eq_some_iff] at hd hu
    obtain ⟨z, hz, rfl⟩ := hd
    obtain ⟨z', hz', rfl⟩ := hu
    obtain rfl : z = z' := by rw [hz] at hz'; exact Option.some.inj hz'
    exact rx_str Tryz.underlying9 (by kernel_rfl)) (by simpa using hl)
  rw [← hd] at this
  have hf : ∀ l : List (List UInt8), (l.map fun s => [AV.str s]).flatten = l.map fun s => AV.str s := fun l => by induction l with | nil => rfl | cons s r ih => simp [ih]
  rwa [hf] at this
theorem rx_lists {w : World} {t m : Nat} {d : DataW Unit} (ht : Tryz.prog.underlying t = some (.array m 32)) (hc : Tryz.prog.cellsOf t = m * 1) (hd : d = .agg ((dlists (parts d)).map fun l => .slice (l.map fun s => .lit (.string s)) [])) (hl : (dlists (parts d)).length = m) (he : tcells d = (dlists (parts d)).map fun l => strsA l) : RX (fun _ => ()) Tryz.prog w false t d (tcells d) := by
  rw [he]
  have := rx_array (enc := fun _ => ()) (P := Tryz.prog) (w := w) (held := false) (t := t) (e := 32) (m := m) (sz := 1) (ds := (dlists (parts d)).map fun l => .slice (l.map fun s => .lit (.string s)) []) (us := (dlists (parts d)).map fun l => [strsA l]) ht (by kernel_rfl) hc (by simpa using hl) (fun i d u hd hu => by
    rw [List.getElem?_map, Option.map_eq_some_iff] at hd hu
    obtain ⟨z, hz, rfl⟩ := hd
    obtain ⟨z', hz', rfl⟩ := hu
    obtain rfl : z = z' := by rw [hz] at hz'; exact Option.some.inj hz'
    exact rx_strs Tryz.underlying32 Tryz.underlying9 (by kernel_rfl) (by kernel_rfl)) (by simpa using hl)
  rw [← hd] at this
  have hf : ∀ l : List (List (List UInt8)), (l.map fun s => [strsA s]).flatten = l.map fun s => strsA s := fun l => by induction l with | nil => rfl | cons s r ih => simp [ih]
  rwa [hf] at this
/-- Whatever a row lists, as long as the eight tables are on its list. -/
theorem globs2_of {w : World} {laid : List (String × DataW Unit)} (h : laidMet Tryz.prog laid w) (ho : w.ShapedOpen Tryz.prog)
    (m0 : ("flagstone/flagstonedraw.versions", Rows.laid_flagstone_flagstonedraw_versions) ∈ laid) (m1 : ("flagstone/flagstonedraw.lists", Rows.laid_flagstone_flagstonedraw_lists) ∈ laid) (m2 : ("flagstone/flagstonedraw.texts", Rows.laid_flagstone_flagstonedraw_texts) ∈ laid)
    (m3 : ("strings.asciiSpace", Rows.laid_strings_asciiSpace) ∈ laid) (m4 : ("unicode/utf8.first", Rows.laid_unicode_utf8_first) ∈ laid) (m5 : ("unicode/utf8.acceptRanges", Rows.laid_unicode_utf8_acceptRanges) ∈ laid)
    (m8 : ("strconv.ErrSyntax", Rows.laid_strconv_ErrSyntax) ∈ laid) (m9 : ("strconv.ErrRange", Rows.laid_strconv_ErrRange) ∈ laid) :
    ∀ g cs, V2.G g = some cs → Rep (startCx w) (.elt cs 0) (.pointer (some ⟨g, 0, none⟩)) := by
  intro g cs hg
  have hg : globs2 g = some cs := hg
  unfold globs2 at hg
  by_cases h0 : g = 0
  · subst h0
    obtain rfl := Option.some.inj hg
    exact rep_glob h m0 (by kernel_rfl) (by kernel_rfl) (rx_texts (m := 6) (t := 156) (by kernel_rfl) (by kernel_rfl) (by kernel_rfl) (by kernel_rfl) (by kernel_rfl))
  rw [beqF h0, cond_false] at hg
  by_cases h1 : g = 1
  · subst h1
    obtain rfl := Option.some.inj hg
    exact rep_glob h m1 (by kernel_rfl) (by kernel_rfl) (rx_lists (m := 5) (t := 157) (by kernel_rfl) (by kernel_rfl) (by kernel_rfl) (by kernel_rfl) (by kernel_rfl))
  rw [beqF h1, cond_false] at hg
  by_cases h2 : g = 2
  · subst h2
    obtain rfl := Option.some.inj hg
    exact rep_glob h m2 (by kernel_rfl) (by kernel_rfl) (rx_texts (m := 11) (t := 158) (by kernel_rfl) (by kernel_rfl) (by kernel_rfl) (by kernel_rfl) (by kernel_rfl))
  rw [beqF h2, cond_false] at hg
  exact globs_of h ho m3 m4 m5 m8 m9 g cs hg
section
variable {H : Type} {enc : TypeId × Value → H} {w : World} {N : Nat}
def byteI (z : Int) : Prop := 0 ≤ z ∧ z < 256
theorem rdByte (n : Nat) : Reads enc Tryz.prog w N n 5 (fun z : Int => [.int .u8 z]) byteI := (reads_int Tryz.underlying5).map id (fun _ => rfl) fun z h => by
  simp [Lit.wf, IntKind.min, IntKind.max, IntKind.signed, IntKind.bits] at h
  exact ⟨h.1, by show z < 256; omega⟩
/-- A slice of bytes, as the codes have it. -/
def byteS (l : List Int) : AV := .sl .no 1 l.length fun j => [.int .u8 (l.getD j 0)]
theorem rdBytes (n : Nat) : Reads enc Tryz.prog w N n 26 (fun l : List Int => [byteS l]) (fun l => ∀ z ∈ l, byteI z) :=
  (reads_slice (e := 5) (sz := 1) (α := Int) (cl := fun z => [.int .u8 z]) (Ok := byteI) (fun l j => [.int .u8 (l.getD j 0)]) Tryz.underlying26 (by kernel_rfl) (by omega) (fun _ => rfl) (fun _ _ _ => rfl) (fun m _ => rdByte m)).map id (fun _ => rfl) fun l h => h.2.2
end
/-- A slice that came in. -/
theorem slice_rep {P : Program} {H : Type} {enc : TypeId × Value → H} {W : World} {base : Nat} {t e : TypeId} {v : Value} {d : DataW H} {p : List MemPlace} {α : Type} {cl : α → AV} {Ok : α → Prop} (hs : P.underlying t = some (.slice e))
    (hv : Value.okWide P W .any base t v) (h : DataW.Trod enc P W 0 (fun _ => true) true t v d p) {N : Nat} (hr : ∀ n, Reads enc P W N n t (fun a => [cl a]) Ok) (hb : bulkD d ≤ N) :
    ∃ a, Ok a ∧ Rep (startCx W) (cl a) v ∧ (cl a).keys = [] := by
  obtain ⟨a, len, cap, rfl⟩ := Go.WideShapes.okWide_slice hs hv
  obtain ⟨n, hn⟩ := h
  obtain ⟨x, h1, h2⟩ := hr n (Value.slice a len cap).cells.toList (d, p) hn hb
  refine ⟨x, h2, ?_, (h1.one _ (by simp)).2⟩
  simpa [Value.cells] using h1.rep 0 _ rfl
end Go.SH
