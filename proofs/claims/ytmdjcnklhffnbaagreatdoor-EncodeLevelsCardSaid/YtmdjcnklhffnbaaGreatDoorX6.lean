/- Reading a row's data as abstract values: numbers, texts, bools, slices, structs, to any depth. The package variables that a row lists, as the evaluator's globals. Listed variables that hold slices of texts. -/
import Derived.Test.YtmdjcnklhffnbaaGreatDoorX5
import Derived.ChangeArms
import Derived.ChangeShapes
import Derived.FnData
import Derived.MakeChecks
namespace Go.Ab
open Go Go.RowKit Go.ChangeShapes
mutual
/-- The bulk of a datum. -/
def bulkD {H : Type} : DataW H → Nat
  | .lit (.string bytes) => bytes.length + 1
  | .lit _ => 1
  | .nil => 1
  | .ptr d => bulkD d + 1
  | .slice elems spare => bulkL elems + bulkL spare + 1
  | .agg parts => bulkL parts + 1
  | .iface _ d => bulkD d + 1
  | .map entries => bulkM entries + 1
  | .held _ => 1
def bulkL {H : Type} : List (DataW H) → Nat
  | [] => 0
  | d :: r => bulkD d + bulkL r
def bulkM {H : Type} : List (Lit × DataW H) → Nat
  | [] => 0
  | x :: r => bulkE x + bulkM r
def bulkE {H : Type} : Lit × DataW H → Nat
  | (.string bytes, d) => bytes.length + bulkD d + 1
  | (_, d) => bulkD d + 1
end
theorem bulkD_pos {H : Type} (d : DataW H) : 1 ≤ bulkD d := by
  cases d with
  | lit l => cases l <;> simp [bulkD]
  | _ => simp [bulkD]
theorem bulkL_len {H : Type} : ∀ l : List (DataW H), l.length ≤ bulkL l
  | [] => by simp [bulkL]
  | d :: r => by have := bulkD_pos d; have := bulkL_len r; simp only [List.length_cons, bulkL]; omega
theorem bulkL_at {H : Type} : ∀ {l : List (DataW H)} {i : Nat} {d : DataW H}, l[i]? = some d → bulkD d ≤ bulkL l
  | [], _, _, h => by simp at h
  | e :: r, 0, d, h => by simp at h; subst h; simp only [bulkL]; omega
  | e :: r, i + 1, d, h => by have := bulkL_at (l := r) (i := i) (by simpa using h); simp only [bulkL]; omega

/-- These cells stand for these values. -/
structure CellsR (c : Cx) (us : List AV) (vs : List Value) : Prop where
  len : vs.length = us.length
  one : ∀ u ∈ us, u.one = true ∧ u.keys = []
  rep : ∀ (i : Nat) (u : AV), us[i]? = some u → Rep c u (vs.getD i undef)
theorem keysL_nil : ∀ {us : List AV}, (∀ u ∈ us, u.keys = []) → keysL us = []
  | [], _ => rfl
  | u :: r, h => by rw [keysL, h u (by simp), keysL_nil fun v hv => h v (List.mem_cons_of_mem _ hv)]; rfl
theorem CellsR.nil (c : Cx) : CellsR c [] [] := ⟨rfl, fun _ h => by simp at h, fun i u h => by simp at h⟩
theorem CellsR.append {c : Cx} {us us' : List AV} {vs vs' : List Value} (h : CellsR c us vs) (h' : CellsR c us' vs') : CellsR c (us ++ us') (vs ++ vs') := by
  refine ⟨by simp [h.len, h'.len], fun u hu => ?_, fun i u hu => ?_⟩
  · rcases List.mem_append.1 hu with hu | hu
    · exact h.one u hu
    · exact h'.one u hu
  · by_cases hi : i < us.length
    · rw [List.getElem?_append_left hi] at hu
      have := h.rep i u hu
      rw [List.getD_eq_getElem?_getD] at this ⊢
      rwa [List.getElem?_append_left (by rw [h.len]; exact hi)]
    · rw [List.getElem?_append_right (by omega)] at hu
      have := h'.rep _ u hu
      rw [List.getD_eq_getElem?_getD] at this ⊢
      rw [List.getElem?_append_right (by rw [h.len]; omega), h.len]
      exact this
theorem CellsR.one1 {c : Cx} {u : AV} {v : Value} (h1 : u.one = true) (h2 : u.keys = []) (h : Rep c u v) : CellsR c [u] [v] :=
  ⟨rfl, fun x hx => by simp at hx; subst hx; exact ⟨h1, h2⟩, fun i x hx => by
    cases i with
    | zero => simp at hx; subst hx; exact h
    | succ i => simp at hx⟩
theorem CellsR.agg {c : Cx} {us : List AV} {vs : Array Value} (h : CellsR c us vs.toList) : Rep c (.agg us) (.agg vs) ∧ (AV.agg us).keys = [] := by
  refine ⟨.agg _ _ (by simpa using h.len) (fun i u hu => (h.one u (List.mem_of_getElem? hu)).1) (fun i u hu => ?_), ?_⟩
  · have := h.rep i u hu
    rw [List.getD_eq_getElem?_getD] at this
    rw [Array.getD_eq_getD_getElem?]
    simpa using this
  · simp only [AV.keys]
    exact keysL_nil fun u hu => (h.one u hu).2

section
variable {H : Type} (enc : TypeId × Value → H) (P : Program) (w : World) (N : Nat)
variable {α β : Type}
/-- What stands at type t in n levels is read as one of a family. -/
def Reads (n : Nat) (t : TypeId) (cl : α → List AV) (Ok : α → Prop) : Prop :=
  ∀ cs x, DataW.trod enc P w 0 (fun _ => true) true n t cs = some x → bulkD x.1 ≤ N → ∃ a, CellsR (startCx w) (cl a) cs ∧ Ok a
/-- The same of a struct's fields from one place on. -/
def ReadsF (n : Nat) (fs : List Field) (off len : Nat) (cl : α → List AV) (Ok : α → Prop) : Prop :=
  ∀ (cs : List Value) (xs : List (DataW H × List MemPlace)), xs.length = fs.length → off + len ≤ cs.length →
    (∀ (i : Nat) (f : Field), fs[i]? = some f → DataW.trod enc P w 0 (fun _ => true) true n f.type ((cs.drop f.offset).take (P.cellsOf f.type)) = xs[i]?) →
    bulkL (xs.map (·.1)) ≤ N → ∃ a, CellsR (startCx w) (cl a) ((cs.drop off).take len) ∧ Ok a
variable {enc P w N}
theorem Reads.map {n : Nat} {t : TypeId} {cl : α → List AV} {Ok : α → Prop} {cl' : β → List AV} {Ok' : β → Prop} (h : Reads enc P w N n t cl Ok) (g : α → β) (hc : ∀ a, cl' (g a) = cl a) (ho : ∀ a, Ok a → Ok' (g a)) : Reads enc P w N n t cl' Ok' := fun cs x hx hb => by
  obtain ⟨a, h1, h2⟩ := h cs x hx hb
  exact ⟨g a, by rw [hc]; exact h1, ho a h2⟩
theorem reads_int {n : Nat} {t : TypeId} {k : IntKind} (ht : P.underlying t = some (.int k)) : Reads enc P w N n t (fun z : Int => [.int k z]) (fun z => (Lit.int k z).wf = true) := fun cs x hx hb => by
  obtain ⟨z, rfl, rfl, hw⟩ := DataW.trod_int ht hx
  exact ⟨z, .one1 rfl rfl (.int _ _), hw⟩
theorem reads_bool {n : Nat} {t : TypeId} (ht : P.underlying t = some .bool) : Reads enc P w N n t (fun z : Bool => [.bool z]) (fun _ => True) := fun cs x hx hb => by
  obtain ⟨z, rfl, rfl⟩ := DataW.trod_bool ht hx
  exact ⟨z, .one1 rfl rfl (.bool _), trivial⟩
theorem reads_str {n : Nat} {t : TypeId} (ht : P.underlying t = some .string) : Reads enc P w N n t (fun s : List UInt8 => [.str s]) (fun s => s.length ≤ maxLen ∧ s.length + 1 ≤ N) := fun cs x hx hb => by
  obtain ⟨s, rfl, rfl, hs⟩ := DataW.trod_string ht hx
  simp only [bulkD] at hb
  refine ⟨s.data.toList, .one1 rfl rfl ?_, by rw [Array.length_toList]; exact hs, hb⟩
  have := Rep.str (c := startCx w) s.data.toList
  rwa [Array.toArray_toList] at this
theorem readsF_nil {n off : Nat} : ReadsF enc P w N n [] off 0 (fun _ : Unit => []) (fun _ => True) := fun cs xs _ _ _ _ => ⟨(), by rw [List.take_zero]; exact .nil _, trivial⟩
theorem readsF_cons {n off n1 n2 : Nat} {f : Field} {fs : List Field} {cl1 : α → List AV} {Ok1 : α → Prop} {cl2 : β → List AV} {Ok2 : β → Prop} (h1 : Reads enc P w N n f.type cl1 Ok1) (ho : f.offset = off) (hn : P.cellsOf f.type = n1)
    (h2 : ReadsF enc P w N n fs (off + n1) n2 cl2 Ok2) : ReadsF enc P w N n (f :: fs) off (n1 + n2) (fun p : α × β => cl1 p.1 ++ cl2 p.2) (fun p => Ok1 p.1 ∧ Ok2 p.2) := fun cs xs hl hlen hx hb => by
  cases xs with
  | nil => simp at hl
  | cons x xs =>
    simp only [List.map_cons, bulkL] at hb
    have hx0 := hx 0 f rfl
    rw [ho, hn] at hx0
    obtain ⟨a, e1, e2⟩ := h1 _ x (by simpa using hx0) (by omega)
    obtain ⟨b, g1, g2⟩ := h2 cs xs (by simpa using hl) (by omega) (fun i f' hf => by simpa using hx (i + 1) f' (by simpa using hf)) (by omega)
    refine ⟨(a, b), ?_, e2, g2⟩
    rw [List.take_add, List.drop_drop]
    exact e1.append g1
theorem reads_struct {n : Nat} {t : TypeId} {fs : Array Field} {sz : Nat} {cl : α → List AV} {Ok : α → Prop} (ht : P.underlying t = some (.struct fs)) (hz : P.cellsOf t = sz) (h : ∀ m, n = m + 1 → ReadsF enc P w N m fs.toList 0 sz cl Ok) : Reads enc P w N n t cl Ok := fun cs x hx hb => by
  obtain ⟨xs, m, rfl, rfl, hl, hxl, hf⟩ := DataW.trod_struct ht hx
  simp only [bulkD] at hb
  obtain ⟨a, h1, h2⟩ := h m rfl cs xs (by simpa using hxl) (by omega) (fun i f hi => hf i f (by simpa using hi)) (by omega)
  refine ⟨a, ?_, h2⟩
  rw [List.drop_zero, List.take_of_length_le (by omega)] at h1
  exact h1
theorem mapM_at {γ δ : Type} {f : γ → Option δ} : ∀ {l : List γ} {r : List δ}, l.mapM f = some r → r.length = l.length ∧ ∀ (i : Nat) (a : γ), l[i]? = some a → f a = r[i]?
  | [], r, h => by simp at h; subst h; simp
  | x :: l, r, h => by
    simp only [List.mapM_cons, Option.bind_eq_bind, Option.bind_eq_some_iff, Option.pure_def, Option.some.injEq] at h
    obtain ⟨y, hy, ys, hys, rfl⟩ := h
    obtain ⟨h1, h2⟩ := mapM_at hys
    refine ⟨by simp [h1], fun i a ha => ?_⟩
    cases i with
    | zero => simp at ha; subst ha; simpa using hy
    | succ i => simpa using h2 i a (by simpa using ha)
theorem cells?_at {a : Addr} {n : Nat} {cs : List Value} (h : w.cells? 0 a n = some cs) : cs.length = n ∧ ∀ i, i < n → w.cell? (a.add i) = cs[i]? := by
  unfold World.cells? at h
  rw [if_pos (Nat.zero_le _)] at h
  obtain ⟨h1, h2⟩ := mapM_at h
  refine ⟨by simpa using h1, fun i hi => ?_⟩
  exact h2 i i (by simp [hi])
open Classical in
theorem reads_slice {n : Nat} {t e : TypeId} {sz : Nat} [Inhabited α] {cl : α → List AV} {Ok : α → Prop} (get : List α → Nat → List AV) (ht : P.underlying t = some (.slice e)) (hz : P.cellsOf e = sz) (hp : 0 < sz) (hlen : ∀ a, (cl a).length = sz)
    (hget : ∀ (l : List α) j, j < l.length → get l j = cl (l.getD j default)) (h : ∀ m, n = m + 1 → Reads enc P w N m e cl Ok) :
    Reads enc P w N n t (fun l : List α => [.sl .no sz l.length (get l)]) (fun l => l.length ≤ maxLen ∧ l.length + 1 ≤ N ∧ ∀ a ∈ l, Ok a) := fun cs x hx hb => by
  rcases DataW.trod_slice ht hx with ⟨rfl, rfl⟩ | ⟨ad, len, cap, elems, rest, m, rfl, rfl, rfl, _, hle, hcap, hel, hat, hsp, _⟩
  · refine ⟨[], .one1 rfl rfl ?_, by simp, by simpa [bulkD] using hb, by simp⟩
    exact .slNil .no sz _ trivial
  · simp only [bulkD] at hb
    rw [hz] at hat hsp
    have hb1 : elems.length ≤ bulkL (elems.map (·.1)) := by have := bulkL_len (elems.map (·.1)); simpa using this
    -- each element
    have hel1 : ∀ i, i < len → ∃ vs y a, elems[i]? = some y ∧ w.cells? 0 (ad.add (i * sz)) sz = some vs ∧ CellsR (startCx w) (cl a) vs ∧ Ok a := by
      intro i hi
      have hi' : i < elems.length := by omega
      have := hat i hi
      rw [List.getElem?_eq_getElem hi', Option.bind_eq_some_iff] at this
      obtain ⟨vs, h1, h2⟩ := this
      have hbi : bulkD (elems[i]).1 ≤ bulkL (elems.map (·.1)) := bulkL_at (i := i) (by simp [List.getElem?_eq_getElem hi'])
      obtain ⟨a, h3, h4⟩ := h m rfl vs _ h2 (by omega)
      exact ⟨vs, _, a, List.getElem?_eq_getElem hi', h1, h3, h4⟩
    -- the address has no spot
    have hspot : 0 < cap → ad.spot = none := by
      intro hc
      have : ∃ vs, w.cells? 0 (ad.add (0 * sz)) sz = some vs := by
        by_cases h0 : 0 < len
        · obtain ⟨vs, _, _, _, h2, _⟩ := hel1 0 h0
          exact ⟨vs, h2⟩
        · obtain rfl : len = 0 := by omega
          have h1 := (hsp rfl).2 0 (by omega)
          have h2 := (hsp rfl).1
          cases hr : rest with
          | nil => rw [hr] at h2; simp at h2; omega
          | cons y r =>
            rw [hr] at h1
            simp only [List.getElem?_cons_zero, Option.bind_eq_some_iff] at h1
            obtain ⟨vs, h3, _⟩ := h1
            exact ⟨vs, by simpa using h3⟩
      obtain ⟨vs, h2⟩ := this
      obtain ⟨h3, h4⟩ := cells?_at h2
      have h5 := h4 0 hp
      rw [Nat.zero_mul] at h5
      have e0 : ((ad.add 0).add 0) = ad := by unfold Addr.add; simp
      rw [e0, List.getElem?_eq_getElem (by omega)] at h5
      exact World.cell?_spot h5
    let l : List α := (List.range len).map fun i => if hi : i < len then (hel1 i hi).choose_spec.choose_spec.choose else default
    have hl : l.length = len := by simp [l]
    have hli : ∀ i (hi : i < len), ∃ vs, w.cells? 0 (ad.add (i * sz)) sz = some vs ∧ CellsR (startCx w) (cl (l.getD i default)) vs ∧ Ok (l.getD i default) := by
      intro i hi
      have e : l.getD i default = (hel1 i hi).choose_spec.choose_spec.choose := by
        simp [l, List.getD, hi]
      rw [e]
      exact ⟨_, (hel1 i hi).choose_spec.choose_spec.choose_spec.2⟩
    have hadd : ∀ i, i < len → ∀ q, q < sz → (ad.add (i * sz)).add q = ⟨ad.block, ad.off + (i * sz + q), none⟩ := by
      intro i hi q _
      have hs := hspot (by omega)
      obtain ⟨b, o, sp⟩ := ad
      simp only at hs
      subst hs
      unfold Addr.add
      by_cases c1 : i * sz = 0
      · by_cases c2 : q = 0 <;> simp [c1, c2]
      · by_cases c2 : q = 0 <;> simp [c1, c2, Nat.add_assoc]
    refine ⟨l, .one1 rfl rfl ?_, by omega, by omega, fun a ha => ?_⟩
    · rw [hl]
      have hgl : ∀ j, j < len → get l j = cl (l.getD j default) := fun j hj => hget l j (by omega)
      have hcell : ∀ (j i : Nat) (u : AV), j < len → (get l j)[i]? = some u → ∃ v, w.cell? ⟨ad.block, ad.off + (j * sz + i), none⟩ = some v ∧ Rep (startCx w) u v := by
        intro j i u hj hu
        rw [hgl j hj] at hu
        obtain ⟨vs, h1, h2, _⟩ := hli j hj
        obtain ⟨g1, g2⟩ := cells?_at h1
        have hi : i < sz := by have := (List.getElem?_eq_some_iff.1 hu).1; rw [hlen] at this; exact this
        have g3 := g2 i hi
        rw [hadd j hj i hi, List.getElem?_eq_getElem (by omega)] at g3
        refine ⟨_, g3, ?_⟩
        have := h2.rep i u hu
        rwa [List.getD_eq_getElem?_getD, List.getElem?_eq_getElem (by omega)] at this
      refine .sl .no sz len (get l) ad cap (fun j i => (w.cell? ⟨ad.block, ad.off + (j * sz + i), none⟩).getD undef) hspot hle trivial (fun j hj => ?_) (fun j i u hj hu => ?_) (fun j i u hj hu => ?_)
      · rw [hgl j hj]
        obtain ⟨vs, _, h2, _⟩ := hli j hj
        exact ⟨hlen _, keysL_nil fun u hu => (h2.one u hu).2⟩
      · obtain ⟨v, h1, _⟩ := hcell j i u hj hu
        have hone : u.one = true := by
          rw [hgl j hj] at hu
          obtain ⟨vs, _, h2, _⟩ := hli j hj
          exact (h2.one u (List.mem_of_getElem? hu)).1
        refine ⟨hone, ?_, v, h1⟩
        show w.cell? _ = _
        rw [h1]; rfl
      · obtain ⟨v, h1, h2⟩ := hcell j i u hj hu
        rw [h1]; exact h2
    · obtain ⟨i, hi, rfl⟩ := List.getElem_of_mem ha
      obtain ⟨_, _, _, h4⟩ := hli i (by omega)
      rwa [List.getD_eq_getElem?_getD, List.getElem?_eq_getElem hi] at h4
end
end Go.Ab

namespace Go.Ab
open Go Go.RowKit
section
variable {H : Type} (enc : TypeId × Value → H) (P : Program) (w : World) (held : Bool)
/-- Whatever reads as this datum at this type is these cells. -/
def RX (t : TypeId) (d : DataW H) (us : List AV) : Prop :=
  us.length = P.cellsOf t ∧ ∀ n cs p, DataW.trod enc P w 0 (fun _ => true) held n t cs = some (d, p) → CellsR (startCx w) us cs
variable {enc P w held}
theorem rx_int {t : TypeId} {k : IntKind} {z : Int} (ht : P.underlying t = some (.int k)) (hc : P.cellsOf t = 1) : RX enc P w held t (.lit (.int k z)) [.int k z] := ⟨hc.symm, fun n cs p h => by
  obtain ⟨z', rfl, hx, _⟩ := DataW.trod_int ht h
  simp only [Prod.mk.injEq, DataW.lit.injEq, Lit.int.injEq, true_and] at hx
  obtain ⟨rfl, _⟩ := hx
  exact .one1 rfl rfl (.int _ _)⟩
theorem rx_str {t : TypeId} {s : List UInt8} (ht : P.underlying t = some .string) (hc : P.cellsOf t = 1) : RX enc P w held t (.lit (.string s)) [.str s] := ⟨hc.symm, fun n cs p h => by
  obtain ⟨z, rfl, hx, _⟩ := DataW.trod_string ht h
  simp only [Prod.mk.injEq, DataW.lit.injEq, Lit.string.injEq] at hx
  obtain ⟨rfl, _⟩ := hx
  refine .one1 rfl rfl ?_
  have := Rep.str (c := startCx w) z.data.toList
  rwa [Array.toArray_toList] at this⟩
theorem rx_iface {t : TypeId} {ms : Array (String × TypeId)} {nm : String} {d : DataW H} (ht : P.underlying t = some (.interface ms)) (hc : P.cellsOf t = 1) : RX enc P w held t (.iface nm d) [.nni] := ⟨hc.symm, fun n cs p h => by
  cases n with
  | zero => simp [DataW.trod] at h
  | succ n =>
    unfold DataW.trod at h
    rw [ht] at h
    split at h <;> simp_all
    exact .one1 rfl rfl (.nni _ _)⟩
theorem rx_flat {c : Cx} {cs : List Value} {sz : Nat} : ∀ (us : List (List AV)) (k : Nat), (∀ (i : Nat) (u : List AV), us[i]? = some u → CellsR c u ((cs.drop ((k + i) * sz)).take sz) ∧ u.length = sz) → cs.length = (k + us.length) * sz → CellsR c us.flatten (cs.drop (k * sz))
  | [], k, _, hl => by
    rw [List.drop_eq_nil_of_le (by simp at hl; omega)]
    exact .nil _
  | u :: us, k, h, hl => by
    have h0 := h 0 u rfl
    have ih := rx_flat us (k + 1) (fun i v hv => by
      have := h (i + 1) v (by simpa using hv)
      rwa [show k + (i + 1) = k + 1 + i by omega] at this) (by rw [hl]; simp only [List.length_cons]; congr 1; omega)
    have e : cs.drop (k * sz) = (cs.drop (k * sz)).take sz ++ cs.drop ((k + 1) * sz) := by
      rw [show (k + 1) * sz = k * sz + sz by rw [Nat.add_mul, Nat.one_mul], ← List.drop_drop, List.take_append_drop]
    rw [e, List.flatten_cons]
    exact h0.1.append ih
theorem rx_array {t e : TypeId} {m sz : Nat} {ds : List (DataW H)} {us : List (List AV)} (ht : P.underlying t = some (.array m e)) (he : P.cellsOf e = sz) (hc : P.cellsOf t = m * sz) (hl : us.length = m)
    (h : ∀ (i : Nat) (d : DataW H) (u : List AV), ds[i]? = some d → us[i]? = some u → RX enc P w held e d u) (hd : ds.length = m) : RX enc P w held t (.agg ds) us.flatten := by
  have hu : ∀ (i : Nat) (u : List AV), us[i]? = some u → u.length = sz := fun i u hi => by
    have hlt := (List.getElem?_eq_some_iff.1 hi).1
    rw [(h i (ds[i]'(by omega)) u (List.getElem?_eq_getElem _) hi).1, he]
  refine ⟨?_, fun n cs p hx => ?_⟩
  · rw [hc, List.length_flatten, ← hl]
    have : ∀ l : List (List AV), (∀ (i : Nat) (u : List AV), l[i]? = some u → u.length = sz) → (l.map List.length).sum = l.length * sz := by
      intro l
      induction l with
      | nil => intro _; simp
      | cons a r ih =>
        intro h
        have h0 := h 0 a rfl
        have h1 := ih fun i u hi => h (i + 1) u (by simpa using hi)
        simp only [List.map_cons, List.sum_cons, h1, h0, List.length_cons, Nat.add_mul, Nat.one_mul]; omega
    exact this us hu
  · cases n with
    | zero => simp [DataW.trod] at hx
    | succ n =>
      simp only [DataW.trod, ht, he, hc] at hx
      split at hx
      · rename_i hcl
        obtain ⟨xs, hm, hxe⟩ := Option.map_eq_some_iff.1 hx
        have hxs : xs.map (·.1) = ds := by
          have := congrArg Prod.fst hxe
          simpa using this
        obtain ⟨hxl, hat⟩ := mapM_at hm
        have hxl : xs.length = m := by simpa using hxl
        have := rx_flat (c := startCx w) (cs := cs) (sz := sz) us 0 (fun i u hi => by
          have hlt := (List.getElem?_eq_some_iff.1 hi).1
          have hlt2 : i < xs.length := by omega
          have hf := hat i i (List.getElem?_range (by omega))
          rw [List.getElem?_eq_getElem hlt2] at hf
          have hdi : ds[i]? = some (xs[i]'hlt2).1 := by
            have := congrArg (·[i]?) hxs
            simp only [List.getElem?_map, List.getElem?_eq_getElem hlt2, Option.map_some] at this
            exact this.symm
          refine ⟨?_, hu i u hi⟩
          rw [Nat.zero_add]
          exact (h i _ u hdi hi).2 n _ (xs[i]'hlt2).2 hf) (by rw [hcl, Nat.zero_add, hl])
        simpa using this
      · cases hx
theorem rx_two {t : TypeId} {f0 f1 : Field} {d0 d1 : DataW H} {u0 u1 : List AV} (ht : P.underlying t = some (.struct #[f0, f1])) (h0 : RX enc P w held f0.type d0 u0) (h1 : RX enc P w held f1.type d1 u1) (o0 : f0.offset = 0) (o1 : f1.offset = P.cellsOf f0.type) (hc : P.cellsOf t = P.cellsOf f0.type + P.cellsOf f1.type) :
    RX enc P w held t (.agg [d0, d1]) (u0 ++ u1) := by
  refine ⟨by rw [List.length_append, h0.1, h1.1, hc], fun n cs p hx => ?_⟩
  obtain ⟨xs, m, rfl, hxe, hl, hxl, hf⟩ := DataW.trod_struct ht hx
  match xs, hxl with
  | [y0, y1], _ =>
    simp only [List.map_cons, List.map_nil, Prod.mk.injEq, DataW.agg.injEq, List.cons.injEq, and_true] at hxe
    obtain ⟨⟨rfl, rfl⟩, _⟩ := hxe
    have a0 := hf 0 f0 rfl
    have a1 := hf 1 f1 rfl
    rw [o0, List.drop_zero] at a0
    rw [o1] at a1
    have b0 := h0.2 m _ y0.2 a0
    have b1 := h1.2 m _ y1.2 a1
    have e : cs = cs.take (P.cellsOf f0.type) ++ (cs.drop (P.cellsOf f0.type)).take (P.cellsOf f1.type) := by
      rw [List.take_of_length_le (l := cs.drop (P.cellsOf f0.type)) (by rw [List.length_drop]; omega), List.take_append_drop]
    rw [e]
    exact b0.append b1
/-- A table of numbers. -/
theorem rx_ints {t e : TypeId} {m : Nat} {k : IntKind} {zs : List Int} (ht : P.underlying t = some (.array m e)) (he : P.underlying e = some (.int k)) (hc : P.cellsOf e = 1) (hct : P.cellsOf t = m) (hl : zs.length = m) :
    RX enc P w held t (.agg (zs.map fun z => .lit (.int k z))) (zs.map fun z => .int k z) := by
  have := rx_array (enc := enc) (P := P) (w := w) (held := held) (ds := zs.map fun z => (.lit (.int k z) : DataW H)) (us := zs.map fun z => [AV.int k z]) ht hc (by rw [hct, Nat.mul_one]) (by simpa using hl) (fun i d u hd hu => by
    rw [List.getElem?_map, Option.map_eq_some_iff] at hd hu
    obtain ⟨z, hz, rfl⟩ := hd
    obtain ⟨z', hz', rfl⟩ := hu
    obtain rfl : z = z' := by rw [hz] at hz'; exact Option.some.inj hz'
    exact rx_int he hc) (by simpa using hl)
  rwa [show (zs.map fun z => [AV.int k z]).flatten = zs.map fun z => AV.int k z by induction zs with
    | nil => rfl
    | cons a r ih => rw [List.map_cons, List.flatten_cons, List.map_cons, List.singleton_append]; congr 1; clear hl this ih; induction r with
      | nil => rfl
      | cons b q ih => rw [List.map_cons, List.flatten_cons, ih]; rfl] at this
end
theorem laid_at {P : Program} {w : World} : ∀ {laid : List (String × DataW Unit)} {ps : List MemPlace}, DataW.LaidVars P w laid ps → ∀ {nm : String} {d : DataW Unit}, (nm, d) ∈ laid →
    ∃ g t cs fuel p, P.globalNamed nm = some g ∧ (P.globals[g]?).map (·.type) = some t ∧ w.var? P nm = some cs ∧ DataW.trod (fun _ => ()) P w 0 (fun _ => true) false fuel t cs.toList = some (d, p)
  | [], _, _, _, _, hm => by simp at hm
  | (n0, d0) :: r, ps, h, nm, d, hm => by
    obtain ⟨g, t, cs, fuel, p, q, h1, h2, h3, h4, h5, _⟩ := h
    rcases List.mem_cons.1 hm with e | hm
    · simp only [Prod.mk.injEq] at e
      obtain ⟨rfl, rfl⟩ := e
      exact ⟨g, t, cs, fuel, p, h1, h2, h3, h4⟩
    · exact laid_at h5 hm
theorem rep_cells {w : World} {g : Nat} {us : List AV} {cs : Array Value} (hv : ∀ i, w.cell? ⟨g, i, none⟩ = cs[i]?) (h : CellsR (startCx w) us cs.toList) : Rep (startCx w) (.elt us 0) (.pointer (some ⟨g, 0, none⟩)) := by
  have hi : ∀ (i : Nat) (u : AV), us[i]? = some u → ∃ v, cs[i]? = some v ∧ Rep (startCx w) u v := fun i u hu => by
    have hlt := (List.getElem?_eq_some_iff.1 hu).1
    have hlt' : i < cs.size := by have := h.len; simp at this; omega
    refine ⟨cs[i], Array.getElem?_eq_getElem hlt', ?_⟩
    have := h.rep i u hu
    rwa [List.getD_eq_getElem?_getD, Array.getElem?_toList, Array.getElem?_eq_getElem hlt'] at this
  refine .elt us 0 g 0 (fun i => (cs[i]?).getD undef) (keysL_nil fun u hu => (h.one u hu).2) (fun i u hu => ?_) (fun i u hu => ?_)
  · obtain ⟨v, h1, h2⟩ := hi i u hu
    rw [Nat.zero_add]
    refine ⟨(h.one u (List.mem_of_getElem? hu)).1, ?_, v, ?_⟩
    · show w.cell? _ = _
      rw [hv, h1]; rfl
    · rw [hv, h1]
  · obtain ⟨v, h1, h2⟩ := hi i u hu
    rw [h1]; exact h2
theorem rep_glob {P : Program} {w : World} {laid : List (String × DataW Unit)} (h : laidMet P laid w) {nm : String} {d : DataW Unit} {g : Nat} {t : TypeId} {us : List AV} (hm : (nm, d) ∈ laid) (hg : P.globalNamed nm = some g) (ht : (P.globals[g]?).map (·.type) = some t)
    (hr : RX (fun _ => ()) P w false t d us) : Rep (startCx w) (.elt us 0) (.pointer (some ⟨g, 0, none⟩)) := by
  obtain ⟨ps, hl, _⟩ := h
  obtain ⟨g', t', cs, fuel, p, h1, h2, h3, h4⟩ := laid_at hl hm
  obtain rfl := Option.some.inj (hg.symm.trans h1)
  obtain rfl := Option.some.inj (ht.symm.trans h2)
  exact rep_cells (fun i => World.var?_cell h1 h3 i) (hr.2 fuel _ p h4)
theorem calls_true_of {P : Program} {G : Nat → Option (List AV)} {f : FuncId} {l : List AV} {os : List AO} {xs : List Value} {w : World} (hg : ∀ g cs, G g = some cs → Rep (startCx w) (.elt cs 0) (.pointer (some ⟨g, 0, none⟩))) (h : Ct P G f l [] (.bool true, os)) (hs : Stand w l xs) :
    Calls P f xs.toArray w fun e w' => e = .returned (.bool true) ∧ Below w.heap.size w w' := by
  obtain ⟨h1, h2, h3⟩ := hs.spec
  refine (h.1 (startCx w) xs.toArray ⟨fun _ _ h => h, hg⟩ (startCx_objs w) (by simpa using h1) (fun i u hu => ?_) (by rw [h2]; simp)).mono ?_
  · have := h3 i u hu
    simpa [Array.getD_eq_getD_getElem?, List.getD_eq_getElem?_getD] using this
  · rintro e w' ⟨c', x, rfl, rfl, _, hF, _, hr, _, _⟩
    cases hr
    refine ⟨rfl, hF.os, hF.tape, hF.output, hF.size, fun b hb => hF.block b hb ?_⟩
    rintro ⟨k, o, ho, _⟩
    simp [enterObjs, alook] at ho
end Go.Ab

namespace Go.Ab
open Go Go.RowKit
section
variable {H : Type} {enc : TypeId × Value → H} {P : Program} {w : World} {held : Bool}
theorem rx_strs {t e : TypeId} {l : List (List UInt8)} (ht : P.underlying t = some (.slice e)) (he : P.underlying e = some .string) (hc : P.cellsOf e = 1) (hct : P.cellsOf t = 1) :
    RX enc P w held t (.slice (l.map fun s => .lit (.string s)) []) [.sl .no 1 l.length fun j => [.str (l.getD j [])]] := ⟨hct.symm, fun n cs p h => by
  rcases DataW.trod_slice ht h with ⟨_, hx⟩ | ⟨ad, len, cap, elems, rest, m, rfl, rfl, hx, _, hle, hcap, hel, hat, hsp, _⟩
  · simp at hx
  simp only [Prod.mk.injEq, DataW.slice.injEq] at hx
  obtain ⟨⟨h1, h2⟩, _⟩ := hx
  have h2 : rest = [] := by cases rest with | nil => rfl | cons => simp at h2
  subst h2
  have hcl : cap = len := by have := (hsp rfl).1; simp at this; omega
  subst hcl
  have hll : l.length = cap := by have := congrArg List.length h1; simp at this; omega
  subst hll
  have hel1 : ∀ i, i < l.length → ∃ v, w.cells? 0 (ad.add (i * 1)) 1 = some [v] ∧ Rep (startCx w) (.str (l.getD i [])) v := by
    intro i hi
    have hi' : i < elems.length := by omega
    have := hat i hi
    rw [hc, List.getElem?_eq_getElem hi', Option.bind_eq_some_iff] at this
    obtain ⟨vs, g1, g2⟩ := this
    have e1 : elems[i].1 = .lit (.string (l.getD i [])) := by
      have := congrArg (fun q => q[i]?) h1
      simp [hi, hi'] at this
      rw [← this]; simp [List.getD, hi]
    obtain ⟨y, hy⟩ : ∃ y, elems[i] = (DataW.lit (.string (l.getD i [])), y) := ⟨elems[i].2, by rw [← e1]⟩
    rw [hy] at g2
    have g3 := (rx_str (enc := enc) (P := P) (w := w) (held := held) he hc).2 m vs y g2
    have g4 : vs.length = 1 := by have := g3.len; simpa using this
    obtain ⟨v, rfl⟩ := List.length_eq_one_iff.1 g4
    exact ⟨v, g1, by simpa using g3.rep 0 _ rfl⟩
  have hspot : 0 < l.length → ad.spot = none := by
    intro h0
    obtain ⟨v, g1, _⟩ := hel1 0 h0
    obtain ⟨h3, h4⟩ := cells?_at g1
    have h5 := h4 0 (by omega)
    rw [Nat.zero_mul] at h5
    have e0 : ((ad.add 0).add 0) = ad := by unfold Addr.add; simp
    rw [e0] at h5
    exact World.cell?_spot h5
  have hadd : ∀ i, i < l.length → (ad.add (i * 1)).add 0 = ⟨ad.block, ad.off + (i * 1 + 0), none⟩ := by
    intro i hi
    have hs := hspot (by omega)
    obtain ⟨b, o, sp⟩ := ad
    simp only at hs
    subst hs
    by_cases c1 : i = 0
    · subst c1; rfl
    · have e1 : (⟨b, o, none⟩ : Addr).add (i * 1) = ⟨b, o + i * 1, none⟩ := by
        unfold Addr.add
        rw [if_neg (show ¬ i * 1 = 0 by omega)]
      rw [e1]; rfl
  have hcell : ∀ (j i : Nat) (u : AV), j < l.length → [AV.str (l.getD j [])][i]? = some u → ∃ v, w.cell? ⟨ad.block, ad.off + (j * 1 + i), none⟩ = some v ∧ Rep (startCx w) u v := by
    intro j i u hj hu
    cases i with
    | succ i => simp at hu
    | zero =>
      simp at hu; subst hu
      obtain ⟨v, g1, g2⟩ := hel1 j hj
      obtain ⟨h3, h4⟩ := cells?_at g1
      have h5 := h4 0 (by omega)
      rw [hadd j hj] at h5
      exact ⟨v, h5, by simpa [List.getD] using g2⟩
  refine .one1 rfl rfl (.sl .no 1 l.length _ ad l.length (fun j i => (w.cell? ⟨ad.block, ad.off + (j * 1 + i), none⟩).getD undef) hspot (Nat.le_refl _) trivial (fun j hj => ⟨rfl, rfl⟩) (fun j i u hj hu => ?_) (fun j i u hj hu => ?_))
  · obtain ⟨v, g1, _⟩ := hcell j i u hj hu
    refine ⟨?_, ?_, v, g1⟩
    · cases i with
      | zero => simp at hu; subst hu; rfl
      | succ i => simp at hu
    · show w.cell? _ = _
      rw [g1]; rfl
  · obtain ⟨v, g1, g2⟩ := hcell j i u hj hu
    rw [g1]; exact g2⟩
end
end Go.Ab
