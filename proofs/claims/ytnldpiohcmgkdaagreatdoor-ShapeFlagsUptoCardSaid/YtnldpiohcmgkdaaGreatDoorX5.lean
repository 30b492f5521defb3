/- ShapeFlags: for any flag, segment, layer and experiment of bulk at most 1048576 the law returns true, and its arguments read as before. Conditions: those of the given row and of the given tie, no others. -/
import Derived.Test.YtnldpiohcmgkdaaGreatDoorX4
import Derived.ChangeArms
import Derived.ChangeShapes
import Derived.FnData
import Derived.MakeChecks
import Derived.Test.YtnldpiohcmgkdaaGreatDoorCards
import Derived.Test.YtnldpiohcmgkdaaGreatDoorTie
import Derived.ProofKit
import Derived.Lay
import Derived.LaidOnce
import Derived.OpenShut
import Derived.Below
import Derived.ChangeOld
import Derived.SevenTiedAt
import Derived.Deep.DeepHandedRow
import Derived.Deep.DeepWitnessRowRef
namespace Go.Ab
open Go Go.RowKit Go.ChangeShapes
mutual
/-- The bulk of a datum. -/
def bulkD {H : Type} : DataW H → Nat
  | .lit (.string bytes) => bytes.length + 1
  | .lit _ => 1
  | .nil => 1
  | .ptr d => bulkD d + 1
  | .slice elems spare => bulkL elems + bulkL spare + 1
  | .agg parts => bulkL parts + 1
  | .iface _ d => bulkD d + 1
  | .map entries => bulkM entries + 1
  | .held _ => 1
def bulkL {H : Type} : List (DataW H) → Nat
  | [] => 0
  | d :: r => bulkD d + bulkL r
def bulkM {H : Type} : List (Lit × DataW H) → Nat
  | [] => 0
  | x :: r => bulkE x + bulkM r
def bulkE {H : Type} : Lit × DataW H → Nat
  | (.string bytes, d) => bytes.length + bulkD d + 1
  | (_, d) => bulkD d + 1
end
theorem bulkD_pos {H : Type} (d : DataW H) : 1 ≤ bulkD d := by
  cases d with
  | lit l => cases l <;> simp [bulkD]
  | _ => simp [bulkD]
theorem bulkL_len {H : Type} : ∀ l : List (DataW H), l.length ≤ bulkL l
  | [] => by simp [bulkL]
  | d :: r => by have := bulkD_pos d; have := bulkL_len r; simp only [List.length_cons, bulkL]; omega
theorem bulkL_at {H : Type} : ∀ {l : List (DataW H)} {i : Nat} {d : DataW H}, l[i]? = some d → bulkD d ≤ bulkL l
  | [], _, _, h => by simp at h
  | e :: r, 0, d, h => by simp at h; subst h; simp only [bulkL]; omega
  | e :: r, i + 1, d, h => by have := bulkL_at (l := r) (i := i) (by simpa using h); simp only [bulkL]; omega

/-- These cells stand for these values. -/
structure CellsR (c : Cx) (us : List AV) (vs : List Value) : Prop where
  len : vs.length = us.length
  one : ∀ u ∈ us, u.one = true ∧ u.keys = []
  rep : ∀ (i : Nat) (u : AV), us[i]? = some u → Rep c u (vs.getD i undef)
theorem keysL_nil : ∀ {us : List AV}, (∀ u ∈ us, u.keys = []) → keysL us = []
  | [], _ => rfl
  | u :: r, h => by rw [keysL, h u (by simp), keysL_nil fun v hv => h v (List.mem_cons_of_mem _ hv)]; rfl
theorem CellsR.nil (c : Cx) : CellsR c [] [] := ⟨rfl, fun _ h => by simp at h, fun i u h => by simp at h⟩
theorem CellsR.append {c : Cx} {us us' : List AV} {vs vs' : List Value} (h : CellsR c us vs) (h' : CellsR c us' vs') : CellsR c (us ++ us') (vs ++ vs') := by
  refine ⟨by simp [h.len, h'.len], fun u hu => ?_, fun i u hu => ?_⟩
  · rcases List.mem_append.1 hu with hu | hu
    · exact h.one u hu
    · exact h'.one u hu
  · by_cases hi : i < us.length
    · rw [List.getElem?_append_left hi] at hu
      have := h.rep i u hu
      rw [List.getD_eq_getElem?_getD] at this ⊢
      rwa [List.getElem?_append_left (by rw [h.len]; exact hi)]
    · rw [List.getElem?_append_right (by omega)] at hu
      have := h'.rep _ u hu
      rw [List.getD_eq_getElem?_getD] at this ⊢
      rw [List.getElem?_append_right (by rw [h.len]; omega), h.len]
      exact this
theorem CellsR.one1 {c : Cx} {u : AV} {v : Value} (h1 : u.one = true) (h2 : u.keys = []) (h : Rep c u v) : CellsR c [u] [v] :=
  ⟨rfl, fun x hx => by simp at hx; subst hx; exact ⟨h1, h2⟩, fun i x hx => by
    cases i with
    | zero => simp at hx; subst hx; exact h
    | succ i => simp at hx⟩
theorem CellsR.agg {c : Cx} {us : List AV} {vs : Array Value} (h : CellsR c us vs.toList) : Rep c (.agg us) (.agg vs) ∧ (AV.agg us).keys = [] := by
  refine ⟨.agg _ _ (by simpa using h.len) (fun i u hu => (h.one u (List.mem_of_getElem? hu)).1) (fun i u hu => ?_), ?_⟩
  · have := h.rep i u hu
    rw [List.getD_eq_getElem?_getD] at this
    rw [Array.getD_eq_getD_getElem?]
    simpa using this
  · simp only [AV.keys]
    exact keysL_nil fun u hu => (h.one u hu).2

section
variable {H : Type} (enc : TypeId × Value → H) (P : Program) (w : World) (N : Nat)
variable {α β : Type}
/-- What stands at type t in n levels is read as one of a family. -/
def Reads (n : Nat) (t : TypeId) (cl : α → List AV) (Ok : α → Prop) : Prop :=
  ∀ cs x, DataW.trod enc P w 0 (fun _ => true) true n t cs = some x → bulkD x.1 ≤ N → ∃ a, CellsR (startCx w) (cl a) cs ∧ Ok a
/-- The same of a struct's fields from one place on. -/
def ReadsF (n : Nat) (fs : List Field) (off len : Nat) (cl : α → List AV) (Ok : α → Prop) : Prop :=
  ∀ (cs : List Value) (xs : List (DataW H × List MemPlace)), xs.length = fs.length → off + len ≤ cs.length →
    (∀ (i : Nat) (f : Field), fs[i]? = some f → DataW.trod enc P w 0 (fun _ => true) true n f.type ((cs.drop f.offset).take (P.cellsOf f.type)) = xs[i]?) →
    bulkL (xs.map (·.1)) ≤ N → ∃ a, CellsR (startCx w) (cl a) ((cs.drop off).take len) ∧ Ok a
variable {enc P w N}
theorem Reads.map {n : Nat} {t : TypeId} {cl : α → List AV} {Ok : α → Prop} {cl' : β → List AV} {Ok' : β → Prop} (h : Reads enc P w N n t cl Ok) (g : α → β) (hc : ∀ a, cl' (g a) = cl a) (ho : ∀ a, Ok a → Ok' (g a)) : Reads enc P w N n t cl' Ok' := fun cs x hx hb => by
  obtain ⟨a, h1, h2⟩ := h cs x hx hb
  exact ⟨g a, by rw [hc]; exact h1, ho a h2⟩
theorem reads_int {n : Nat} {t : TypeId} {k : IntKind} (ht : P.underlying t = some (.int k)) : Reads enc P w N n t (fun z : Int => [.int k z]) (fun z => (Lit.int k z).wf = true) := fun cs x hx hb => by
  obtain ⟨z, rfl, rfl, hw⟩ := DataW.trod_int ht hx
  exact ⟨z, .one1 rfl rfl (.int _ _), hw⟩
theorem reads_bool {n : Nat} {t : TypeId} (ht : P.underlying t = some .bool) : Reads enc P w N n t (fun z : Bool => [.bool z]) (fun _ => True) := fun cs x hx hb => by
  obtain ⟨z, rfl, rfl⟩ := DataW.trod_bool ht hx
  exact ⟨z, .one1 rfl rfl (.bool _), trivial⟩
theorem reads_str {n : Nat} {t : TypeId} (ht : P.underlying t = some .string) : Reads enc P w N n t (fun s : List UInt8 => [.str s]) (fun s => s.length ≤ maxLen ∧ s.length + 1 ≤ N) := fun cs x hx hb => by
  obtain ⟨s, rfl, rfl, hs⟩ := DataW.trod_string ht hx
  simp only [bulkD] at hb
  refine ⟨s.data.toList, .one1 rfl rfl ?_, by rw [Array.length_toList]; exact hs, hb⟩
  have := Rep.str (c := startCx w) s.data.toList
  rwa [Array.toArray_toList] at this
theorem readsF_nil {n off : Nat} : ReadsF enc P w N n [] off 0 (fun _ : Unit => []) (fun _ => True) := fun cs xs _ _ _ _ => ⟨(), by rw [List.take_zero]; exact .nil _, trivial⟩
theorem readsF_cons {n off n1 n2 : Nat} {f : Field} {fs : List Field} {cl1 : α → List AV} {Ok1 : α → Prop} {cl2 : β → List AV} {Ok2 : β → Prop} (h1 : Reads enc P w N n f.type cl1 Ok1) (ho : f.offset = off) (hn : P.cellsOf f.type = n1)
    (h2 : ReadsF enc P w N n fs (off + n1) n2 cl2 Ok2) : ReadsF enc P w N n (f :: fs) off (n1 + n2) (fun p : α × β => cl1 p.1 ++ cl2 p.2) (fun p => Ok1 p.1 ∧ Ok2 p.2) := fun cs xs hl hlen hx hb => by
  cases xs with
  | nil => simp at hl
  | cons x xs =>
    simp only [List.map_cons, bulkL] at hb
    have hx0 := hx 0 f rfl
    rw [ho, hn] at hx0
    obtain ⟨a, e1, e2⟩ := h1 _ x (by simpa using hx0) (by omega)
    obtain ⟨b, g1, g2⟩ := h2 cs xs (by simpa using hl) (by omega) (fun i f' hf => by simpa using hx (i + 1) f' (by simpa using hf)) (by omega)
    refine ⟨(a, b), ?_, e2, g2⟩
    rw [List.take_add, List.drop_drop]
    exact e1.append g1
theorem reads_struct {n : Nat} {t : TypeId} {fs : Array Field} {sz : Nat} {cl : α → List AV} {Ok : α → Prop} (ht : P.underlying t = some (.struct fs)) (hz : P.cellsOf t = sz) (h : ∀ m, n = m + 1 → ReadsF enc P w N m fs.toList 0 sz cl Ok) : Reads enc P w N n t cl Ok := fun cs x hx hb => by
  obtain ⟨xs, m, rfl, rfl, hl, hxl, hf⟩ := DataW.trod_struct ht hx
  simp only [bulkD] at hb
  obtain ⟨a, h1, h2⟩ := h m rfl cs xs (by simpa using hxl) (by omega) (fun i f hi => hf i f (by simpa using hi)) (by omega)
  refine ⟨a, ?_, h2⟩
  rw [List.drop_zero, List.take_of_length_le (by omega)] at h1
  exact h1
theorem mapM_at {γ δ : Type} {f : γ → Option δ} : ∀ {l : List γ} {r : List δ}, l.mapM f = some r → r.length = l.length ∧ ∀ (i : Nat) (a : γ), l[i]? = some a → f a = r[i]?
  | [], r, h => by simp at h; subst h; simp
  | x :: l, r, h => by
    simp only [List.mapM_cons, Option.bind_eq_bind, Option.bind_eq_some_iff, Option.pure_def, Option.some.injEq] at h
    obtain ⟨y, hy, ys, hys, rfl⟩ := h
    obtain ⟨h1, h2⟩ := mapM_at hys
    refine ⟨by simp [h1], fun i a ha => ?_⟩
    cases i with
    | zero => simp at ha; subst ha; simpa using hy
    | succ i => simpa using h2 i a (by simpa using ha)
theorem cells?_at {a : Addr} {n : Nat} {cs : List Value} (h : w.cells? 0 a n = some cs) : cs.length = n ∧ ∀ i, i < n → w.cell? (a.add i) = cs[i]? := by
  unfold World.cells? at h
  rw [if_pos (Nat.zero_le _)] at h
  obtain ⟨h1, h2⟩ := mapM_at h
  refine ⟨by simpa using h1, fun i hi => ?_⟩
  exact h2 i i (by simp [List.getElem?_range, hi])
open Classical in
theorem reads_slice {n : Nat} {t e : TypeId} {sz : Nat} [Inhabited α] {cl : α → List AV} {Ok : α → Prop} (get : List α → Nat → List AV) (ht : P.underlying t = some (.slice e)) (hz : P.cellsOf e = sz) (hp : 0 < sz) (hlen : ∀ a, (cl a).length = sz)
    (hget : ∀ (l : List α) j, j < l.length → get l j = cl (l.getD j default)) (h : ∀ m, n = m + 1 → Reads enc P w N m e cl Ok) :
    Reads enc P w N n t (fun l : List α => [.sl .no sz l.length (get l)]) (fun l => l.length ≤ maxLen ∧ l.length + 1 ≤ N ∧ ∀ a ∈ l, Ok a) := fun cs x hx hb => by
  rcases DataW.trod_slice ht hx with ⟨rfl, rfl⟩ | ⟨ad, len, cap, elems, rest, m, rfl, rfl, rfl, _, hle, hcap, hel, hat, hsp, _⟩
  · refine ⟨[], .one1 rfl rfl ?_, by simp, by simpa [bulkD] using hb, by simp⟩
    exact .slNil .no sz _ trivial
  · simp only [bulkD] at hb
    rw [hz] at hat hsp
    have hb1 : elems.length ≤ bulkL (elems.map (·.1)) := by have := bulkL_len (elems.map (·.1)); simpa using this
    -- each element
    have hel1 : ∀ i, i < len → ∃ vs y a, elems[i]? = some y ∧ w.cells? 0 (ad.add (i * sz)) sz = some vs ∧ CellsR (startCx w) (cl a) vs ∧ Ok a := by
      intro i hi
      have hi' : i < elems.length := by omega
      have := hat i hi
      rw [List.getElem?_eq_getElem hi', Option.bind_eq_some_iff] at this
      obtain ⟨vs, h1, h2⟩ := this
      have hbi : bulkD (elems[i]).1 ≤ bulkL (elems.map (·.1)) := bulkL_at (i := i) (by simp [List.getElem?_eq_getElem hi'])
      obtain ⟨a, h3, h4⟩ := h m rfl vs _ h2 (by omega)
      exact ⟨vs, _, a, List.getElem?_eq_getElem hi', h1, h3, h4⟩
    -- the address has no spot
    have hspot : 0 < cap → ad.spot = none := by
      intro hc
      have : ∃ vs, w.cells? 0 (ad.add (0 * sz)) sz = some vs := by
        by_cases h0 : 0 < len
        · obtain ⟨vs, _, _, _, h2, _⟩ := hel1 0 h0
          exact ⟨vs, h2⟩
        · obtain rfl : len = 0 := by omega
          have h1 := (hsp rfl).2 0 (by omega)
          have h2 := (hsp rfl).1
          cases hr : rest with
          | nil => rw [hr] at h2; simp at h2; omega
          | cons y r =>
            rw [hr] at h1
            simp only [List.getElem?_cons_zero, Option.bind_eq_some_iff] at h1
            obtain ⟨vs, h3, _⟩ := h1
            exact ⟨vs, by simpa using h3⟩
      obtain ⟨vs, h2⟩ := this
      obtain ⟨h3, h4⟩ := cells?_at h2
      have h5 := h4 0 hp
      rw [Nat.zero_mul] at h5
      have e0 : ((ad.add 0).add 0) = ad := by unfold Addr.add; simp
      rw [e0, List.getElem?_eq_getElem (by omega)] at h5
      exact World.cell?_spot h5
    let l : List α := (List.range len).map fun i => if hi : i < len then (hel1 i hi).choose_spec.choose_spec.choose else default
    have hl : l.length = len := by simp [l]
    have hli : ∀ i (hi : i < len), ∃ vs, w.cells? 0 (ad.add (i * sz)) sz = some vs ∧ CellsR (startCx w) (cl (l.getD i default)) vs ∧ Ok (l.getD i default) := by
      intro i hi
      have e : l.getD i default = (hel1 i hi).choose_spec.choose_spec.choose := by
        simp [l, List.getD, List.getElem?_map, List.getElem?_range, hi]
      rw [e]
      exact ⟨_, (hel1 i hi).choose_spec.choose_spec.choose_spec.2⟩
    have hadd : ∀ i, i < len → ∀ q, q < sz → (ad.add (i * sz)).add q = ⟨ad.block, ad.off + (i * sz + q), none⟩ := by
      intro i hi q _
      have hs := hspot (by omega)
      obtain ⟨b, o, sp⟩ := ad
      simp only at hs
      subst hs
      unfold Addr.add
      by_cases c1 : i * sz = 0
      · by_cases c2 : q = 0 <;> simp [c1, c2]
      · by_cases c2 : q = 0 <;> simp [c1, c2, Nat.add_assoc]
    refine ⟨l, .one1 rfl rfl ?_, by omega, by omega, fun a ha => ?_⟩
    · rw [hl]
      have hgl : ∀ j, j < len → get l j = cl (l.getD j default) := fun j hj => hget l j (by omega)
      have hcell : ∀ (j i : Nat) (u : AV), j < len → (get l j)[i]? = some u → ∃ v, w.cell? ⟨ad.block, ad.off + (j * sz + i), none⟩ = some v ∧ Rep (startCx w) u v := by
        intro j i u hj hu
        rw [hgl j hj] at hu
        obtain ⟨vs, h1, h2, _⟩ := hli j hj
        obtain ⟨g1, g2⟩ := cells?_at h1
        have hi : i < sz := by have := (List.getElem?_eq_some_iff.1 hu).1; rw [hlen] at this; exact this
        have g3 := g2 i hi
        rw [hadd j hj i hi, List.getElem?_eq_getElem (by omega)] at g3
        refine ⟨_, g3, ?_⟩
        have := h2.rep i u hu
        rwa [List.getD_eq_getElem?_getD, List.getElem?_eq_getElem (by omega)] at this
      refine .sl .no sz len (get l) ad cap (fun j i => (w.cell? ⟨ad.block, ad.off + (j * sz + i), none⟩).getD undef) hspot hle trivial (fun j hj => ?_) (fun j i u hj hu => ?_) (fun j i u hj hu => ?_)
      · rw [hgl j hj]
        obtain ⟨vs, _, h2, _⟩ := hli j hj
        exact ⟨hlen _, keysL_nil fun u hu => (h2.one u hu).2⟩
      · obtain ⟨v, h1, _⟩ := hcell j i u hj hu
        have hone : u.one = true := by
          rw [hgl j hj] at hu
          obtain ⟨vs, _, h2, _⟩ := hli j hj
          exact (h2.one u (List.mem_of_getElem? hu)).1
        refine ⟨hone, ?_, v, h1⟩
        show w.cell? _ = _
        rw [h1]; rfl
      · obtain ⟨v, h1, h2⟩ := hcell j i u hj hu
        rw [h1]; exact h2
    · obtain ⟨i, hi, rfl⟩ := List.getElem_of_mem ha
      obtain ⟨_, _, _, h4⟩ := hli i (by omega)
      rwa [List.getD_eq_getElem?_getD, List.getElem?_eq_getElem hi] at h4
end
end Go.Ab

namespace Go.SH
open Go Go.Ab Go.Proofs Go.RowKit
set_option linter.unusedVariables false
set_option linter.unusedSimpArgs false
section
variable {H : Type} {enc : TypeId × Value → H} {w : World}
theorem rdInt (n : Nat) : Reads enc Tryz.prog w 1048576 n 3 (fun z : Int => [.int .i64 z]) (fun _ => True) := (reads_int Tryz.underlying3).map id (fun _ => rfl) fun _ _ => trivial
theorem rdBool (n : Nat) : Reads enc Tryz.prog w 1048576 n 4 (fun z : Bool => [.bool z]) (fun _ => True) := reads_bool Tryz.underlying4
def txt (s : List UInt8) : Prop := s.length ≤ 1048575
theorem rdStr (n : Nat) : Reads enc Tryz.prog w 1048576 n 9 (fun s : List UInt8 => [.str s]) txt := (reads_str Tryz.underlying9).map id (fun _ => rfl) fun s h => by have := h.2; unfold txt; show s.length ≤ _; omega
theorem rdStrs (n : Nat) : Reads enc Tryz.prog w 1048576 n 32 (fun l : List (List UInt8) => [strsA l]) (okL txt) :=
  (reads_slice (e := 9) (sz := 1) (α := List UInt8) (cl := fun s => [.str s]) (Ok := txt) (fun l j => [.str (l.getD j [])]) Tryz.underlying32 (by kernel_rfl) (by omega) (fun _ => rfl) (fun _ _ _ => rfl) (fun m _ => rdStr m)).map id (fun _ => rfl) fun l h => ⟨by have := h.2.1; show l.length ≤ _; omega, h.2.2⟩
theorem txt.len {s : List UInt8} (h : txt s) : lenS s := by unfold txt at h; unfold lenS maxS; omega
theorem okL.strs {l : List (List UInt8)} (h : okL txt l) : strsOk l := ⟨h.big, fun s hs => (h.2 s hs).len⟩
theorem rdVal (n : Nat) : Reads enc Tryz.prog w 1048576 n 58 VAL.c VAL.Ok :=
  (reads_struct (sz := 1 + (1 + (1 + (1 + 0)))) Tryz.underlying58 (by kernel_rfl) fun m _ => readsF_cons (rdInt m) rfl (by kernel_rfl) (readsF_cons (rdInt m) rfl (by kernel_rfl) (readsF_cons (rdStr m) rfl (by kernel_rfl) (readsF_cons (rdStrs m) rfl (by kernel_rfl) readsF_nil)))).map
    (fun p => (⟨p.1, p.2.1, p.2.2.1, p.2.2.2.1⟩ : VAL)) (fun _ => rfl) fun p h => ⟨by have := h.2.2.1; unfold txt at this; show p.2.2.1.length ≤ _; omega, h.2.2.2.1.strs⟩
theorem rdList {α : Type} [Inhabited α] {t e sz : Nat} {cl : α → List AV} {Ok : α → Prop} (n : Nat) (ht : Tryz.prog.underlying t = some (.slice e)) (hz : Tryz.prog.cellsOf e = sz) (hp : 0 < sz) (hl : ∀ a, (cl a).length = sz) (h : ∀ m, Reads enc Tryz.prog w 1048576 m e cl Ok) :
    Reads enc Tryz.prog w 1048576 n t (fun l : List α => [.sl .no sz l.length fun j => cl (l.getD j default)]) (okL Ok) :=
  (reads_slice (fun l j => cl (l.getD j default)) ht hz hp hl (fun _ _ _ => rfl) (fun m _ => h m)).map id (fun _ => rfl) fun l h => ⟨by have := h.2.1; show l.length ≤ _; omega, h.2.2⟩
theorem rdVals (n : Nat) : Reads enc Tryz.prog w 1048576 n 22 (fun l : List VAL => [valL l]) (okL VAL.Ok) := rdList n Tryz.underlying22 (by kernel_rfl) (by omega) (fun _ => rfl) rdVal
theorem EXP.c_len (e : EXP) : e.c.length = 5 := by rw [e.c_eq]; rfl
theorem rdExp : ∀ n : Nat, Reads enc Tryz.prog w 1048576 n 25 EXP.c EXP.Ok := by
  intro n
  induction n using Nat.strongRecOn with
  | ind n ih =>
  have hk : ∀ m, n = m + 1 → Reads enc Tryz.prog w 1048576 m 23 (fun l : List EXP => [.sl .no 5 l.length (EXP.row l)]) (okL EXP.Ok) := fun m hm =>
    (reads_slice (e := 25) (sz := 5) (cl := EXP.c) (Ok := EXP.Ok) EXP.row Tryz.underlying23 (by kernel_rfl) (by omega) EXP.c_len (fun l j h => EXP.row_at h) (fun m' hm' => ih m' (by omega))).map id (fun _ => rfl) fun l h => ⟨by have := h.2.1; show l.length ≤ _; omega, h.2.2⟩
  refine (reads_struct (sz := 1 + (1 + (1 + (1 + (1 + 0))))) Tryz.underlying25 (by kernel_rfl) fun m hm => readsF_cons (rdInt m) rfl (by kernel_rfl) (readsF_cons (rdStr m) rfl (by kernel_rfl) (readsF_cons (rdStr m) rfl (by kernel_rfl) (readsF_cons (rdVals m) rfl (by kernel_rfl) (readsF_cons (hk m hm) rfl (by kernel_rfl) readsF_nil))))).map
    (fun p => EXP.mk p.1 p.2.1 p.2.2.1 p.2.2.2.1 p.2.2.2.2.1) (fun p => by rw [EXP.c_eq]; rfl) fun p h => ?_
  obtain ⟨_, h2, h3, h4, h5, _⟩ := h
  exact .mk _ h2.len h3.len ⟨h4.big, h4.2⟩ h5.1 h5.2
theorem rdPrq (n : Nat) : Reads enc Tryz.prog w 1048576 n 114 PRQ.c (fun p => lenS p.flag) :=
  (reads_struct (sz := 1 + (1 + 0)) Tryz.underlying114 (by kernel_rfl) fun m _ => readsF_cons (rdStr m) rfl (by kernel_rfl) (readsF_cons (rdInt m) rfl (by kernel_rfl) readsF_nil)).map (fun p => (⟨p.1, p.2.1⟩ : PRQ)) (fun _ => rfl) fun p h => h.1.len
theorem rdTgt (n : Nat) : Reads enc Tryz.prog w 1048576 n 117 TGT.c TGT.Ok :=
  (reads_struct (sz := 1 + (1 + (1 + 0))) Tryz.underlying117 (by kernel_rfl) fun m _ => readsF_cons (rdStr m) rfl (by kernel_rfl) (readsF_cons (rdInt m) rfl (by kernel_rfl) (readsF_cons (rdStrs m) rfl (by kernel_rfl) readsF_nil))).map (fun p => (⟨p.1, p.2.1, p.2.2.1⟩ : TGT)) (fun _ => rfl) fun p h => ⟨h.1.len, h.2.2.1.strs⟩
theorem rdRng (n : Nat) : Reads enc Tryz.prog w 1048576 n 52 rngC (fun _ => True) :=
  (reads_struct (sz := 1 + (1 + (1 + 0))) Tryz.underlying52 (by kernel_rfl) fun m _ => readsF_cons (rdInt m) rfl (by kernel_rfl) (readsF_cons (rdInt m) rfl (by kernel_rfl) (readsF_cons (rdInt m) rfl (by kernel_rfl) readsF_nil))).map (fun p => (p.1, p.2.1, p.2.2.1)) (fun _ => rfl) fun p h => trivial
theorem rdCool (n : Nat) : Reads enc Tryz.prog w 1048576 n 128 rngC (fun _ => True) :=
  (reads_struct (sz := 1 + (1 + (1 + 0))) Tryz.underlying128 (by kernel_rfl) fun m _ => readsF_cons (rdInt m) rfl (by kernel_rfl) (readsF_cons (rdInt m) rfl (by kernel_rfl) (readsF_cons (rdInt m) rfl (by kernel_rfl) readsF_nil))).map (fun p => (p.1, p.2.1, p.2.2.1)) (fun _ => rfl) fun p h => trivial
theorem rdSpn (n : Nat) : Reads enc Tryz.prog w 1048576 n 45 spnC (fun _ => True) :=
  (reads_struct (sz := 1 + (1 + 0)) Tryz.underlying45 (by kernel_rfl) fun m _ => readsF_cons (rdInt m) rfl (by kernel_rfl) (readsF_cons (rdInt m) rfl (by kernel_rfl) readsF_nil)).map (fun p => (p.1, p.2.1)) (fun _ => rfl) fun p h => trivial
theorem rdRngs (n : Nat) : Reads enc Tryz.prog w 1048576 n 37 (fun l : List (Int × Int × Int) => [rngL l]) (okL fun _ => True) := rdList n Tryz.underlying37 (by kernel_rfl) (by omega) (fun _ => rfl) rdRng
theorem rdCools (n : Nat) : Reads enc Tryz.prog w 1048576 n 72 (fun l : List (Int × Int × Int) => [rngL l]) (okL fun _ => True) := rdList n Tryz.underlying72 (by kernel_rfl) (by omega) (fun _ => rfl) rdCool
theorem rdSpns (n : Nat) : Reads enc Tryz.prog w 1048576 n 38 (fun l : List (Int × Int) => [spnL l]) (okL fun _ => True) := rdList n Tryz.underlying38 (by kernel_rfl) (by omega) (fun _ => rfl) rdSpn
theorem rdServe (n : Nat) : Reads enc Tryz.prog w 1048576 n 56 SERVE.c SERVE.Ok :=
  (reads_struct (sz := 1 + (1 + (1 + (1 + (1 + 0))))) Tryz.underlying56 (by kernel_rfl) fun m _ => readsF_cons (rdInt m) rfl (by kernel_rfl) (readsF_cons (rdStr m) rfl (by kernel_rfl) (readsF_cons (rdStr m) rfl (by kernel_rfl) (readsF_cons (rdStr m) rfl (by kernel_rfl) (readsF_cons (rdRngs m) rfl (by kernel_rfl) readsF_nil))))).map
    (fun p => (⟨p.1, p.2.1, p.2.2.1, p.2.2.2.1, p.2.2.2.2.1⟩ : SERVE)) (fun _ => rfl) fun p h => ⟨h.2.1.len, h.2.2.1.len, h.2.2.2.1.len, h.2.2.2.2.1.big⟩
theorem rdRule (n : Nat) : Reads enc Tryz.prog w 1048576 n 76 RULE.c RULE.Ok :=
  (reads_struct (sz := 1 + (5 + (5 + 0))) Tryz.underlying76 (by kernel_rfl) fun m _ => readsF_cons (rdStr m) rfl (by kernel_rfl) (readsF_cons (rdExp m) rfl (by kernel_rfl) (readsF_cons (rdServe m) rfl (by kernel_rfl) readsF_nil))).map
    (fun p => (⟨p.1, p.2.1, p.2.2.1⟩ : RULE)) (fun p => by rw [EXP.c_eq]; rfl) fun p h => ⟨h.1.len, h.2.1, h.2.2.1⟩
theorem rdPrqs (n : Nat) : Reads enc Tryz.prog w 1048576 n 61 (fun l : List PRQ => [prqL l]) prqOk := rdList n Tryz.underlying61 (by kernel_rfl) (by omega) (fun _ => rfl) rdPrq
theorem rdTgts (n : Nat) : Reads enc Tryz.prog w 1048576 n 62 (fun l : List TGT => [tgtL l]) (okL TGT.Ok) := rdList n Tryz.underlying62 (by kernel_rfl) (by omega) (fun _ => rfl) rdTgt
theorem rdRules (n : Nat) : Reads enc Tryz.prog w 1048576 n 63 (fun l : List RULE => [rulL l]) (okL RULE.Ok) := rdList n Tryz.underlying63 (by kernel_rfl) (by omega) (fun _ => rfl) rdRule
theorem rdFlag (n : Nat) : Reads enc Tryz.prog w 1048576 n 65 FLAG.c FLAG.Ok :=
  (reads_struct (sz := 1 + (1 + (1 + (1 + (1 + (1 + (1 + (1 + (5 + 0))))))))) Tryz.underlying65 (by kernel_rfl) fun m _ => readsF_cons (rdStr m) rfl (by kernel_rfl) (readsF_cons (rdInt m) rfl (by kernel_rfl) (readsF_cons (rdVals m) rfl (by kernel_rfl) (readsF_cons (rdBool m) rfl (by kernel_rfl) (readsF_cons (rdInt m) rfl (by kernel_rfl) (readsF_cons (rdPrqs m) rfl (by kernel_rfl) (readsF_cons (rdTgts m) rfl (by kernel_rfl) (readsF_cons (rdRules m) rfl (by kernel_rfl) (readsF_cons (rdServe m) rfl (by kernel_rfl) readsF_nil))))))))).map
    (fun p => (⟨p.1, p.2.1, p.2.2.1, p.2.2.2.1, p.2.2.2.2.1, p.2.2.2.2.2.1, p.2.2.2.2.2.2.1, p.2.2.2.2.2.2.2.1, p.2.2.2.2.2.2.2.2.1⟩ : FLAG)) (fun _ => rfl) fun p h => by
      obtain ⟨h1, h2, h3, h4, h5, h6, h7, h8, h9, _⟩ := h
      exact ⟨h1.len, h3, h6, h7, h8, h9⟩
theorem rdSeg (n : Nat) : Reads enc Tryz.prog w 1048576 n 71 SEG.c SEG.Ok :=
  (reads_struct (sz := 1 + (1 + (1 + (1 + (5 + 0))))) Tryz.underlying71 (by kernel_rfl) fun m _ => readsF_cons (rdStr m) rfl (by kernel_rfl) (readsF_cons (rdStr m) rfl (by kernel_rfl) (readsF_cons (rdStrs m) rfl (by kernel_rfl) (readsF_cons (rdStrs m) rfl (by kernel_rfl) (readsF_cons (rdExp m) rfl (by kernel_rfl) readsF_nil))))).map
    (fun p => (⟨p.1, p.2.1, p.2.2.1, p.2.2.2.1, p.2.2.2.2.1⟩ : SEG)) (fun p => by rw [EXP.c_eq]; rfl) fun p h => by
      obtain ⟨h1, h2, h3, h4, h5, _⟩ := h
      exact ⟨h1.len, h2.len, h3.strs, h4.strs, h5⟩
theorem rdLayer (n : Nat) : Reads enc Tryz.prog w 1048576 n 74 LAYER.c LAYER.Ok :=
  (reads_struct (sz := 1 + (1 + (1 + (1 + (1 + (1 + 0)))))) Tryz.underlying74 (by kernel_rfl) fun m _ => readsF_cons (rdStr m) rfl (by kernel_rfl) (readsF_cons (rdStr m) rfl (by kernel_rfl) (readsF_cons (rdStr m) rfl (by kernel_rfl) (readsF_cons (rdInt m) rfl (by kernel_rfl) (readsF_cons (rdInt m) rfl (by kernel_rfl) (readsF_cons (rdCools m) rfl (by kernel_rfl) readsF_nil)))))).map
    (fun p => (⟨p.1, p.2.1, p.2.2.1, p.2.2.2.1, p.2.2.2.2.1, p.2.2.2.2.2.1⟩ : LAYER)) (fun _ => rfl) fun p h => by
      obtain ⟨h1, h2, h3, h4, h5, h6, _⟩ := h
      exact ⟨h1.len, h2.len, h3.len, h6.1⟩
theorem rdExpt (n : Nat) : Reads enc Tryz.prog w 1048576 n 42 EXPT.c EXPT.Ok :=
  (reads_struct (sz := 1 + (1 + (1 + (1 + (1 + (1 + (1 + (5 + 0)))))))) Tryz.underlying42 (by kernel_rfl) fun m _ => readsF_cons (rdStr m) rfl (by kernel_rfl) (readsF_cons (rdStr m) rfl (by kernel_rfl) (readsF_cons (rdStr m) rfl (by kernel_rfl) (readsF_cons (rdStr m) rfl (by kernel_rfl) (readsF_cons (rdInt m) rfl (by kernel_rfl) (readsF_cons (rdSpns m) rfl (by kernel_rfl) (readsF_cons (rdRngs m) rfl (by kernel_rfl) (readsF_cons (rdExp m) rfl (by kernel_rfl) readsF_nil)))))))).map
    (fun p => (⟨p.1, p.2.1, p.2.2.1, p.2.2.2.1, p.2.2.2.2.1, p.2.2.2.2.2.1, p.2.2.2.2.2.2.1, p.2.2.2.2.2.2.2.1⟩ : EXPT)) (fun p => by rw [EXP.c_eq]; rfl) fun p h => by
      obtain ⟨h1, h2, h3, h4, h5, h6, h7, h8, _⟩ := h
      exact ⟨h1.len, h2.len, h3.len, h4.len, h6.1, h7.1, h8⟩
end
end Go.SH

namespace Go.Ab
open Go Go.RowKit
section
variable {H : Type} (enc : TypeId × Value → H) (P : Program) (w : World) (held : Bool)
/-- Whatever reads as this datum at this type is these cells. -/
def RX (t : TypeId) (d : DataW H) (us : List AV) : Prop :=
  us.length = P.cellsOf t ∧ ∀ n cs p, DataW.trod enc P w 0 (fun _ => true) held n t cs = some (d, p) → CellsR (startCx w) us cs
variable {enc P w held}
theorem rx_int {t : TypeId} {k : IntKind} {z : Int} (ht : P.underlying t = some (.int k)) (hc : P.cellsOf t = 1) : RX enc P w held t (.lit (.int k z)) [.int k z] := ⟨hc.symm, fun n cs p h => by
  obtain ⟨z', rfl, hx, _⟩ := DataW.trod_int ht h
  simp only [Prod.mk.injEq, DataW.lit.injEq, Lit.int.injEq, true_and] at hx
  obtain ⟨rfl, _⟩ := hx
  exact .one1 rfl rfl (.int _ _)⟩
theorem rx_str {t : TypeId} {s : List UInt8} (ht : P.underlying t = some .string) (hc : P.cellsOf t = 1) : RX enc P w held t (.lit (.string s)) [.str s] := ⟨hc.symm, fun n cs p h => by
  obtain ⟨z, rfl, hx, _⟩ := DataW.trod_string ht h
  simp only [Prod.mk.injEq, DataW.lit.injEq, Lit.string.injEq] at hx
  obtain ⟨rfl, _⟩ := hx
  refine .one1 rfl rfl ?_
  have := Rep.str (c := startCx w) z.data.toList
  rwa [Array.toArray_toList] at this⟩
theorem rx_iface {t : TypeId} {ms : Array (String × TypeId)} {nm : String} {d : DataW H} (ht : P.underlying t = some (.interface ms)) (hc : P.cellsOf t = 1) : RX enc P w held t (.iface nm d) [.nni] := ⟨hc.symm, fun n cs p h => by
  cases n with
  | zero => simp [DataW.trod] at h
  | succ n =>
    unfold DataW.trod at h
    rw [ht] at h
    split at h <;> simp_all
    exact .one1 rfl rfl (.nni _ _)⟩
theorem rx_flat {c : Cx} {cs : List Value} {sz : Nat} : ∀ (us : List (List AV)) (k : Nat), (∀ (i : Nat) (u : List AV), us[i]? = some u → CellsR c u ((cs.drop ((k + i) * sz)).take sz) ∧ u.length = sz) → cs.length = (k + us.length) * sz → CellsR c us.flatten (cs.drop (k * sz))
  | [], k, _, hl => by
    rw [List.drop_eq_nil_of_le (by simp at hl; omega)]
    exact .nil _
  | u :: us, k, h, hl => by
    have h0 := h 0 u rfl
    have ih := rx_flat us (k + 1) (fun i v hv => by
      have := h (i + 1) v (by simpa using hv)
      rwa [show k + (i + 1) = k + 1 + i by omega] at this) (by rw [hl]; simp only [List.length_cons]; congr 1; omega)
    have e : cs.drop (k * sz) = (cs.drop (k * sz)).take sz ++ cs.drop ((k + 1) * sz) := by
      rw [show (k + 1) * sz = k * sz + sz by rw [Nat.add_mul, Nat.one_mul], ← List.drop_drop, List.take_append_drop]
    rw [e, List.flatten_cons]
    exact h0.1.append ih
theorem rx_array {t e : TypeId} {m sz : Nat} {ds : List (DataW H)} {us : List (List AV)} (ht : P.underlying t = some (.array m e)) (he : P.cellsOf e = sz) (hc : P.cellsOf t = m * sz) (hl : us.length = m)
    (h : ∀ (i : Nat) (d : DataW H) (u : List AV), ds[i]? = some d → us[i]? = some u → RX enc P w held e d u) (hd : ds.length = m) : RX enc P w held t (.agg ds) us.flatten := by
  have hu : ∀ (i : Nat) (u : List AV), us[i]? = some u → u.length = sz := fun i u hi => by
    have hlt := (List.getElem?_eq_some_iff.1 hi).1
    rw [(h i (ds[i]'(by omega)) u (List.getElem?_eq_getElem _) hi).1, he]
  refine ⟨?_, fun n cs p hx => ?_⟩
  · rw [hc, List.length_flatten, ← hl]
    have : ∀ l : List (List AV), (∀ (i : Nat) (u : List AV), l[i]? = some u → u.length = sz) → (l.map List.length).sum = l.length * sz := by
      intro l
      induction l with
      | nil => intro _; simp
      | cons a r ih =>
        intro h
        have h0 := h 0 a rfl
        have h1 := ih fun i u hi => h (i + 1) u (by simpa using hi)
        simp only [List.map_cons, List.sum_cons, h1, h0, List.length_cons, Nat.add_mul, Nat.one_mul]; omega
    exact this us hu
  · cases n with
    | zero => simp [DataW.trod] at hx
    | succ n =>
      simp only [DataW.trod, ht, he, hc] at hx
      split at hx
      · rename_i hcl
        obtain ⟨xs, hm, hxe⟩ := Option.map_eq_some_iff.1 hx
        have hxs : xs.map (·.1) = ds := by
          have := congrArg Prod.fst hxe
          simpa using this
        obtain ⟨hxl, hat⟩ := mapM_at hm
        have hxl : xs.length = m := by simpa using hxl
        have := rx_flat (c := startCx w) (cs := cs) (sz := sz) us 0 (fun i u hi => by
          have hlt := (List.getElem?_eq_some_iff.1 hi).1
          have hlt2 : i < xs.length := by omega
          have hf := hat i i (List.getElem?_range (by omega))
          rw [List.getElem?_eq_getElem hlt2] at hf
          have hdi : ds[i]? = some (xs[i]'hlt2).1 := by
            have := congrArg (·[i]?) hxs
            simp only [List.getElem?_map, List.getElem?_eq_getElem hlt2, Option.map_some] at this
            exact this.symm
          refine ⟨?_, hu i u hi⟩
          rw [Nat.zero_add]
          exact (h i _ u hdi hi).2 n _ (xs[i]'hlt2).2 hf) (by rw [hcl, Nat.zero_add, hl])
        simpa using this
      · cases hx
theorem rx_two {t : TypeId} {f0 f1 : Field} {d0 d1 : DataW H} {u0 u1 : List AV} (ht : P.underlying t = some (.struct #[f0, f1])) (h0 : RX enc P w held f0.type d0 u0) (h1 : RX enc P w held f1.type d1 u1) (o0 : f0.offset = 0) (o1 : f1.offset = P.cellsOf f0.type) (hc : P.cellsOf t = P.cellsOf f0.type + P.cellsOf f1.type) :
    RX enc P w held t (.agg [d0, d1]) (u0 ++ u1) := by
  refine ⟨by rw [List.length_append, h0.1, h1.1, hc], fun n cs p hx => ?_⟩
  obtain ⟨xs, m, rfl, hxe, hl, hxl, hf⟩ := DataW.trod_struct ht hx
  match xs, hxl with
  | [y0, y1], _ =>
    simp only [List.map_cons, List.map_nil, Prod.mk.injEq, DataW.agg.injEq, List.cons.injEq, and_true] at hxe
    obtain ⟨⟨rfl, rfl⟩, _⟩ := hxe
    have a0 := hf 0 f0 rfl
    have a1 := hf 1 f1 rfl
    rw [o0, List.drop_zero] at a0
    rw [o1] at a1
    have b0 := h0.2 m _ y0.2 a0
    have b1 := h1.2 m _ y1.2 a1
    have e : cs = cs.take (P.cellsOf f0.type) ++ (cs.drop (P.cellsOf f0.type)).take (P.cellsOf f1.type) := by
      rw [List.take_of_length_le (l := cs.drop (P.cellsOf f0.type)) (by rw [List.length_drop]; omega), List.take_append_drop]
    rw [e]
    exact b0.append b1
/-- A table of numbers. -/
theorem rx_ints {t e : TypeId} {m : Nat} {k : IntKind} {zs : List Int} (ht : P.underlying t = some (.array m e)) (he : P.underlying e = some (.int k)) (hc : P.cellsOf e = 1) (hct : P.cellsOf t = m) (hl : zs.length = m) :
    RX enc P w held t (.agg (zs.map fun z => .lit (.int k z))) (zs.map fun z => .int k z) := by
  have := rx_array (enc := enc) (P := P) (w := w) (held := held) (ds := zs.map fun z => (.lit (.int k z) : DataW H)) (us := zs.map fun z => [AV.int k z]) ht hc (by rw [hct, Nat.mul_one]) (by simpa using hl) (fun i d u hd hu => by
    rw [List.getElem?_map, Option.map_eq_some_iff] at hd hu
    obtain ⟨z, hz, rfl⟩ := hd
    obtain ⟨z', hz', rfl⟩ := hu
    obtain rfl : z = z' := by rw [hz] at hz'; exact Option.some.inj hz'
    exact rx_int he hc) (by simpa using hl)
  rwa [show (zs.map fun z => [AV.int k z]).flatten = zs.map fun z => AV.int k z by induction zs with
    | nil => rfl
    | cons a r ih => rw [List.map_cons, List.flatten_cons, List.map_cons, List.singleton_append]; congr 1; clear hl this ih; induction r with
      | nil => rfl
      | cons b q ih => rw [List.map_cons, List.flatten_cons, ih]; rfl] at this
end
theorem laid_at {P : Program} {w : World} : ∀ {laid : List (String × DataW Unit)} {ps : List MemPlace}, DataW.LaidVars P w laid ps → ∀ {nm : String} {d : DataW Unit}, (nm, d) ∈ laid →
    ∃ g t cs fuel p, P.globalNamed nm = some g ∧ (P.globals[g]?).map (·.type) = some t ∧ w.var? P nm = some cs ∧ DataW.trod (fun _ => ()) P w 0 (fun _ => true) false fuel t cs.toList = some (d, p)
  | [], _, _, _, _, hm => by simp at hm
  | (n0, d0) :: r, ps, h, nm, d, hm => by
    obtain ⟨g, t, cs, fuel, p, q, h1, h2, h3, h4, h5, _⟩ := h
    rcases List.mem_cons.1 hm with e | hm
    · simp only [Prod.mk.injEq] at e
      obtain ⟨rfl, rfl⟩ := e
      exact ⟨g, t, cs, fuel, p, h1, h2, h3, h4⟩
    · exact laid_at h5 hm
theorem rep_cells {w : World} {g : Nat} {us : List AV} {cs : Array Value} (hv : ∀ i, w.cell? ⟨g, i, none⟩ = cs[i]?) (h : CellsR (startCx w) us cs.toList) : Rep (startCx w) (.elt us 0) (.pointer (some ⟨g, 0, none⟩)) := by
  have hi : ∀ (i : Nat) (u : AV), us[i]? = some u → ∃ v, cs[i]? = some v ∧ Rep (startCx w) u v := fun i u hu => by
    have hlt := (List.getElem?_eq_some_iff.1 hu).1
    have hlt' : i < cs.size := by have := h.len; simp at this; omega
    refine ⟨cs[i], Array.getElem?_eq_getElem hlt', ?_⟩
    have := h.rep i u hu
    rwa [List.getD_eq_getElem?_getD, Array.getElem?_toList, Array.getElem?_eq_getElem hlt'] at this
  refine .elt us 0 g 0 (fun i => (cs[i]?).getD undef) (keysL_nil fun u hu => (h.one u hu).2) (fun i u hu => ?_) (fun i u hu => ?_)
  · obtain ⟨v, h1, h2⟩ := hi i u hu
    rw [Nat.zero_add]
    refine ⟨(h.one u (List.mem_of_getElem? hu)).1, ?_, v, ?_⟩
    · show w.cell? _ = _
      rw [hv, h1]; rfl
    · rw [hv, h1]
  · obtain ⟨v, h1, h2⟩ := hi i u hu
    rw [h1]; exact h2
theorem rep_glob {P : Program} {w : World} {laid : List (String × DataW Unit)} (h : laidMet P laid w) {nm : String} {d : DataW Unit} {g : Nat} {t : TypeId} {us : List AV} (hm : (nm, d) ∈ laid) (hg : P.globalNamed nm = some g) (ht : (P.globals[g]?).map (·.type) = some t)
    (hr : RX (fun _ => ()) P w false t d us) : Rep (startCx w) (.elt us 0) (.pointer (some ⟨g, 0, none⟩)) := by
  obtain ⟨ps, hl, _⟩ := h
  obtain ⟨g', t', cs, fuel, p, h1, h2, h3, h4⟩ := laid_at hl hm
  obtain rfl := Option.some.inj (hg.symm.trans h1)
  obtain rfl := Option.some.inj (ht.symm.trans h2)
  exact rep_cells (fun i => World.var?_cell h1 h3 i) (hr.2 fuel _ p h4)
theorem calls_true_of {P : Program} {G : Nat → Option (List AV)} {f : FuncId} {l : List AV} {os : List AO} {xs : List Value} {w : World} (hg : ∀ g cs, G g = some cs → Rep (startCx w) (.elt cs 0) (.pointer (some ⟨g, 0, none⟩))) (h : Ct P G f l [] (.bool true, os)) (hs : Stand w l xs) :
    Calls P f xs.toArray w fun e w' => e = .returned (.bool true) ∧ Below w.heap.size w w' := by
  obtain ⟨h1, h2, h3⟩ := hs.spec
  refine (h.1 (startCx w) xs.toArray ⟨fun _ _ h => h, hg⟩ (startCx_objs w) (by simpa using h1) (fun i u hu => ?_) (by rw [h2]; simp)).mono ?_
  · have := h3 i u hu
    simpa [Array.getD_eq_getD_getElem?, List.getD_eq_getElem?_getD] using this
  · rintro e w' ⟨c', x, rfl, rfl, _, hF, _, hr, _, _⟩
    cases hr
    refine ⟨rfl, hF.os, hF.tape, hF.output, hF.size, fun b hb => hF.block b hb ?_⟩
    rintro ⟨k, o, ho, _⟩
    simp [enterObjs, alook] at ho
end Go.Ab

namespace Go.SH
open Go Go.Ab Go.Proofs Go.RowKit Go.Proofs.YtnldpiohcmgkdaaGreatDoor
set_option linter.unusedVariables false
set_option linter.unusedSimpArgs false
mutual
theorem bulk_eq {H : Type} : ∀ d : DataW H, Rows.uptoBulk d = bulkD d
  | .lit (.string _) => by simp only [Rows.uptoBulk, bulkD]
  | .lit (.int _ _) => by simp only [Rows.uptoBulk, bulkD]
  | .lit (.bool _) => by simp only [Rows.uptoBulk, bulkD]
  | .lit (.float _ _) => by simp only [Rows.uptoBulk, bulkD]
  | .lit .nil => by simp only [Rows.uptoBulk, bulkD]
  | .nil => by simp only [Rows.uptoBulk, bulkD]
  | .ptr d => by simp only [Rows.uptoBulk, bulkD, bulk_eq d]
  | .slice a b => by simp only [Rows.uptoBulk, bulkD, bulkAll_eq a, bulkAll_eq b]
  | .agg a => by simp only [Rows.uptoBulk, bulkD, bulkAll_eq a]
  | .iface _ d => by simp only [Rows.uptoBulk, bulkD, bulk_eq d]
  | .map a => by simp only [Rows.uptoBulk, bulkD, bulkM_eq a]
  | .held _ => by simp only [Rows.uptoBulk, bulkD]
theorem bulkAll_eq {H : Type} : ∀ l : List (DataW H), Rows.uptoBulkAll l = bulkL l
  | [] => by simp only [Rows.uptoBulkAll, bulkL]
  | d :: r => by simp only [Rows.uptoBulkAll, bulkL, bulk_eq d, bulkAll_eq r]
theorem bulkM_eq {H : Type} : ∀ l : List (Lit × DataW H), Rows.uptoBulkEntries l = bulkM l
  | [] => by simp only [Rows.uptoBulkEntries, bulkM]
  | d :: r => by simp only [Rows.uptoBulkEntries, bulkM, bulkE_eq d, bulkM_eq r]
theorem bulkE_eq {H : Type} : ∀ x : Lit × DataW H, Rows.uptoBulkEntry x = bulkE x
  | (.string _, d) => by simp only [Rows.uptoBulkEntry, bulkE, bulk_eq d]
  | (.int _ _, d) => by simp only [Rows.uptoBulkEntry, bulkE, bulk_eq d]
  | (.bool _, d) => by simp only [Rows.uptoBulkEntry, bulkE, bulk_eq d]
  | (.float _ _, d) => by simp only [Rows.uptoBulkEntry, bulkE, bulk_eq d]
  | (.nil, d) => by simp only [Rows.uptoBulkEntry, bulkE, bulk_eq d]
end
/-- The numbers of a table. -/
def dints : List (DataW Unit) → List Int
  | .lit (.int _ z) :: r => z :: dints r
  | _ => []
def dpairs : List (DataW Unit) → List (Int × Int)
  | .agg [.lit (.int _ y), .lit (.int _ z)] :: r => (y, z) :: dpairs r
  | _ => []
def parts : DataW Unit → List (DataW Unit)
  | .agg ds => ds
  | _ => []
theorem rxSpace {w : World} {d : DataW Unit} (hd : d = .agg ((dints (parts d)).map fun z => .lit (.int .u8 z))) (hl : (dints (parts d)).length = 256) (hc : dcells d = (dints (parts d)).map fun z => .int .u8 z) : RX (fun _ => ()) Tryz.prog w false 179 d (dcells d) := by
  rw [hc]
  have := rx_ints (enc := fun _ => ()) (P := Tryz.prog) (w := w) (held := false) (t := 179) (e := 5) (m := 256) (k := .u8) (zs := dints (parts d)) Tryz.underlying179 Tryz.underlying5 (by kernel_rfl) (by kernel_rfl) hl
  rwa [← hd] at this
theorem rxAccept {w : World} {d : DataW Unit} (hd : d = .agg ((dpairs (parts d)).map fun p => .agg [.lit (.int .u8 p.1), .lit (.int .u8 p.2)])) (hl : (dpairs (parts d)).length = 16) (hc : dcells d = ((dpairs (parts d)).map fun p => [AV.int .u8 p.1] ++ [AV.int .u8 p.2]).flatten) : RX (fun _ => ()) Tryz.prog w false 185 d (dcells d) := by
  rw [hc]
  have := rx_array (enc := fun _ => ()) (P := Tryz.prog) (w := w) (held := false) (t := 185) (e := 184) (m := 16) (sz := 2) (ds := (dpairs (parts d)).map fun p => .agg [.lit (.int .u8 p.1), .lit (.int .u8 p.2)]) (us := (dpairs (parts d)).map fun p => [AV.int .u8 p.1] ++ [AV.int .u8 p.2]) Tryz.underlying185 (by kernel_rfl) (by kernel_rfl) (by simpa using hl) (fun i d u hd hu => by
    rw [List.getElem?_map, Option.map_eq_some_iff] at hd hu
    obtain ⟨z, hz, rfl⟩ := hd
    obtain ⟨z', hz', rfl⟩ := hu
    obtain rfl : z = z' := by rw [hz] at hz'; exact Option.some.inj hz'
    exact rx_two Tryz.underlying184 (rx_int Tryz.underlying5 (by kernel_rfl)) (rx_int Tryz.underlying5 (by kernel_rfl)) rfl (by kernel_rfl) (by kernel_rfl)) (by simpa using hl)
  rwa [← hd] at this
set_option maxRecDepth 100000 in
/-- The variable that no row lists: some number. -/
theorem maxLen_cell {w : World} (h : w.ShapedOpen Tryz.prog) : Rep (startCx w) (.elt [.num .i64] 0) (.pointer (some ⟨7, 0, none⟩)) := by
  obtain ⟨cs, h1, h2, h3⟩ := h.1 7 #[.int .i64 0] 3 (of_decide_eq_true (by kernel_rfl)) (by kernel_rfl)
  obtain ⟨ts, e1, e2, e3⟩ := h3 (by kernel_rfl)
  have e0 : Tryz.prog.cellTypes Tryz.prog.depth 3 = some [3] := by kernel_rfl
  rw [e0] at e1
  obtain rfl := Option.some.inj e1
  have hlt : 0 < cs.size := by rw [h2]; decide
  obtain ⟨u, hu, hok⟩ := e3 0 cs[0] (Array.getElem?_eq_getElem hlt)
  simp only [List.length_singleton, Nat.mod_one, List.getElem?_cons_zero, Option.some.injEq] at hu
  subst hu
  unfold Cell.ok at hok
  rw [show Tryz.prog.underlying 3 = some (.int .i64) from Tryz.underlying3] at hok
  have hcell : ∀ i, w.cell? ⟨7, i, none⟩ = cs[i]? := fun i => by
    unfold World.cell?
    simp [h1]
  refine rep_cells hcell ⟨by simpa using h2, fun u hu => by simp at hu; subst hu; exact ⟨rfl, rfl⟩, fun i u hu => ?_⟩
  cases i with
  | succ i => simp at hu
  | zero =>
    simp at hu; subst hu
    rw [List.getD_eq_getElem?_getD, Array.getElem?_toList, Array.getElem?_eq_getElem hlt]
    show Rep _ _ cs[0]
    generalize cs[0] = v at hok ⊢
    cases v with
    | int k n => obtain ⟨rfl, _⟩ := hok; exact .num _ _
    | _ => simp at hok
/-- Whatever a row lists, as long as the five tables are on its list. -/
theorem globs_of {w : World} {laid : List (String × DataW Unit)} (h : laidMet Tryz.prog laid w) (ho : w.ShapedOpen Tryz.prog)
    (m3 : ("strings.asciiSpace", Rows.laid_strings_asciiSpace) ∈ laid) (m4 : ("unicode/utf8.first", Rows.laid_unicode_utf8_first) ∈ laid) (m5 : ("unicode/utf8.acceptRanges", Rows.laid_unicode_utf8_acceptRanges) ∈ laid)
    (m8 : ("strconv.ErrSyntax", Rows.laid_strconv_ErrSyntax) ∈ laid) (m9 : ("strconv.ErrRange", Rows.laid_strconv_ErrRange) ∈ laid) :
    ∀ g cs, V.G g = some cs → Rep (startCx w) (.elt cs 0) (.pointer (some ⟨g, 0, none⟩)) := by
  intro g cs hg
  have hg : globs g = some cs := hg
  unfold globs at hg
  by_cases h3 : g = 3
  · subst h3
    obtain rfl := Option.some.inj hg
    exact rep_glob h m3 (by kernel_rfl) (by kernel_rfl) (rxSpace (by kernel_rfl) (by kernel_rfl) (by kernel_rfl))
  rw [beqF h3, cond_false] at hg
  by_cases h4 : g = 4
  · subst h4
    obtain rfl := Option.some.inj hg
    exact rep_glob h m4 (by kernel_rfl) (by kernel_rfl) (rxSpace (by kernel_rfl) (by kernel_rfl) (by kernel_rfl))
  rw [beqF h4, cond_false] at hg
  by_cases h5 : g = 5
  · subst h5
    obtain rfl := Option.some.inj hg
    exact rep_glob h m5 (by kernel_rfl) (by kernel_rfl) (rxAccept (by kernel_rfl) (by kernel_rfl) (by kernel_rfl))
  rw [beqF h5, cond_false] at hg
  by_cases h7 : g = 7
  · subst h7
    obtain rfl := Option.some.inj hg
    exact maxLen_cell ho
  rw [beqF h7, cond_false] at hg
  by_cases h8 : g = 8
  · subst h8
    obtain rfl := Option.some.inj hg
    exact rep_glob h m8 (by kernel_rfl) (by kernel_rfl) (rx_iface Tryz.underlying219 (by kernel_rfl))
  rw [beqF h8, cond_false] at hg
  by_cases h9 : g = 9
  · subst h9
    obtain rfl := Option.some.inj hg
    exact rep_glob h m9 (by kernel_rfl) (by kernel_rfl) (rx_iface Tryz.underlying219 (by kernel_rfl))
  rw [beqF h9, cond_false] at hg
  cases hg
end Go.SH

namespace Go.Proofs.YtnldpiohcmgkdaaGreatDoor
open Go Go.ChangeShapes Go.WideShapes Go.ChangeAt Go.RowKit Go.Deep Go.Ab Go.SH

theorem own : ownKnob Tryz.prog.godebug = none := by kernel_rfl
theorem laidOut : laidOutB Tryz.prog = true := by kernel_rfl
/-- A struct that came in, as the evaluator sees it. -/
theorem struct_rep {P : Program} {H : Type} {enc : TypeId × Value → H} {W : World} {base : Nat} {t : TypeId} {fs : Array Field} {v : Value} {d : DataW H} {p : List MemPlace} {α : Type} {cl : α → List AV} {Ok : α → Prop} (hs : P.underlying t = some (.struct fs))
    (hv : Value.okWide P W .any base t v) (h : DataW.Trod enc P W 0 (fun _ => true) true t v d p) {N : Nat} (hr : ∀ n, Reads enc P W N n t cl Ok) (hb : bulkD d ≤ N) :
    ∃ a, Ok a ∧ Rep (startCx W) (.agg (cl a)) v ∧ (AV.agg (cl a)).keys = [] := by
  obtain ⟨cs, rfl, _⟩ := okWide_struct hs hv
  obtain ⟨n, hn⟩ := h
  have hx := hr n (Value.agg cs).cells.toList (d, p) hn
  simp only at hx
  obtain ⟨a, h1, h2⟩ := hx hb
  obtain ⟨h3, h4⟩ := CellsR.agg (vs := cs) h1
  exact ⟨a, h2, h3, h4⟩
def zArgs : Array Value := #[.agg #[.string ByteArray.empty, .int .i64 0, .slice none 0 0, .bool false, .int .i64 0, .slice none 0 0, .slice none 0 0, .slice none 0 0, .int .i64 0, .string ByteArray.empty, .string ByteArray.empty, .string ByteArray.empty, .slice none 0 0],
  .agg #[.string ByteArray.empty, .string ByteArray.empty, .slice none 0 0, .slice none 0 0, .int .i64 0, .string ByteArray.empty, .string ByteArray.empty, .slice none 0 0, .slice none 0 0],
  .agg #[.string ByteArray.empty, .string ByteArray.empty, .string ByteArray.empty, .int .i64 0, .int .i64 0, .slice none 0 0],
  .agg #[.string ByteArray.empty, .string ByteArray.empty, .string ByteArray.empty, .string ByteArray.empty, .int .i64 0, .slice none 0 0, .slice none 0 0, .int .i64 0, .string ByteArray.empty, .string ByteArray.empty, .slice none 0 0, .slice none 0 0]]
abbrev lds : List (String × DataW Unit) := Rows.shapeFlagsUptoRow.laid
theorem plainH (w : World) : laidMetH Tryz.prog lds w = laidMet Tryz.prog lds w := MakeChecks.laidMetH_plain _ _ _ (by kernel_rfl)
noncomputable def wit (os : Os) : World := World.laidAll Tryz.prog os lds
theorem laid_met (os : Os) : laidMet Tryz.prog lds ((wit os).forCall (fun _ _ => 0) ⟨#[], zArgs, []⟩).memory := laidMet_laidAll _ (by kernel_rfl) (by kernel_rfl)
set_option maxRecDepth 100000 in
theorem witness_row (os : Os) {H : Type} (enc : TypeId × Value → H) :
    (Rows.OpenSpec.upto Rows.shapeFlagsSpec).preRow enc Tryz.prog Tryz.f6 Rows.shapeFlagsUptoRow.domain false lds ((wit os).forCall (fun _ _ => 0) ⟨#[], zArgs, []⟩).memory zArgs := by
  have hw : (DataW.whole enc Tryz.prog ((wit os).forCall (fun _ _ => 0) ⟨#[], zArgs, []⟩).memory Tryz.f6.params.toList (Rows.OpenSpec.upto Rows.shapeFlagsSpec).vars false zArgs.toList 12).map (fun x => (x.1, x.2.1)) = some
      ([.agg [.lit (.string []), .lit (.int .i64 0), .nil, .lit (.bool false), .lit (.int .i64 0), .nil, .nil, .nil, .agg [.lit (.int .i64 0), .lit (.string []), .lit (.string []), .lit (.string []), .nil]],
        .agg [.lit (.string []), .lit (.string []), .nil, .nil, .agg [.lit (.int .i64 0), .lit (.string []), .lit (.string []), .nil, .nil]],
        .agg [.lit (.string []), .lit (.string []), .lit (.string []), .lit (.int .i64 0), .lit (.int .i64 0), .nil],
        .agg [.lit (.string []), .lit (.string []), .lit (.string []), .lit (.string []), .lit (.int .i64 0), .nil, .nil, .agg [.lit (.int .i64 0), .lit (.string []), .lit (.string []), .nil, .nil]]], []) := by kernel_rfl
  obtain ⟨⟨x1, x2, x3⟩, hx, hx1⟩ := Option.map_eq_some_iff.1 hw
  simp only [Prod.mk.injEq] at hx1
  obtain ⟨rfl, rfl⟩ := hx1
  exact OpenSpec.preRow_of_cond 12 hx (by kernel_rfl) (fun k hk => by cases hk; kernel_rfl) (by kernel_rfl) (laid_met os)
set_option maxRecDepth 100000 in
theorem lifted (os : Os) (started : os.Started) (H : Type) (enc : TypeId × Value → H) (F : Stop.Interp) :
    ReturnsInHanded {} Tryz.checked os 6 .any ((Rows.OpenSpec.upto Rows.shapeFlagsSpec).preRow enc Tryz.prog Tryz.f6 Rows.shapeFlagsUptoRow.domain false lds) (((Rows.OpenSpec.upto Rows.shapeFlagsSpec).at F).post enc Tryz.prog Tryz.f6 false true false false) := by
  refine returnsInHanded_of_row (C := Tryz.checked) (s := Rows.OpenSpec.upto Rows.shapeFlagsSpec) own started (by kernel_rfl) Tryz.func6
    (witness_row_atRef (enc := enc) (C := Tryz.checked) false (wit os) zArgs (World.laidAll_os _ _ _) (by kernel_rfl) (by kernel_rfl) (by kernel_rfl) (witness_row os enc)) ?_
  intro W base args ds gs before hval0 hW _ hcond _ hL hO _
  have hval : ∀ (j : Nat) t v, Tryz.f6.params[j]? = some t → args[j]? = some v → Value.okWide Tryz.prog W .any base t v := hval0
  have hW' := hW
  obtain ⟨p, q, hA0, hV, rfl, _, _⟩ := hW
  have hA : DataW.TrodAll enc Tryz.prog W 0 (fun _ => true) true Tryz.f6.params.toList args.toList ds p := hA0
  rw [Tryz.params6] at hA hval
  obtain ⟨v0, vs0, d0, ds0, p0, q0, hargs, rfl, rfl, h0, r0⟩ := trodAll_cons hA
  obtain ⟨v1, vs1, d1, ds1, p1, q1, rfl, rfl, rfl, h1, r1⟩ := trodAll_cons r0
  obtain ⟨v2, vs2, d2, ds2, p2, q2, rfl, rfl, rfl, h2, r2⟩ := trodAll_cons r1
  obtain ⟨v3, vs3, d3, ds3, p3, q3, rfl, rfl, rfl, h3, r3⟩ := trodAll_cons r2
  obtain ⟨rfl, rfl, rfl⟩ := trodAll_nil r3
  obtain rfl : args = #[v0, v1, v2, v3] := by cases args; simp_all
  obtain ⟨rfl, rfl⟩ := trodVars_none hV
  have hb := of_decide_eq_true (hcond _ rfl)
  rw [bulkAll_eq] at hb
  simp only [List.append_nil, bulkL] at hb
  have lt : ∀ {t : TypeId} {v : Value} {d : DataW H} {p : List MemPlace}, DataW.Trod enc Tryz.prog W 0 (fun _ => true) true t v d p → ∀ x ∈ p, x.block < W.heap.size := fun h => by
    obtain ⟨m, hm⟩ := h; exact DataW.trod_lt m _ _ _ hm
  obtain ⟨f, of, rf, kf⟩ := struct_rep Tryz.underlying65 (hval 0 65 v0 rfl rfl) h0 rdFlag (by omega)
  obtain ⟨g, og, rg, kg⟩ := struct_rep Tryz.underlying71 (hval 1 71 v1 rfl rfl) h1 rdSeg (by omega)
  obtain ⟨l, ol, rl, kl⟩ := struct_rep Tryz.underlying74 (hval 2 74 v2 rfl rfl) h2 rdLayer (by omega)
  obtain ⟨x, ox, rx, kx⟩ := struct_rep Tryz.underlying42 (hval 3 42 v3 rfl rfl) h3 rdExpt (by omega)
  have hL' : laidMet Tryz.prog lds W := by rw [← plainH]; exact hL
  have hG := globs_of hL' hO (by simp [lds, Rows.shapeFlagsUptoRow]) (by simp [lds, Rows.shapeFlagsUptoRow]) (by simp [lds, Rows.shapeFlagsUptoRow]) (by simp [lds, Rows.shapeFlagsUptoRow]) (by simp [lds, Rows.shapeFlagsUptoRow])
  have hct := flags_ok f g l x of og ol ox
  have hstand : Stand W [.agg f.c, .agg g.c, .agg l.c, .agg x.c] [v0, v1, v2, v3] := ⟨⟨rf, kf⟩, ⟨rg, kg⟩, ⟨rl, kl⟩, ⟨rx, kx⟩, trivial⟩
  refine (calls_true_of hG hct hstand).mono fun e W' ⟨he, bel⟩ => ?_
  subst he
  exact ⟨_, rfl, _, _, _, [], _, [], hW', trodAll_mk1 (shut_bool Tryz.underlying4 _), (trodAll_cons_mk (Below.trod laidOut (by kernel_rfl) (of_decide_eq_true (by kernel_rfl)) h0 bel (lt h0)) (trodAll_cons_mk (Below.trod laidOut (by kernel_rfl) (of_decide_eq_true (by kernel_rfl)) h1 bel (lt h1)) (trodAll_cons_mk (Below.trod laidOut (by kernel_rfl) (of_decide_eq_true (by kernel_rfl)) h2 bel (lt h2)) (trodAll_cons_mk (Below.trod laidOut (by kernel_rfl) (of_decide_eq_true (by kernel_rfl)) h3 bel (lt h3)) trodAll_mk0)))), rfl, bel.frame _, fun h => by cases h⟩
end Go.Proofs.YtnldpiohcmgkdaaGreatDoor

namespace Go.Proofs.YtnldpiohcmgkdaaGreatDoor
open Go Go.ChangeShapes Go.WideShapes Go.ChangeAt Go.RowKit Go.Deep Go.Ab Go.SH

theorem named6 : Tryz.pinned.checked.prog.funcNamed Rows.shapeFlagsUptoRow.func = some 6 := by kernel_rfl
theorem facts6 : joinedFacts Tryz.pinned.checked.prog 6 Tryz.f6 (Rows.OpenSpec.upto Rows.shapeFlagsSpec).bare Rows.shapeFlagsUptoRow = true := by kernel_rfl
theorem inst6 : Tryz.f6.isInstance Tryz.pinned.checked.prog Rows.shapeFlagsUptoRow.origin Rows.shapeFlagsUptoRow.targs := of_decide_eq_true (by kernel_rfl)
theorem wrap6 : Tryz.f6.isWrapper Tryz.pinned.checked.prog Rows.shapeFlagsUptoRow.wrapper Rows.shapeFlagsUptoRow.mainSum := by
  unfold Func.isWrapper; first | (rw [if_pos (by decide +kernel)]; kernel_rfl) | (rw [if_neg (by decide +kernel)]; exact ⟨rfl, rfl⟩)
theorem row_holds : Rows.ShapeFlagsUptoSaid :=
  OpenClaim.holds_of_cond 6 Tryz.f6 rfl rfl rfl rfl rfl rfl rfl ⟨rfl, rfl, rfl, rfl, rfl⟩ rfl rfl rfl rfl rfl named6 Tryz.func6 facts6 inst6 wrap6
    (fun os started H enc _ F => by rw [OpenClaim.pre_eq_preRow]; exact lifted os started H enc F)

theorem plain (f : FuncId) (fn : Func) (hf : Tryz.pinned.checked.prog.funcNamed "flagstone/flagstonelaw6.ShapeFlags" = some f) (hfn : Tryz.pinned.checked.prog.funcs[f]? = some fn) :
    true = Tryz.pinned.checked.prog.looks [] ∧ ∀ (j : Nat) t, fn.params[j]? = some t → Tryz.pinned.checked.prog.wantsStandIn t = false := by
  obtain rfl : f = 6 := Option.some.inj ((show Tryz.prog.funcNamed "flagstone/flagstonelaw6.ShapeFlags" = some 6 by kernel_rfl).symm.trans hf) |>.symm
  obtain rfl : fn = Tryz.f6 := (Option.some.inj (Tryz.func6.symm.trans hfn)).symm
  refine ⟨by kernel_rfl, fun j t ht => ?_⟩
  rw [Tryz.params6] at ht
  have hm : t ∈ [65, 71, 74, 42] := by simpa using Array.mem_of_getElem? ht
  have hall : ([65, 71, 74, 42].all fun u => !Tryz.prog.wantsStandIn u) = true := by kernel_rfl
  exact (show Tryz.prog.wantsStandIn t = false by simpa using List.all_eq_true.1 hall t hm)

/-- The card. -/
theorem x_holds : Rows.ShapeFlagsUptoCardSaid :=
  Claim7.holds_tied_plain_at .later [] _ _ _ _ row_holds (fun _ h => by cases h) (by kernel_rfl) (fun _ h => by cases h) shapeFlagsUpto_row_tie rfl ⟨rfl, rfl⟩ (by kernel_rfl) rfl plain (by kernel_rfl)
end Go.Proofs.YtnldpiohcmgkdaaGreatDoor
