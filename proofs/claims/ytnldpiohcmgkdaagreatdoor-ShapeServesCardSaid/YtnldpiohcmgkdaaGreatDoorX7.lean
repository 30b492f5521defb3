/- Readers of typed data by the reach of what is read (each text alone), where the whole may be of any bulk. -/
import Derived.Test.YtnldpiohcmgkdaaGreatDoorX6
import Derived.SizedLaws
namespace Go.Ab
open Go Go.RowKit
section
variable {H : Type} (enc : TypeId × Value → H) (P : Program) (w : World)
variable {α β : Type}
def ReadsW (n : Nat) (t : TypeId) (cl : α → List AV) (Ok : α → Prop) : Prop :=
  ∀ cs x, DataW.trod enc P w 0 (fun _ => true) true n t cs = some x → (∀ k ∈ x.1.weights P t, k ≤ reachBytes) → ∃ a, CellsR (startCx w) (cl a) cs ∧ Ok a
def ReadsFW (n : Nat) (fs : List Field) (off len : Nat) (cl : α → List AV) (Ok : α → Prop) : Prop :=
  ∀ (cs : List Value) (xs : List (DataW H × List MemPlace)), xs.length = fs.length → off + len ≤ cs.length →
    (∀ (i : Nat) (f : Field), fs[i]? = some f → DataW.trod enc P w 0 (fun _ => true) true n f.type ((cs.drop f.offset).take (P.cellsOf f.type)) = xs[i]?) →
    (∀ k ∈ DataW.weightsEach P (fs.map (·.type)) (xs.map (·.1)), k ≤ reachBytes) → ∃ a, CellsR (startCx w) (cl a) ((cs.drop off).take len) ∧ Ok a
variable {enc P w}
theorem readsW_of {n : Nat} {t : TypeId} {cl : α → List AV} {Ok : α → Prop} (h : ∀ N, Reads enc P w N n t cl Ok) : ReadsW enc P w n t cl Ok := fun cs x hx _ => h _ cs x hx (Nat.le_refl _)
theorem ReadsW.map {n : Nat} {t : TypeId} {cl : α → List AV} {Ok : α → Prop} {cl' : β → List AV} {Ok' : β → Prop} (h : ReadsW enc P w n t cl Ok) (g : α → β) (hc : ∀ a, cl' (g a) = cl a) (ho : ∀ a, Ok a → Ok' (g a)) : ReadsW enc P w n t cl' Ok' := fun cs x hx hb => by
  obtain ⟨a, h1, h2⟩ := h cs x hx hb
  exact ⟨g a, by rw [hc]; exact h1, ho a h2⟩
theorem readsW_str {n : Nat} {t : TypeId} (ht : P.underlying t = some .string) : ReadsW enc P w n t (fun s : List UInt8 => [.str s]) (fun s => s.length ≤ reachBytes) := fun cs x hx hb => by
  obtain ⟨s, rfl, rfl, hs⟩ := DataW.trod_string ht hx
  refine ⟨s.data.toList, .one1 rfl rfl ?_, hb _ (by simp [DataW.weights])⟩
  have := Rep.str (c := startCx w) s.data.toList
  rwa [Array.toArray_toList] at this
theorem readsFW_nil {n off : Nat} : ReadsFW enc P w n [] off 0 (fun _ : Unit => []) (fun _ => True) := fun cs xs _ _ _ _ => ⟨(), by rw [List.take_zero]; exact .nil _, trivial⟩
theorem readsFW_cons {n off n1 n2 : Nat} {f : Field} {fs : List Field} {cl1 : α → List AV} {Ok1 : α → Prop} {cl2 : β → List AV} {Ok2 : β → Prop} (h1 : ReadsW enc P w n f.type cl1 Ok1) (ho : f.offset = off) (hn : P.cellsOf f.type = n1)
    (h2 : ReadsFW enc P w n fs (off + n1) n2 cl2 Ok2) : ReadsFW enc P w n (f :: fs) off (n1 + n2) (fun p : α × β => cl1 p.1 ++ cl2 p.2) (fun p => Ok1 p.1 ∧ Ok2 p.2) := fun cs xs hl hlen hx hb => by
  cases xs with
  | nil => simp at hl
  | cons x xs =>
    simp only [List.map_cons, DataW.weightsEach, List.mem_append] at hb
    have hx0 := hx 0 f rfl
    rw [ho, hn] at hx0
    obtain ⟨a, e1, e2⟩ := h1 _ x (by simpa using hx0) (fun k hk => hb k (.inl hk))
    obtain ⟨b, g1, g2⟩ := h2 cs xs (by simpa using hl) (by omega) (fun i f' hf => by simpa using hx (i + 1) f' (by simpa using hf)) (fun k hk => hb k (.inr hk))
    refine ⟨(a, b), ?_, e2, g2⟩
    rw [List.take_add, List.drop_drop]
    exact e1.append g1
theorem readsW_struct {n : Nat} {t : TypeId} {fs : Array Field} {sz : Nat} {cl : α → List AV} {Ok : α → Prop} (ht : P.underlying t = some (.struct fs)) (hz : P.cellsOf t = sz) (h : ∀ m, n = m + 1 → ReadsFW enc P w m fs.toList 0 sz cl Ok) : ReadsW enc P w n t cl Ok := fun cs x hx hb => by
  obtain ⟨xs, m, rfl, rfl, hl, hxl, hf⟩ := DataW.trod_struct ht hx
  simp only [DataW.weights, ht] at hb
  obtain ⟨a, h1, h2⟩ := h m rfl cs xs (by simpa using hxl) (by omega) (fun i f hi => hf i f (by simpa using hi)) hb
  refine ⟨a, ?_, h2⟩
  rw [List.drop_zero, List.take_of_length_le (by omega)] at h1
  exact h1
end
end Go.Ab
