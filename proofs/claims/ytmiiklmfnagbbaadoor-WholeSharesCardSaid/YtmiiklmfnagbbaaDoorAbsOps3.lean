/- Soundness of the pure operations, third part: slices, conversions, tuples, functions. -/
import Derived.Test.YtmiiklmfnagbbaaDoorAbsOps2
import Derived.Laws.BytesArg
import Derived.Laws.BytesString
import Derived.Laws.Slices
import Derived.Laws.IdiomStrings
namespace Go.Ab
open Go Go.RowKit
variable {P : Program} {B : Base} {c : Cx} {s : St} {a : Act}

/-- An operand that may be missing. -/
inductive OSees (B : Base) (c : Cx) (s : St) : Option AV → Option Value → Prop
  | none : OSees B c s none none
  | some {v x} : Sees B c s v x → OSees B c s (some v) (some x)

theorem bound_low {x : Option AV} {X : Option Value} (hx : OSees B c s x X) {l : Int} (hb : bound x 0 = some l) {h : Nat} (h0 : 0 ≤ l) (h1 : l ≤ h) (w : World) (cd : BoundsCode) :
    (match X with | some v => Instr.sliceBound v h cd | none => pure 0 : Sem Nat).run P w = .ok l.toNat w := by
  cases hx with
  | none => simp [bound] at hb; subst hb; rfl
  | some hs =>
    rename_i v x
    cases v <;> simp [bound] at hb
    subst hb
    cases hs.rep
    exact run_sliceBound w _ _ _ _ h0 h1
theorem bound_high {x : Option AV} {X : Option Value} (hx : OSees B c s x X) {n : Nat} {h : Int} (hb : bound x n = some h) {y : Nat} (h0 : 0 ≤ h) (h1 : h ≤ y) (w : World) (cd : BoundsCode) :
    (match X with | some v => Instr.sliceBound v y cd | none => pure n : Sem Nat).run P w = .ok h.toNat w := by
  cases hx with
  | none => simp [bound] at hb; subst hb; rfl
  | some hs =>
    rename_i v x
    cases v <;> simp [bound] at hb
    subst hb
    cases hs.rep
    exact run_sliceBound w _ _ _ _ h0 h1

theorem sliceBounds_run {lo hi : Option AV} {LO HI : Option Value} (hlo : OSees B c s lo LO) (hhi : OSees B c s hi HI) {isS : Bool} {n cap : Nat} {l h : Int}
    (bl : bound lo 0 = some l) (bh : bound hi n = some h) (h0 : 0 ≤ l) (h1 : l ≤ h) (h2 : h ≤ n) (hn : n ≤ cap) (w : World) :
    (Instr.sliceBounds isS n cap LO HI none).run P w = .ok (l.toNat, h.toNat, cap) w := by
  have e1 := fun cd => bound_high (P := P) hhi bh (y := cap) (by omega) (by omega) w cd
  have e2 := fun cd => bound_low (P := P) hlo bl (h := h.toNat) h0 (by omega) w cd
  unfold Instr.sliceBounds
  cases HI with
  | none =>
    cases LO with
    | none =>
      have a1 := e1 .index; have a2 := e2 .index
      simp at a1 a2
      simp [a1, a2]
    | some x =>
      have a1 := e1 .index
      simp at a1
      simp [e2, a1]
  | some y =>
    cases LO with
    | none =>
      have a2 := e2 .index
      simp at a2
      simp [e1, a2]
    | some x => simp [Sem.run_bind, e1, e2]

theorem sliceA_sound (h : Rel B c s a) {t : TypeId} {x v : AV} {X : Value} {lo hi mx : Option AV} {LO HI MX : Option Value} (hx : Sees B c s x X) (hlo : OSees B c s lo LO) (hhi : OSees B c s hi HI) (hmx : OSees B c s mx MX)
    (he : sliceA P t x lo hi mx = some (true, v)) : Goes P B c s (Instr.sliceAt t X LO HI MX) v := by
  unfold sliceA at he
  cases mx with
  | some m => simp at he
  | none =>
    cases hmx
    obtain ⟨hr, hl, hpl⟩ := hx
    clear hpl
    simp only at he
    split at he
    · rename_i l hu
      cases hbl : bound lo 0 with
      | none => simp [hbl] at he
      | some lo' =>
        cases hbh : bound hi l.length with
        | none => simp [hbl, hbh] at he
        | some hi' =>
          simp [hbl, hbh] at he
          obtain ⟨⟨h0, h1, h2⟩, rfl⟩ := he
          cases hr
          refine Goes.still h ?_ Sees.str
          have e1 := sliceBounds_run (P := P) hlo hhi (isS := false) (n := l.length) (cap := l.length) hbl hbh h0 h1 h2 (Nat.le_refl _) c.w
          have esz : (ByteArray.mk l.toArray).size = l.length := by simp [ByteArray.size]
          unfold Instr.sliceAt
          simp only [Sem.run_bind, run_underlying hu, Result.andThen_ok]
          unfold Instr.slice
          simp only [Sem.run_bind, run_underlying hu, Result.andThen_ok, Option.isSome_none, Bool.false_eq_true, if_false, Sem.run_pure, esz, e1]
          congr 2
          apply ByteArray.ext
          apply Array.ext'
          have := Lib.extract_toList ⟨l.toArray⟩ lo'.toNat hi'.toNat
          rw [ByteArray.toList_eq] at this
          simp
    · rename_i e o sz n get hu
      cases hbl : bound lo 0 with
      | none => simp [hbl] at he
      | some lo' =>
        cases hbh : bound hi n with
        | none => simp [hbl, hbh] at he
        | some hi' =>
          simp only [hbl, hbh, Option.bind_some, guardO] at he
          cases hb : (sizeOf? P e == some sz) with
          | false => simp [hb] at he
          | true =>
            simp [hb] at he
            obtain ⟨⟨h0, h1, h2⟩, rfl⟩ := he
            have hsz := beq_iff_eq.1 hb
            cases hr with
            | slNil _ _ _ ho =>
              have e1 := sliceBounds_run (P := P) hlo hhi (isS := true) (n := 0) (cap := 0) hbl hbh h0 h1 h2 (Nat.le_refl _) c.w
              have l0 : lo'.toNat = 0 := by omega
              have l1 : hi'.toNat = 0 := by omega
              refine Goes.still h (x := .slice none 0 0) ?_ ⟨?_, by simp [AV.keys], rfl⟩
              · unfold Instr.sliceAt
                simp only [Sem.run_bind, run_underlying hu, Result.andThen_ok]
                unfold Instr.slice
                simp [Sem.run_bind, run_underlying hu, e1, run_sizeOf hsz, l0, l1]
              · rw [l0, l1]; exact .slNil _ _ _ trivial
            | sl _ _ _ _ ad cap vals hsp hn ho hlen hc hrr =>
              have e1 := sliceBounds_run (P := P) hlo hhi (isS := true) (n := n) (cap := cap) hbl hbh h0 h1 h2 hn c.w
              obtain ⟨b, of, sp⟩ := ad
              simp only at hsp
              subst hsp
              refine Goes.still h (x := .slice (if cap = lo'.toNat then some ⟨b, of, none⟩ else some ⟨b, of + lo'.toNat * sz, none⟩) (hi'.toNat - lo'.toNat) (cap - lo'.toNat)) ?_ ⟨?_, by simp [AV.keys], rfl⟩
              · unfold Instr.sliceAt
                simp only [Sem.run_bind, run_underlying hu, Result.andThen_ok]
                unfold Instr.slice
                simp [Sem.run_bind, run_underlying hu, e1, run_sizeOf hsz, Addr.add_lit]
              · split
                · have hz : hi'.toNat - lo'.toNat = 0 := by omega
                  rw [hz]
                  exact .sl _ _ _ _ _ _ (fun _ _ => undef) rfl (Nat.zero_le _) trivial (fun j hj => by omega) (fun j i u hj => by omega) (fun j i u hj => by omega)
                · refine .sl _ _ _ _ ⟨b, of + lo'.toNat * sz, none⟩ _ (fun j i => vals (lo'.toNat + j) i) rfl (by omega) trivial (fun j hj => hlen _ (by omega)) (fun j i u hj hu => ?_) (fun j i u hj hu => hrr _ _ _ (by omega) hu)
                  have := hc (lo'.toNat + j) i u (by omega) hu
                  have e2 : of + ((lo'.toNat + j) * sz + i) = of + lo'.toNat * sz + (j * sz + i) := by rw [Nat.add_mul]; omega
                  simp only [e2] at this
                  exact this
    · rename_i e k sz off n hu
      cases hbl : bound lo 0 with
      | none => simp [hbl] at he
      | some lo' =>
        cases hbh : bound hi n with
        | none => simp [hbl, hbh] at he
        | some hi' =>
          simp only [hbl, hbh, Option.bind_some, guardO] at he
          cases hb : (sizeOf? P e == some sz) with
          | false => simp [hb] at he
          | true =>
            simp [hb] at he
            obtain ⟨⟨h0, h1, h2⟩, rfl⟩ := he
            have hsz := beq_iff_eq.1 hb
            cases hr with
            | msl _ _ _ _ cap o hn ho =>
              have e1 := sliceBounds_run (P := P) hlo hhi (isS := true) (n := n) (cap := cap) hbl hbh h0 h1 h2 hn c.w
              refine Goes.still h (x := .slice (if cap = lo'.toNat then some ⟨c.β k, o, none⟩ else some ⟨c.β k, o + lo'.toNat * sz, none⟩) (hi'.toNat - lo'.toNat) (cap - lo'.toNat)) ?_ ⟨?_, by simpa [AV.keys] using hl, rfl⟩
              · unfold Instr.sliceAt
                simp only [Sem.run_bind, run_underlying hu, Result.andThen_ok]
                unfold Instr.slice
                simp [Sem.run_bind, run_underlying hu, e1, run_sizeOf hsz, Addr.add_lit]
              · split
                · exact .msl _ _ _ _ _ _ (by omega) (by omega)
                · exact .msl _ _ _ _ _ _ (by omega) (fun hp => by rw [ho (by omega), Nat.add_mul])
    · simp at he

theorem Rep.plain {v : AV} {x : Value} (h : Rep c v x) : v.isGrd = false := by cases h <;> rfl

theorem extractA_sound (h : Rel B c s a) {x v : AV} {X : Value} {i : Nat} (hx : Sees B c s x X) (he : extractA x i = some (true, v)) : Goes P B c s (Instr.extract X i) v := by
  obtain ⟨hr, hl, _⟩ := hx
  cases x with
  | tup vs =>
    simp only [extractA, val1] at he
    cases hv : vs[i]? with
    | none => simp [hv] at he
    | some u =>
      simp [hv] at he; subst he
      cases hr with
      | tup _ xs hs hr =>
        have hi : i < xs.size := by rw [hs]; exact (List.getElem?_eq_some_iff.1 hv).1
        refine Goes.still h (x := xs.getD i undef) ?_ ⟨hr i u hv, fun k hk => hl k (by simpa [AV.keys] using keys_mem_of hv k hk), (hr i u hv).plain⟩
        simp [Instr.extract, Array.getElem?_eq_getElem hi, Array.getD_eq_getD_getElem?]
  | _ => simp [extractA] at he

theorem max2A_sound {x y v : AV} {X Y : Value} (hx : Rep c x X) (hy : Rep c y Y) (he : max2A x y = some v) (w : World) : ∃ V, (Builtin.max2 X Y).run P w = .ok V w ∧ Rep c v V := by
  cases x <;> cases y <;> simp [max2A, guardO] at he
  rename_i k m k' n
  by_cases hk : k = k'
  · subst hk
    simp at he; subst he
    cases hx; cases hy
    refine ⟨.int k (if n > m then n else m), rfl, ?_⟩
    by_cases hh : m < n <;> simp [hh] <;> exact .int _ _
  · simp [hk] at he
theorem min2A_sound {x y v : AV} {X Y : Value} (hx : Rep c x X) (hy : Rep c y Y) (he : min2A x y = some v) (w : World) : ∃ V, (Builtin.min2 X Y).run P w = .ok V w ∧ Rep c v V := by
  cases x <;> cases y <;> simp [min2A, guardO] at he
  rename_i k m k' n
  by_cases hk : k = k'
  · subst hk
    simp at he; subst he
    cases hx; cases hy
    refine ⟨.int k (if n < m then n else m), rfl, ?_⟩
    by_cases hh : n < m <;> simp [hh] <;> exact .int _ _
  · simp [hk] at he

/-- Operands in a row. -/
def SeesL (B : Base) (c : Cx) (s : St) (l : List AV) (xs : List Value) : Prop := xs.length = l.length ∧ ∀ (i : Nat) (u : AV), l[i]? = some u → Sees B c s u (xs.getD i undef)

theorem evalL_sound (h : Rel B c s a) {ch : Chain} (hc : ChOk a ch) : ∀ {os : List Operand} {l : List AV}, evalL ⟨s, B.G, ch⟩ os = some l → SeesL B c s l (os.map a.eval)
  | [], l, he => by simp [evalL] at he; subst he; exact ⟨rfl, fun i u hu => by simp at hu⟩
  | o :: r, l, he => by
    simp only [evalL] at he
    cases ho : evalO ⟨s, B.G, ch⟩ o with
    | none => simp [ho] at he
    | some v =>
      cases hr : evalL ⟨s, B.G, ch⟩ r with
      | none => simp [ho, hr] at he
      | some vs =>
        simp [ho, hr] at he; subst he
        obtain ⟨h1, h2⟩ := evalL_sound h hc hr
        refine ⟨by simpa using h1, fun i u hu => ?_⟩
        cases i with
        | zero => simp at hu; subst hu; simpa using evalO_sound h hc ho
        | succ i => simpa using h2 i u (by simpa using hu)

theorem SeesL.cons_inv {v : AV} {l : List AV} {xs : List Value} (h : SeesL B c s (v :: l) xs) : ∃ x r, xs = x :: r ∧ Sees B c s v x ∧ SeesL B c s l r := by
  obtain ⟨h1, h2⟩ := h
  cases xs with
  | nil => simp at h1
  | cons x r => exact ⟨x, r, rfl, by simpa using h2 0 v rfl, by simpa using h1, fun i u hu => by simpa using h2 (i + 1) u (by simpa using hu)⟩
theorem SeesL.nil_inv {xs : List Value} (h : SeesL B c s [] xs) : xs = [] := List.length_eq_zero_iff.1 h.1

theorem foldA_sound {f : AV → AV → Option AV} {F : Value → Value → Sem Value} (hf : ∀ {x y v : AV} {X Y : Value}, Rep c x X → Rep c y Y → f x y = some v → ∀ w, ∃ V, (F X Y).run P w = .ok V w ∧ Rep c v V) :
    ∀ {l : List AV} {xs : List Value} {x v : AV} {X : Value}, Rep c x X → SeesL B c s l xs → foldA f x l = some v → ∀ w, ∃ V, (xs.foldlM F X).run P w = .ok V w ∧ Rep c v V
  | [], xs, x, v, X, hx, hl, he, w => by
    rw [hl.nil_inv]; simp [foldA] at he; subst he; exact ⟨X, rfl, hx⟩
  | y :: r, xs, x, v, X, hx, hl, he, w => by
    obtain ⟨Y, R, rfl, hy, hr⟩ := hl.cons_inv
    simp only [foldA] at he
    cases hz : f x y with
    | none => simp [hz] at he
    | some z =>
      simp [hz] at he
      obtain ⟨Z, h1, h2⟩ := hf hx hy.rep hz w
      obtain ⟨V, h3, h4⟩ := foldA_sound (F := F) hf h2 hr he w
      exact ⟨V, by simp [List.foldlM_cons, h1, h3], h4⟩

theorem foldA_int {f : AV → AV → Option AV} (hf : ∀ x y v, f x y = some v → ∃ k n, v = .int k n) : ∀ {l : List AV} {x v : AV}, foldA f x l = some v → v = x ∨ ∃ k n, v = .int k n
  | [], x, v, he => by simp [foldA] at he; exact .inl he.symm
  | y :: r, x, v, he => by
    simp only [foldA] at he
    cases hz : f x y with
    | none => simp [hz] at he
    | some z =>
      simp [hz] at he
      rcases foldA_int hf he with rfl | h
      · exact .inr (hf _ _ _ hz)
      · exact .inr h
theorem max2A_int (x y v : AV) (h : max2A x y = some v) : ∃ k n, v = .int k n := by
  cases x <;> cases y <;> simp [max2A, guardO] at h
  rename_i k m k' n
  by_cases hk : k = k'
  · simp [hk] at h; exact ⟨_, _, h.symm⟩
  · simp [hk] at h
theorem min2A_int (x y v : AV) (h : min2A x y = some v) : ∃ k n, v = .int k n := by
  cases x <;> cases y <;> simp [min2A, guardO] at h
  rename_i k m k' n
  by_cases hk : k = k'
  · simp [hk] at h; exact ⟨_, _, h.symm⟩
  · simp [hk] at h

theorem max_sound (h : Rel B c s a) {l : List AV} {xs : List Value} {v : AV} {ts : Array TypeId} {ty : TypeId} (hl : SeesL B c s l xs) (he : fold1 max2A l = some (true, v)) : Goes P B c s (Builtin.max_ ts ty xs.toArray) v := by
  cases l with
  | nil => simp [fold1] at he
  | cons x r =>
    obtain ⟨X, R, rfl, hx, hr⟩ := hl.cons_inv
    simp only [fold1, val1] at he
    cases hz : foldA max2A x r with
    | none => simp [hz] at he
    | some z =>
      simp [hz] at he; subst he
      obtain ⟨V, h1, h2⟩ := foldA_sound (P := P) (F := Builtin.max2) (fun hx hy he w => max2A_sound hx hy he w) hx.rep hr hz c.w
      refine Goes.still h (by simp [Builtin.max_, h1]) ⟨h2, ?_, ?_⟩
      · rcases foldA_int max2A_int hz with rfl | ⟨k, n, rfl⟩
        · exact hx.live
        · simp [AV.keys]
      · rcases foldA_int max2A_int hz with rfl | ⟨k, n, rfl⟩
        · exact hx.plain
        · rfl
theorem min_sound (h : Rel B c s a) {l : List AV} {xs : List Value} {v : AV} {ts : Array TypeId} {ty : TypeId} (hl : SeesL B c s l xs) (he : fold1 min2A l = some (true, v)) : Goes P B c s (Builtin.min_ ts ty xs.toArray) v := by
  cases l with
  | nil => simp [fold1] at he
  | cons x r =>
    obtain ⟨X, R, rfl, hx, hr⟩ := hl.cons_inv
    simp only [fold1, val1] at he
    cases hz : foldA min2A x r with
    | none => simp [hz] at he
    | some z =>
      simp [hz] at he; subst he
      obtain ⟨V, h1, h2⟩ := foldA_sound (P := P) (F := Builtin.min2) (fun hx hy he w => min2A_sound hx hy he w) hx.rep hr hz c.w
      refine Goes.still h (by simp [Builtin.min_, h1]) ⟨h2, ?_, ?_⟩
      · rcases foldA_int min2A_int hz with rfl | ⟨k, n, rfl⟩
        · exact hx.live
        · simp [AV.keys]
      · rcases foldA_int min2A_int hz with rfl | ⟨k, n, rfl⟩
        · exact hx.plain
        · rfl

/-- A list of n bytes, out of a row that holds them. -/
theorem bytes_list {n : Nat} {get : Nat → List AV} (hb : allBytes n get = true) : ∃ ns : List Int, ns.length = n ∧ (∀ j, j < n → get j = [.int .u8 (ns.getD j 0)]) ∧ bytesOf n get = ns.map fun q => UInt8.ofNat q.toNat := by
  have h1 : ∀ j, j < n → ∃ q, get j = [.int .u8 q] := by
    intro j hj
    unfold allBytes at hb
    rw [List.all_eq_true] at hb
    have := hb j (List.mem_range.2 hj)
    unfold isByte at this
    split at this
    · rename_i q hq; exact ⟨q, hq⟩
    · simp at this
  refine ⟨(List.range n).map fun j => (match get j with | [.int _ q] => q | _ => 0), by simp, fun j hj => ?_, ?_⟩
  · obtain ⟨q, hq⟩ := h1 j hj
    simp [List.getD_eq_getElem?_getD, hj, hq]
  · unfold bytesOf
    rw [List.map_map]
    apply List.map_congr_left
    intro j hj
    obtain ⟨q, hq⟩ := h1 j (List.mem_range.1 hj)
    simp [hq, byteOf]

theorem srcA_sound (h : Rel B c s a) {x : AV} {X : Value} (hx : Rep c x X) {sz n : Nat} {get : Nat → List AV} (he : srcA s x = some (sz, n, get)) :
    (X = .slice none 0 0 ∧ n = 0) ∨ ∃ b o cap, X = .slice (some ⟨b, o, none⟩) n cap ∧ n ≤ cap ∧
      (∀ j, j < n → (get j).length = sz ∧ keysL (get j) = []) ∧ (∀ (j i : Nat) (u : AV), j < n → (get j)[i]? = some u → u.one = true ∧ ∃ y, c.w.cell? ⟨b, o + (j * sz + i), none⟩ = some y ∧ Rep c u y) := by
  cases x with
  | sl ow sz' n' get' =>
    simp [srcA] at he
    obtain ⟨rfl, rfl, rfl⟩ := he
    cases hx with
    | slNil => exact .inl ⟨rfl, rfl⟩
    | sl _ _ _ _ ad cap vals hsp hn ho hlen hc hrr =>
      obtain ⟨b, of, sp⟩ := ad
      simp only at hsp
      subst hsp
      exact .inr ⟨b, of, cap, rfl, hn, hlen, fun j i u hj hu => ⟨(hc j i u hj hu).1, _, (hc j i u hj hu).2.1, hrr j i u hj hu⟩⟩
  | msl k sz' off n' =>
    simp only [srcA] at he
    cases ho : s.obj k with
    | none => simp [ho] at he
    | some ob =>
      have hob := h.objs.rep k ob ho
      have key : ∀ (sz2 m : Nat) (get2 : Nat → List AV), ArrAt c (c.β k) sz2 m get2 → cond (Nat.beq sz' sz2 && Nat.ble (off + n') m) (some (sz', n', fun j => get2 (off + j))) none = some (sz, n, get) →
          ∃ b o cap, X = .slice (some ⟨b, o, none⟩) n cap ∧ n ≤ cap ∧
            (∀ j, j < n → (get j).length = sz ∧ keysL (get j) = []) ∧ (∀ (j i : Nat) (u : AV), j < n → (get j)[i]? = some u → u.one = true ∧ ∃ y, c.w.cell? ⟨b, o + (j * sz + i), none⟩ = some y ∧ Rep c u y) := by
        intro sz2 m get2 ha he
        cases hb : (Nat.beq sz' sz2 && Nat.ble (off + n') m) with
        | false => simp [hb] at he
        | true =>
          simp only [hb, cond_true, Option.some.injEq, Prod.mk.injEq] at he
          obtain ⟨rfl, rfl, rfl⟩ := he
          simp only [Bool.and_eq_true] at hb
          have h1 := beqT hb.1
          have h2 := Nat.le_of_ble_eq_true hb.2
          subst h1
          cases hx with
          | msl _ _ _ _ cap o hn ho =>
            refine ⟨_, _, cap, rfl, hn, fun j hj => ha.len _ (by omega), fun j i u hj hu => ?_⟩
            obtain ⟨e1, y, e2, e3⟩ := ha.cellsAt (i := off + j) (by omega) i u hu
            refine ⟨e1, y, ?_, e3⟩
            rw [ho (by omega)]
            rw [← e2]; congr 2; rw [Nat.add_mul]; omega
      cases ob with
      | arr sz2 m get2 => simp only [ho] at he; exact .inr (key sz2 m get2 hob.1 he)
      | frz sz2 m get2 => simp only [ho] at he; exact .inr (key sz2 m get2 hob.1 he)
      | _ => simp [ho] at he
  | _ => simp [srcA] at he

theorem convA_sound (h : Rel B c s a) {src dst : TypeId} {x v : AV} {X : Value} (hx : Sees B c s x X) (he : convA P s src dst x = some (true, v)) : Goes P B c s (convert src dst X) v := by
  have hr := hx.rep
  clear hx
  unfold convA at he
  split at he
  · rename_i k k' n hu
    split at he
    · rename_i ks hs
      simp [ok1] at he; subst he
      cases hr
      exact Goes.still h (by simp [convert, run_underlying hu, run_underlying hs, Conv.intToInt]) Sees.int
    · simp at he
  · rename_i l hu
    split at he
    · rename_i hs
      simp [ok1] at he; subst he
      cases hr
      exact Goes.still h (by simp [convert, run_underlying hu, run_underlying hs]) Sees.str
    · simp at he
  · rename_i e l hu
    split at he
    · rename_i hue hs
      simp only [Option.some.injEq, Prod.mk.injEq] at he
      obtain ⟨_, rfl⟩ := he
      cases hr
      have hrun := run_bytes_of_string c.w src dst e ⟨l.toArray⟩ hs hu hue
      have esz : (ByteArray.mk l.toArray).size = l.length := by simp [ByteArray.size]
      generalize hcap : grownCap c.w (ByteArray.mk l.toArray).size 0 e = cap at hrun
      have hle : l.length ≤ cap := by
        rw [← hcap, esz]; simp only [grownCap, Question.cut]; omega
      generalize hvs : bytesRow ⟨l.toArray⟩ cap = vs at hrun
      have hvsz : vs.size = cap := by rw [← hvs]; simp [bytesRow, esz]; omega
      have hg := h.good.grow (Cx.drew_keeps c s.objs).ext (Cx.drew_grow h.good)
      have ho := h.objs.keep (Cx.drew_keeps c _)
      have hf := h.frame.grow (Cx.drew_keeps c s.objs).ext (Cx.drew_grow h.good) h.kept
      refine ⟨.slice (some ⟨c.w.heap.size, 0, none⟩) l.length cap, c.drew.row vs e (vs.size, vs.size + 1) l.length, ?_, (Cx.drew_keeps c _).trans (Cx.row_keeps hg ho _ _ _ _), (Cx.drew_grow h.good).trans (Cx.row_grow hg hf _ _ _ _ (by omega)), ⟨?_, by simp [AV.keys], rfl⟩⟩
      · rw [hrun, esz]; rfl
      · refine .sl .no 1 l.length (rowOf l) ⟨c.w.heap.size, 0, none⟩ cap (fun j _ => .int .u8 (l.getD j 0).toNat) rfl hle trivial (fun j hj => ⟨rfl, rfl⟩) (fun j i u hj hu => ?_) (fun j i u hj hu => ?_)
        · cases i with
          | succ i => simp [rowOf] at hu
          | zero =>
            simp [rowOf] at hu; subst hu
            refine ⟨rfl, ?_, .inr ⟨rfl, by simpa using hj⟩⟩
            show (c.w.drew.alloc _).cell? ⟨c.w.drew.heap.size, 0 + (j * 1 + 0), none⟩ = _
            rw [cell?_cells (heap_alloc_eq c.w.drew _)]
            have := bytesRow_at ⟨l.toArray⟩ cap j (by simpa using hj)
            rw [hvs] at this
            have e0 : 0 + (j * 1 + 0) = j := by omega
            rw [e0, this]
            simp [List.getD_eq_getElem?_getD, List.getElem?_eq_getElem hj]
        · cases i with
          | succ i => simp [rowOf] at hu
          | zero => simp [rowOf] at hu; subst hu; exact .int _ _
    · simp at he
  · rename_i hu hne2
    split at he
    · rename_i e hs
      split at he
      · rename_i sz n get hue hsrc
        cases hb : (Nat.beq sz 1 || Nat.beq n 0) with
        | false => simp [hb] at he
        | true =>
          simp only [hb, cond_true, Option.some.injEq, Prod.mk.injEq] at he
          obtain ⟨hall, rfl⟩ := he
          obtain ⟨ns, hl, hget, hby⟩ := bytes_list hall
          rcases srcA_sound h hr hsrc with ⟨rfl, rfl⟩ | ⟨b, o, cap, rfl, hle, hlen, hc⟩
          · have := run_convert_bytes_nil (P := P) (w := c.w) src e hs hue 0 0 dst hu
            have hz : ns = [] := List.length_eq_zero_iff.1 hl
            rw [hby, hz]
            exact Goes.still h this Sees.str
          · have := run_convert_bytes_arg (P := P) (w := c.w) src e hs hue b o n cap ns hl (fun i hi => by
              have hsz : sz = 1 := by
                rw [Bool.or_eq_true] at hb
                rcases hb with hb | hb
                · exact beqT hb
                · have := beqT hb; omega
              subst hsz
              obtain ⟨_, y, hy, hr⟩ := hc i 0 (.int .u8 (ns.getD i 0)) hi (by rw [hget i hi]; rfl)
              have e0 : i * 1 + 0 = i := by omega
              rw [e0] at hy
              rw [hy]
              cases hr; rfl) dst hu
            rw [hby]
            exact Goes.still h this Sees.str
      · simp at he
    · simp at he
  · simp at he

theorem nilCheck_sound (h : Rel B c s a) {x v : AV} {X : Value} (hx : Sees B c s x X) (he : nilA x = some (true, v)) {o : Oper} {q : Operand} (ho : o.op = .nilCheck q) (hq : a.eval q = X) :
    ∃ y c', (execOp a.eval o).run P c.w = .ok (.value y) c'.w ∧ Keeps c c' s.objs ∧ Grow B c c' ∧ Sees B c' s v y := by
  refine ⟨X, c, ?_, Keeps.refl _ _, Grow.refl h.good, ?_⟩
  · have hr := hx.rep
    unfold execOp
    cases x <;> simp [nilA, ok1] at he <;> cases hr <;> simp [ho, hq]
  · cases x <;> simp [nilA, ok1] at he <;> subst he <;> exact hx

theorem pickA_sound (h : Rel B c s a) {ch : Chain} (hc : ChOk a ch) {t : Nat} {p q : Operand} {v : AV}
    (he : ((evalO ⟨s, B.G, ch⟩ (.tmp t)).bind fun z => (evalO ⟨s, B.G, (t, true) :: ch⟩ p).bind fun x => (evalO ⟨s, B.G, (t, false) :: ch⟩ q).bind fun y => pickA z x y) = some (true, v)) {o : Oper} (ho : o.op = .pick (.tmp t) p q) :
    ∃ y, (execOp a.eval o).run P c.w = .ok (.value y) c.w ∧ Sees B c s v y := by
  cases hz : evalO ⟨s, B.G, ch⟩ (.tmp t) with
  | none => simp [hz] at he
  | some z =>
    cases hx : evalO ⟨s, B.G, (t, true) :: ch⟩ p with
    | none => simp [hz, hx] at he
    | some x =>
      cases hy : evalO ⟨s, B.G, (t, false) :: ch⟩ q with
      | none => simp [hz, hx, hy] at he
      | some y =>
        simp [hz, hx, hy] at he
        cases z <;> cases x <;> cases y <;> simp [pickA, ok1] at he
        rename_i zb xb yb
        subst he
        have h1 := (evalO_sound h hc hz).rep
        have hzt : a.tmps.getD t undef = .bool zb := by
          generalize hq1 : a.eval (.tmp t) = Z at h1
          cases h1; exact hq1
        cases zb with
        | true =>
          have h2 := (evalO_sound h (ch := (t, true) :: ch) (by
            intro t' w' hm
            rcases List.mem_cons.1 hm with e | hm
            · simp only [Prod.mk.injEq] at e; obtain ⟨rfl, rfl⟩ := e; exact hzt
            · exact hc _ _ hm) hx).rep
          refine ⟨.bool xb, ?_, Sees.bool⟩
          generalize hq1 : a.eval p = Z at h2
          cases h2
          unfold execOp
          have e1 : a.eval (.tmp t) = .bool true := hzt
          simp [ho, e1, asBool, hq1]
        | false =>
          have h2 := (evalO_sound h (ch := (t, false) :: ch) (by
            intro t' w' hm
            rcases List.mem_cons.1 hm with e | hm
            · simp only [Prod.mk.injEq] at e; obtain ⟨rfl, rfl⟩ := e; exact hzt
            · exact hc _ _ hm) hy).rep
          refine ⟨.bool yb, ?_, Sees.bool⟩
          generalize hq1 : a.eval q = Z at h2
          cases h2
          unfold execOp
          have e1 : a.eval (.tmp t) = .bool false := hzt
          simp [ho, e1, asBool, hq1]
end Go.Ab
