/- Soundness of make and append. -/
import Derived.Test.YtmiiklmfnagbbaaDoorAbsOps6
namespace Go.Ab
open Go Go.RowKit
variable {P : Program} {B : Base} {c : Cx} {s : St} {a : Act}

/-- A key that owns a slice, as it stands from here on. -/
def Cx.owns (c : Cx) (w' : World) (I' : Nat → Nat → Prop) (k : Nat) (K : Option (Addr × Nat)) (n : Nat) : Cx :=
  { w := w', I := I', β := c.β, κ := fun q => if q = k then K else c.κ q, fr := fun q => if q = k then some n else c.fr q }

theorem owns_keeps {w' : World} {I' : Nat → Nat → Prop} {k n : Nat} {K : Option (Addr × Nat)} {objs : List (Nat × AO)}
    (hI : ∀ b o, c.I b o → I' b o) (hc : ∀ b o v, c.I b o → c.w.cell? ⟨b, o, none⟩ = some v → w'.cell? ⟨b, o, none⟩ = some v)
    (hk : ∀ n' v, live objs k → OwnRep c (.key k) n' v → OwnRep (c.owns w' I' k K n) (.key k) n' v)
    (hh : ∀ q o b, alook objs q = some o → q ≠ k → excl c q o = some b → w'.heap[b]? = c.w.heap[b]? ∧ ∀ off, I' b off → c.I b off) : KeepsBut c (c.owns w' I' k K n) objs k := by
  refine ⟨⟨hc, hI, fun _ _ => rfl, fun q hq n' v hv => ?_⟩, fun _ _ _ => rfl, fun q _ hne => by simp [Cx.owns, hne], fun q _ hne => by simp [Cx.owns, hne], hh⟩
  by_cases e : q = k
  · subst e; exact hk n' v hq hv
  · simpa [OwnRep, Cx.owns, e] using hv

theorem makeSliceA_sound (h : Rel B c s a) {d : Nat} {t : TypeId} {x y v : AV} {X Y : Value} {k : Nat} {ob : AO} (hx : Rep c x X) (hy : Rep c y Y) (he : makeSliceA P s d t x y = some (true, v, k, ob)) :
    ∃ z c', (Instr.makeSlice t X Y).run P c.w = .ok z c'.w ∧ Rel B c' (s.setObj k ob) a ∧ Sees B c' (s.setObj k ob) v z := by
  unfold makeSliceA at he
  split at he
  · rename_i e l m hu
    split at he
    · rename_i z inf hz hinf hd
      simp only [guardO] at he
      cases hb : (Nat.beq z.length inf.size && Nat.blt 0 inf.size) with
      | false => simp [hb] at he
      | true =>
        simp only [hb, cond_true] at he
        simp only [Bool.and_eq_true] at hb
        have b1 := beqT hb.1
        have b2 : 0 < inf.size := Nat.lt_of_succ_le (Nat.le_of_ble_eq_true hb.2)
        obtain ⟨i, zv, hi, hzv, hcz⟩ := zeroCells_inv hz
        obtain ⟨hzc, hzk⟩ := zero_CR (c := c) hcz
        have : i = inf := by rw [hinf] at hi; exact (Option.some.inj hi).symm
        subst this
        cases hx; cases hy
        have hmade : (madeCells zv.cells (m.toNat * i.size)).size = m.toNat * z.length := by rw [size_madeCells, b1]
        by_cases hlc : l = m
        · subst hlc
          simp only [decide_true, cond_true, Option.some.injEq, Prod.mk.injEq, Bool.and_eq_true, decide_eq_true_eq] at he
          obtain ⟨⟨h0, hr, hle⟩, rfl, rfl, rfl⟩ := he
          have hr := Nat.le_of_ble_eq_true hr
          have hrun := run_make (P := P) c.w t e i zv hu hinf hzv .i64 .i64 l l h0 (Int.le_refl _) (by
            have e1 : ((l.toNat * i.bytes : Nat) : Int) ≤ 140737488355328 := by omega
            have e2 : (l.toNat : Int) = l := Int.toNat_of_nonneg h0
            rw [Int.natCast_mul, e2] at e1
            rw [Int.mul_comm]; omega) (by omega)
          refine ⟨_, c.var d (madeCells zv.cells (l.toNat * i.size)) e, hrun, newVar_arr h hd hmade (fun j hj => ⟨rfl, hzk⟩) (fun j q u hj hu' => ⟨(hzc.2 q u hu').1, ?_⟩), ⟨?_, fun q hq => ?_, rfl⟩⟩
          · have hq : q < z.length := (List.getElem?_eq_some_iff.1 hu').1
            have hzs : zv.cells.size = z.length := hzc.1
            rw [madeCells_get _ _ _ (by rw [← b1]; exact row_off_lt hj hq) (by omega)]
            have e5 : (j * z.length + q) % zv.cells.size = q := by rw [hzs, Nat.add_comm, Nat.add_mul_mod_self_right, Nat.mod_eq_of_lt hq]
            rw [e5]; exact (hzc.2 q u hu').2
          · have := Rep.msl (c := c.var d (madeCells zv.cells (l.toNat * i.size)) e) d z.length 0 l.toNat l.toNat 0 (Nat.le_refl _) (by simp)
            simpa [Cx.var] using this
          · simp [AV.keys] at hq; subst hq; exact live_aput_self
        · simp only [hlc, decide_false, cond_false, Option.some.injEq, Prod.mk.injEq, Bool.and_eq_true, decide_eq_true_eq] at he
          obtain ⟨⟨hl0, h0, hr, hle⟩, rfl, rfl, rfl⟩ := he
          subst hl0
          have hr := Nat.le_of_ble_eq_true hr
          have hrun := run_make (P := P) c.w t e i zv hu hinf hzv .i64 .i64 0 m (Int.le_refl _) h0 (by
            have e1 : ((m.toNat * i.bytes : Nat) : Int) ≤ 140737488355328 := by omega
            have e2 : (m.toNat : Int) = m := Int.toNat_of_nonneg h0
            rw [Int.natCast_mul, e2] at e1
            rw [Int.mul_comm]; omega) (by omega)
          have hkb : KeepsBut c (c.owns (c.w.alloc (.cells (madeCells zv.cells (m.toNat * i.size)) e)) c.I d (some (⟨c.w.heap.size, 0, none⟩, m.toNat)) 0) s.objs d := by
            refine owns_keeps (fun _ _ hi => hi) (fun b o v' hi hv => ?_) (fun n' v' hl _ => absurd rfl (live_ne hd hl)) (fun q o b hq hne hb => ⟨heap_alloc_lt _ _ _ (excl_lt (h.objs.rep q o hq) hb), fun _ hi => hi⟩)
            rw [World.cell?_block (heap_alloc_lt c.w _ b (lt_of_cell hv))]; exact hv
          have hgr : Grow B c (c.owns (c.w.alloc (.cells (madeCells zv.cells (m.toNat * i.size)) e)) c.I d (some (⟨c.w.heap.size, 0, none⟩, m.toNat)) 0) := by
            refine ⟨rfl, rfl, rfl, by simp [Cx.owns], fun b hb _ => heap_alloc_lt _ _ _ (Nat.lt_of_lt_of_le hb h.frame.size), fun b o hb _ hi => hi, fun b o hi => ?_⟩
            obtain ⟨v', hv⟩ := h.good.there b o hi
            exact ⟨v', hkb.ext.cell b o v' hi hv⟩
          simp only [Int.toNat_zero] at hrun
          refine ⟨.slice (some ⟨c.w.heap.size, 0, none⟩) 0 m.toNat, c.owns (c.w.alloc (.cells (madeCells zv.cells (m.toNat * i.size)) e)) c.I d (some (⟨c.w.heap.size, 0, none⟩, m.toNat)) 0, hrun, h.obj hkb hgr ⟨by omega, by simp [Cx.owns], ?_⟩ ?_ (by simp [AO.keys]) ?_, ⟨?_, fun q hq => ?_, rfl⟩⟩
          · simp only [Cx.owns, if_true]
            refine ⟨trivial, Nat.zero_le _, fun _ => ⟨⟨_, e, heap_alloc_eq c.w _, hmade⟩, rfl, fun o _ hi => ?_⟩⟩
            obtain ⟨v', hv⟩ := h.good.there _ _ hi
            have := lt_of_cell hv
            simp at this
          · intro q o' b hq hne hb
            have := excl_lt (h.objs.rep q o' hq) hb
            simp only [excl, Cx.owns, if_true]
            intro e'
            split at e'
            · have h9 : c.w.heap.size = b := Option.some.inj e'
              omega
            · simp at e'
          · intro b hb
            simp only [excl, Cx.owns, if_true] at hb
            have := h.frame.size
            split at hb
            · have h9 : c.w.heap.size = b := Option.some.inj hb
              left; omega
            · simp at hb
          · refine .sl _ _ _ _ ⟨c.w.heap.size, 0, none⟩ m.toNat (fun _ _ => undef) rfl (Nat.zero_le _) ⟨0, by simp [Cx.owns], Nat.le_refl _, fun _ => by simp [Cx.owns, slOf]⟩ (fun j hj => by omega) (fun j i u hj => by omega) (fun j i u hj => by omega)
          · simp [AV.keys] at hq; subst hq; exact live_aput_self
    · simp at he
  · simp at he

/-- What a slice reads as: a row of cells. -/
structure RowSees (c : Cx) (b o n sz : Nat) (get : Nat → List AV) : Prop where
  len : ∀ j, j < n → (get j).length = sz ∧ keysL (get j) = []
  cell : ∀ (j i : Nat) (u : AV), j < n → (get j)[i]? = some u → u.one = true ∧ ∃ y, c.w.cell? ⟨b, o + (j * sz + i), none⟩ = some y ∧ Rep c u y

def rd (w : World) (b o : Nat) (q : Nat) : Value := (w.cell? ⟨b, o + q, none⟩).getD undef
def rdL (w : World) (b o len : Nat) : List Value := (List.range len).map (rd w b o)

theorem split_idx {n sz q : Nat} (h : q < n * sz) : q / sz < n ∧ q % sz < sz ∧ q / sz * sz + q % sz = q := by
  have hsz : 0 < sz := by
    rcases Nat.eq_zero_or_pos sz with h0 | h0
    · rw [h0] at h; omega
    · exact h0
  exact ⟨Nat.div_lt_of_lt_mul (by rw [Nat.mul_comm]; exact h), Nat.mod_lt _ hsz, by rw [Nat.mul_comm]; exact Nat.div_add_mod q sz⟩

theorem RowSees.at {b o n sz : Nat} {get : Nat → List AV} (h : RowSees c b o n sz get) {q : Nat} (hq : q < n * sz) : c.w.cell? ⟨b, o + q, none⟩ = some (rd c.w b o q) ∧ (rd c.w b o q).oneCell' = true := by
  obtain ⟨h1, h2, h3⟩ := split_idx hq
  obtain ⟨g1, y, g2, g3⟩ := h.cell (q / sz) (q % sz) _ h1 (List.getElem?_eq_getElem (by rw [(h.len _ h1).1]; exact h2))
  rw [h3] at g2
  simp only [rd, g2, Option.getD_some]
  exact ⟨trivial, rep_oneCell g3 g1⟩
theorem RowSees.rep {b o n sz : Nat} {get : Nat → List AV} (h : RowSees c b o n sz get) {j i : Nat} {u : AV} (hj : j < n) (hu : (get j)[i]? = some u) : Rep c u (rd c.w b o (j * sz + i)) := by
  obtain ⟨_, y, g2, g3⟩ := h.cell j i u hj hu
  simpa [rd, g2] using g3
theorem rdL_get {w : World} {b o len j : Nat} {v : Value} (h : (rdL w b o len)[j]? = some v) : j < len ∧ v = rd w b o j := by
  simp only [rdL, List.getElem?_map] at h
  rcases Nat.lt_or_ge j len with hj | hj
  · simp [hj] at h; exact ⟨hj, h.symm⟩
  · simp [hj] at h
theorem rdL_length (w : World) (b o len : Nat) : (rdL w b o len).length = len := by simp [rdL]
theorem RowSees.cells {b o n sz : Nat} {get : Nat → List AV} (h : RowSees c b o n sz get) : (∀ j v, (rdL c.w b o (n * sz))[j]? = some v → c.w.cell? ((⟨b, o, none⟩ : Addr).add j) = some v) ∧ ∀ u ∈ rdL c.w b o (n * sz), u.oneCell' = true := by
  refine ⟨fun j v hv => ?_, fun u hu => ?_⟩
  · obtain ⟨hj, rfl⟩ := rdL_get hv
    rw [Addr.add_lit]; exact (h.at hj).1
  · simp only [rdL, List.mem_map, List.mem_range] at hu
    obtain ⟨q, hq, rfl⟩ := hu
    exact (h.at hq).2

theorem slice_row {x : AV} {o : Own} {sz n : Nat} {get : Nat → List AV} {X : Value} (hx : Rep c x X) (e : x = .sl o sz n get) :
    (X = .slice none 0 0 ∧ n = 0 ∧ OwnRep c o 0 X) ∨ ∃ b of cap, X = .slice (some ⟨b, of, none⟩) n cap ∧ n ≤ cap ∧ OwnRep c o n X ∧ RowSees c b of n sz get ∧ ∀ q, q < n * sz → c.I b (of + q) := by
  subst e
  cases hx with
  | slNil _ _ _ ho => exact .inl ⟨rfl, rfl, ho⟩
  | sl _ _ _ _ ad cap vals h1 h2 h3 h4 h5 h6 =>
    obtain ⟨b, of, sp⟩ := ad
    simp only at h1; subst h1
    refine .inr ⟨b, of, cap, rfl, h2, h3, ⟨h4, fun j i u hj hu => ⟨(h5 j i u hj hu).1, _, (h5 j i u hj hu).2.1, h6 j i u hj hu⟩⟩, fun q hq => ?_⟩
    obtain ⟨g1, g2, g3⟩ := split_idx hq
    have := (h5 (q / sz) (q % sz) _ g1 (List.getElem?_eq_getElem (by rw [(h4 _ g1).1]; exact g2))).2.2
    rw [g3] at this; exact this

theorem append_none {t ty e : TypeId} {i : TypeInfo} (ht : P.underlying t = some (.slice e)) (hi : P.info? e = some i) {base : Option Addr} {n cap : Nat} (hn : n ≤ cap) {Y : Value} (hY : Y = .slice none 0 0 ∨ ∃ ad c, Y = .slice (some ad) 0 c) (w : World) :
    (Builtin.append_ #[t, t] ty #[.slice base n cap, Y]).run P w = .ok (.slice base n cap) w := by
  rcases hY with rfl | ⟨ad, cc, rfl⟩ <;> cases base <;> simp [Builtin.append_, run_underlying ht, sizeOf, typeInfo, hi, Builtin.lenOf, hn, Builtin.firstCells, loadCells, loadCellsFrom, storeCells]

theorem bltT {a b : Nat} (h : a < b) : Nat.blt a b = true := Nat.ble_eq_true_of_le h
theorem ltB {a b : Nat} (h : Nat.blt a b = true) : a < b := Nat.le_of_ble_eq_true h
theorem appGet_lt {n m : Nat} {get get2 : Nat → List AV} {j : Nat} (h : j < n) : appGet n m get get2 j = get j := by
  have : Nat.blt j n = true := bltT h
  simp [appGet, this]
theorem appGet_ge {n m : Nat} {get get2 : Nat → List AV} {j : Nat} (h1 : n ≤ j) (h2 : j < n + m) : appGet n m get get2 j = get2 (j - n) := by
  have e1 : Nat.blt j n = false := by
    cases hb : Nat.blt j n with
    | false => rfl
    | true => have := ltB hb
              omega
  have e2 : Nat.blt j (n + m) = true := bltT h2
  simp only [appGet, e1, e2, cond_false, cond_true]

/-- The appended row, where its cells stand in a block. -/
theorem append_row {c' : Cx} {b1 o1 b2 o2 n m sz g : Nat} {get get2 : Nat → List AV} {vs : Array Value} {t' : TypeId} {ks : Nat → Prop} (h1 : RowSees c b1 o1 n sz get) (h2 : RowSees c b2 o2 m sz get2)
    (he : Ext c c' ks) (hg : c'.w.heap[g]? = some (.cells vs t' (0, 0))) (hv1 : ∀ q, q < n * sz → vs[q]? = some (rd c.w b1 o1 q)) (hv2 : ∀ q, q < m * sz → vs[n * sz + q]? = some (rd c.w b2 o2 q))
    (hI : ∀ q, q < (n + m) * sz → c'.I g q) {K : Nat} {cap : Nat} (hcap : n + m ≤ cap) (ho : OwnRep c' (.key K) (n + m) (.slice (some ⟨g, 0, none⟩) (n + m) cap)) :
    Rep c' (.sl (.key K) sz (n + m) (appGet n m get get2)) (.slice (some ⟨g, 0, none⟩) (n + m) cap) := by
  have hlen : ∀ j, j < n + m → (appGet n m get get2 j).length = sz ∧ keysL (appGet n m get get2 j) = [] := by
    intro j hj
    by_cases hjn : j < n
    · rw [appGet_lt hjn]; exact h1.len j hjn
    · rw [appGet_ge (by omega) hj]; exact h2.len _ (by omega)
  have key : ∀ (j i : Nat) (u : AV), j < n + m → (appGet n m get get2 j)[i]? = some u → u.one = true ∧ ∃ y, vs[j * sz + i]? = some y ∧ Rep c u y := by
    intro j i u hj hu
    have hi : i < sz := by rw [← (hlen j hj).1]; exact (List.getElem?_eq_some_iff.1 hu).1
    by_cases hjn : j < n
    · rw [appGet_lt hjn] at hu
      exact ⟨(h1.cell j i u hjn hu).1, _, hv1 _ (row_off_lt hjn hi), h1.rep hjn hu⟩
    · rw [appGet_ge (by omega) hj] at hu
      have hj' : j - n < m := by omega
      refine ⟨(h2.cell _ i u hj' hu).1, _, ?_, h2.rep hj' hu⟩
      have e : j * sz + i = n * sz + ((j - n) * sz + i) := by
        have : j = n + (j - n) := by omega
        conv => lhs; rw [this, Nat.add_mul]
        omega
      rw [e]; exact hv2 _ (row_off_lt hj' hi)
  refine .sl _ _ _ _ ⟨g, 0, none⟩ cap (fun j i => vs.getD (j * sz + i) undef) rfl hcap ho hlen (fun j i u hj hu => ?_) (fun j i u hj hu => ?_)
  · have hi : i < sz := by rw [← (hlen j hj).1]; exact (List.getElem?_eq_some_iff.1 hu).1
    obtain ⟨k1, y, k2, k3⟩ := key j i u hj hu
    refine ⟨k1, ?_, by simpa using hI _ (row_off_lt hj hi)⟩
    simp only [Nat.zero_add]
    rw [cell?_cells hg, k2]
    simp [Array.getD_eq_getD_getElem?, k2]
  · obtain ⟨k1, y, k2, k3⟩ := key j i u hj hu
    have : vs.getD (j * sz + i) undef = y := by simp [Array.getD_eq_getD_getElem?, k2]
    rw [this]
    refine k3.ext he fun k hk => ?_
    rw [keys_nil_of (hlen j hj).2 hu] at hk; simp at hk

theorem rdL_at (w : World) (b o len q : Nat) (h : q < len) : (rdL w b o len)[q]? = some (rd w b o q) := by simp [rdL, h]

/-- What an append needs to know of its first operand's owner: K the key from here on. -/
structure Owner (c : Cx) (s : St) (o : Own) (sz n K : Nat) (X : Value) : Prop where
  cases : (o = .fit ∧ s.obj K = none) ∨ (o = .key K ∧ s.obj K = some (.own sz n))
  own : OwnRep c o n X

/-- The append that makes a new row. -/
theorem append_new (h : Rel B c s a) {o : Own} {sz n m K : Nat} {X : Value} (hO : Owner c s o sz n K X) (hm : 0 < m) (hsz : 0 < sz) {vs : Array Value} {e : TypeId} {cap : Nat} (hcap : n + m ≤ cap) (hvs : vs.size = cap * sz)
    {b1 o1 b2 o2 : Nat} {get get2 : Nat → List AV} (h1 : RowSees c b1 o1 n sz get) (h2 : RowSees c b2 o2 m sz get2)
    (hv1 : ∀ q, q < n * sz → vs[q]? = some (rd c.w b1 o1 q)) (hv2 : ∀ q, q < m * sz → vs[n * sz + q]? = some (rd c.w b2 o2 q)) :
    ∃ c', c'.w = c.w.drew.alloc (.cells vs e) ∧ Rel B c' (s.setObj K (.own sz (n + m))) a ∧
      Sees B c' (s.setObj K (.own sz (n + m))) (.sl (.key K) sz (n + m) (appGet n m get get2)) (.slice (some ⟨c.w.heap.size, 0, none⟩) (n + m) cap) := by
  let c' := c.owns (c.w.drew.alloc (.cells vs e)) (fun b q => c.I b q ∨ (b = c.w.heap.size ∧ q < (n + m) * sz)) K (some (⟨c.w.heap.size, 0, none⟩, cap)) (n + m)
  have hkb : KeepsBut c c' s.objs K := by
    refine owns_keeps (fun _ _ hi => .inl hi) (fun b q v hi hv => ?_) (fun n' v hl hv => ?_) (fun q o' b hq hne hb => ⟨heap_alloc_lt c.w.drew _ _ (excl_lt (h.objs.rep q o' hq) hb), fun off hi => ?_⟩)
    · rw [World.cell?_block (heap_alloc_lt c.w.drew _ b (lt_of_cell hv))]; exact hv
    · obtain ⟨m', f1, f2, _⟩ := hv
      rcases hO.cases with ⟨_, hk⟩ | ⟨_, hk⟩
      · exact absurd rfl (live_ne hk hl)
      · have := (h.objs.rep K _ hk).2.1
        rw [this] at f1
        have := Option.some.inj f1
        exact ⟨n + m, by simp [Cx.owns], by omega, fun e' => by omega⟩
    · rcases hi with hi | ⟨rfl, _⟩
      · exact hi
      · have := excl_lt (h.objs.rep q o' hq) hb; omega
  have hgr : Grow B c c' := by
    refine ⟨rfl, rfl, rfl, by simp [c', Cx.owns], fun b hb _ => heap_alloc_lt c.w.drew _ _ (Nat.lt_of_lt_of_le hb h.frame.size), fun b q hb _ hi => ?_, fun b q hi => ?_⟩
    · rcases hi with hi | ⟨rfl, _⟩
      · exact hi
      · have := h.frame.size; omega
    · rcases hi with hi | ⟨rfl, hq⟩
      · obtain ⟨v', hv⟩ := h.good.there b q hi
        exact ⟨v', hkb.ext.cell b q v' hi hv⟩
      · have hlt : q < vs.size := by rw [hvs]; exact Nat.lt_of_lt_of_le hq (Nat.mul_le_mul_right _ hcap)
        exact ⟨vs[q], by show (c.w.drew.alloc _).cell? ⟨c.w.drew.heap.size, q, none⟩ = _; rw [cell?_cells (heap_alloc_eq c.w.drew _)]; simp⟩
  have hown : OwnRep c' (.key K) (n + m) (.slice (some ⟨c.w.heap.size, 0, none⟩) (n + m) cap) := ⟨n + m, by simp [c', Cx.owns], Nat.le_refl _, fun _ => by simp [c', Cx.owns, slOf]⟩
  refine ⟨c', rfl, h.obj hkb hgr ⟨hsz, by simp [c', Cx.owns], ?_⟩ ?_ (by simp [AO.keys]) ?_, ⟨?_, fun q hq => ?_, rfl⟩⟩
  · simp only [c', Cx.owns, if_true]
    refine ⟨trivial, hcap, fun _ => ⟨⟨vs, e, heap_alloc_eq c.w.drew _, hvs⟩, rfl, fun q hq hi => ?_⟩⟩
    rcases hi with hi | ⟨_, hq'⟩
    · obtain ⟨v', hv⟩ := h.good.there _ _ hi
      have := lt_of_cell hv
      simp at this
    · omega
  · intro q o' b hq hne hb
    have := excl_lt (h.objs.rep q o' hq) hb
    simp only [excl, c', Cx.owns, if_true]
    intro e'
    split at e'
    · have h9 : c.w.heap.size = b := Option.some.inj e'
      omega
    · simp at e'
  · intro b hb
    simp only [excl, c', Cx.owns, if_true] at hb
    have := h.frame.size
    split at hb
    · have h9 : c.w.heap.size = b := Option.some.inj hb
      left; omega
    · simp at hb
  · exact append_row h1 h2 hkb.ext (heap_alloc_eq c.w.drew _) hv1 hv2 (fun q hq => .inr ⟨rfl, hq⟩) hcap hown
  · simp [AV.keys] at hq; subst hq; exact live_aput_self

/-- The append into the room that is there. -/
theorem append_in (h : Rel B c s a) {sz n m K : Nat} (hk : s.obj K = some (.own sz n)) (hm : 0 < m) {g cap : Nat} (hκ : c.κ K = some (⟨g, 0, none⟩, cap)) (hcap : n + m ≤ cap) {cur : Array Value} {e : TypeId} (hh : c.w.heap[g]? = some (.cells cur e (0, 0)))
    (hcs : cur.size = cap * sz) (hfree : ∀ q, n * sz ≤ q → ¬ c.I g q) {b2 o2 : Nat} {get get2 : Nat → List AV} (h1 : RowSees c g 0 n sz get) (hI1 : ∀ q, q < n * sz → c.I g (0 + q)) (h2 : RowSees c b2 o2 m sz get2) :
    ∃ c', c'.w = c.w.setRow g (cur.toList.take (n * sz) ++ rdL c.w b2 o2 (m * sz) ++ cur.toList.drop (n * sz + (rdL c.w b2 o2 (m * sz)).length)).toArray ∧ Rel B c' (s.setObj K (.own sz (n + m))) a ∧
      Sees B c' (s.setObj K (.own sz (n + m))) (.sl (.key K) sz (n + m) (appGet n m get get2)) (.slice (some ⟨g, 0, none⟩) (n + m) cap) := by
  have hrepK := h.objs.rep K _ hk
  have hsz : 0 < sz := hrepK.1
  have hexcl : excl c K (.own sz n) = some g := by simp [excl, hκ]; omega
  have hfit : n * sz + (rdL c.w b2 o2 (m * sz)).length ≤ cur.size := by rw [rdL_length, hcs, ← Nat.add_mul]; exact Nat.mul_le_mul_right _ hcap
  obtain ⟨g1, g2⟩ := getD_splice cur (n * sz) (rdL c.w b2 o2 (m * sz)) hfit
  generalize hvs : (cur.toList.take (n * sz) ++ rdL c.w b2 o2 (m * sz) ++ cur.toList.drop (n * sz + (rdL c.w b2 o2 (m * sz)).length)).toArray = vs at g1 g2
  have hW : Wrote c g (c.w.setRow g vs) := wrote_setRow rfl
  have hg' : (c.w.setRow g vs).heap[g]? = some (.cells vs e (0, 0)) := setRow_heap _ _ _ _ _ _ hh
  have get1 : ∀ q, q < cur.size → vs[q]? = some (if n * sz ≤ q ∧ q < n * sz + (rdL c.w b2 o2 (m * sz)).length then (rdL c.w b2 o2 (m * sz)).getD (q - n * sz) undef else cur.getD q undef) := by
    intro q hq
    have hq' : q < vs.size := by omega
    have := g2 q hq
    rw [← this]
    simp [Array.getD_eq_getD_getElem?, hq']
  let c' := c.owns (c.w.setRow g vs) (fun b q => c.I b q ∨ (b = g ∧ n * sz ≤ q ∧ q < (n + m) * sz)) K (some (⟨g, 0, none⟩, cap)) (n + m)
  have hkb : KeepsBut c c' s.objs K := by
    refine owns_keeps (fun _ _ hi => .inl hi) (fun b q v hi hv => ?_) (fun n' v hl hv => ?_) (fun q o' b hq hne hb => ?_)
    · by_cases e' : b = g
      · subst e'
        have hq : q < n * sz := by
          rcases Nat.lt_or_ge q (n * sz) with h' | h'
          · exact h'
          · exact absurd hi (hfree q h')
        rw [cell?_cells hg', get1 q (by omega), if_neg (by omega)]
        rw [cell?_cells hh] at hv
        simp [Array.getD_eq_getD_getElem?, hv]
      · rw [World.cell?_block (hW.other b e')]; exact hv
    · obtain ⟨m', f1, f2, _⟩ := hv
      rw [hrepK.2.1] at f1
      have := Option.some.inj f1
      exact ⟨n + m, by simp [Cx.owns], by omega, fun e' => by omega⟩
    · have hne' : b ≠ g := by
        rintro rfl
        exact h.objs.apart q o' K _ b hq hk hne hb hexcl
      refine ⟨hW.other b hne', fun off hi => ?_⟩
      rcases hi with hi | ⟨e', _⟩
      · exact hi
      · exact absurd e' hne'
  have hgr : Grow B c c' := by
    refine ⟨rfl, rfl, rfl, by simp [c', Cx.owns], fun b hb hd => hW.other b ?_, fun b q hb hd hi => ?_, fun b q hi => ?_⟩
    · rintro rfl
      rcases h.mine K _ b hk hexcl with h' | h'
      · omega
      · exact hd h'
    · rcases hi with hi | ⟨rfl, _⟩
      · exact hi
      · rcases h.mine K _ b hk hexcl with h' | h'
        · omega
        · exact absurd h' hd
    · rcases hi with hi | ⟨rfl, _, hq⟩
      · obtain ⟨v', hv⟩ := h.good.there b q hi
        exact ⟨v', hkb.ext.cell b q v' hi hv⟩
      · have hlt : q < vs.size := by rw [g1, hcs]; exact Nat.lt_of_lt_of_le hq (Nat.mul_le_mul_right _ hcap)
        exact ⟨vs[q], by show (c.w.setRow b vs).cell? _ = _; rw [cell?_cells hg']; simp⟩
  have hown : OwnRep c' (.key K) (n + m) (.slice (some ⟨g, 0, none⟩) (n + m) cap) := ⟨n + m, by simp [c', Cx.owns], Nat.le_refl _, fun _ => by simp [c', Cx.owns, slOf]⟩
  have hexcl' : ∀ b, excl c' K (.own sz (n + m)) = some b → b = g := by
    intro b hb
    simp only [excl, c', Cx.owns, if_true] at hb
    split at hb
    · exact (Option.some.inj hb).symm
    · simp at hb
  refine ⟨c', by simp [c', Cx.owns], h.obj hkb hgr ⟨hsz, by simp [c', Cx.owns], ?_⟩ ?_ (by simp [AO.keys]) ?_, ⟨?_, fun q hq => ?_, rfl⟩⟩
  · simp only [c', Cx.owns, if_true]
    refine ⟨trivial, hcap, fun _ => ⟨⟨vs, e, hg', by rw [g1, hcs]⟩, rfl, fun q hq hi => ?_⟩⟩
    rcases hi with hi | ⟨_, _, hq'⟩
    · exact hfree q (by rw [Nat.add_mul] at hq; omega) hi
    · omega
  · intro q o' b hq hne hb e'
    have := hexcl' b e'
    subst this
    exact h.objs.apart q o' K _ b hq hk hne hb hexcl
  · intro b hb
    rw [hexcl' b hb]; exact h.mine K _ g hk hexcl
  · refine append_row h1 h2 hkb.ext hg' (fun q hq => ?_) (fun q hq => ?_) (fun q hq => ?_) hcap hown
    · have hlt : q < cur.size := by omega
      rw [get1 q hlt, if_neg (by omega)]
      have := (h1.at hq).1
      simp only [Nat.zero_add] at this
      rw [cell?_cells hh] at this
      simp [Array.getD_eq_getD_getElem?, this]
    · rw [rdL_length] at hfit
      rw [get1 _ (by omega), if_pos (by rw [rdL_length]; omega)]
      have e5 : n * sz + q - n * sz = q := by omega
      rw [e5, List.getD_eq_getElem?_getD, rdL_at _ _ _ _ _ hq]; rfl
    · by_cases hlt : q < n * sz
      · left
        have := hI1 q hlt
        simpa using this
      · exact .inr ⟨rfl, by omega, hq⟩
  · simp [AV.keys] at hq; subst hq; exact live_aput_self
end Go.Ab
