/- Soundness of make and append. Soundness of append. Soundness of an append whose slice may be stored into. A call, seen from the caller: what the callee's contract says, under other keys. A call, seen from the caller: the callee's context and the way back. A call that hands back one object more than it was handed: a pointer to a new one. A string's iterator, sound. One operation of a region, sound. Regions that run in the order of the text. What an operation of a region depends on. What an operation of a region depends on: calls, guards. A region whose order is drawn: every order leaves what the order of the text leaves. A call that is handed objects in which no keys stand: it asks for those alone, and it turns those alone. -/
import Derived.Test.YtnldpiohcmgkdaaGreatDoorX1
import Derived.Laws.RangeString
import Derived.Orders
namespace Go.Ab
open Go Go.RowKit
variable {P : Program} {B : Base} {c : Cx} {s : St} {a : Act}
def Cx.owns (c : Cx) (w' : World) (I' : Nat → Nat → Prop) (k : Nat) (K : Option (Addr × Nat)) (n : Nat) : Cx :=
  { w := w', I := I', β := c.β, κ := fun q => if q = k then K else c.κ q, fr := fun q => if q = k then some n else c.fr q }
theorem owns_keeps {w' : World} {I' : Nat → Nat → Prop} {k n : Nat} {K : Option (Addr × Nat)} {objs : List (Nat × AO)}
    (hI : ∀ b o, c.I b o → I' b o) (hc : ∀ b o v, c.I b o → c.w.cell? ⟨b, o, none⟩ = some v → w'.cell? ⟨b, o, none⟩ = some v)
    (hk : ∀ n' v, live objs k → OwnRep c (.key k) n' v → OwnRep (c.owns w' I' k K n) (.key k) n' v)
    (hh : ∀ q o b, alook objs q = some o → q ≠ k → excl c q o = some b → w'.heap[b]? = c.w.heap[b]? ∧ ∀ off, I' b off → c.I b off) : KeepsBut c (c.owns w' I' k K n) objs k := by
  refine ⟨⟨hc, hI, fun _ _ => rfl, fun q hq n' v hv => ?_⟩, fun _ _ _ => rfl, fun q _ hne => by simp [Cx.owns, hne], fun q _ hne => by simp [Cx.owns, hne], hh⟩
  by_cases e : q = k
  · subst e; exact hk n' v hq hv
  · simpa [OwnRep, Cx.owns, e] using hv
theorem makeSliceA_sound (h : Rel B c s a) {d : Nat} {t : TypeId} {x y v : AV} {X Y : Value} {k : Nat} {ob : AO} (hx : Rep c x X) (hy : Rep c y Y) (he : makeSliceA P s d t x y = some (true, v, k, ob)) :
    ∃ z c', (Instr.makeSlice t X Y).run P c.w = .ok z c'.w ∧ Rel B c' (s.setObj k ob) a ∧ Sees B c' (s.setObj k ob) v z := by
  unfold makeSliceA at he
  split at he
  · rename_i e l m hu
    split at he
    · rename_i z inf hz hinf hd
      simp only [guardO] at he
      cases hb : (Nat.beq z.length inf.size && Nat.blt 0 inf.size) with
      | false => simp [hb] at he
      | true =>
        simp only [hb, cond_true] at he
        simp only [Bool.and_eq_true] at hb
        have b1 := beqT hb.1
        have b2 : 0 < inf.size := Nat.lt_of_succ_le (Nat.le_of_ble_eq_true hb.2)
        obtain ⟨i, zv, hi, hzv, hcz⟩ := zeroCells_inv hz
        obtain ⟨hzc, hzk⟩ := zero_CR (c := c) hcz
        have : i = inf := by rw [hinf] at hi; exact (Option.some.inj hi).symm
        subst this
        cases hx; cases hy
        have hmade : (madeCells zv.cells (m.toNat * i.size)).size = m.toNat * z.length := by rw [size_madeCells, b1]
        by_cases hlc : l = m
        · subst hlc
          simp only [decide_true, cond_true, Option.some.injEq, Prod.mk.injEq, Bool.and_eq_true, decide_eq_true_eq] at he
          obtain ⟨⟨h0, hr, hle⟩, rfl, rfl, rfl⟩ := he
          have hr := Nat.le_of_ble_eq_true hr
          have hrun := run_make (P := P) c.w t e i zv hu hinf hzv .i64 .i64 l l h0 (Int.le_refl _) (by
            have e1 : ((l.toNat * i.bytes : Nat) : Int) ≤ 140737488355328 := by omega
            have e2 : (l.toNat : Int) = l := Int.toNat_of_nonneg h0
            rw [Int.natCast_mul, e2] at e1
            rw [Int.mul_comm]; omega) (by omega)
          refine ⟨_, c.var d (madeCells zv.cells (l.toNat * i.size)) e, hrun, newVar_arr h hd hmade (fun j hj => ⟨rfl, hzk⟩) (fun j q u hj hu' => ⟨(hzc.2 q u hu').1, ?_⟩), ⟨?_, fun q hq => ?_, rfl⟩⟩
          · have hq : q < z.length := (List.getElem?_eq_some_iff.1 hu').1
            have hzs : zv.cells.size = z.length := hzc.1
            rw [madeCells_get _ _ _ (by rw [← b1]; exact row_off_lt hj hq) (by omega)]
            have e5 : (j * z.length + q) % zv.cells.size = q := by rw [hzs, Nat.add_comm, Nat.add_mul_mod_self_right, Nat.mod_eq_of_lt hq]
            rw [e5]; exact (hzc.2 q u hu').2
          · have := Rep.msl (c := c.var d (madeCells zv.cells (l.toNat * i.size)) e) d z.length 0 l.toNat l.toNat 0 (Nat.le_refl _) (by simp)
            simpa [Cx.var] using this
          · simp [AV.keys] at hq; subst hq; exact live_aput_self
        · simp only [hlc, decide_false, cond_false, Option.some.injEq, Prod.mk.injEq, Bool.and_eq_true, decide_eq_true_eq] at he
          obtain ⟨⟨hl0, h0, hr, hle⟩, rfl, rfl, rfl⟩ := he
          subst hl0
          have hr := Nat.le_of_ble_eq_true hr
          have hrun := run_make (P := P) c.w t e i zv hu hinf hzv .i64 .i64 0 m (Int.le_refl _) h0 (by
            have e1 : ((m.toNat * i.bytes : Nat) : Int) ≤ 140737488355328 := by omega
            have e2 : (m.toNat : Int) = m := Int.toNat_of_nonneg h0
            rw [Int.natCast_mul, e2] at e1
            rw [Int.mul_comm]; omega) (by omega)
          have hkb : KeepsBut c (c.owns (c.w.alloc (.cells (madeCells zv.cells (m.toNat * i.size)) e)) c.I d (some (⟨c.w.heap.size, 0, none⟩, m.toNat)) 0) s.objs d := by
            refine owns_keeps (fun _ _ hi => hi) (fun b o v' hi hv => ?_) (fun n' v' hl _ => absurd rfl (live_ne hd hl)) (fun q o b hq hne hb => ⟨heap_alloc_lt _ _ _ (excl_lt (h.objs.rep q o hq) hb), fun _ hi => hi⟩)
            rw [World.cell?_block (heap_alloc_lt c.w _ b (lt_of_cell hv))]; exact hv
          have hgr : Grow B c (c.owns (c.w.alloc (.cells (madeCells zv.cells (m.toNat * i.size)) e)) c.I d (some (⟨c.w.heap.size, 0, none⟩, m.toNat)) 0) := by
            refine ⟨rfl, rfl, rfl, by simp [Cx.owns], fun b hb _ => heap_alloc_lt _ _ _ (Nat.lt_of_lt_of_le hb h.frame.size), fun b o hb _ hi => hi, fun b o hi => ?_⟩
            obtain ⟨v', hv⟩ := h.good.there b o hi
            exact ⟨v', hkb.ext.cell b o v' hi hv⟩
          simp only [Int.toNat_zero] at hrun
          refine ⟨.slice (some ⟨c.w.heap.size, 0, none⟩) 0 m.toNat, c.owns (c.w.alloc (.cells (madeCells zv.cells (m.toNat * i.size)) e)) c.I d (some (⟨c.w.heap.size, 0, none⟩, m.toNat)) 0, hrun, h.obj hkb hgr ⟨by omega, by simp [Cx.owns], ?_⟩ ?_ (by simp [AO.keys]) ?_, ⟨?_, fun q hq => ?_, rfl⟩⟩
          · simp only [Cx.owns, if_true]
            refine ⟨(fun _ => trivial), Nat.zero_le _, fun _ => ⟨⟨_, e, heap_alloc_eq c.w _, hmade⟩, rfl, fun o _ hi => ?_⟩⟩
            obtain ⟨v', hv⟩ := h.good.there _ _ hi
            have := lt_of_cell hv
            simp at this
          · intro q o' b hq hne hb
            have := excl_lt (h.objs.rep q o' hq) hb
            simp only [excl, Cx.owns, if_true]
            intro e'
            split at e'
            · have h9 : c.w.heap.size = b := Option.some.inj e'
              omega
            · simp at e'
          · intro b hb
            simp only [excl, Cx.owns, if_true] at hb
            have := h.frame.size
            split at hb
            · have h9 : c.w.heap.size = b := Option.some.inj hb
              left; omega
            · simp at hb
          · refine .sl _ _ _ _ ⟨c.w.heap.size, 0, none⟩ m.toNat (fun _ _ => undef) (fun _ => rfl) (Nat.zero_le _) ⟨0, by simp [Cx.owns], Nat.le_refl _, fun _ => by simp [Cx.owns, slOf]⟩ (fun j hj => by omega) (fun j i u hj => by omega) (fun j i u hj => by omega)
          · simp [AV.keys] at hq; subst hq; exact live_aput_self
    · simp at he
  · simp at he
structure RowSees (c : Cx) (b o n sz : Nat) (get : Nat → List AV) : Prop where
  len : ∀ j, j < n → (get j).length = sz ∧ keysL (get j) = []
  cell : ∀ (j i : Nat) (u : AV), j < n → (get j)[i]? = some u → u.one = true ∧ ∃ y, c.w.cell? ⟨b, o + (j * sz + i), none⟩ = some y ∧ Rep c u y
def rd (w : World) (b o : Nat) (q : Nat) : Value := (w.cell? ⟨b, o + q, none⟩).getD undef
def rdL (w : World) (b o len : Nat) : List Value := (List.range len).map (rd w b o)
theorem split_idx {n sz q : Nat} (h : q < n * sz) : q / sz < n ∧ q % sz < sz ∧ q / sz * sz + q % sz = q := by
  have hsz : 0 < sz := by
    rcases Nat.eq_zero_or_pos sz with h0 | h0
    · rw [h0] at h; omega
    · exact h0
  exact ⟨Nat.div_lt_of_lt_mul (by rw [Nat.mul_comm]; exact h), Nat.mod_lt _ hsz, by rw [Nat.mul_comm]; exact Nat.div_add_mod q sz⟩
theorem RowSees.at {b o n sz : Nat} {get : Nat → List AV} (h : RowSees c b o n sz get) {q : Nat} (hq : q < n * sz) : c.w.cell? ⟨b, o + q, none⟩ = some (rd c.w b o q) ∧ (rd c.w b o q).oneCell' = true := by
  obtain ⟨h1, h2, h3⟩ := split_idx hq
  obtain ⟨g1, y, g2, g3⟩ := h.cell (q / sz) (q % sz) _ h1 (List.getElem?_eq_getElem (by rw [(h.len _ h1).1]; exact h2))
  rw [h3] at g2
  simp only [rd, g2, Option.getD_some]
  exact ⟨trivial, rep_oneCell g3 g1⟩
theorem RowSees.rep {b o n sz : Nat} {get : Nat → List AV} (h : RowSees c b o n sz get) {j i : Nat} {u : AV} (hj : j < n) (hu : (get j)[i]? = some u) : Rep c u (rd c.w b o (j * sz + i)) := by
  obtain ⟨_, y, g2, g3⟩ := h.cell j i u hj hu
  simpa [rd, g2] using g3
theorem rdL_get {w : World} {b o len j : Nat} {v : Value} (h : (rdL w b o len)[j]? = some v) : j < len ∧ v = rd w b o j := by
  simp only [rdL, List.getElem?_map] at h
  rcases Nat.lt_or_ge j len with hj | hj
  · simp [hj] at h; exact ⟨hj, h.symm⟩
  · simp [hj] at h
theorem rdL_length (w : World) (b o len : Nat) : (rdL w b o len).length = len := by simp [rdL]
theorem RowSees.cells {b o n sz : Nat} {get : Nat → List AV} (h : RowSees c b o n sz get) : (∀ j v, (rdL c.w b o (n * sz))[j]? = some v → c.w.cell? ((⟨b, o, none⟩ : Addr).add j) = some v) ∧ ∀ u ∈ rdL c.w b o (n * sz), u.oneCell' = true := by
  refine ⟨fun j v hv => ?_, fun u hu => ?_⟩
  · obtain ⟨hj, rfl⟩ := rdL_get hv
    rw [Addr.add_lit]; exact (h.at hj).1
  · simp only [rdL, List.mem_map, List.mem_range] at hu
    obtain ⟨q, hq, rfl⟩ := hu
    exact (h.at hq).2
theorem slice_row {x : AV} {o : Own} {sz n : Nat} {get : Nat → List AV} {X : Value} (hx : Rep c x X) (e : x = .sl o sz n get) :
    (X = .slice none 0 0 ∧ n = 0 ∧ OwnRep c o 0 X) ∨ ∃ b of sp cap, (0 < cap → sp = none) ∧ X = .slice (some ⟨b, of, sp⟩) n cap ∧ n ≤ cap ∧ OwnRep c o n X ∧ RowSees c b of n sz get ∧ ∀ q, q < n * sz → c.I b (of + q) := by
  subst e
  cases hx with
  | slNil _ _ _ ho => exact .inl ⟨rfl, rfl, ho⟩
  | sl _ _ _ _ ad cap vals h1 h2 h3 h4 h5 h6 =>
    obtain ⟨b, of, sp⟩ := ad
    simp only at h1
    refine .inr ⟨b, of, sp, cap, h1, rfl, h2, h3, ⟨h4, fun j i u hj hu => ⟨(h5 j i u hj hu).1, _, (h5 j i u hj hu).2.1, h6 j i u hj hu⟩⟩, fun q hq => ?_⟩
    obtain ⟨g1, g2, g3⟩ := split_idx hq
    have := (h5 (q / sz) (q % sz) _ g1 (List.getElem?_eq_getElem (by rw [(h4 _ g1).1]; exact g2))).2.2
    rw [g3] at this; exact this
theorem append_none {t ty e : TypeId} {i : TypeInfo} (ht : P.underlying t = some (.slice e)) (hi : P.info? e = some i) {base : Option Addr} {n cap : Nat} (hn : n ≤ cap) {Y : Value} (hY : Y = .slice none 0 0 ∨ ∃ ad c, Y = .slice (some ad) 0 c) (w : World) :
    (Builtin.append_ #[t, t] ty #[.slice base n cap, Y]).run P w = .ok (.slice base n cap) w := by
  rcases hY with rfl | ⟨ad, cc, rfl⟩ <;> cases base <;> simp [Builtin.append_, run_underlying ht, sizeOf, typeInfo, hi, Builtin.lenOf, hn, Builtin.firstCells, loadCells, loadCellsFrom, storeCells]
theorem bltT {a b : Nat} (h : a < b) : Nat.blt a b = true := Nat.ble_eq_true_of_le h
theorem ltB {a b : Nat} (h : Nat.blt a b = true) : a < b := Nat.le_of_ble_eq_true h
theorem appGet_lt {n m : Nat} {get get2 : Nat → List AV} {j : Nat} (h : j < n) : appGet n m get get2 j = get j := by
  have : Nat.blt j n = true := bltT h
  simp [appGet, this]
theorem appGet_ge {n m : Nat} {get get2 : Nat → List AV} {j : Nat} (h1 : n ≤ j) (h2 : j < n + m) : appGet n m get get2 j = get2 (j - n) := by
  have e1 : Nat.blt j n = false := by
    cases hb : Nat.blt j n with
    | false => rfl
    | true => have := ltB hb
              omega
  have e2 : Nat.blt j (n + m) = true := bltT h2
  simp only [appGet, e1, e2, cond_false, cond_true]
theorem append_row {c' : Cx} {b1 o1 b2 o2 n m sz g : Nat} {get get2 : Nat → List AV} {vs : Array Value} {t' : TypeId} {ks : Nat → Prop} (h1 : RowSees c b1 o1 n sz get) (h2 : RowSees c b2 o2 m sz get2)
    (he : Ext c c' ks) (hg : c'.w.heap[g]? = some (.cells vs t' (0, 0))) (hv1 : ∀ q, q < n * sz → vs[q]? = some (rd c.w b1 o1 q)) (hv2 : ∀ q, q < m * sz → vs[n * sz + q]? = some (rd c.w b2 o2 q))
    (hI : ∀ q, q < (n + m) * sz → c'.I g q) {K : Nat} {cap : Nat} (hcap : n + m ≤ cap) (ho : OwnRep c' (.key K) (n + m) (.slice (some ⟨g, 0, none⟩) (n + m) cap)) :
    Rep c' (.sl (.key K) sz (n + m) (appGet n m get get2)) (.slice (some ⟨g, 0, none⟩) (n + m) cap) := by
  have hlen : ∀ j, j < n + m → (appGet n m get get2 j).length = sz ∧ keysL (appGet n m get get2 j) = [] := by
    intro j hj
    by_cases hjn : j < n
    · rw [appGet_lt hjn]; exact h1.len j hjn
    · rw [appGet_ge (by omega) hj]; exact h2.len _ (by omega)
  have key : ∀ (j i : Nat) (u : AV), j < n + m → (appGet n m get get2 j)[i]? = some u → u.one = true ∧ ∃ y, vs[j * sz + i]? = some y ∧ Rep c u y := by
    intro j i u hj hu
    have hi : i < sz := by rw [← (hlen j hj).1]; exact (List.getElem?_eq_some_iff.1 hu).1
    by_cases hjn : j < n
    · rw [appGet_lt hjn] at hu
      exact ⟨(h1.cell j i u hjn hu).1, _, hv1 _ (row_off_lt hjn hi), h1.rep hjn hu⟩
    · rw [appGet_ge (by omega) hj] at hu
      have hj' : j - n < m := by omega
      refine ⟨(h2.cell _ i u hj' hu).1, _, ?_, h2.rep hj' hu⟩
      have e : j * sz + i = n * sz + ((j - n) * sz + i) := by
        have : j = n + (j - n) := by omega
        conv => lhs; rw [this, Nat.add_mul]
        omega
      rw [e]; exact hv2 _ (row_off_lt hj' hi)
  refine .sl _ _ _ _ ⟨g, 0, none⟩ cap (fun j i => vs.getD (j * sz + i) undef) (fun _ => rfl) hcap ho hlen (fun j i u hj hu => ?_) (fun j i u hj hu => ?_)
  · have hi : i < sz := by rw [← (hlen j hj).1]; exact (List.getElem?_eq_some_iff.1 hu).1
    obtain ⟨k1, y, k2, k3⟩ := key j i u hj hu
    refine ⟨k1, ?_, by simpa using hI _ (row_off_lt hj hi)⟩
    simp only [Nat.zero_add]
    rw [cell?_cells hg, k2]
    simp [Array.getD_eq_getD_getElem?, k2]
  · obtain ⟨k1, y, k2, k3⟩ := key j i u hj hu
    have : vs.getD (j * sz + i) undef = y := by simp [Array.getD_eq_getD_getElem?, k2]
    rw [this]
    refine k3.ext he fun k hk => ?_
    rw [keys_nil_of (hlen j hj).2 hu] at hk; simp at hk
theorem rdL_at (w : World) (b o len q : Nat) (h : q < len) : (rdL w b o len)[q]? = some (rd w b o q) := by simp [rdL, h]
structure Owner (c : Cx) (s : St) (o : Own) (sz n K : Nat) (X : Value) : Prop where
  cases : (o = .fit ∧ s.obj K = none) ∨ (o = .key K ∧ s.obj K = some (.own sz n))
  own : OwnRep c o n X
theorem append_new (h : Rel B c s a) {o : Own} {sz n m K : Nat} {X : Value} (hO : Owner c s o sz n K X) (hm : 0 < m) (hsz : 0 < sz) {vs : Array Value} {e : TypeId} {cap : Nat} (hcap : n + m ≤ cap) (hvs : vs.size = cap * sz)
    {b1 o1 b2 o2 : Nat} {get get2 : Nat → List AV} (h1 : RowSees c b1 o1 n sz get) (h2 : RowSees c b2 o2 m sz get2)
    (hv1 : ∀ q, q < n * sz → vs[q]? = some (rd c.w b1 o1 q)) (hv2 : ∀ q, q < m * sz → vs[n * sz + q]? = some (rd c.w b2 o2 q)) :
    ∃ c', c'.w = c.w.drew.alloc (.cells vs e) ∧ Rel B c' (s.setObj K (.own sz (n + m))) a ∧
      Sees B c' (s.setObj K (.own sz (n + m))) (.sl (.key K) sz (n + m) (appGet n m get get2)) (.slice (some ⟨c.w.heap.size, 0, none⟩) (n + m) cap) := by
  let c' := c.owns (c.w.drew.alloc (.cells vs e)) (fun b q => c.I b q ∨ (b = c.w.heap.size ∧ q < (n + m) * sz)) K (some (⟨c.w.heap.size, 0, none⟩, cap)) (n + m)
  have hkb : KeepsBut c c' s.objs K := by
    refine owns_keeps (fun _ _ hi => .inl hi) (fun b q v hi hv => ?_) (fun n' v hl hv => ?_) (fun q o' b hq hne hb => ⟨heap_alloc_lt c.w.drew _ _ (excl_lt (h.objs.rep q o' hq) hb), fun off hi => ?_⟩)
    · rw [World.cell?_block (heap_alloc_lt c.w.drew _ b (lt_of_cell hv))]; exact hv
    · obtain ⟨m', f1, f2, _⟩ := hv
      rcases hO.cases with ⟨_, hk⟩ | ⟨_, hk⟩
      · exact absurd rfl (live_ne hk hl)
      · have := (h.objs.rep K _ hk).2.1
        rw [this] at f1
        have := Option.some.inj f1
        exact ⟨n + m, by simp [Cx.owns], by omega, fun e' => by omega⟩
    · rcases hi with hi | ⟨rfl, _⟩
      · exact hi
      · have := excl_lt (h.objs.rep q o' hq) hb; omega
  have hgr : Grow B c c' := by
    refine ⟨rfl, rfl, rfl, by simp [c', Cx.owns], fun b hb _ => heap_alloc_lt c.w.drew _ _ (Nat.lt_of_lt_of_le hb h.frame.size), fun b q hb _ hi => ?_, fun b q hi => ?_⟩
    · rcases hi with hi | ⟨rfl, _⟩
      · exact hi
      · have := h.frame.size; omega
    · rcases hi with hi | ⟨rfl, hq⟩
      · obtain ⟨v', hv⟩ := h.good.there b q hi
        exact ⟨v', hkb.ext.cell b q v' hi hv⟩
      · have hlt : q < vs.size := by rw [hvs]; exact Nat.lt_of_lt_of_le hq (Nat.mul_le_mul_right _ hcap)
        exact ⟨vs[q], by show (c.w.drew.alloc _).cell? ⟨c.w.drew.heap.size, q, none⟩ = _; rw [cell?_cells (heap_alloc_eq c.w.drew _)]; simp⟩
  have hown : OwnRep c' (.key K) (n + m) (.slice (some ⟨c.w.heap.size, 0, none⟩) (n + m) cap) := ⟨n + m, by simp [c', Cx.owns], Nat.le_refl _, fun _ => by simp [c', Cx.owns, slOf]⟩
  refine ⟨c', rfl, h.obj hkb hgr ⟨hsz, by simp [c', Cx.owns], ?_⟩ ?_ (by simp [AO.keys]) ?_, ⟨?_, fun q hq => ?_, rfl⟩⟩
  · simp only [c', Cx.owns, if_true]
    refine ⟨(fun _ => trivial), hcap, fun _ => ⟨⟨vs, e, heap_alloc_eq c.w.drew _, hvs⟩, rfl, fun q hq hi => ?_⟩⟩
    rcases hi with hi | ⟨_, hq'⟩
    · obtain ⟨v', hv⟩ := h.good.there _ _ hi
      have := lt_of_cell hv
      simp at this
    · omega
  · intro q o' b hq hne hb
    have := excl_lt (h.objs.rep q o' hq) hb
    simp only [excl, c', Cx.owns, if_true]
    intro e'
    split at e'
    · have h9 : c.w.heap.size = b := Option.some.inj e'
      omega
    · simp at e'
  · intro b hb
    simp only [excl, c', Cx.owns, if_true] at hb
    have := h.frame.size
    split at hb
    · have h9 : c.w.heap.size = b := Option.some.inj hb
      left; omega
    · simp at hb
  · exact append_row h1 h2 hkb.ext (heap_alloc_eq c.w.drew _) hv1 hv2 (fun q hq => .inr ⟨rfl, hq⟩) hcap hown
  · simp [AV.keys] at hq; subst hq; exact live_aput_self
theorem append_in (h : Rel B c s a) {sz n m K : Nat} (hk : s.obj K = some (.own sz n)) (hm : 0 < m) {g cap : Nat} (hκ : c.κ K = some (⟨g, 0, none⟩, cap)) (hcap : n + m ≤ cap) {cur : Array Value} {e : TypeId} (hh : c.w.heap[g]? = some (.cells cur e (0, 0)))
    (hcs : cur.size = cap * sz) (hfree : ∀ q, n * sz ≤ q → ¬ c.I g q) {b2 o2 : Nat} {get get2 : Nat → List AV} (h1 : RowSees c g 0 n sz get) (hI1 : ∀ q, q < n * sz → c.I g (0 + q)) (h2 : RowSees c b2 o2 m sz get2) :
    ∃ c', c'.w = c.w.setRow g (cur.toList.take (n * sz) ++ rdL c.w b2 o2 (m * sz) ++ cur.toList.drop (n * sz + (rdL c.w b2 o2 (m * sz)).length)).toArray ∧ Rel B c' (s.setObj K (.own sz (n + m))) a ∧
      Sees B c' (s.setObj K (.own sz (n + m))) (.sl (.key K) sz (n + m) (appGet n m get get2)) (.slice (some ⟨g, 0, none⟩) (n + m) cap) := by
  have hrepK := h.objs.rep K _ hk
  have hsz : 0 < sz := hrepK.1
  have hexcl : excl c K (.own sz n) = some g := by simp [excl, hκ]; omega
  have hfit : n * sz + (rdL c.w b2 o2 (m * sz)).length ≤ cur.size := by rw [rdL_length, hcs, ← Nat.add_mul]; exact Nat.mul_le_mul_right _ hcap
  obtain ⟨g1, g2⟩ := getD_splice cur (n * sz) (rdL c.w b2 o2 (m * sz)) hfit
  generalize hvs : (cur.toList.take (n * sz) ++ rdL c.w b2 o2 (m * sz) ++ cur.toList.drop (n * sz + (rdL c.w b2 o2 (m * sz)).length)).toArray = vs at g1 g2
  have hW : Wrote c g (c.w.setRow g vs) := wrote_setRow rfl
  have hg' : (c.w.setRow g vs).heap[g]? = some (.cells vs e (0, 0)) := setRow_heap _ _ _ _ _ _ hh
  have get1 : ∀ q, q < cur.size → vs[q]? = some (if n * sz ≤ q ∧ q < n * sz + (rdL c.w b2 o2 (m * sz)).length then (rdL c.w b2 o2 (m * sz)).getD (q - n * sz) undef else cur.getD q undef) := by
    intro q hq
    have hq' : q < vs.size := by omega
    have := g2 q hq
    rw [← this]
    simp [Array.getD_eq_getD_getElem?, hq']
  let c' := c.owns (c.w.setRow g vs) (fun b q => c.I b q ∨ (b = g ∧ n * sz ≤ q ∧ q < (n + m) * sz)) K (some (⟨g, 0, none⟩, cap)) (n + m)
  have hkb : KeepsBut c c' s.objs K := by
    refine owns_keeps (fun _ _ hi => .inl hi) (fun b q v hi hv => ?_) (fun n' v hl hv => ?_) (fun q o' b hq hne hb => ?_)
    · by_cases e' : b = g
      · subst e'
        have hq : q < n * sz := by
          rcases Nat.lt_or_ge q (n * sz) with h' | h'
          · exact h'
          · exact absurd hi (hfree q h')
        rw [cell?_cells hg', get1 q (by omega), if_neg (by omega)]
        rw [cell?_cells hh] at hv
        simp [Array.getD_eq_getD_getElem?, hv]
      · rw [World.cell?_block (hW.other b e')]; exact hv
    · obtain ⟨m', f1, f2, _⟩ := hv
      rw [hrepK.2.1] at f1
      have := Option.some.inj f1
      exact ⟨n + m, by simp [Cx.owns], by omega, fun e' => by omega⟩
    · have hne' : b ≠ g := by
        rintro rfl
        exact h.objs.apart q o' K _ b hq hk hne hb hexcl
      refine ⟨hW.other b hne', fun off hi => ?_⟩
      rcases hi with hi | ⟨e', _⟩
      · exact hi
      · exact absurd e' hne'
  have hgr : Grow B c c' := by
    refine ⟨rfl, rfl, rfl, by simp [c', Cx.owns], fun b hb hd => hW.other b ?_, fun b q hb hd hi => ?_, fun b q hi => ?_⟩
    · rintro rfl
      rcases h.mine K _ b hk hexcl with h' | h'
      · omega
      · exact hd h'
    · rcases hi with hi | ⟨rfl, _⟩
      · exact hi
      · rcases h.mine K _ b hk hexcl with h' | h'
        · omega
        · exact absurd h' hd
    · rcases hi with hi | ⟨rfl, _, hq⟩
      · obtain ⟨v', hv⟩ := h.good.there b q hi
        exact ⟨v', hkb.ext.cell b q v' hi hv⟩
      · have hlt : q < vs.size := by rw [g1, hcs]; exact Nat.lt_of_lt_of_le hq (Nat.mul_le_mul_right _ hcap)
        exact ⟨vs[q], by show (c.w.setRow b vs).cell? _ = _; rw [cell?_cells hg']; simp⟩
  have hown : OwnRep c' (.key K) (n + m) (.slice (some ⟨g, 0, none⟩) (n + m) cap) := ⟨n + m, by simp [c', Cx.owns], Nat.le_refl _, fun _ => by simp [c', Cx.owns, slOf]⟩
  have hexcl' : ∀ b, excl c' K (.own sz (n + m)) = some b → b = g := by
    intro b hb
    simp only [excl, c', Cx.owns, if_true] at hb
    split at hb
    · exact (Option.some.inj hb).symm
    · simp at hb
  refine ⟨c', by simp [c', Cx.owns], h.obj hkb hgr ⟨hsz, by simp [c', Cx.owns], ?_⟩ ?_ (by simp [AO.keys]) ?_, ⟨?_, fun q hq => ?_, rfl⟩⟩
  · simp only [c', Cx.owns, if_true]
    refine ⟨(fun _ => trivial), hcap, fun _ => ⟨⟨vs, e, hg', by rw [g1, hcs]⟩, rfl, fun q hq hi => ?_⟩⟩
    rcases hi with hi | ⟨_, _, hq'⟩
    · exact hfree q (by rw [Nat.add_mul] at hq; omega) hi
    · omega
  · intro q o' b hq hne hb e'
    have := hexcl' b e'
    subst this
    exact h.objs.apart q o' K _ b hq hk hne hb hexcl
  · intro b hb
    rw [hexcl' b hb]; exact h.mine K _ g hk hexcl
  · refine append_row h1 h2 hkb.ext hg' (fun q hq => ?_) (fun q hq => ?_) (fun q hq => ?_) hcap hown
    · have hlt : q < cur.size := by omega
      rw [get1 q hlt, if_neg (by omega)]
      have := (h1.at hq).1
      simp only [Nat.zero_add] at this
      rw [cell?_cells hh] at this
      simp [Array.getD_eq_getD_getElem?, this]
    · rw [rdL_length] at hfit
      rw [get1 _ (by omega), if_pos (by rw [rdL_length]; omega)]
      have e5 : n * sz + q - n * sz = q := by omega
      rw [e5, List.getD_eq_getElem?_getD, rdL_at _ _ _ _ _ hq]; rfl
    · by_cases hlt : q < n * sz
      · left
        have := hI1 q hlt
        simpa using this
      · exact .inr ⟨rfl, by omega, hq⟩
  · simp [AV.keys] at hq; subst hq; exact live_aput_self
end Go.Ab

namespace Go.Ab
open Go Go.RowKit
variable {P : Program} {B : Base} {c : Cx} {s : St} {a : Act}
theorem Rep.reown {o o' : Own} {sz sz' n : Nat} {get get' : Nat → List AV} {X : Value} (h : Rep c (.sl o sz n get) X) (hs : n = 0 ∨ sz = sz') (hg : ∀ j, j < n → get' j = get j) (ho : OwnRep c o' n X) : Rep c (.sl o' sz' n get') X := by
  cases h with
  | slNil => exact .slNil _ _ _ ho
  | sl _ _ _ _ ad cap vals h1 h2 h3 h4 h5 h6 =>
    rcases hs with rfl | rfl
    · exact .sl _ _ _ _ ad cap vals h1 h2 ho (fun j hj => by omega) (fun j i u hj => by omega) (fun j i u hj => by omega)
    · exact .sl _ _ _ _ ad cap vals h1 h2 ho (fun j hj => by rw [hg j hj]; exact h4 j hj) (fun j i u hj hu => h5 j i u hj (by rwa [hg j hj] at hu)) (fun j i u hj hu => h6 j i u hj (by rwa [hg j hj] at hu))
theorem append_zero' (h : Rel B c s a) {o : Own} {sz sz0 n K : Nat} {get get' : Nat → List AV} {X : Value} (hsz : 0 < sz) (hx : Rep c (.sl o sz0 n get) X) (hO : Owner c s o sz n K X) (hs : n = 0 ∨ sz0 = sz) (hg : ∀ j, j < n → get' j = get j) :
    ∃ c', c'.β = c.β ∧ c'.w = c.w ∧ Rel B c' (s.setObj K (.own sz n)) a ∧ Sees B c' (s.setObj K (.own sz n)) (.sl (.key K) sz n get') X := by
  obtain ⟨κ', e1, e2⟩ : ∃ κ', X = slOf κ' n ∧ (match κ' with
      | none => n = 0
      | some (ad, cap) => (0 < cap → ad.spot = none) ∧ n ≤ cap ∧ (n < cap → RoomAt c ad sz n cap ∧ (s.obj K = some (.own sz n) ∧ c.κ K = some (ad, cap)))) := by
    rcases hO.cases with ⟨rfl, _⟩ | ⟨rfl, hk⟩
    · have ho := hO.own
      cases hx with
      | slNil => exact ⟨none, rfl, rfl⟩
      | sl _ _ _ _ ad cap vals h1 h2 h3 h4 h5 h6 =>
        have : cap = n := ho
        subst this
        exact ⟨some (ad, cap), rfl, h1, Nat.le_refl _, fun hlt => by omega⟩
    · obtain ⟨m', f1, f2, f3⟩ := hO.own
      have hr := h.objs.rep K _ hk
      rw [hr.2.1] at f1
      have := Option.some.inj f1
      subst this
      refine ⟨c.κ K, f3 rfl, ?_⟩
      have := hr.2.2
      cases hκ : c.κ K with
      | none => simpa [hκ] using this
      | some p =>
        obtain ⟨ad, cap⟩ := p
        simp only [hκ] at this
        exact ⟨this.1, this.2.1, fun hlt => ⟨this.2.2 hlt, hk, rfl⟩⟩
  let c' := c.owns c.w c.I K κ' n
  have hkb : KeepsBut c c' s.objs K := by
    refine owns_keeps (fun _ _ hi => hi) (fun _ _ _ _ hv => hv) (fun n' v hl hv => ?_) (fun _ _ _ _ _ _ => ⟨rfl, fun _ hi => hi⟩)
    rcases hO.cases with ⟨_, hk⟩ | ⟨rfl, hk⟩
    · exact absurd rfl (live_ne hk hl)
    · obtain ⟨m', f1, f2, f3⟩ := hv
      have hr := h.objs.rep K _ hk
      rw [hr.2.1] at f1
      have := Option.some.inj f1
      subst this
      refine ⟨n, by simp [Cx.owns], f2, fun e => ?_⟩
      subst e
      obtain ⟨m'', g1, g2, g3⟩ := hO.own
      rw [hr.2.1] at g1
      have := Option.some.inj g1
      rw [f3 rfl, ← g3 this, e1]
      simp [Cx.owns]
  have hgr : Grow B c c' := ⟨rfl, rfl, rfl, Nat.le_refl _, fun _ _ _ => rfl, fun _ _ _ _ hi => hi, h.good.there⟩
  have hexcl : ∀ b, excl c' K (.own sz n) = some b → s.obj K = some (.own sz n) ∧ excl c K (.own sz n) = some b := by
    intro b hb
    simp only [excl, c', Cx.owns, if_true] at hb
    cases κ' with
    | none => simp at hb
    | some p =>
      obtain ⟨ad, cap⟩ := p
      simp only at hb e2
      split at hb
      · rename_i hlt
        obtain ⟨_, hk, hκ⟩ := e2.2.2 hlt
        exact ⟨hk, by simp [excl, hκ, hlt]; exact Option.some.inj hb⟩
      · simp at hb
  refine ⟨c', rfl, rfl, h.obj hkb hgr ⟨hsz, by simp [c', Cx.owns], ?_⟩ (fun q o' b hq hne hb e => ?_) (by simp [AO.keys]) (fun b hb => ?_), ⟨?_, fun q hq => ?_, rfl⟩⟩
  · simp only [c', Cx.owns, if_true]
    cases κ' with
    | none => exact e2
    | some p =>
      obtain ⟨ad, cap⟩ := p
      refine ⟨e2.1, e2.2.1, fun hlt => ?_⟩
      obtain ⟨⟨r1, r2, r3⟩, _⟩ := e2.2.2 hlt
      exact ⟨r1, r2, r3⟩
  · obtain ⟨hk, hb'⟩ := hexcl b e
    exact h.objs.apart q o' K _ b hq hk hne hb hb'
  · obtain ⟨hk, hb'⟩ := hexcl b hb
    exact h.mine K _ b hk hb'
  · have hx' : Rep c' (.sl .no sz0 n get) X := by
      have hx0 : Rep c (.sl .no sz0 n get) X := hx.reown (.inr rfl) (fun _ _ => rfl) trivial
      exact hx0.ext (ks := live s.objs) hkb.ext (by simp [AV.keys])
    exact hx'.reown hs hg ⟨n, by simp [c', Cx.owns], Nat.le_refl _, fun _ => by rw [e1]; simp [c', Cx.owns]⟩
  · simp [AV.keys] at hq; subst hq; exact live_aput_self
theorem append_zero (h : Rel B c s a) {o : Own} {sz sz0 n K : Nat} {get get' : Nat → List AV} {X : Value} (hsz : 0 < sz) (hx : Rep c (.sl o sz0 n get) X) (hO : Owner c s o sz n K X) (hs : n = 0 ∨ sz0 = sz) (hg : ∀ j, j < n → get' j = get j) :
    ∃ c', c'.w = c.w ∧ Rel B c' (s.setObj K (.own sz n)) a ∧ Sees B c' (s.setObj K (.own sz n)) (.sl (.key K) sz n get') X := by
  obtain ⟨c', _, h'⟩ := append_zero' (get' := get') h hsz hx hO hs hg
  exact ⟨c', h'⟩
theorem append_room_run {t ty e : TypeId} {i : TypeInfo} {sz : Nat} (ht : P.underlying t = some (.slice e)) (hi : P.info? e = some i) (hs : i.size = sz) {w : World}
    {g sLen sCap : Nat} {cur : Array Value} {e' : TypeId} (hg : w.heap[g]? = some (.cells cur e' (0, 0)))
    {ad : Addr} {m cc : Nat} {news : List Value} (hl : news.length = m * sz) (hnews : ∀ j u, news[j]? = some u → w.cell? (ad.add j) = some u) (h1 : ∀ u ∈ news, u.oneCell' = true)
    (hroom : sLen + m ≤ sCap) (hfit : sLen * sz + news.length ≤ cur.size) :
    (Builtin.append_ #[t, t] ty #[.slice (some ⟨g, 0, none⟩) sLen sCap, .slice (some ad) m cc]).run P w =
      .ok (.slice (some ⟨g, 0, none⟩) (sLen + m) sCap) (w.setRow g (cur.toList.take (sLen * sz) ++ news ++ cur.toList.drop (sLen * sz + news.length)).toArray) := by
  subst hs
  have hf := run_firstCells_some (P := P) w i.size m ad m cc news hl hnews
  have hst := run_storeCells_at P g (sLen * i.size) e' news 0 cur w hg (by simpa using hfit) h1
  simp only [Nat.add_zero] at hst
  simp [Builtin.append_, run_underlying ht, sizeOf, typeInfo, hi, Builtin.lenOf, hroom, hf, Addr.add_lit, hst]
theorem appendA_core (h : Rel B c s a) {t ty e : TypeId} {o : Own} {sz sz0 n sz2 m K : Nat} {get get2 : Nat → List AV} {X Y : Value} {y : AV} {i : TypeInfo} {z : List AV} (hu : P.underlying t = some (.slice e))
    (hi : P.info? e = some i) (hsz : sizeOf? P e = some sz) (hz : zeroCells P e = some z) (hzl : z.length = sz) (h0 : 0 < sz) (hb : 0 < i.bytes) (hx : Rep c (.sl o sz0 n get) X) (hy : Rep c y Y) (hsrc : srcA s y = some (sz2, m, get2))
    (hO : Owner c s o sz n K X) (hs1 : n = 0 ∨ sz0 = sz) (hs2 : m = 0 ∨ sz2 = sz) (hroom : (n + m) * i.bytes ≤ 140737488355328) :
    ∃ V c', (Builtin.append_ #[t, t] ty #[X, Y]).run P c.w = .ok V c'.w ∧ Rel B c' (s.setObj K (.own sz (n + m))) a ∧ Sees B c' (s.setObj K (.own sz (n + m))) (.sl (.key K) sz (n + m) (appGet n m get get2)) V := by
  obtain ⟨i', zv, hi', hzv, hcz⟩ := zeroCells_inv hz
  have : i' = i := by rw [hi] at hi'; exact (Option.some.inj hi').symm
  subst this
  have hisz : i'.size = sz := by unfold sizeOf? at hsz; simp [hi] at hsz; exact hsz
  obtain ⟨hzc, _⟩ := zero_CR (c := c) hcz
  have hzs : zv.cells.size = sz := by rw [hzc.1, hzl]
  have hnm : n + m ≤ 140737488355328 := Nat.le_trans (Nat.le_mul_of_pos_right _ hb) hroom
  have hmem : n ≤ n + m := Nat.le_add_right _ _
  have hx' : Rep c (.sl o sz n get) X := hx.reown hs1 (fun _ _ => rfl) (by
    cases hx with
    | slNil _ _ _ ho => exact ho
    | sl _ _ _ _ ad cap vals h1 h2 h3 h4 h5 h6 => exact h3)
  by_cases hm : m = 0
  · subst hm
    have hY : Y = .slice none 0 0 ∨ ∃ ad cc, Y = .slice (some ad) 0 cc := by
      rcases srcA_sound h hy hsrc with ⟨rfl, _⟩ | ⟨b, of, sp, cap, _, rfl, _⟩
      · exact .inl rfl
      · exact .inr ⟨_, _, rfl⟩
    obtain ⟨c', e1, e2, e3⟩ := append_zero h (get' := appGet n 0 get get2) h0 hx hO hs1 (fun j hj => appGet_lt hj)
    refine ⟨X, c', ?_, e2, e3⟩
    rw [e1]
    rcases slice_row hx rfl with ⟨rfl, rfl, _⟩ | ⟨b, of, sp, cap, _, rfl, hle, _⟩
    · exact append_none hu hi (Nat.le_refl _) hY c.w
    · exact append_none hu hi hle hY c.w
  · have hm0 : 0 < m := Nat.pos_of_ne_zero hm
    have hs2 : sz2 = sz := hs2.resolve_left hm
    subst hs2
    rcases srcA_sound h hy hsrc with ⟨_, e⟩ | ⟨b2, o2, sp2, cap2, hsp2, rfl, _, hlen2, hcell2⟩
    · omega
    obtain rfl := hsp2 hm0
    have h2 : RowSees c b2 o2 m sz2 get2 := ⟨hlen2, hcell2⟩
    have hc2 := h2.cells
    have hzsz : ∀ k, (Builtin.zeroCells zv.cells k).size = k * sz2 := fun k => by rw [size_zeroCells, hzs]
    rcases slice_row hx' rfl with ⟨rfl, rfl, _⟩ | ⟨b1, o1, sp1, cap, hsp1, rfl, hle, _, h1, hI1⟩
    · have hrun := run_append_nil (P := P) (w := c.w) t ty e i' zv hu hi hzv ⟨b2, o2, none⟩ m cap2 (rdL c.w b2 o2 (m * sz2)) (by rw [rdL_length, hisz]) hc2.1 hm0 (by omega) (by simp only [Nat.zero_add] at hroom; omega)
      have hge := grownCap_ge c.w m 0 e
      generalize grownCap c.w m 0 e = nc at hrun hge
      obtain ⟨c', e1, e2, e3⟩ := append_new h (vs := (rdL c.w b2 o2 (m * sz2)).toArray ++ Builtin.zeroCells zv.cells (nc - m)) (e := e) (cap := nc) hO hm0 h0 (by omega) (by
        simp only [Array.size_append, List.size_toArray, rdL_length, hzsz, ← Nat.add_mul]; congr 1; omega)
        (b1 := 0) (o1 := 0) (get := get) ⟨fun j hj => by omega, fun j i u hj => by omega⟩ h2 (fun q hq => by omega) (fun q hq => by
          simp only [Nat.zero_mul, Nat.zero_add, Array.getElem?_append]
          rw [if_pos (by simpa [rdL_length] using hq)]
          simpa using rdL_at _ _ _ _ _ hq)
      simp only [Nat.zero_add] at e2 e3 ⊢
      exact ⟨_, c', by rw [e1]; exact hrun, e2, e3⟩
    · by_cases hroom' : n + m ≤ cap
      · -- into the room
        obtain rfl := hsp1 (by omega)
        rcases hO.cases with ⟨rfl, _⟩ | ⟨rfl, hk⟩
        · have : cap = n := hO.own
          omega
        · obtain ⟨m', f1, f2, f3⟩ := hO.own
          have hr := h.objs.rep K _ hk
          rw [hr.2.1] at f1
          have := Option.some.inj f1
          subst this
          have hX := f3 rfl
          have hr2 := hr.2.2
          cases hκ : c.κ K with
          | none => rw [hκ] at hX; simp [slOf] at hX
          | some p =>
            obtain ⟨ad, cap'⟩ := p
            rw [hκ] at hX
            simp [slOf] at hX
            obtain ⟨rfl, rfl⟩ := hX
            simp only [hκ] at hr2
            obtain ⟨⟨cur, e', hh, hcs⟩, hoff, hfree⟩ := hr2.2.2 (by omega)
            simp only at hoff hh hfree
            subst hoff
            have hrun := append_room_run (P := P) (ty := ty) (w := c.w) (ad := ⟨b2, o2, none⟩) (m := m) (cc := cap2) (sLen := n) (sCap := cap) hu hi hisz hh (rdL_length c.w b2 o2 (m * sz2)) hc2.1 hc2.2 hroom' (by rw [rdL_length, hcs, ← Nat.add_mul]; exact Nat.mul_le_mul_right _ hroom')
            obtain ⟨c', e1, e2, e3⟩ := append_in h hk hm0 hκ hroom' hh hcs hfree h1 hI1 h2
            exact ⟨_, c', by rw [e1]; exact hrun, e2, e3⟩
      · have hload : ∀ (j : Nat) (v : Value), (rdL c.w b1 o1 (n * sz2))[j]? = some v → c.w.cell? ((⟨b1, o1, sp1⟩ : Addr).add j) = some v := by
          by_cases hc0 : 0 < cap
          · obtain rfl := hsp1 hc0
            exact h1.cells.1
          · obtain rfl : n = 0 := by omega
            intro j v hj
            rw [List.getElem?_eq_none (by rw [rdL_length]; omega)] at hj
            cases hj
        have hrun := run_append_grow (P := P) (w := c.w) t ty e i' zv hu hi hzv ⟨b1, o1, sp1⟩ n cap (rdL c.w b1 o1 (n * sz2)) (by rw [rdL_length, hisz]) hload ⟨b2, o2, none⟩ m cap2 (rdL c.w b2 o2 (m * sz2)) (by rw [rdL_length, hisz]) hc2.1 (by omega) (by omega) (growslice_fits (by omega) hroom)
        have hge := grownCap_ge c.w (n + m) cap e
        generalize grownCap c.w (n + m) cap e = nc at hrun hge
        obtain ⟨c', e1, e2, e3⟩ := append_new h (vs := (rdL c.w b1 o1 (n * sz2)).toArray ++ (rdL c.w b2 o2 (m * sz2)).toArray ++ Builtin.zeroCells zv.cells (nc - (n + m))) (e := e) (cap := nc) hO hm0 h0 hge (by
          simp only [Array.size_append, List.size_toArray, rdL_length, hzsz, ← Nat.add_mul]; congr 1; omega)
          h1 h2 (fun q hq => by
            rw [Array.append_assoc, Array.getElem?_append, if_pos (by simpa [rdL_length] using hq)]
            simpa using rdL_at _ _ _ _ _ hq) (fun q hq => by
            rw [Array.getElem?_append, if_pos (by simp [rdL_length]; omega), Array.getElem?_append, if_neg (by simp [rdL_length])]
            simp only [List.size_toArray, rdL_length]
            have e5 : n * sz2 + q - n * sz2 = q := by omega
            rw [e5]
            simpa using rdL_at _ _ _ _ _ hq)
        exact ⟨_, c', by rw [e1]; exact hrun, e2, e3⟩
theorem appendA_sound (h : Rel B c s a) {d : Nat} {t ty : TypeId} {x y v : AV} {X Y : Value} {k : Nat} {ob : AO} (hx : Rep c x X) (hy : Rep c y Y) (he : appendA P s d t x y = some (true, v, k, ob)) :
    ∃ V c', (Builtin.append_ #[t, t] ty #[X, Y]).run P c.w = .ok V c'.w ∧ Rel B c' (s.setObj k ob) a ∧ Sees B c' (s.setObj k ob) v V := by
  unfold appendA at he
  split at he
  · rename_i e hu
    split at he
    · rename_i sz z inf o sz0 n get sz2 m get2 hsz hz hi hsrc
      simp only [guardO] at he
      cases hb : (Nat.blt 0 sz && (Nat.blt 0 inf.bytes && (Nat.beq z.length sz && ((Nat.beq n 0 || Nat.beq sz0 sz) && (Nat.beq m 0 || Nat.beq sz2 sz))))) with
      | false => simp [hb] at he
      | true =>
        simp only [hb, cond_true] at he
        simp only [Bool.and_eq_true, Bool.or_eq_true] at hb
        obtain ⟨b1, b2, b3, b4, b5⟩ := hb
        have b1 := ltB b1
        have b2 := ltB b2
        have b3 := beqT b3
        have b4 : n = 0 ∨ sz0 = sz := b4.imp beqT beqT
        have b5 : m = 0 ∨ sz2 = sz := b5.imp beqT beqT
        have hown : OwnRep c o n X := by
          cases hx with
          | slNil _ _ _ ho => exact ho
          | sl _ _ _ _ ad cap vals h1 h2 h3 h4 h5 h6 => exact h3
        cases o with
        | no => simp at he
        | fit =>
          simp only at he
          split at he
          · rename_i hd
            simp only [Option.some.injEq, Prod.mk.injEq] at he
            obtain ⟨hr, rfl, rfl, rfl⟩ := he
            exact appendA_core h hu hi hsz hz b3 b1 b2 hx hy hsrc ⟨.inl ⟨rfl, hd⟩, hown⟩ b4 b5 (Nat.le_of_ble_eq_true hr)
          · simp at he
        | key q =>
          simp only at he
          split at he
          · rename_i sz1 f hq
            cases hb1 : Nat.beq sz1 sz with
            | false => simp [hb1] at he
            | true =>
              simp only [hb1, cond_true, Option.some.injEq, Prod.mk.injEq, Bool.and_eq_true] at he
              obtain ⟨⟨hr, hf⟩, rfl, rfl, rfl⟩ := he
              have hb1 := beqT hb1
              have hf := beqT hf
              subst hb1; subst hf
              exact appendA_core h hu hi hsz hz b3 b1 b2 hx hy hsrc ⟨.inr ⟨rfl, hq⟩, hown⟩ b4 b5 (Nat.le_of_ble_eq_true hr)
          · simp at he
    · simp at he
  · simp at he
end Go.Ab

namespace Go.Ab
open Go Go.RowKit
variable {P : Program} {B : Base} {c : Cx} {s : St} {a : Act}
theorem grow_cells {c' : Cx} {b1 o1 b2 o2 n m sz : Nat} {get get2 : Nat → List AV} {vs : Array Value} {ks : Nat → Prop} (h1 : RowSees c b1 o1 n sz get) (h2 : RowSees c b2 o2 m sz get2)
    (he : Ext c c' ks) (hv1 : ∀ q, q < n * sz → vs[q]? = some (rd c.w b1 o1 q)) (hv2 : ∀ q, q < m * sz → vs[n * sz + q]? = some (rd c.w b2 o2 q)) :
    (∀ j, j < n + m → (appGet n m get get2 j).length = sz ∧ keysL (appGet n m get get2 j) = []) ∧
    ∀ (j i : Nat) (u : AV), j < n + m → (appGet n m get get2 j)[i]? = some u → u.one = true ∧ Rep c' u (vs.getD (j * sz + i) undef) := by
  have hlen : ∀ j, j < n + m → (appGet n m get get2 j).length = sz ∧ keysL (appGet n m get get2 j) = [] := by
    intro j hj
    by_cases hjn : j < n
    · rw [appGet_lt hjn]; exact h1.len j hjn
    · rw [appGet_ge (by omega) hj]; exact h2.len _ (by omega)
  have key : ∀ (j i : Nat) (u : AV), j < n + m → (appGet n m get get2 j)[i]? = some u → u.one = true ∧ ∃ y, vs[j * sz + i]? = some y ∧ Rep c u y := by
    intro j i u hj hu
    have hi : i < sz := by rw [← (hlen j hj).1]; exact (List.getElem?_eq_some_iff.1 hu).1
    by_cases hjn : j < n
    · rw [appGet_lt hjn] at hu
      exact ⟨(h1.cell j i u hjn hu).1, _, hv1 _ (row_off_lt hjn hi), h1.rep hjn hu⟩
    · rw [appGet_ge (by omega) hj] at hu
      have hj' : j - n < m := by omega
      refine ⟨(h2.cell _ i u hj' hu).1, _, ?_, h2.rep hj' hu⟩
      have e : j * sz + i = n * sz + ((j - n) * sz + i) := by
        have : j = n + (j - n) := by omega
        conv => lhs; rw [this, Nat.add_mul]
        omega
      rw [e]; exact hv2 _ (row_off_lt hj' hi)
  refine ⟨hlen, fun j i u hj hu => ?_⟩
  obtain ⟨k1, y, k2, k3⟩ := key j i u hj hu
  have : vs.getD (j * sz + i) undef = y := by simp [Array.getD_eq_getD_getElem?, k2]
  rw [this]
  refine ⟨k1, k3.ext he fun k hk => ?_⟩
  rw [keys_nil_of (hlen j hj).2 hu] at hk; simp at hk
structure GOwner (c : Cx) (s : St) (n sz K : Nat) (get : Nat → List AV) (X : Value) : Prop where
  cases : (s.obj K = none ∧ ((X = .slice none 0 0 ∧ n = 0) ∨ ∃ ad, X = .slice (some ad) n n)) ∨ (s.obj K = some (.grw sz n get) ∧ OwnRep c (.key K) n X)
theorem gown_keeps (h : Rel B c s a) {n m sz K : Nat} {get : Nat → List AV} {X : Value} (hO : GOwner c s n sz K get X) (hm : 0 < m) {w' : World} {I' : Nat → Nat → Prop} {κ' : Option (Addr × Nat)}
    : ∀ n' v, live s.objs K → OwnRep c (.key K) n' v → OwnRep (c.owns w' I' K κ' (n + m)) (.key K) n' v := by
  intro n' v hl hv
  obtain ⟨m', f1, f2, _⟩ := hv
  rcases hO.cases with ⟨hk, _⟩ | ⟨hk, _⟩
  · exact absurd rfl (live_ne hk hl)
  · have := (h.objs.rep K _ hk).2.1
    rw [this] at f1
    have := Option.some.inj f1
    exact ⟨n + m, by simp [Cx.owns], by omega, fun e' => by omega⟩
theorem grow_new (h : Rel B c s a) {sz n m K : Nat} {get0 : Nat → List AV} {X : Value} (hO : GOwner c s n sz K get0 X) (hm : 0 < m) (hsz : 0 < sz) {vs : Array Value} {e : TypeId} {cap : Nat} (hcap : n + m ≤ cap) (hvs : vs.size = cap * sz)
    {b1 o1 b2 o2 : Nat} {get get2 : Nat → List AV} (h1 : RowSees c b1 o1 n sz get) (h2 : RowSees c b2 o2 m sz get2)
    (hv1 : ∀ q, q < n * sz → vs[q]? = some (rd c.w b1 o1 q)) (hv2 : ∀ q, q < m * sz → vs[n * sz + q]? = some (rd c.w b2 o2 q)) :
    ∃ c', c'.w = c.w.drew.alloc (.cells vs e) ∧ Rel B c' (s.setObj K (.grw sz (n + m) (appGet n m get get2))) a ∧
      Sees B c' (s.setObj K (.grw sz (n + m) (appGet n m get get2))) (.gsl K sz (n + m)) (.slice (some ⟨c.w.heap.size, 0, none⟩) (n + m) cap) := by
  let c' := c.owns (c.w.drew.alloc (.cells vs e)) c.I K (some (⟨c.w.heap.size, 0, none⟩, cap)) (n + m)
  have hkb : KeepsBut c c' s.objs K := by
    refine owns_keeps (fun _ _ hi => hi) (fun b q v hi hv => ?_) (gown_keeps h hO hm) (fun q o' b hq hne hb => ⟨heap_alloc_lt c.w.drew _ _ (excl_lt (h.objs.rep q o' hq) hb), fun off hi => hi⟩)
    rw [World.cell?_block (heap_alloc_lt c.w.drew _ b (lt_of_cell hv))]; exact hv
  have hgr : Grow B c c' := by
    refine ⟨rfl, rfl, rfl, by simp [c', Cx.owns], fun b hb _ => heap_alloc_lt c.w.drew _ _ (Nat.lt_of_lt_of_le hb h.frame.size), fun b q hb _ hi => hi, fun b q hi => ?_⟩
    obtain ⟨v', hv⟩ := h.good.there b q hi
    exact ⟨v', hkb.ext.cell b q v' hi hv⟩
  have hown : OwnRep c' (.key K) (n + m) (.slice (some ⟨c.w.heap.size, 0, none⟩) (n + m) cap) := ⟨n + m, by simp [c', Cx.owns], Nat.le_refl _, fun _ => by simp [c', Cx.owns, slOf]⟩
  obtain ⟨g1, g2⟩ := grow_cells h1 h2 hkb.ext hv1 hv2
  refine ⟨c', rfl, h.obj hkb hgr ⟨hsz, by simp [c', Cx.owns], ?_⟩ ?_ (by simp [AO.keys]) ?_, ⟨.gsl _ _ _ _ _ hcap hown, fun q hq => ?_, rfl⟩⟩
  · simp only [c', Cx.owns, if_true]
    refine ⟨hcap, fun _ => ⟨⟨vs, e, heap_alloc_eq c.w.drew _, hvs, fun j i u hj hu => (g2 j i u hj hu).2⟩, ⟨rfl, rfl⟩, g1, fun j i u hj hu => (g2 j i u hj hu).1, fun q hi => ?_⟩⟩
    obtain ⟨v', hv⟩ := h.good.there _ _ hi
    have := lt_of_cell hv
    simp at this
  · intro q o' b hq hne hb
    have := excl_lt (h.objs.rep q o' hq) hb
    simp only [excl, c', Cx.owns, if_true]
    intro e'
    split at e'
    · have h9 : c.w.heap.size = b := Option.some.inj e'
      omega
    · simp at e'
  · intro b hb
    simp only [excl, c', Cx.owns, if_true] at hb
    have := h.frame.size
    split at hb
    · have h9 : c.w.heap.size = b := Option.some.inj hb
      left; omega
    · simp at hb
  · simp [AV.keys] at hq; subst hq; exact live_aput_self
theorem grow_in (h : Rel B c s a) {sz n m K : Nat} {get get2 : Nat → List AV} (hk : s.obj K = some (.grw sz n get)) (hm : 0 < m) {ad : Addr} {cap : Nat} (hκ : c.κ K = some (ad, cap)) (hcap : n + m ≤ cap) {b2 o2 : Nat} (h2 : RowSees c b2 o2 m sz get2)
    {cur : Array Value} {e : TypeId} (hh : c.w.heap[ad.block]? = some (.cells cur e (0, 0))) (hcs : cur.size = cap * sz) :
    ∃ c', c'.w = c.w.setRow ad.block (cur.toList.take (n * sz) ++ rdL c.w b2 o2 (m * sz) ++ cur.toList.drop (n * sz + (rdL c.w b2 o2 (m * sz)).length)).toArray ∧ Rel B c' (s.setObj K (.grw sz (n + m) (appGet n m get get2))) a ∧
      Sees B c' (s.setObj K (.grw sz (n + m) (appGet n m get get2))) (.gsl K sz (n + m)) (.slice (some ad) (n + m) cap) := by
  have hrepK := h.objs.rep K _ hk
  have hsz : 0 < sz := hrepK.1
  have hG := hrepK.2.2
  simp only [hκ] at hG
  have hG := hG.2 (by omega)
  have hexcl : excl c K (.grw sz n get) = some ad.block := by simp only [excl, hκ]; rw [if_pos (by omega)]
  have hfit : n * sz + (rdL c.w b2 o2 (m * sz)).length ≤ cur.size := by rw [rdL_length, hcs, ← Nat.add_mul]; exact Nat.mul_le_mul_right _ hcap
  obtain ⟨g1, g2⟩ := getD_splice cur (n * sz) (rdL c.w b2 o2 (m * sz)) hfit
  generalize hvs : (cur.toList.take (n * sz) ++ rdL c.w b2 o2 (m * sz) ++ cur.toList.drop (n * sz + (rdL c.w b2 o2 (m * sz)).length)).toArray = vs at g1 g2
  have hW : Wrote c ad.block (c.w.setRow ad.block vs) := wrote_setRow rfl
  have hg' : (c.w.setRow ad.block vs).heap[ad.block]? = some (.cells vs e (0, 0)) := setRow_heap _ _ _ _ _ _ hh
  have get1 : ∀ q, q < cur.size → vs[q]? = some (if n * sz ≤ q ∧ q < n * sz + (rdL c.w b2 o2 (m * sz)).length then (rdL c.w b2 o2 (m * sz)).getD (q - n * sz) undef else cur.getD q undef) := by
    intro q hq
    have hq' : q < vs.size := by omega
    have := g2 q hq
    rw [← this]
    simp [Array.getD_eq_getD_getElem?, hq']
  have hO : GOwner c s n sz K get (.slice (some ad) n cap) := ⟨.inr ⟨hk, ⟨n, hrepK.2.1, Nat.le_refl _, fun _ => by rw [hκ]; rfl⟩⟩⟩
  let c' := c.owns (c.w.setRow ad.block vs) c.I K (some (ad, cap)) (n + m)
  have hkb : KeepsBut c c' s.objs K := by
    refine owns_keeps (fun _ _ hi => hi) (fun b q v hi hv => ?_) (gown_keeps h hO hm) (fun q o' b hq hne hb => ?_)
    · by_cases e' : b = ad.block
      · subst e'; exact absurd hi (hG.free q)
      · rw [World.cell?_block (hW.other b e')]; exact hv
    · have hne' : b ≠ ad.block := by
        rintro rfl
        exact h.objs.apart q o' K _ _ hq hk hne hb hexcl
      exact ⟨hW.other b hne', fun off hi => hi⟩
  have hgr : Grow B c c' := by
    refine ⟨rfl, rfl, rfl, by simp [c', Cx.owns], fun b hb hd => hW.other b ?_, fun b q hb hd hi => hi, fun b q hi => ?_⟩
    · rintro rfl
      rcases h.mine K _ _ hk hexcl with h' | h'
      · omega
      · exact hd h'
    · obtain ⟨v', hv⟩ := h.good.there b q hi
      exact ⟨v', hkb.ext.cell b q v' hi hv⟩
  have hown : OwnRep c' (.key K) (n + m) (.slice (some ad) (n + m) cap) := ⟨n + m, by simp [c', Cx.owns], Nat.le_refl _, fun _ => by simp [c', Cx.owns, slOf]⟩
  have hexcl' : ∀ b, excl c' K (.grw sz (n + m) (appGet n m get get2)) = some b → b = ad.block := by
    intro b hb
    simp only [excl, c', Cx.owns, if_true] at hb
    split at hb
    · exact (Option.some.inj hb).symm
    · simp at hb
  have h1 : RowSees c ad.block 0 n sz get := ⟨hG.len, fun j i u hj hu => by
    obtain ⟨k1, y, k2, k3⟩ := hG.cellsAt (by omega) hj i u hu
    exact ⟨k1, y, by rw [← k2]; congr 2; omega, k3⟩⟩
  obtain ⟨r1, r2⟩ := grow_cells (c' := c') (vs := vs) h1 h2 hkb.ext (fun q hq => by
    have hlt : q < cur.size := by omega
    rw [get1 q hlt, if_neg (by omega)]
    have := (h1.at hq).1
    simp only [Nat.zero_add] at this
    rw [cell?_cells hh] at this
    simp [Array.getD_eq_getD_getElem?, this]) (fun q hq => by
    rw [rdL_length] at hfit
    rw [get1 _ (by omega), if_pos (by rw [rdL_length]; omega)]
    have e5 : n * sz + q - n * sz = q := by omega
    rw [e5, List.getD_eq_getElem?_getD, rdL_at _ _ _ _ _ hq]; rfl)
  refine ⟨c', by simp [c', Cx.owns], h.obj hkb hgr ⟨hsz, by simp [c', Cx.owns], ?_⟩ ?_ (by simp [AO.keys]) ?_, ⟨.gsl _ _ _ _ _ hcap hown, fun q hq => ?_, rfl⟩⟩
  · simp only [c', Cx.owns, if_true]
    exact ⟨hcap, fun _ => ⟨⟨vs, e, hg', by rw [g1, hcs], fun j i u hj hu => (r2 j i u hj hu).2⟩, hG.addr, r1, fun j i u hj hu => (r2 j i u hj hu).1, hG.free⟩⟩
  · intro q o' b hq hne hb e'
    have := hexcl' b e'
    subst this
    exact h.objs.apart q o' K _ _ hq hk hne hb hexcl
  · intro b hb
    rw [hexcl' b hb]; exact h.mine K _ _ hk hexcl
  · simp [AV.keys] at hq; subst hq; exact live_aput_self
theorem grow_zero (h : Rel B c s a) {sz K : Nat} (hsz : 0 < sz) (hk : s.obj K = none) {X : Value} (hX : X = .slice none 0 0 ∨ ∃ ad, X = .slice (some ad) 0 0) (get : Nat → List AV) :
    ∃ c', c'.w = c.w ∧ Rel B c' (s.setObj K (.grw sz 0 get)) a ∧ Sees B c' (s.setObj K (.grw sz 0 get)) (.gsl K sz 0) X := by
  obtain ⟨κ', e1, e2⟩ : ∃ κ' : Option (Addr × Nat), X = slOf κ' 0 ∧ ∀ p, κ' = some p → p.2 = 0 := by
    rcases hX with rfl | ⟨ad, rfl⟩
    · exact ⟨none, rfl, by simp⟩
    · exact ⟨some (ad, 0), rfl, fun p hp => by cases hp; rfl⟩
  let c' := c.owns c.w c.I K κ' 0
  have hkb : KeepsBut c c' s.objs K := owns_keeps (fun _ _ hi => hi) (fun _ _ _ _ hv => hv) (fun n' v hl _ => absurd rfl (live_ne hk hl)) (fun _ _ _ _ _ _ => ⟨rfl, fun _ hi => hi⟩)
  have hgr : Grow B c c' := ⟨rfl, rfl, rfl, Nat.le_refl _, fun _ _ _ => rfl, fun _ _ _ _ hi => hi, h.good.there⟩
  have hex : excl c' K (.grw sz 0 get) = none := by
    simp only [excl, c', Cx.owns, if_true]
    cases κ' with
    | none => rfl
    | some p => obtain ⟨ad, cap⟩ := p; have := e2 _ rfl; simp only at this; subst this; rfl
  have hown : OwnRep c' (.key K) 0 X := ⟨0, by simp [c', Cx.owns], Nat.le_refl _, fun _ => by simp [c', Cx.owns, e1]⟩
  refine ⟨c', rfl, h.obj hkb hgr ⟨hsz, by simp [c', Cx.owns], ?_⟩ (fun q o' b hq hne hb e => by rw [hex] at e; cases e) (by simp [AO.keys]) (fun b hb => by rw [hex] at hb; cases hb), ⟨?_, fun q hq => ?_, rfl⟩⟩
  · simp only [c', Cx.owns, if_true]
    cases κ' with
    | none => trivial
    | some p => obtain ⟨ad, cap⟩ := p; have := e2 _ rfl; simp only at this; subst this; exact ⟨Nat.le_refl _, fun h0 => absurd h0 (by omega)⟩
  · rcases hX with rfl | ⟨ad, rfl⟩
    · exact .gslNil _ _ hown
    · exact .gsl _ _ _ _ _ (Nat.le_refl _) hown
  · simp [AV.keys] at hq; subst hq; exact live_aput_self
theorem appendM_core (h : Rel B c s a) {t ty e : TypeId} {sz n sz2 m K : Nat} {get get2 : Nat → List AV} {X Y : Value} {y : AV} {i : TypeInfo} {z : List AV} (hu : P.underlying t = some (.slice e))
    (hi : P.info? e = some i) (hsz : sizeOf? P e = some sz) (hz : zeroCells P e = some z) (hzl : z.length = sz) (h0 : 0 < sz) (hb : 0 < i.bytes) (hy : Rep c y Y) (hsrc : srcA s y = some (sz2, m, get2))
    (hX : (X = .slice none 0 0 ∧ n = 0) ∨ ∃ b1 o1 sp cap, (0 < n → sp = none) ∧ X = .slice (some ⟨b1, o1, sp⟩) n cap ∧ n ≤ cap ∧ RowSees c b1 o1 n sz get)
    (hO : GOwner c s n sz K get X) (hm0 : 0 < m) (hs2 : sz2 = sz) (hroom : (n + m) * i.bytes ≤ 140737488355328) :
    ∃ V c', (Builtin.append_ #[t, t] ty #[X, Y]).run P c.w = .ok V c'.w ∧ Rel B c' (s.setObj K (.grw sz (n + m) (appGet n m get get2))) a ∧ Sees B c' (s.setObj K (.grw sz (n + m) (appGet n m get get2))) (.gsl K sz (n + m)) V := by
  obtain ⟨i', zv, hi', hzv, hcz⟩ := zeroCells_inv hz
  have : i' = i := by rw [hi] at hi'; exact (Option.some.inj hi').symm
  subst this
  have hisz : i'.size = sz := by unfold sizeOf? at hsz; simp [hi] at hsz; exact hsz
  obtain ⟨hzc, _⟩ := zero_CR (c := c) hcz
  have hzs : zv.cells.size = sz := by rw [hzc.1, hzl]
  have hnm : n + m ≤ 140737488355328 := Nat.le_trans (Nat.le_mul_of_pos_right _ hb) hroom
  have hmem : n ≤ n + m := Nat.le_add_right _ _
  subst hs2
  rcases srcA_sound h hy hsrc with ⟨_, e⟩ | ⟨b2, o2, sp2, cap2, hsp2, rfl, _, hlen2, hcell2⟩
  · omega
  obtain rfl := hsp2 hm0
  have h2 : RowSees c b2 o2 m sz2 get2 := ⟨hlen2, hcell2⟩
  have hc2 := h2.cells
  have hzsz : ∀ k, (Builtin.zeroCells zv.cells k).size = k * sz2 := fun k => by rw [size_zeroCells, hzs]
  rcases hX with ⟨rfl, rfl⟩ | ⟨b1, o1, sp1, cap, hsp1, rfl, hle, h1⟩
  · have hrun := run_append_nil (P := P) (w := c.w) t ty e i' zv hu hi hzv ⟨b2, o2, none⟩ m cap2 (rdL c.w b2 o2 (m * sz2)) (by rw [rdL_length, hisz]) hc2.1 hm0 (by omega) (by simp only [Nat.zero_add] at hroom; omega)
    have hge := grownCap_ge c.w m 0 e
    generalize grownCap c.w m 0 e = nc at hrun hge
    obtain ⟨c', e1, e2, e3⟩ := grow_new h (vs := (rdL c.w b2 o2 (m * sz2)).toArray ++ Builtin.zeroCells zv.cells (nc - m)) (e := e) (cap := nc) hO hm0 h0 (by omega) (by
      simp only [Array.size_append, List.size_toArray, rdL_length, hzsz, ← Nat.add_mul]; congr 1; omega)
      (b1 := 0) (o1 := 0) (get := get) ⟨fun j hj => by omega, fun j i u hj => by omega⟩ h2 (fun q hq => by omega) (fun q hq => by
        simp only [Nat.zero_mul, Nat.zero_add, Array.getElem?_append]
        rw [if_pos (by simpa [rdL_length] using hq)]
        simpa using rdL_at _ _ _ _ _ hq)
    simp only [Nat.zero_add] at e2 e3 ⊢
    exact ⟨_, c', by rw [e1]; exact hrun, e2, e3⟩
  · by_cases hroom' : n + m ≤ cap
    · -- into the room
      rcases hO.cases with ⟨_, hf⟩ | ⟨hk, hown⟩
      · rcases hf with ⟨hf, _⟩ | ⟨ad, hf⟩
        · cases hf
        · simp only [Value.slice.injEq, true_and] at hf
          omega
      · obtain ⟨m', f1, f2, f3⟩ := hown
        have hr := h.objs.rep K _ hk
        rw [hr.2.1] at f1
        have := Option.some.inj f1
        subst this
        have hX := f3 rfl
        have hr2 := hr.2.2
        cases hκ : c.κ K with
        | none => rw [hκ] at hX; simp [slOf] at hX
        | some p =>
          obtain ⟨ad, cap'⟩ := p
          rw [hκ] at hX
          simp [slOf] at hX
          obtain ⟨rfl, rfl⟩ := hX
          simp only [hκ] at hr2
          have hG := hr2.2 (by omega)
          obtain ⟨⟨cur, e', hh, hcs, _⟩, hoff, _⟩ := hG
          obtain ⟨q1, q2⟩ := hoff
          simp only at q1 q2 hh
          subst q1 q2
          have hrun := append_room_run (P := P) (ty := ty) (w := c.w) (ad := ⟨b2, o2, none⟩) (m := m) (cc := cap2) (sLen := n) (sCap := cap) hu hi hisz hh (rdL_length c.w b2 o2 (m * sz2)) hc2.1 hc2.2 hroom' (by rw [rdL_length, hcs, ← Nat.add_mul]; exact Nat.mul_le_mul_right _ hroom')
          obtain ⟨c', e1, e2, e3⟩ := grow_in h hk hm0 hκ hroom' h2 hh hcs
          exact ⟨_, c', by rw [e1]; exact hrun, e2, e3⟩
    · have hload : ∀ (j : Nat) (v : Value), (rdL c.w b1 o1 (n * sz2))[j]? = some v → c.w.cell? ((⟨b1, o1, sp1⟩ : Addr).add j) = some v := by
        by_cases hc0 : 0 < n
        · obtain rfl := hsp1 hc0
          exact h1.cells.1
        · obtain rfl : n = 0 := by omega
          intro j v hj
          rw [List.getElem?_eq_none (by rw [rdL_length]; omega)] at hj
          cases hj
      have hrun := run_append_grow (P := P) (w := c.w) t ty e i' zv hu hi hzv ⟨b1, o1, sp1⟩ n cap (rdL c.w b1 o1 (n * sz2)) (by rw [rdL_length, hisz]) hload ⟨b2, o2, none⟩ m cap2 (rdL c.w b2 o2 (m * sz2)) (by rw [rdL_length, hisz]) hc2.1 (by omega) (by omega) (growslice_fits (by omega) hroom)
      have hge := grownCap_ge c.w (n + m) cap e
      generalize grownCap c.w (n + m) cap e = nc at hrun hge
      obtain ⟨c', e1, e2, e3⟩ := grow_new h (vs := (rdL c.w b1 o1 (n * sz2)).toArray ++ (rdL c.w b2 o2 (m * sz2)).toArray ++ Builtin.zeroCells zv.cells (nc - (n + m))) (e := e) (cap := nc) hO hm0 h0 hge (by
        simp only [Array.size_append, List.size_toArray, rdL_length, hzsz, ← Nat.add_mul]; congr 1; omega)
        h1 h2 (fun q hq => by
          rw [Array.append_assoc, Array.getElem?_append, if_pos (by simpa [rdL_length] using hq)]
          simpa using rdL_at _ _ _ _ _ hq) (fun q hq => by
          rw [Array.getElem?_append, if_pos (by simp [rdL_length]; omega), Array.getElem?_append, if_neg (by simp [rdL_length])]
          simp only [List.size_toArray, rdL_length]
          have e5 : n * sz2 + q - n * sz2 = q := by omega
          rw [e5]
          simpa using rdL_at _ _ _ _ _ hq)
      exact ⟨_, c', by rw [e1]; exact hrun, e2, e3⟩
theorem appendM_sound (h : Rel B c s a) {d : Nat} {t ty : TypeId} {x y v : AV} {X Y : Value} {k : Nat} {ob : AO} (hx : Rep c x X) (hy : Rep c y Y) (he : appendM P s d t x y = some (true, v, k, ob)) :
    ∃ V c', (Builtin.append_ #[t, t] ty #[X, Y]).run P c.w = .ok V c'.w ∧ Rel B c' (s.setObj k ob) a ∧ Sees B c' (s.setObj k ob) v V := by
  unfold appendM at he
  split at he
  · rename_i e hu
    split at he
    · rename_i sz z inf sz2 m get2 hsz hz hi hsrc
      simp only [guardO] at he
      cases hb : (Nat.blt 0 sz && (Nat.blt 0 inf.bytes && (Nat.beq z.length sz && (Nat.beq m 0 || Nat.beq sz2 sz)))) with
      | false => simp [hb] at he
      | true =>
        simp only [hb, cond_true] at he
        simp only [Bool.and_eq_true, Bool.or_eq_true] at hb
        obtain ⟨b1, b2, b3, b5⟩ := hb
        have b1 := ltB b1
        have b2 := ltB b2
        have b3 := beqT b3
        have b5 : m = 0 ∨ sz2 = sz := b5.imp beqT beqT
        have hY0 : m = 0 → Y = .slice none 0 0 ∨ ∃ ad cc, Y = .slice (some ad) 0 cc := fun hm => by
          subst hm
          rcases srcA_sound h hy hsrc with ⟨rfl, _⟩ | ⟨b, of, sp, cap, _, rfl, _⟩
          · exact .inl rfl
          · exact .inr ⟨_, _, rfl⟩
        split at he
        · rename_i sz0 n get
          cases hb2 : ((Nat.beq n 0 || Nat.beq sz0 sz) && (cond (Nat.beq n 0) true (Nat.blt 0 m))) with
          | false => rw [hb2] at he; cases he
          | true =>
            simp only [hb2, cond_true] at he
            split at he
            · rename_i hd
              simp only [Option.some.injEq, Prod.mk.injEq] at he
              obtain ⟨hr, rfl, rfl, rfl⟩ := he
              simp only [Bool.and_eq_true, Bool.or_eq_true] at hb2
              obtain ⟨b4, b6⟩ := hb2
              have b4 : n = 0 ∨ sz0 = sz := b4.imp beqT beqT
              have hx' : Rep c (.sl .fit sz n get) X := hx.reown b4 (fun _ _ => rfl) (by
                cases hx with
                | slNil _ _ _ ho => exact ho
                | sl _ _ _ _ ad cap vals h1 h2 h3 h4 h5 h6 => exact h3)
              have hX := slice_row hx' rfl
              by_cases hm : m = 0
              · subst hm
                have hn : n = 0 := by
                  cases hb : Nat.beq n 0 with
                  | true => exact beqT hb
                  | false => rw [hb] at b6; simp [Nat.blt] at b6
                subst hn
                have hX0 : X = .slice none 0 0 ∨ ∃ ad, X = .slice (some ad) 0 0 := by
                  rcases hX with ⟨rfl, _⟩ | ⟨b, of, sp, cap, _, rfl, _, ho, _⟩
                  · exact .inl rfl
                  · have : cap = 0 := ho
                    subst this; exact .inr ⟨_, rfl⟩
                obtain ⟨c', e1, e2, e3⟩ := grow_zero h b1 hd hX0 (appGet 0 0 get get2)
                refine ⟨X, c', ?_, e2, e3⟩
                rw [e1]
                rcases hX0 with rfl | ⟨ad, rfl⟩
                · exact append_none hu hi (Nat.le_refl _) (hY0 rfl) c.w
                · exact append_none hu hi (Nat.le_refl _) (hY0 rfl) c.w
              · refine appendM_core (get := get) h hu hi hsz hz b3 b1 b2 hy hsrc ?_ ⟨.inl ⟨hd, ?_⟩⟩ (Nat.pos_of_ne_zero hm) (b5.resolve_left hm) (Nat.le_of_ble_eq_true hr)
                · rcases hX with ⟨e1, e2, _⟩ | ⟨b, of, sp, cap, g1, g2, g3, g4, g5, _⟩
                  · exact .inl ⟨e1, e2⟩
                  · exact .inr ⟨b, of, sp, cap, fun h0 => g1 (by omega), g2, g3, g5⟩
                · rcases hX with ⟨e1, e2, _⟩ | ⟨b, of, sp, cap, g1, rfl, g3, g4, g5, _⟩
                  · exact .inl ⟨e1, e2⟩
                  · have : cap = n := g4
                    subst this; exact .inr ⟨_, rfl⟩
            · simp at he
        · rename_i q sz0 n
          cases hb2 : Nat.beq sz0 sz with
          | false => simp [hb2] at he
          | true =>
            simp only [hb2, cond_true] at he
            have hb2 := beqT hb2
            subst hb2
            split at he
            · rename_i sz1 fr get hq
              cases hb1 : Nat.beq sz1 sz0 with
              | false => simp [hb1] at he
              | true =>
                simp only [hb1, cond_true, Option.some.injEq, Prod.mk.injEq, Bool.and_eq_true] at he
                obtain ⟨⟨hr, hf⟩, rfl, rfl, rfl⟩ := he
                have hb1 := beqT hb1
                have hf := beqT hf
                subst hb1 hf
                have hX : (X = .slice none 0 0 ∧ fr = 0) ∨ ∃ b1 o1 sp cap, (0 < fr → sp = none) ∧ X = .slice (some ⟨b1, o1, sp⟩) fr cap ∧ fr ≤ cap ∧ RowSees c b1 o1 fr sz1 get := by
                  cases hx with
                  | gslNil => exact .inl ⟨rfl, rfl⟩
                  | gsl _ _ _ ad cap hn hown =>
                    obtain ⟨b, of, sp⟩ := ad
                    by_cases h0 : 0 < fr
                    · obtain ⟨ad', cap', g1, g2, g3, g4⟩ := grw_at h hq hown rfl h0
                      simp only [Value.slice.injEq, Option.some.injEq, true_and] at g2
                      obtain ⟨rfl, rfl⟩ := g2
                      refine .inr ⟨b, of, sp, cap, fun _ => g4.addr.2, rfl, hn, ⟨g4.len, fun j i u hj hu => ?_⟩⟩
                      obtain ⟨k1, y, k2, k3⟩ := g4.cellsAt g3 hj i u hu
                      have := g4.addr.1
                      simp only at this k2
                      exact ⟨k1, y, by rw [← k2]; congr 2; omega, k3⟩
                    · exact .inr ⟨b, of, sp, cap, fun h => absurd h h0, rfl, hn, ⟨fun j hj => by omega, fun j i u hj => by omega⟩⟩
                have hown : OwnRep c (.key q) fr X := by
                  cases hx with
                  | gslNil _ _ ho => exact ho
                  | gsl _ _ _ ad cap hn ho => exact ho
                by_cases hm : m = 0
                · subst hm
                  have hrun : (Builtin.append_ #[t, t] ty #[X, Y]).run P c.w = .ok X c.w := by
                    rcases hX with ⟨rfl, _⟩ | ⟨b, of, sp, cap, _, rfl, hle, _⟩
                    · exact append_none hu hi (Nat.le_refl _) (hY0 rfl) c.w
                    · exact append_none hu hi hle (hY0 rfl) c.w
                  have hsame : ∀ j, j < fr → appGet fr 0 get get2 j = get j := fun j hj => appGet_lt hj
                  have hkb : KeepsBut c c s.objs q := (Keeps.refl c s.objs).but q
                  refine ⟨X, c, hrun, h.obj hkb (Grow.refl h.good) ?_ (fun q' o' b hq' hne hb' e => ?_) (by simp [AO.keys]) (fun b hb' => ?_), ⟨hx, fun k hk => ?_, rfl⟩⟩
                  · have hr := h.objs.rep q _ hq
                    refine ⟨hr.1, hr.2.1, ?_⟩
                    have hr2 := hr.2.2
                    show (match c.κ q with | none => fr + 0 = 0 | some (a, cap) => fr + 0 ≤ cap ∧ (0 < cap → GrwAt c a sz1 (fr + 0) cap (appGet fr 0 get get2)))
                    cases hκ : c.κ q with
                    | none => simp only [hκ] at hr2; exact hr2
                    | some p =>
                      obtain ⟨ad, cap⟩ := p
                      simp only [hκ] at hr2
                      refine ⟨hr2.1, fun h0 => ?_⟩
                      obtain ⟨⟨vs, t', g1, g2, g3⟩, g4, g5, g6, g7⟩ := hr2.2 h0
                      exact ⟨⟨vs, t', g1, g2, fun j i u hj hu => g3 j i u hj (by rwa [hsame j hj] at hu)⟩, g4, fun j hj => by rw [hsame j hj]; exact g5 j hj, fun j i u hj hu => g6 j i u hj (by rwa [hsame j hj] at hu), g7⟩
                  · exact h.objs.apart q' o' q _ b hq' hq hne hb' e
                  · exact h.mine q _ b hq hb'
                  · simp [AV.keys] at hk; subst hk; exact live_aput_self
                · exact appendM_core h hu hi hsz hz b3 b1 b2 hy hsrc hX ⟨.inr ⟨hq, hown⟩⟩ (Nat.pos_of_ne_zero hm) (b5.resolve_left hm) (Nat.le_of_ble_eq_true hr)
            · simp at he
        · simp at he
    · simp at he
  · simp at he
end Go.Ab

namespace Go.Ab
open Go Go.RowKit
variable {P : Program} {B : Base} {c : Cx} {s : St} {a : Act}
theorem alook_enter : ∀ (os : List AO) (b k : Nat), alook (enterObjs os b) k = if b ≤ k then os[k - b]? else none
  | [], b, k => by simp [enterObjs, alook]
  | o :: r, b, k => by
    simp only [enterObjs, alook]
    by_cases h : b = k
    · subst h; simp
    · rw [beqF h, cond_false, alook_enter r (b + 1) k]
      by_cases h1 : b + 1 ≤ k
      · rw [if_pos h1, if_pos (by omega)]
        have : k - b = (k - (b + 1)) + 1 := by omega
        rw [this]; simp
      · rw [if_neg h1, if_neg (by omega)]
def held (c : Cx) (objs : List (Nat × AO)) (b : Nat) : Prop := ∃ k o, alook objs k = some o ∧ excl c k o = some b
def CallOk (P : Program) (G : Nat → Option (List AV)) (f : FuncId) (args : List AV) (os : List AO) (r : AV) (os' : List AO) : Prop :=
  ∀ (c0 : Cx) (vs : Array Value), Good G c0 → Objs c0 (enterObjs os keyBase) → vs.size = args.length →
    (∀ (i : Nat) (u : AV), args[i]? = some u → Rep c0 u (vs.getD i undef)) → (∀ k ∈ keysL args, live (enterObjs os keyBase) k) →
    Calls P f vs c0.w fun e w' => ∃ c' x, e = .returned x ∧ c'.w = w' ∧ Good G c' ∧
      Frame { c0 := c0, D := held c0 (enterObjs os keyBase), K := live (enterObjs os keyBase), G := G, N := 0 } c' ∧
      Objs c' (enterObjs os' keyBase) ∧ Rep c' r x ∧ (∀ k ∈ r.keys, live (enterObjs os' keyBase) k) ∧
      ∀ k o b, alook (enterObjs os' keyBase) k = some o → excl c' k o = some b → c0.w.heap.size ≤ b ∨ held c0 (enterObjs os keyBase) b
theorem renL_get (m : Nat → Nat) : ∀ (l : List AV) (i : Nat), (renL m l)[i]? = l[i]?.map (AV.ren m)
  | [], i => by simp [renL]
  | v :: r, i => by cases i <;> simp [renL, renL_get m r]
theorem renL_length (m : Nat → Nat) (l : List AV) : (renL m l).length = l.length := by induction l <;> simp [renL, *]
theorem ren_one (m : Nat → Nat) (v : AV) : (v.ren m).one = v.one := by
  cases v with
  | sl o => cases o <;> rfl
  | _ => rfl
mutual
theorem ren_keys (m : Nat → Nat) : ∀ (v : AV), ∀ k ∈ (v.ren m).keys, ∃ q ∈ v.keys, k = m q
  | .sl o sz n get => by cases o <;> simp [AV.ren, AV.keys]
  | .agg cs => by simp only [AV.ren, AV.keys]; exact renL_keys m cs
  | .tup vs => by simp only [AV.ren, AV.keys]; exact renL_keys m vs
  | .ref .. | .aref .. | .msl .. | .gsl .. | .gref .. => by simp [AV.ren, AV.keys]
  | .fn f p q => by
    simp only [AV.ren, AV.keys, List.mem_append]
    rintro k (hk | hk)
    · obtain ⟨x, h1, h2⟩ := renL_keys m p k hk; exact ⟨x, .inl h1, h2⟩
    · obtain ⟨x, h1, h2⟩ := renL_keys m q k hk; exact ⟨x, .inr h1, h2⟩
  | .bool _ | .int .. | .str _ | .nilp | .nilf | .nilm | .nili | .nni | .num _ | .undef | .arr .. | .elt .. => by simp [AV.ren, AV.keys]
  | .grd t w v => by simp only [AV.ren, AV.keys]; exact ren_keys m v
theorem renL_keys (m : Nat → Nat) : ∀ (l : List AV), ∀ k ∈ keysL (renL m l), ∃ q ∈ keysL l, k = m q
  | [] => by simp [renL, keysL]
  | v :: r => by
    intro k hk
    simp only [renL, keysL, List.mem_append] at hk
    rcases hk with hk | hk
    · obtain ⟨x, h1, h2⟩ := ren_keys m v k hk
      exact ⟨x, by simp [keysL, h1], h2⟩
    · obtain ⟨x, h1, h2⟩ := renL_keys m r k hk
      exact ⟨x, by simp [keysL, h1], h2⟩
end
theorem Rep.ren {c c' : Cx} {m : Nat → Nat} (hc : ∀ b o v, c.I b o → c.w.cell? ⟨b, o, none⟩ = some v → c'.w.cell? ⟨b, o, none⟩ = some v) (hI : ∀ b o, c.I b o → c'.I b o) {v : AV} {x : Value} (h : Rep c v x) :
    (∀ k ∈ v.keys, c'.β (m k) = c.β k ∧ ∀ n y, OwnRep c (.key k) n y → OwnRep c' (.key (m k)) n y) → Rep c' (v.ren m) x := by
  have he : Ext c c' (fun _ => False) := ⟨hc, hI, fun _ h => h.elim, fun _ h => h.elim⟩
  induction h with
  | slNil o sz get ho =>
    intro hk
    cases o with
    | key k => exact .slNil _ _ _ ((hk k (by simp [AV.keys])).2 _ _ ho)
    | _ => exact .slNil _ _ _ ho
  | sl o sz n get ad cap vals h1 h2 h3 h4 h5 h6 _ =>
    intro hk
    have hown : ∀ o', OwnRep c' o' n (.slice (some ad) n cap) → Rep c' (.sl o' sz n get) (.slice (some ad) n cap) := fun o' ho =>
      .sl _ _ _ _ ad cap vals h1 h2 ho h4 (fun j i u hj hu => ⟨(h5 j i u hj hu).1, hc _ _ _ (h5 j i u hj hu).2.2 (h5 j i u hj hu).2.1, hI _ _ (h5 j i u hj hu).2.2⟩)
        (fun j i u hj hu => (h6 j i u hj hu).ext he fun k hk' => by rw [keys_nil_of (h4 j hj).2 hu] at hk'; simp at hk')
    cases o with
    | key k => exact hown _ ((hk k (by simp [AV.keys])).2 _ _ h3)
    | _ => exact hown _ h3
  | agg cs vs h1 h2 h3 ih =>
    intro hk
    refine .agg _ _ (by rw [h1, renL_length]) (fun i u hu => ?_) (fun i u hu => ?_)
    · rw [renL_get] at hu
      cases hi : cs[i]? with
      | none => simp [hi] at hu
      | some u' => simp [hi] at hu; subst hu; rw [ren_one]; exact h2 i u' hi
    · rw [renL_get] at hu
      cases hi : cs[i]? with
      | none => simp [hi] at hu
      | some u' => simp [hi] at hu; subst hu; exact ih i u' hi fun k hk' => hk k (by simpa [AV.keys] using keys_mem_of hi k hk')
  | tup us vs h1 h3 ih =>
    intro hk
    refine .tup _ _ (by rw [h1, renL_length]) (fun i u hu => ?_)
    rw [renL_get] at hu
    cases hi : us[i]? with
    | none => simp [hi] at hu
    | some u' => simp [hi] at hu; subst hu; exact ih i u' hi fun k hk' => hk k (by simpa [AV.keys] using keys_mem_of hi k hk')
  | bool b => intro _; exact .bool b
  | int k n => intro _; exact .int k n
  | str l => intro _; exact .str l
  | nilp => intro _; exact .nilp
  | nilf => intro _; exact .nilf
  | nilm => intro _; exact .nilm
  | nili => intro _; exact .nili
  | nni t v => intro _; exact .nni t v
  | num k n => intro _; exact .num k n
  | undef v => intro _; exact .undef v
  | arr sz n get vs h1 h2 h3 h4 _ =>
    intro _
    exact .arr sz n get vs h1 h2 h3 fun j i u hj hu => (h4 j i u hj hu).ext he fun k hk' => by rw [keys_nil_of (h2 j hj).2 hu] at hk'; simp at hk'
  | ref k off => intro hk; rw [← (hk k (by simp [AV.keys])).1]; exact .ref _ _
  | aref k sz i off => intro hk; rw [← (hk k (by simp [AV.keys])).1]; exact .aref _ _ _ _
  | elt cs off b o vals h1 h2 h3 _ =>
    intro _
    exact .elt cs off b o vals h1 (fun i u hu => ⟨(h2 i u hu).1, hc _ _ _ (h2 i u hu).2.2 (h2 i u hu).2.1, hI _ _ (h2 i u hu).2.2⟩) fun i u hu => (h3 i u hu).ext he fun k hk' => by rw [keys_nil_of h1 hu] at hk'; simp at hk'
  | msl k sz off len cap o h1 h2 => intro hk; rw [← (hk k (by simp [AV.keys])).1]; exact .msl _ _ _ _ _ _ h1 h2
  | gslNil k sz ho => intro hk; exact .gslNil _ _ ((hk k (by simp [AV.keys])).2 _ _ ho)
  | gsl k sz n a cap h1 ho => intro hk; exact .gsl _ _ _ _ _ h1 ((hk k (by simp [AV.keys])).2 _ _ ho)
  | gref k sz n i off b cap ho => intro hk; exact .gref _ _ _ _ _ _ _ ((hk k (by simp [AV.keys])).2 _ _ ho)
  | fn f p q vp vq h1 h2 h3 h4 ih1 ih2 =>
    intro hk
    refine .fn _ _ _ _ _ (by rw [h1, renL_length]) (by rw [h2, renL_length]) (fun i u hu => ?_) (fun i u hu => ?_)
    · rw [renL_get] at hu
      cases hi : p[i]? with
      | none => simp [hi] at hu
      | some u' => simp [hi] at hu; subst hu; exact ih1 i u' hi fun k hk' => hk k (by simpa [AV.keys] using .inl (keys_mem_of hi k hk'))
    · rw [renL_get] at hu
      cases hi : q[i]? with
      | none => simp [hi] at hu
      | some u' => simp [hi] at hu; subst hu; exact ih2 i u' hi fun k hk' => hk k (by simpa [AV.keys] using .inr (keys_mem_of hi k hk'))
def Cx.froze (c : Cx) (b n : Nat) : Cx := { c with I := fun b' o => c.I b' o ∨ (b' = b ∧ o < n) }
theorem freezeA_sound (h : Rel B c s a) {v v' : AV} {x : Value} {objs' : List (Nat × AO)} (hs : Sees B c s v x) (he : freezeA s.objs v = some (v', objs')) :
    ∃ c', c'.w = c.w ∧ Rel B c' { s with objs := objs' } a ∧ Sees B c' { s with objs := objs' } v' x ∧ (∀ k, live s.objs k → live objs' k) ∧ Ext c c' (live s.objs) := by
  cases v with
  | msl k sz off n =>
    simp only [freezeA] at he
    have hrep := hs.rep
    have key : ∀ (c' : Cx) (sz' m : Nat) (get : Nat → List AV), c'.w = c.w → c'.β k = c.β k → ArrAt c' (c'.β k) sz' m get → (∀ o, o < m * sz' → c'.I (c'.β k) o) → sz = sz' → off + n ≤ m → Rep c' (.sl .no sz n fun j => get (off + j)) x := by
      intro c' sz' m get hw hβ ha hI e hle
      subst e
      cases hrep with
      | msl _ _ _ _ cap o h1 h2 =>
        by_cases hn : n = 0
        · subst hn
          exact .sl _ _ _ _ _ _ (fun _ _ => undef) (fun _ => rfl) (Nat.zero_le _) trivial (fun j hj => by omega) (fun j i u hj => by omega) (fun j i u hj => by omega)
        · have ho := h2 (by omega)
          subst ho
          have hcell : ∀ (j i : Nat) (u : AV), j < n → (get (off + j))[i]? = some u → u.one = true ∧ ∃ y, c'.w.cell? ⟨c.β k, off * sz + (j * sz + i), none⟩ = some y ∧ Rep c' u y := by
            intro j i u hj hu
            obtain ⟨e1, y, e2, e3⟩ := ha.cellsAt (i := off + j) (by omega) i u hu
            refine ⟨e1, y, ?_, e3⟩
            rw [← e2, hβ]; congr 2; rw [Nat.add_mul]; omega
          refine .sl _ _ _ _ ⟨c.β k, off * sz, none⟩ cap (fun j i => (c'.w.cell? ⟨c.β k, off * sz + (j * sz + i), none⟩).getD undef) (fun _ => rfl) h1 trivial (fun j hj => ha.len _ (by omega)) (fun j i u hj hu => ?_) (fun j i u hj hu => ?_)
          · obtain ⟨e1, y, e2, e3⟩ := hcell j i u hj hu
            have hi : i < sz := by rw [← (ha.len (off + j) (by omega)).1]; exact (List.getElem?_eq_some_iff.1 hu).1
            refine ⟨e1, by simp [e2], ?_⟩
            have := hI ((off + j) * sz + i) (row_off_lt (by omega) hi)
            rw [hβ] at this
            have e5 : (off + j) * sz + i = off * sz + (j * sz + i) := by rw [Nat.add_mul]; omega
            rw [← e5]; exact this
          · obtain ⟨e1, y, e2, e3⟩ := hcell j i u hj hu
            simp only [e2, Option.getD_some]; exact e3
    cases ho : alook s.objs k with
    | none => simp [ho] at he
    | some ob =>
      have hob := h.objs.rep k ob ho
      cases ob with
      | arr sz' m get =>
        simp only [ho, guardO] at he
        cases hb : (Nat.beq sz sz' && Nat.ble (off + n) m) with
        | false => simp [hb] at he
        | true =>
          simp [hb] at he
          obtain ⟨rfl, rfl⟩ := he
          simp only [Bool.and_eq_true] at hb
          have hb1 := beqT hb.1
          have hb2 := Nat.le_of_ble_eq_true hb.2
          let c' := c.froze (c.β k) (m * sz')
          have hext : Ext c c' (live s.objs) := ⟨fun _ _ _ _ hv => hv, fun _ _ hi => .inl hi, fun _ _ => rfl, fun _ _ _ _ hv => hv⟩
          have hkb : KeepsBut c c' s.objs k := ⟨hext, fun _ _ _ => rfl, fun _ _ _ => rfl, fun _ _ _ => rfl, fun q o' b hq hne hb' => ⟨rfl, fun off' hi => by
            rcases hi with hi | ⟨rfl, _⟩
            · exact hi
            · exact (h.objs.apart q o' k _ _ hq ho hne hb' rfl).elim⟩⟩
          obtain ⟨⟨⟨vs, t', hh, hsz, hr⟩, hl, h1⟩, hI, hfr⟩ := hob
          have hgr : Grow B c c' := ⟨rfl, rfl, rfl, Nat.le_refl _, fun _ _ _ => rfl, fun b o hb' hd hi => by
            rcases hi with hi | ⟨rfl, _⟩
            · exact hi
            · rcases h.mine k _ _ ho rfl with h' | h'
              · omega
              · exact absurd h' hd, fun b o hi => by
            rcases hi with hi | ⟨rfl, hlt⟩
            · exact h.good.there b o hi
            · exact ⟨vs[o]'(by omega), by show c.w.cell? _ = _; rw [cell?_cells hh]; simp⟩⟩
          have harr : ArrAt c' (c'.β k) sz' m get := ⟨⟨vs, t', hh, hsz, fun j i u hj hu => (hr j i u hj hu).ext hext fun q hq => by rw [keys_nil_of (hl j hj).2 hu] at hq; simp at hq⟩, hl, h1⟩
          have hrel := h.obj (k := k) (o := .frz sz' m get) hkb hgr ⟨harr, fun o ho' => .inr ⟨rfl, ho'⟩, hfr⟩ (fun q o' b hq hne hb' e => h.objs.apart q o' k _ b hq ho hne hb' e) (by simp [AO.keys]) (fun b hb' => h.mine k _ b ho hb')
          exact ⟨c', rfl, hrel, ⟨key c' sz' m get rfl rfl harr (fun o ho' => .inr ⟨rfl, ho'⟩) hb1 hb2, by simp [AV.keys], rfl⟩, fun q hq => live_aput hq, hext⟩
      | frz sz' m get =>
        simp only [ho, guardO] at he
        cases hb : (Nat.beq sz sz' && Nat.ble (off + n) m) with
        | false => simp [hb] at he
        | true =>
          simp [hb] at he
          obtain ⟨rfl, rfl⟩ := he
          simp only [Bool.and_eq_true] at hb
          have hb1 := beqT hb.1
          have hb2 := Nat.le_of_ble_eq_true hb.2
          exact ⟨c, rfl, h, ⟨key c sz' m get rfl rfl hob.1 hob.2.1 hb1 hb2, by simp [AV.keys], rfl⟩, fun q hq => hq, Ext.refl _ _⟩
      | _ => simp [ho] at he
  | gsl k sz n =>
    simp only [freezeA] at he
    have hrep := hs.rep
    cases ho : alook s.objs k with
    | none => simp [ho] at he
    | some ob =>
      have hob := h.objs.rep k ob ho
      cases ob with
      | grw sz' m get =>
        simp only [ho, guardO] at he
        cases hb : (Nat.beq sz sz' && Nat.beq n m) with
        | false => simp [hb] at he
        | true =>
          simp only [hb, cond_true, Option.some.injEq, Prod.mk.injEq] at he
          obtain ⟨rfl, rfl⟩ := he
          simp only [Bool.and_eq_true] at hb
          have hb1 := beqT hb.1
          have hb2 := beqT hb.2
          subst hb1 hb2
          obtain ⟨hsz0, hfr, hm⟩ := hob
          have hX : x = slOf (c.κ k) n := by
            have hown : OwnRep c (.key k) n x := by
              cases hrep with
              | gslNil _ _ hq => exact hq
              | gsl _ _ _ ad cap hn hq => exact hq
            obtain ⟨q, f1, f2, f3⟩ := hown
            rw [hfr] at f1
            exact f3 (Option.some.inj f1)
          have hex0 : ∀ b, excl c k (.own sz n) = some b → excl c k (.grw sz n get) = some b := by
            intro b hb'
            simp only [excl] at hb' ⊢
            cases hκ : c.κ k with
            | none => rw [hκ] at hb'; simp at hb'
            | some p =>
              obtain ⟨ad, cap⟩ := p
              rw [hκ] at hb'
              simp only at hb' ⊢
              split at hb'
              · rw [if_pos (by omega)]; exact hb'
              · simp at hb'
          have fin : ∀ c' : Cx, c'.w = c.w → c'.β = c.β → c'.κ = c.κ → c'.fr = c.fr → KeepsBut c c' s.objs k → Grow B c c' → ObjRep c' k (.own sz n) → Rep c' (.sl .no sz n get) x →
              ∃ c', c'.w = c.w ∧ Rel B c' { s with objs := aput s.objs k (.own sz n) } a ∧ Sees B c' { s with objs := aput s.objs k (.own sz n) } (.sl .no sz n get) x ∧ (∀ q, live s.objs q → live (aput s.objs k (.own sz n)) q) ∧ Ext c c' (live s.objs) := by
            intro c' hw hβ hκ hf hkb hgr hor hrx
            have hsame : excl c' k (.own sz n) = excl c k (.own sz n) := excl_same (by rw [hβ]) (by rw [hκ])
            refine ⟨c', hw, h.obj (k := k) (o := .own sz n) hkb hgr hor (fun q o' b hq hne hb' e => ?_) (by simp [AO.keys]) (fun b hb' => ?_), ⟨hrx, by simp [AV.keys], rfl⟩, fun q hq => live_aput hq, hkb.ext⟩
            · rw [hsame] at e
              exact h.objs.apart q o' k _ b hq ho hne hb' (hex0 b e)
            · rw [hsame] at hb'
              exact h.mine k _ b ho (hex0 b hb')
          cases hκ : c.κ k with
          | none =>
            simp only [hκ] at hm
            subst hm
            rw [hκ] at hX
            have hX : x = .slice none 0 0 := hX
            subst hX
            refine fin c rfl rfl rfl rfl ((Keeps.refl c s.objs).but k) (Grow.refl h.good) ⟨hsz0, hfr, by rw [hκ]⟩ (.slNil _ _ _ trivial)
          | some p =>
            obtain ⟨ad, cap⟩ := p
            simp only [hκ] at hm
            obtain ⟨hle, hG⟩ := hm
            rw [hκ] at hX
            have hX : x = .slice (some ad) n cap := hX
            subst hX
            by_cases hc0 : 0 < cap
            · obtain ⟨⟨vs, t', hh, hvs, hr⟩, had, hl, h1, hI⟩ := hG hc0
              have hexg : excl c k (.grw sz n get) = some ad.block := by simp only [excl, hκ]; rw [if_pos hc0]
              have hext : Ext c (c.froze ad.block (n * sz)) (live s.objs) := ⟨fun _ _ _ _ hv => hv, fun _ _ hi => .inl hi, fun _ _ => rfl, fun _ _ _ _ hv => hv⟩
              have hkb : KeepsBut c (c.froze ad.block (n * sz)) s.objs k := ⟨hext, fun _ _ _ => rfl, fun _ _ _ => rfl, fun _ _ _ => rfl, fun q o' b hq hne hb' => ⟨rfl, fun off' hi => by
                rcases hi with hi | ⟨rfl, _⟩
                · exact hi
                · exact (h.objs.apart q o' k _ _ hq ho hne hb' hexg).elim⟩⟩
              have hnle : n * sz ≤ vs.size := by rw [hvs]; exact Nat.mul_le_mul_right _ hle
              have hgr : Grow B c (c.froze ad.block (n * sz)) := ⟨rfl, rfl, rfl, Nat.le_refl _, fun _ _ _ => rfl, fun b o hb' hd hi => by
                rcases hi with hi | ⟨rfl, _⟩
                · exact hi
                · rcases h.mine k _ _ ho hexg with h' | h'
                  · omega
                  · exact absurd h' hd, fun b o hi => by
                rcases hi with hi | ⟨rfl, hlt⟩
                · exact h.good.there b o hi
                · exact ⟨vs[o]'(by omega), by show c.w.cell? _ = _; rw [cell?_cells hh]; simp⟩⟩
              refine fin (c.froze ad.block (n * sz)) rfl rfl rfl rfl hkb hgr ⟨hsz0, hfr, ?_⟩ ?_
              · show (match c.κ k with | none => n = 0 | some (a, cap) => (0 < cap → a.spot = none) ∧ n ≤ cap ∧ (n < cap → RoomAt (c.froze ad.block (n * sz)) a sz n cap))
                rw [hκ]
                refine ⟨fun _ => had.2, hle, fun _ => ⟨⟨vs, t', hh, hvs⟩, had.1, fun o ho' hi => ?_⟩⟩
                rcases hi with hi | ⟨_, hlt⟩
                · exact hI _ hi
                · omega
              · refine .sl _ _ _ _ ad cap (fun j i => vs.getD (j * sz + i) undef) (fun _ => had.2) hle trivial hl (fun j i u hj hu => ?_) (fun j i u hj hu => (hr j i u hj hu).ext hext fun q hq => by rw [keys_nil_of (hl j hj).2 hu] at hq; simp at hq)
                have hi : i < sz := by rw [← (hl j hj).1]; exact (List.getElem?_eq_some_iff.1 hu).1
                have hlt := row_off_lt hj hi
                have hoff := had.1
                refine ⟨h1 j i u hj hu, ?_, .inr ⟨rfl, by omega⟩⟩
                show c.w.cell? _ = _
                rw [hoff, Nat.zero_add, cell?_cells hh]
                have : j * sz + i < vs.size := by omega
                simp [Array.getD_eq_getD_getElem?, this]
            · have hn0 : n = 0 := by omega
              subst hn0
              have hcz : cap = 0 := by omega
              subst hcz
              refine fin c rfl rfl rfl rfl ((Keeps.refl c s.objs).but k) (Grow.refl h.good) ⟨hsz0, hfr, by rw [hκ]; exact ⟨fun h0 => absurd h0 (by omega), Nat.le_refl _, fun h0 => absurd h0 (by omega)⟩⟩ (.sl _ _ _ _ ad 0 (fun _ _ => undef) (fun h0 => absurd h0 (by omega)) (Nat.le_refl _) trivial (fun j hj => by omega) (fun j i u hj => by omega) (fun j i u hj => by omega))
      | _ => simp [ho] at he
  | _ => simp [freezeA] at he; obtain ⟨rfl, rfl⟩ := he; exact ⟨c, rfl, h, hs, fun _ h => h, Ext.refl _ _⟩
theorem Sees.move {c c' : Cx} {s s' : St} {v : AV} {x : Value} (h : Sees B c s v x) (hl : ∀ k, Go.Ab.live s.objs k → Go.Ab.live s'.objs k) (he : Ext c c' (Go.Ab.live s.objs)) : Sees B c' s' v x :=
  ⟨h.rep.ext he h.live, fun k hk => hl k (h.live k hk), h.plain⟩
abbrev St.with (s : St) (objs : List (Nat × AO)) : St := { s with objs := objs }
theorem freezeL_sound : ∀ {l l' : List AV} {xs : List Value} {c : Cx} {s : St} {objs' : List (Nat × AO)}, Rel B c s a → SeesL B c s l xs → freezeL s.objs l = some (l', objs') →
    ∃ c', c'.w = c.w ∧ Rel B c' (s.with objs') a ∧ SeesL B c' (s.with objs') l' xs ∧ (∀ k, live s.objs k → live objs' k) ∧ Ext c c' (live s.objs)
  | [], l', xs, c, s, objs', h, hs, he => by
    simp [freezeL] at he; obtain ⟨rfl, rfl⟩ := he
    exact ⟨c, rfl, h, hs, fun _ h => h, Ext.refl _ _⟩
  | v :: r, l', xs, c, s, objs', h, hs, he => by
    simp only [freezeL] at he
    cases h1 : freezeA s.objs v with
    | none => simp [h1] at he
    | some p =>
      obtain ⟨v', o1⟩ := p
      cases h2 : freezeL o1 r with
      | none => simp [h1, h2] at he
      | some q =>
        obtain ⟨r', o2⟩ := q
        simp [h1, h2] at he
        obtain ⟨rfl, rfl⟩ := he
        obtain ⟨x, rs, rfl, hx, hr⟩ := hs.cons_inv
        obtain ⟨c1, e1, e2, e3, e4, e5⟩ := freezeA_sound h hx h1
        have hr1 : SeesL B c1 (s.with o1) r rs := ⟨hr.1, fun i u hu => (hr.2 i u hu).move e4 e5⟩
        obtain ⟨c2, f1, f2, f3, f4, f5⟩ := freezeL_sound e2 hr1 h2
        refine ⟨c2, f1.trans e1, f2, ⟨by simp [f3.1], fun i u hu => ?_⟩, fun k hk => f4 k (e4 k hk), e5.trans (f5.sub e4)⟩
        cases i with
        | zero => simp at hu; subst hu; simpa using e3.move f4 f5
        | succ i => simpa using f3.2 i u (by simpa using hu)
theorem freezeA_one {objs objs' : List (Nat × AO)} {v v' : AV} (h : freezeA objs v = some (v', objs')) : v'.one = v.one := by
  cases v with
  | msl k sz off n =>
    simp only [freezeA] at h
    cases ho : alook objs k with
    | none => simp [ho] at h
    | some ob =>
      cases ob with
      | arr sz' m get =>
        cases hb : (Nat.beq sz sz' && Nat.ble (off + n) m) with
        | false => simp [ho, hb, guardO] at h
        | true => simp [ho, hb, guardO] at h; rw [← h.1]; rfl
      | frz sz' m get =>
        cases hb : (Nat.beq sz sz' && Nat.ble (off + n) m) with
        | false => simp [ho, hb, guardO] at h
        | true => simp [ho, hb, guardO] at h; rw [← h.1]; rfl
      | _ => simp [ho] at h
  | gsl k sz n =>
    simp only [freezeA] at h
    cases ho : alook objs k with
    | none => simp [ho] at h
    | some ob =>
      cases ob with
      | grw sz' m get =>
        cases hb : (Nat.beq sz sz' && Nat.beq n m) with
        | false => simp [ho, hb, guardO] at h
        | true => simp [ho, hb, guardO] at h; rw [← h.1]; rfl
      | _ => simp [ho] at h
  | _ => simp [freezeA] at h; rw [← h.1]
theorem freezeL_ones : ∀ {l l' : List AV} {objs objs' : List (Nat × AO)}, freezeL objs l = some (l', objs') → ∀ (i : Nat) (u' : AV), l'[i]? = some u' → ∃ u, l[i]? = some u ∧ u'.one = u.one
  | [], l', objs, objs', h, i, u', hu => by simp [freezeL] at h; obtain ⟨rfl, _⟩ := h; simp at hu
  | v :: r, l', objs, objs', h, i, u', hu => by
    simp only [freezeL] at h
    cases h1 : freezeA objs v with
    | none => simp [h1] at h
    | some p =>
      obtain ⟨v', o1⟩ := p
      cases h2 : freezeL o1 r with
      | none => simp [h1, h2] at h
      | some q =>
        obtain ⟨r', o2⟩ := q
        simp [h1, h2] at h
        obtain ⟨rfl, rfl⟩ := h
        cases i with
        | zero => simp at hu; subst hu; exact ⟨v, rfl, freezeA_one h1⟩
        | succ i => simpa using freezeL_ones h2 i u' (by simpa using hu)
theorem freezeV_sound (h : Rel B c s a) {v v' : AV} {x : Value} {objs' : List (Nat × AO)} (hs : Sees B c s v x) (he : freezeV s.objs v = some (v', objs')) :
    ∃ c', c'.w = c.w ∧ Rel B c' (s.with objs') a ∧ Sees B c' (s.with objs') v' x ∧ (∀ k, live s.objs k → live objs' k) ∧ Ext c c' (live s.objs) := by
  cases v with
  | agg cs =>
    simp only [freezeV] at he
    cases h1 : freezeL s.objs cs with
    | none => simp [h1] at he
    | some p =>
      obtain ⟨cs', o1⟩ := p
      simp [h1] at he
      obtain ⟨rfl, rfl⟩ := he
      obtain ⟨hr, hl, hp⟩ := hs
      cases hr with
      | agg _ vs e1 e2 e3 =>
        have hL : SeesL B c s cs vs.toList := ⟨by simpa using e1, fun i u hu => ⟨by
          have := e3 i u hu
          simpa [Array.getD_eq_getD_getElem?, List.getD_eq_getElem?_getD] using this, fun k hk => hl k (by simpa [AV.keys] using keys_mem_of hu k hk), (e3 i u hu).plain⟩⟩
        obtain ⟨c', f1, f2, f3, f4, f5⟩ := freezeL_sound h hL h1
        have hfn := f3.fn
        refine ⟨c', f1, f2, ⟨.agg _ _ (by simpa using hfn.1) (fun i u hu => ?_) (fun i u hu => by simpa using hfn.2.1 i u hu), by simpa [AV.keys] using hfn.2.2, rfl⟩, f4, f5⟩
        obtain ⟨u0, g1, g2⟩ := freezeL_ones h1 i u hu
        rw [g2]; exact e2 i u0 g1
  | _ => exact freezeA_sound h hs he
theorem freezeVs_sound : ∀ {l l' : List AV} {xs : List Value} {c : Cx} {s : St} {objs' : List (Nat × AO)}, Rel B c s a → SeesL B c s l xs → freezeVs s.objs l = some (l', objs') →
    ∃ c', c'.w = c.w ∧ Rel B c' (s.with objs') a ∧ SeesL B c' (s.with objs') l' xs ∧ (∀ k, live s.objs k → live objs' k) ∧ Ext c c' (live s.objs)
  | [], l', xs, c, s, objs', h, hs, he => by
    simp [freezeVs] at he; obtain ⟨rfl, rfl⟩ := he
    exact ⟨c, rfl, h, hs, fun _ h => h, Ext.refl _ _⟩
  | v :: r, l', xs, c, s, objs', h, hs, he => by
    simp only [freezeVs] at he
    cases h1 : freezeV s.objs v with
    | none => simp [h1] at he
    | some p =>
      obtain ⟨v', o1⟩ := p
      cases h2 : freezeVs o1 r with
      | none => simp [h1, h2] at he
      | some q =>
        obtain ⟨r', o2⟩ := q
        simp [h1, h2] at he
        obtain ⟨rfl, rfl⟩ := he
        obtain ⟨x, rs, rfl, hx, hr⟩ := hs.cons_inv
        obtain ⟨c1, e1, e2, e3, e4, e5⟩ := freezeV_sound h hx h1
        have hr1 : SeesL B c1 (s.with o1) r rs := ⟨hr.1, fun i u hu => (hr.2 i u hu).move e4 e5⟩
        obtain ⟨c2, f1, f2, f3, f4, f5⟩ := freezeVs_sound e2 hr1 h2
        refine ⟨c2, f1.trans e1, f2, ⟨by simp [f3.1], fun i u hu => ?_⟩, fun k hk => f4 k (e4 k hk), e5.trans (f5.sub e4)⟩
        cases i with
        | zero => simp at hu; subst hu; simpa using e3.move f4 f5
        | succ i => simpa using f3.2 i u (by simpa using hu)
theorem SeesL.shed : ∀ {l : List AV} {xs : List Value}, SeesL B c s l xs → SeesL B c s (shedL l) xs := by
  intro l xs h
  refine ⟨by rw [shedL_length]; exact h.1, fun i u hu => ?_⟩
  rw [shedL_get] at hu
  cases hi : l[i]? with
  | none => simp [hi] at hu
  | some u' => simp [hi] at hu; subst hu; exact (h.2 i u' hi).shed
theorem any_beq {l : List Nat} {k : Nat} : l.any (Nat.beq k) = true ↔ k ∈ l := by
  rw [List.any_eq_true]
  exact ⟨fun ⟨x, h1, h2⟩ => beqT h2 ▸ h1, fun h => ⟨k, h, Nat.beq_refl k⟩⟩
theorem addKeys_spec : ∀ (l acc : List Nat), acc.Nodup → (addKeys acc l).Nodup ∧ ∀ k, k ∈ addKeys acc l ↔ k ∈ acc ∨ k ∈ l
  | [], acc, h => ⟨h, by simp [addKeys]⟩
  | k :: r, acc, h => by
    simp only [addKeys]
    cases hb : acc.any (Nat.beq k) with
    | true =>
      obtain ⟨h1, h2⟩ := addKeys_spec r acc h
      refine ⟨h1, fun q => ?_⟩
      have := any_beq.1 hb
      simp only [cond_true, h2 q, List.mem_cons]
      constructor
      · rintro (h | h)
        · exact .inl h
        · exact .inr (.inr h)
      · rintro (h | rfl | h)
        · exact .inl h
        · exact .inl this
        · exact .inr h
    | false =>
      have hk : k ∉ acc := fun hm => by rw [any_beq.2 hm] at hb; simp at hb
      obtain ⟨h1, h2⟩ := addKeys_spec r (acc ++ [k]) (by
        rw [List.nodup_append]
        exact ⟨h, by simp, fun x hx y hy => by simp at hy; subst hy; rintro rfl; exact hk hx⟩)
      refine ⟨h1, fun q => ?_⟩
      simp only [cond_false, h2 q, List.mem_append, List.mem_cons, List.not_mem_nil, or_false, or_assoc]
theorem reachK_spec (objs : List (Nat × AO)) (l : List Nat) : (reachK objs l).Nodup ∧ ∀ k ∈ l, k ∈ reachK objs l := by
  unfold reachK
  obtain ⟨a1, a2⟩ := addKeys_spec l [] List.nodup_nil
  obtain ⟨b1, b2⟩ := addKeys_spec (objKeys objs (addKeys [] l)) (addKeys [] l) a1
  obtain ⟨c1, c2⟩ := addKeys_spec (objKeys objs (addKeys (addKeys [] l) (objKeys objs (addKeys [] l)))) _ b1
  exact ⟨c1, fun k hk => (c2 k).2 (.inl ((b2 k).2 (.inl ((a2 k).2 (.inr hk)))))⟩
theorem subK_spec : ∀ {l m : List Nat}, subK l m = true → ∀ k ∈ l, k ∈ m
  | [], m, _ => by simp
  | k :: r, m, h => by
    simp only [subK, Bool.and_eq_true] at h
    intro q hq
    rcases List.mem_cons.1 hq with rfl | hq
    · exact any_beq.1 h.1
    · exact subK_spec h.2 q hq
theorem getObjs_spec : ∀ {objs : List (Nat × AO)} {ks : List Nat} {os : List AO}, getObjs objs ks = some os → os.length = ks.length ∧ ∀ (i : Nat) (k : Nat), ks[i]? = some k → alook objs k = os[i]? ∧ live objs k
  | objs, [], os, h => by simp [getObjs] at h; subst h; simp
  | objs, k :: r, os, h => by
    simp only [getObjs] at h
    cases ho : alook objs k with
    | none => simp [ho] at h
    | some o =>
      cases hr : getObjs objs r with
      | none => simp [ho, hr] at h
      | some l =>
        simp [ho, hr] at h; subst h
        obtain ⟨h1, h2⟩ := getObjs_spec hr
        refine ⟨by simp [h1], fun i q hq => ?_⟩
        cases i with
        | zero => simp at hq; subst hq; exact ⟨by simp [ho], o, ho⟩
        | succ i => simpa using h2 i q (by simpa using hq)
theorem objKeys_mem {objs : List (Nat × AO)} : ∀ {ks : List Nat} {k : Nat} {o : AO}, k ∈ ks → alook objs k = some o → ∀ q ∈ o.keys, q ∈ objKeys objs ks
  | [], k, o, hk, _ => by simp at hk
  | q :: r, k, o, hk, ho => by
    intro x hx
    simp only [objKeys, List.mem_append]
    rcases List.mem_cons.1 hk with rfl | hk
    · left; simp [ho, hx]
    · right; exact objKeys_mem hk ho x hx
theorem idxOf_spec : ∀ {ks : List Nat} {k : Nat} (d : Nat), k ∈ ks → ks[idxOf ks k d]? = some k
  | [], k, d, h => by simp at h
  | q :: r, k, d, h => by
    simp only [idxOf]
    by_cases e : q = k
    · subst e; simp
    · rw [beqF e, cond_false]
      simp only [List.getElem?_cons_succ]
      exact idxOf_spec d (by rcases List.mem_cons.1 h with rfl | h; exact absurd rfl e; exact h)
theorem nthD_spec : ∀ {ks : List Nat} {i k : Nat}, ks[i]? = some k → nthD ks i = k
  | [], i, k, h => by simp at h
  | q :: r, 0, k, h => by simp at h; subst h; rfl
  | q :: r, i + 1, k, h => by simpa [nthD] using nthD_spec (ks := r) (by simpa using h)
theorem alook_putObjs : ∀ {ks : List Nat} {l : List AO} {objs : List (Nat × AO)}, ks.Nodup → l.length = ks.length → ∀ k, alook (putObjs objs ks l) k = if k ∈ ks then l[idxOf ks k 0]? else alook objs k
  | [], l, objs, _, _, k => by
    cases l <;> simp [putObjs]
  | q :: r, [], objs, _, hl, k => by simp at hl
  | q :: r, o :: l, objs, hn, hl, k => by
    obtain ⟨hq, hn⟩ := List.nodup_cons.1 hn
    simp only [putObjs]
    rw [alook_putObjs hn (by simpa using hl) k, alook_aput]
    simp only [idxOf]
    by_cases e : q = k
    · subst e
      rw [if_neg hq]; simp
    · rw [beqF e]
      by_cases hk : k ∈ r
      · rw [if_pos hk, if_pos (List.mem_cons_of_mem _ hk)]; simp
      · rw [if_neg hk, if_neg e, if_neg (by simp [hk]; exact fun h => e h.symm)]
end Go.Ab

namespace Go.Ab
open Go Go.RowKit
variable {P : Program} {B : Base} {c : Cx} {s : St} {a : Act}
theorem AO.ren_keys (m : Nat → Nat) (o : AO) : ∀ k ∈ (o.ren m).keys, ∃ q ∈ o.keys, k = m q := by
  cases o with
  | cells cs => simp only [AO.ren, AO.keys]; exact renL_keys m cs
  | _ => simp [AO.ren, AO.keys]
theorem ObjRep.ren {c c' : Cx} {m : Nat → Nat} {k k' : Nat} {o : AO} (h : ObjRep c k o) (hw : c'.w = c.w) (hI : c'.I = c.I) (hβ : c'.β k' = c.β k) (hκ : c'.κ k' = c.κ k) (hf : c'.fr k' = c.fr k)
    (hk : ∀ q ∈ o.keys, c'.β (m q) = c.β q ∧ ∀ n y, OwnRep c (.key q) n y → OwnRep c' (.key (m q)) n y) : ObjRep c' k' (o.ren m) := by
  have hren : ∀ {v : AV} {x : Value}, Rep c v x → (∀ q ∈ v.keys, c'.β (m q) = c.β q ∧ ∀ n y, OwnRep c (.key q) n y → OwnRep c' (.key (m q)) n y) → Rep c' (v.ren m) x :=
    fun hr hk => hr.ren (fun b o v _ hv => by rw [hw]; exact hv) (fun b o hi => by rw [hI]; exact hi) hk
  have hext : Ext c c' (fun _ => False) := ⟨fun b o v _ hv => by rw [hw]; exact hv, fun b o hi => by rw [hI]; exact hi, fun _ h => h.elim, fun _ h => h.elim⟩
  have harr : ∀ {sz n : Nat} {get : Nat → List AV}, ArrAt c (c.β k) sz n get → ArrAt c' (c'.β k') sz n get := by
    rintro sz n get ⟨⟨vs, t, hh, hs, hv⟩, hl, h1⟩
    exact ⟨⟨vs, t, by rw [hw, hβ]; exact hh, hs, fun j i u hj hu => (hv j i u hj hu).ext hext fun q hq => by rw [keys_nil_of (hl j hj).2 hu] at hq; simp at hq⟩, hl, h1⟩
  cases o with
  | cells cs =>
    obtain ⟨⟨⟨vs, t, hh, hs, hv⟩, h1⟩, hI', hfr⟩ := h
    refine ⟨⟨⟨vs, t, by rw [hw, hβ]; exact hh, by rw [hs, renL_length], fun i u hu => ?_⟩, fun i u hu => ?_⟩, by rw [hI, hβ]; exact hI', hf.trans hfr⟩
    · rw [renL_get] at hu
      cases hi : cs[i]? with
      | none => simp [hi] at hu
      | some u' => simp [hi] at hu; subst hu; exact hren (hv i u' hi) fun q hq => hk q (by simpa [AO.keys] using keys_mem_of hi q hq)
    · rw [renL_get] at hu
      cases hi : cs[i]? with
      | none => simp [hi] at hu
      | some u' => simp [hi] at hu; subst hu; rw [ren_one]; exact h1 i u' hi
  | arr sz n get => exact ⟨harr h.1, by rw [hI, hβ]; exact h.2.1, hf.trans h.2.2⟩
  | frz sz n get => exact ⟨harr h.1, by rw [hI, hβ]; exact h.2.1, hf.trans h.2.2⟩
  | own sz n =>
    obtain ⟨h0, hfr, hm⟩ := h
    refine ⟨h0, hf.trans hfr, ?_⟩
    simp only [hκ]
    cases hc : c.κ k with
    | none => simpa [hc] using hm
    | some p =>
      obtain ⟨ad, cap⟩ := p
      simp only [hc] at hm ⊢
      obtain ⟨h1, h2, h3⟩ := hm
      refine ⟨h1, h2, fun hlt => ?_⟩
      obtain ⟨⟨vs, t, hh, hs⟩, hoff, hfree⟩ := h3 hlt
      exact ⟨⟨vs, t, by rw [hw]; exact hh, hs⟩, hoff, by rw [hI]; exact hfree⟩
  | grw sz n get =>
    obtain ⟨h0, hfr, hm⟩ := h
    refine ⟨h0, hf.trans hfr, ?_⟩
    simp only [hκ]
    cases hc : c.κ k with
    | none => simpa [hc] using hm
    | some p =>
      obtain ⟨ad, cap⟩ := p
      simp only [hc] at hm ⊢
      obtain ⟨h2, h3⟩ := hm
      refine ⟨h2, fun hlt => ?_⟩
      obtain ⟨⟨vs, t, hh, hs, hv⟩, had, hl, h1, hfree⟩ := h3 hlt
      exact ⟨⟨vs, t, by rw [hw]; exact hh, hs, fun j i u hj hu => (hv j i u hj hu).ext hext fun q hq => by rw [keys_nil_of (hl j hj).2 hu] at hq; simp at hq⟩, had, hl, h1, by rw [hI]; exact hfree⟩
  | iter l p => exact ⟨by rw [hw, hβ]; exact h.1, by rw [hI, hβ]; exact h.2.1, hf.trans h.2.2⟩
theorem excl_ren {c c' : Cx} {m : Nat → Nat} {k k' : Nat} {o : AO} (hβ : c'.β k' = c.β k) (hκ : c'.κ k' = c.κ k) : excl c' k' (o.ren m) = excl c k o := by
  cases o <;> simp [AO.ren, excl, hβ, hκ]
theorem Objs.rep_keep' {c c' : Cx} {objs : List (Nat × AO)} (h : Objs c objs) {q : Nat} {o : AO} (hext : Ext c c' (live objs)) (hq : alook objs q = some o)
    (hβ : c'.β q = c.β q) (hκ : c'.κ q = c.κ q) (hf : c'.fr q = c.fr q) (heap : ∀ b, excl c q o = some b → c'.w.heap[b]? = c.w.heap[b]? ∧ ∀ off, c'.I b off → c.I b off) : ObjRep c' q o := by
  have hr := h.rep q o hq
  cases o with
  | cells cs =>
    obtain ⟨⟨⟨vs, t, hh, hs, hv⟩, h1⟩, hI, hfr⟩ := hr
    have hh' := heap (c.β q) rfl
    refine ⟨⟨⟨vs, t, ?_, hs, fun i u hu => (hv i u hu).ext hext fun r hr => h.closed q _ hq r (by simpa [AO.keys] using keys_mem_of hu r hr)⟩, h1⟩, ?_, hf.trans hfr⟩
    · rw [hβ, hh'.1]; exact hh
    · intro o ho; rw [hβ] at ho; exact hI o (hh'.2 o ho)
  | arr sz n get =>
    obtain ⟨⟨⟨vs, t, hh, hs, hv⟩, hl', h1⟩, hI, hfr⟩ := hr
    have hh' := heap (c.β q) rfl
    refine ⟨⟨⟨vs, t, ?_, hs, fun j i u hj hu => (hv j i u hj hu).ext hext fun r hr => ?_⟩, hl', h1⟩, ?_, hf.trans hfr⟩
    · rw [hβ, hh'.1]; exact hh
    · rw [keys_nil_of (hl' j hj).2 hu] at hr; simp at hr
    · intro o ho; rw [hβ] at ho; exact hI o (hh'.2 o ho)
  | frz sz n get =>
    obtain ⟨⟨⟨vs, t, hh, hs, hv⟩, hl', h1⟩, hI, hfr⟩ := hr
    have hh' := heap (c.β q) rfl
    refine ⟨⟨⟨vs, t, ?_, hs, fun j i u hj hu => (hv j i u hj hu).ext hext fun r hr => ?_⟩, hl', h1⟩, ?_, hf.trans hfr⟩
    · rw [hβ, hh'.1]; exact hh
    · rw [keys_nil_of (hl' j hj).2 hu] at hr; simp at hr
    · intro o ho; rw [hβ]; exact hext.I _ _ (hI o ho)
  | own sz n =>
    obtain ⟨h0, hfr, hm⟩ := hr
    refine ⟨h0, hf.trans hfr, ?_⟩
    rw [hκ]
    cases hc : c.κ q with
    | none => simpa [hc] using hm
    | some p =>
      obtain ⟨ad, cap⟩ := p
      simp only [hc] at hm ⊢
      obtain ⟨h1, h2, h3⟩ := hm
      refine ⟨h1, h2, fun hlt => ?_⟩
      obtain ⟨⟨vs, t, hh, hs⟩, hoff, hfree⟩ := h3 hlt
      have hh' := heap ad.block (by simp [excl, hc, hlt])
      exact ⟨⟨vs, t, hh'.1.trans hh, hs⟩, hoff, fun o ho hi => hfree o ho (hh'.2 o hi)⟩
  | grw sz n get =>
    obtain ⟨h0, hfr, hm⟩ := hr
    refine ⟨h0, hf.trans hfr, ?_⟩
    rw [hκ]
    cases hc : c.κ q with
    | none => simpa [hc] using hm
    | some p =>
      obtain ⟨a, cap⟩ := p
      simp only [hc] at hm ⊢
      obtain ⟨h2, h3⟩ := hm
      refine ⟨h2, fun hlt => ?_⟩
      obtain ⟨⟨vs, t, hh, hs, hv⟩, had, hl', h1, hfree⟩ := h3 hlt
      have hh' := heap a.block (by simp [excl, hc, hlt])
      exact ⟨⟨vs, t, hh'.1.trans hh, hs, fun j i u hj hu => (hv j i u hj hu).ext hext fun r hr => by rw [keys_nil_of (hl' j hj).2 hu] at hr; simp at hr⟩, had, hl', h1, fun o hi => hfree o (hh'.2 o hi)⟩
  | iter s p =>
    obtain ⟨hh, hI, hfr⟩ := hr
    have hh' := heap (c.β q) rfl
    exact ⟨by rw [hβ, hh'.1]; exact hh, fun o ho => by rw [hβ] at ho; exact hI o (hh'.2 o ho), hf.trans hfr⟩
theorem idx_eq {ks : List Nat} (hn : ks.Nodup) {i k : Nat} (h : ks[i]? = some k) (d : Nat) : idxOf ks k d = i := by
  have h2 := idxOf_spec (ks := ks) d (List.mem_of_getElem? h)
  have hi := (List.getElem?_eq_some_iff.1 h).1
  have hj := (List.getElem?_eq_some_iff.1 h2).1
  exact (List.getElem?_inj hj hn).1 (h2.trans h.symm)
theorem call_core (h : Rel B c s a) {f : FuncId} {ks : List Nat} (hn : ks.Nodup) {os os' : List AO} (hos : getObjs s.objs ks = some os) (hcl : ∀ q ∈ objKeys s.objs ks, q ∈ ks)
    {l : List AV} {xs : List Value} (hl : SeesL B c s l xs) (hlk : ∀ q ∈ keysL l, q ∈ ks) {r : AV}
    (hok : CallOk P B.G f (renL (fun k => keyBase + idxOf ks k 0) l) (os.map (AO.ren fun k => keyBase + idxOf ks k 0)) r os') (hlen : os'.length = ks.length) :
    Calls P f xs.toArray c.w fun e w' => ∃ c2 x, e = .returned x ∧ c2.w = w' ∧ Rel B c2 (s.with (putObjs s.objs ks (os'.map (AO.ren fun k => nthD ks (k - keyBase))))) a ∧
      Sees B c2 (s.with (putObjs s.objs ks (os'.map (AO.ren fun k => nthD ks (k - keyBase))))) (r.ren fun k => nthD ks (k - keyBase)) x := by
  obtain ⟨hol, hoo⟩ := getObjs_spec hos
  let fwd := fun k => keyBase + idxOf ks k 0
  let bwd := fun k => nthD ks (k - keyBase)
  have hfb : ∀ k ∈ ks, bwd (fwd k) = k := fun k hk => by
    show nthD ks (keyBase + idxOf ks k 0 - keyBase) = k
    rw [Nat.add_sub_cancel_left]; exact nthD_spec (idxOf_spec 0 hk)
  have hbf : ∀ i k, ks[i]? = some k → bwd (keyBase + i) = k ∧ fwd k = keyBase + i := fun i k hk =>
    ⟨by show nthD ks (keyBase + i - keyBase) = k; rw [Nat.add_sub_cancel_left]; exact nthD_spec hk, by show keyBase + idxOf ks k 0 = _; rw [idx_eq hn hk]⟩
  let c0 : Cx := { w := c.w, I := c.I, β := fun q => c.β (bwd q), κ := fun q => c.κ (bwd q), fr := fun q => c.fr (bwd q) }
  have hβ0 : ∀ k ∈ ks, c0.β (fwd k) = c.β k := fun k hk => by show c.β (bwd (fwd k)) = _; rw [hfb k hk]
  have hκ0 : ∀ k ∈ ks, c0.κ (fwd k) = c.κ k := fun k hk => by show c.κ (bwd (fwd k)) = _; rw [hfb k hk]
  have hf0 : ∀ k ∈ ks, c0.fr (fwd k) = c.fr k := fun k hk => by show c.fr (bwd (fwd k)) = _; rw [hfb k hk]
  have hown0 : ∀ k ∈ ks, ∀ n y, OwnRep c (.key k) n y → OwnRep c0 (.key (fwd k)) n y := fun k hk n y => by simp only [OwnRep, hκ0 k hk, hf0 k hk]; exact id
  have hfwd : ∀ k ∈ ks, c0.β (fwd k) = c.β k ∧ ∀ n y, OwnRep c (.key k) n y → OwnRep c0 (.key (fwd k)) n y := fun k hk => ⟨hβ0 k hk, hown0 k hk⟩
  have hlook : ∀ q o, alook (enterObjs (os.map (AO.ren fwd)) keyBase) q = some o → ∃ k o0, k ∈ ks ∧ q = fwd k ∧ alook s.objs k = some o0 ∧ o = o0.ren fwd := by
    intro q o hq
    rw [alook_enter] at hq
    by_cases hb : keyBase ≤ q
    · rw [if_pos hb, List.getElem?_map] at hq
      cases hi : os[q - keyBase]? with
      | none => simp [hi] at hq
      | some o0 =>
        simp [hi] at hq; subst hq
        have hlt := (List.getElem?_eq_some_iff.1 hi).1
        have hk : ks[q - keyBase]? = some (ks[q - keyBase]'(by omega)) := List.getElem?_eq_getElem _
        refine ⟨_, o0, List.mem_of_getElem? hk, ?_, by rw [(hoo _ _ hk).1, hi], rfl⟩
        rw [(hbf _ _ hk).2]; omega
    · rw [if_neg hb] at hq; simp at hq
  have hlook' : ∀ k ∈ ks, ∃ o0, alook s.objs k = some o0 ∧ alook (enterObjs (os.map (AO.ren fwd)) keyBase) (fwd k) = some (o0.ren fwd) := by
    intro k hk
    have hi := idxOf_spec 0 hk
    obtain ⟨h1, o0, h2⟩ := hoo _ _ hi
    refine ⟨o0, h2, ?_⟩
    rw [alook_enter, if_pos (Nat.le_add_right _ _)]
    show (os.map (AO.ren fwd))[keyBase + idxOf ks k 0 - keyBase]? = _
    rw [Nat.add_sub_cancel_left, List.getElem?_map, ← h1, h2]; rfl
  have hO0 : Objs c0 (enterObjs (os.map (AO.ren fwd)) keyBase) := by
    refine ⟨fun q o hq => ?_, fun q o q' o' b hq hq' hne hb => ?_, fun q o hq r hr => ?_⟩
    · obtain ⟨k, o0, hk, rfl, h1, rfl⟩ := hlook q o hq
      exact (h.objs.rep k o0 h1).ren rfl rfl (hβ0 k hk) (hκ0 k hk) (hf0 k hk) fun q hq => hfwd q (hcl q (objKeys_mem hk h1 q hq))
    · obtain ⟨k, o0, hk, rfl, h1, rfl⟩ := hlook q o hq
      obtain ⟨k', o0', hk', rfl, h1', rfl⟩ := hlook q' o' hq'
      rw [excl_ren (hβ0 k hk) (hκ0 k hk)] at hb
      rw [excl_ren (hβ0 k' hk') (hκ0 k' hk')]
      exact h.objs.apart k o0 k' o0' b h1 h1' (fun e => hne (by rw [e])) hb
    · obtain ⟨k, o0, hk, rfl, h1, rfl⟩ := hlook q o hq
      obtain ⟨q', hq', rfl⟩ := AO.ren_keys _ _ r hr
      obtain ⟨_, _, e⟩ := hlook' q' (hcl q' (objKeys_mem hk h1 q' hq'))
      exact ⟨_, e⟩
  have hG0 : Good B.G c0 := ⟨h.good.there, fun g cs hg => (h.good.globs g cs hg).ext (ks := fun _ => False) ⟨fun _ _ _ _ hv => hv, fun _ _ hi => hi, fun _ hk => hk.elim, fun _ hk => hk.elim⟩ (by simp [AV.keys])⟩
  have hcall := hok
  have hfn := hl.fn
  refine (hcall c0 xs.toArray hG0 hO0 (by rw [renL_length]; exact hfn.1) (fun i u hu => ?_) (fun k hk => ?_)).mono ?_
  · rw [renL_get] at hu
    cases hi : l[i]? with
    | none => simp [hi] at hu
    | some u' => simp [hi] at hu; subst hu; exact Rep.ren (c := c) (c' := c0) (m := fwd) (fun _ _ _ _ hv => hv) (fun _ _ hi => hi) (hfn.2.1 i u' hi) fun q hq => hfwd q (hlk q (keys_mem_of hi q hq))
  · obtain ⟨q, hq, rfl⟩ := renL_keys _ _ k hk
    obtain ⟨_, _, e⟩ := hlook' q (hlk q hq)
    exact ⟨_, e⟩
  rintro e w' ⟨c', x, he, hw', hG', hF', hO', hr', hrk, hmine⟩
  have hheld : ∀ b, held c0 (enterObjs (os.map (AO.ren fwd)) keyBase) b → ∃ k o, k ∈ ks ∧ alook s.objs k = some o ∧ excl c k o = some b := by
    rintro b ⟨q, o, hq, hb⟩
    obtain ⟨k, o0, hk, rfl, h1, rfl⟩ := hlook q o hq
    exact ⟨k, o0, hk, h1, by rw [← excl_ren (hβ0 k hk) (hκ0 k hk)]; exact hb⟩
  have hK : ∀ k ∈ ks, live (enterObjs (os.map (AO.ren fwd)) keyBase) (fwd k) := fun k hk => by obtain ⟨_, _, e⟩ := hlook' k hk; exact ⟨_, e⟩
  have hlow : ∀ b, b < B.c0.w.heap.size → ¬ B.D b → b < c0.w.heap.size ∧ ¬ held c0 (enterObjs (os.map (AO.ren fwd)) keyBase) b := by
    intro b hb hd
    refine ⟨Nat.lt_of_lt_of_le hb h.frame.size, fun hh => ?_⟩
    obtain ⟨k, o, _, h1, h2⟩ := hheld b hh
    rcases h.mine k o b h1 h2 with h3 | h3
    · omega
    · exact hd h3
  classical
  let c2 : Cx := { w := c'.w, I := c'.I, β := c.β, κ := fun q => if q ∈ ks then c'.κ (fwd q) else c.κ q, fr := fun q => if q ∈ ks then c'.fr (fwd q) else c.fr q }
  have hκ2 : ∀ k ∈ ks, c2.κ k = c'.κ (fwd k) := fun k hk => if_pos hk
  have hf2 : ∀ k ∈ ks, c2.fr k = c'.fr (fwd k) := fun k hk => if_pos hk
  have hκn : ∀ k, k ∉ ks → c2.κ k = c.κ k := fun k hk => if_neg hk
  have hfn2 : ∀ k, k ∉ ks → c2.fr k = c.fr k := fun k hk => if_neg hk
  have hβ2 : ∀ k ∈ ks, c2.β k = c'.β (fwd k) := fun k hk => by rw [hF'.ext.β (fwd k) (hK k hk)]; exact (hβ0 k hk).symm
  have hown2 : ∀ k ∈ ks, ∀ n y, OwnRep c' (.key (fwd k)) n y → OwnRep c2 (.key k) n y := fun k hk n y => by simp only [OwnRep, hκ2 k hk, hf2 k hk]; exact id
  have hext : ∀ ks' : Nat → Prop, Ext c c2 ks' := fun ks' => by
    refine ⟨hF'.ext.cell, hF'.ext.I, fun _ _ => rfl, fun k _ n y hy => ?_⟩
    by_cases hk : k ∈ ks
    · exact hown2 k hk n y (hF'.ext.own (fwd k) (hK k hk) n y (hown0 k hk n y hy))
    · simp only [OwnRep, hκn k hk, hfn2 k hk]; exact hy
  have hgrow : Grow B c c2 := ⟨hF'.os, hF'.output, hF'.tape, hF'.size, fun b hb hd => hF'.block b (hlow b hb hd).1 (hlow b hb hd).2,
    fun b o hb hd hi => hF'.new b o (hlow b hb hd).1 (hlow b hb hd).2 hi, hG'.there⟩
  have hput : ∀ k, alook (putObjs s.objs ks (os'.map (AO.ren bwd))) k = if k ∈ ks then (os'.map (AO.ren bwd))[idxOf ks k 0]? else alook s.objs k := alook_putObjs hn (by simp [hlen])
  have hin : ∀ k ∈ ks, ∃ o', alook (enterObjs os' keyBase) (fwd k) = some o' ∧ alook (putObjs s.objs ks (os'.map (AO.ren bwd))) k = some (o'.ren bwd) := by
    intro k hk
    have hi := idxOf_spec 0 hk
    have hlt := (List.getElem?_eq_some_iff.1 hi).1
    have ho : os'[idxOf ks k 0]? = some (os'[idxOf ks k 0]'(by omega)) := List.getElem?_eq_getElem _
    refine ⟨os'[idxOf ks k 0]'(by omega), ?_, ?_⟩
    · rw [alook_enter, if_pos (Nat.le_add_right _ _)]
      show os'[keyBase + idxOf ks k 0 - keyBase]? = _
      rw [Nat.add_sub_cancel_left]; exact ho
    · rw [hput, if_pos hk, List.getElem?_map, ho]; rfl
  have hback : ∀ q, live (enterObjs os' keyBase) q → bwd q ∈ ks ∧ fwd (bwd q) = q := by
    rintro q ⟨o, hq⟩
    rw [alook_enter] at hq
    by_cases hb : keyBase ≤ q
    · rw [if_pos hb] at hq
      have hlt := (List.getElem?_eq_some_iff.1 hq).1
      have hk : ks[q - keyBase]? = some (ks[q - keyBase]'(by omega)) := List.getElem?_eq_getElem _
      have := hbf _ _ hk
      rw [Nat.add_sub_cancel' hb] at this
      rw [this.1]
      exact ⟨List.mem_of_getElem? hk, this.2⟩
    · rw [if_neg hb] at hq; simp at hq
  have hbwd : ∀ q, live (enterObjs os' keyBase) q → c2.β (bwd q) = c'.β q ∧ ∀ n y, OwnRep c' (.key q) n y → OwnRep c2 (.key (bwd q)) n y := by
    intro q hq
    obtain ⟨h1, h2⟩ := hback q hq
    refine ⟨by rw [hβ2 _ h1, h2], fun n y hy => hown2 _ h1 n y (by rw [h2]; exact hy)⟩
  have hlive : ∀ k, live s.objs k → live (putObjs s.objs ks (os'.map (AO.ren bwd))) k := by
    rintro k ⟨o, ho⟩
    by_cases hk : k ∈ ks
    · obtain ⟨_, _, e⟩ := hin k hk; exact ⟨_, e⟩
    · exact ⟨o, by rw [hput, if_neg hk]; exact ho⟩
  have hcases : ∀ k o, alook (putObjs s.objs ks (os'.map (AO.ren bwd))) k = some o → (k ∈ ks ∧ ∃ o', alook (enterObjs os' keyBase) (fwd k) = some o' ∧ o = o'.ren bwd ∧ excl c2 k o = excl c' (fwd k) o') ∨ (k ∉ ks ∧ alook s.objs k = some o ∧ excl c2 k o = excl c k o) := by
    intro k o ho
    by_cases hk : k ∈ ks
    · obtain ⟨o', e1, e2⟩ := hin k hk
      rw [e2] at ho; cases ho
      exact .inl ⟨hk, o', e1, rfl, excl_ren (hβ2 k hk) (hκ2 k hk)⟩
    · rw [hput, if_neg hk] at ho
      exact .inr ⟨hk, ho, excl_same rfl (hκn k hk)⟩
  have hout : ∀ k k' o' o b, k ∈ ks → alook (enterObjs os' keyBase) (fwd k) = some o' → k' ∉ ks → alook s.objs k' = some o → excl c' (fwd k) o' = some b → excl c k' o ≠ some b := by
    intro k k' o' o b hk h1 hk' h2 hb hb'
    rcases hmine _ _ b h1 hb with h3 | h3
    · have := excl_lt (h.objs.rep k' o h2) hb'
      have : c0.w.heap.size = c.w.heap.size := rfl
      omega
    · obtain ⟨k'', o'', h4, h5, h6⟩ := hheld b h3
      exact h.objs.apart k'' o'' k' o b h5 h2 (fun e => hk' (e ▸ h4)) h6 hb'
  have hO2 : Objs c2 (putObjs s.objs ks (os'.map (AO.ren bwd))) := by
    refine ⟨fun k o ho => ?_, fun k o k' o' b ho ho' hne hb => ?_, fun k o ho q hq => ?_⟩
    · rcases hcases k o ho with ⟨hk, o', e1, rfl, _⟩ | ⟨hk, e1, _⟩
      · exact (hO'.rep _ o' e1).ren rfl rfl (hβ2 k hk) (hκ2 k hk) (hf2 k hk) fun q hq => hbwd q (hO'.closed _ o' e1 q hq)
      · refine h.objs.rep_keep' (hext _) e1 rfl (hκn k hk) (hfn2 k hk) fun b hb => ?_
        have hlt := excl_lt (h.objs.rep k o e1) hb
        have hnh : ¬ held c0 (enterObjs (os.map (AO.ren fwd)) keyBase) b := fun hh => by
          obtain ⟨k'', o'', h4, h5, h6⟩ := hheld b hh
          exact h.objs.apart k'' o'' k o b h5 e1 (fun e => hk (e ▸ h4)) h6 hb
        exact ⟨hF'.block b hlt hnh, fun off hi => hF'.new b off hlt hnh hi⟩
    · rcases hcases k o ho with ⟨hk, o1, e1, rfl, e2⟩ | ⟨hk, e1, e2⟩ <;> rcases hcases k' o' ho' with ⟨hk', o1', e1', rfl, e2'⟩ | ⟨hk', e1', e2'⟩
      · rw [e2'] ; rw [e2] at hb
        exact hO'.apart _ _ _ _ b e1 e1' (fun e => hne (by rw [← hfb k hk, e, hfb k' hk'])) hb
      · rw [e2']; rw [e2] at hb
        exact hout k k' o1 o' b hk e1 hk' e1' hb
      · rw [e2']; rw [e2] at hb
        exact fun hb' => hout k' k o1' o b hk' e1' hk e1 hb' hb
      · rw [e2']; rw [e2] at hb
        exact h.objs.apart k o k' o' b e1 e1' hne hb
    · rcases hcases k o ho with ⟨hk, o', e1, rfl, _⟩ | ⟨hk, e1, _⟩
      · obtain ⟨q', hq', rfl⟩ := AO.ren_keys _ _ q hq
        obtain ⟨_, _, e⟩ := hin _ (hback q' (hO'.closed _ o' e1 q' hq')).1
        exact ⟨_, e⟩
      · exact hlive q (h.objs.closed k o e1 q hq)
  refine ⟨c2, x, he, hw', ⟨h.good.grow (hext (live s.objs)) hgrow, h.frame.grow (hext (live s.objs)) hgrow h.kept, hO2, fun t v hv => (h.env t v hv).ext (hext (live s.objs)) (h.closed t v hv),
    fun t v hv k hk => hlive k (h.closed t v hv k hk), fun k o b ho hb => ?_, h.tmps, h.defers, fun k hk => hlive k (h.kept k hk)⟩, ⟨?_, ?_, ?_⟩⟩
  · rcases hcases k o ho with ⟨hk, o', e1, rfl, e2⟩ | ⟨hk, e1, e2⟩
    · rw [e2] at hb
      rcases hmine _ _ b e1 hb with h3 | h3
      · exact .inl (Nat.le_trans h.frame.size h3)
      · obtain ⟨k'', o'', h4, h5, h6⟩ := hheld b h3
        exact h.mine k'' o'' b h5 h6
    · rw [e2] at hb; exact h.mine k o b e1 hb
  · exact Rep.ren (c := c') (c' := c2) (m := bwd) (fun _ _ _ _ hv => hv) (fun _ _ hi => hi) hr' fun q hq => hbwd q (hrk q hq)
  · intro k hk
    obtain ⟨q, hq, rfl⟩ := ren_keys _ _ k hk
    obtain ⟨_, _, e⟩ := hin _ (hback q (hrk q hq)).1
    exact ⟨_, e⟩
  · cases hr' with
    | slNil o => cases o <;> rfl
    | sl o => cases o <;> rfl
    | _ => rfl
end Go.Ab

namespace Go.Ab
open Go Go.RowKit
variable {P : Program} {B : Base} {c : Cx} {s : St} {a : Act}
theorem call_new (h : Rel B c s a) {f : FuncId} {ks : List Nat} (hn : ks.Nodup) {os os' : List AO} (hos : getObjs s.objs ks = some os) (hcl : ∀ q ∈ objKeys s.objs ks, q ∈ ks)
    {l : List AV} {xs : List Value} (hl : SeesL B c s l xs) (hlk : ∀ q ∈ keysL l, q ∈ ks) {r : AV}
    (hok : CallOk P B.G f (renL (fun k => keyBase + idxOf ks k 0) l) (os.map (AO.ren fun k => keyBase + idxOf ks k 0)) r os') (hlen : os'.length = ks.length + 1) {d : Nat} (hd : alook s.objs d = none) :
    Calls P f xs.toArray c.w fun e w' => ∃ c2 x, e = .returned x ∧ c2.w = w' ∧ Rel B c2 (s.with (putObjs s.objs (ks ++ [d]) (os'.map (AO.ren fun k => nthD (ks ++ [d]) (k - keyBase))))) a ∧
      Sees B c2 (s.with (putObjs s.objs (ks ++ [d]) (os'.map (AO.ren fun k => nthD (ks ++ [d]) (k - keyBase))))) (r.ren fun k => nthD (ks ++ [d]) (k - keyBase)) x := by
  obtain ⟨hol, hoo⟩ := getObjs_spec hos
  let fwd := fun k => keyBase + idxOf ks k 0
  let bwd := fun k => nthD ks (k - keyBase)
  have hfb : ∀ k ∈ ks, bwd (fwd k) = k := fun k hk => by
    show nthD ks (keyBase + idxOf ks k 0 - keyBase) = k
    rw [Nat.add_sub_cancel_left]; exact nthD_spec (idxOf_spec 0 hk)
  have hbf : ∀ i k, ks[i]? = some k → bwd (keyBase + i) = k ∧ fwd k = keyBase + i := fun i k hk =>
    ⟨by show nthD ks (keyBase + i - keyBase) = k; rw [Nat.add_sub_cancel_left]; exact nthD_spec hk, by show keyBase + idxOf ks k 0 = _; rw [idx_eq hn hk]⟩
  let c0 : Cx := { w := c.w, I := c.I, β := fun q => c.β (bwd q), κ := fun q => c.κ (bwd q), fr := fun q => c.fr (bwd q) }
  have hβ0 : ∀ k ∈ ks, c0.β (fwd k) = c.β k := fun k hk => by show c.β (bwd (fwd k)) = _; rw [hfb k hk]
  have hκ0 : ∀ k ∈ ks, c0.κ (fwd k) = c.κ k := fun k hk => by show c.κ (bwd (fwd k)) = _; rw [hfb k hk]
  have hf0 : ∀ k ∈ ks, c0.fr (fwd k) = c.fr k := fun k hk => by show c.fr (bwd (fwd k)) = _; rw [hfb k hk]
  have hown0 : ∀ k ∈ ks, ∀ n y, OwnRep c (.key k) n y → OwnRep c0 (.key (fwd k)) n y := fun k hk n y => by simp only [OwnRep, hκ0 k hk, hf0 k hk]; exact id
  have hfwd : ∀ k ∈ ks, c0.β (fwd k) = c.β k ∧ ∀ n y, OwnRep c (.key k) n y → OwnRep c0 (.key (fwd k)) n y := fun k hk => ⟨hβ0 k hk, hown0 k hk⟩
  have hlook : ∀ q o, alook (enterObjs (os.map (AO.ren fwd)) keyBase) q = some o → ∃ k o0, k ∈ ks ∧ q = fwd k ∧ alook s.objs k = some o0 ∧ o = o0.ren fwd := by
    intro q o hq
    rw [alook_enter] at hq
    by_cases hb : keyBase ≤ q
    · rw [if_pos hb, List.getElem?_map] at hq
      cases hi : os[q - keyBase]? with
      | none => simp [hi] at hq
      | some o0 =>
        simp [hi] at hq; subst hq
        have hlt := (List.getElem?_eq_some_iff.1 hi).1
        have hk : ks[q - keyBase]? = some (ks[q - keyBase]'(by omega)) := List.getElem?_eq_getElem _
        refine ⟨_, o0, List.mem_of_getElem? hk, ?_, by rw [(hoo _ _ hk).1, hi], rfl⟩
        rw [(hbf _ _ hk).2]; omega
    · rw [if_neg hb] at hq; simp at hq
  have hlook' : ∀ k ∈ ks, ∃ o0, alook s.objs k = some o0 ∧ alook (enterObjs (os.map (AO.ren fwd)) keyBase) (fwd k) = some (o0.ren fwd) := by
    intro k hk
    have hi := idxOf_spec 0 hk
    obtain ⟨h1, o0, h2⟩ := hoo _ _ hi
    refine ⟨o0, h2, ?_⟩
    rw [alook_enter, if_pos (Nat.le_add_right _ _)]
    show (os.map (AO.ren fwd))[keyBase + idxOf ks k 0 - keyBase]? = _
    rw [Nat.add_sub_cancel_left, List.getElem?_map, ← h1, h2]; rfl
  have hO0 : Objs c0 (enterObjs (os.map (AO.ren fwd)) keyBase) := by
    refine ⟨fun q o hq => ?_, fun q o q' o' b hq hq' hne hb => ?_, fun q o hq r hr => ?_⟩
    · obtain ⟨k, o0, hk, rfl, h1, rfl⟩ := hlook q o hq
      exact (h.objs.rep k o0 h1).ren rfl rfl (hβ0 k hk) (hκ0 k hk) (hf0 k hk) fun q hq => hfwd q (hcl q (objKeys_mem hk h1 q hq))
    · obtain ⟨k, o0, hk, rfl, h1, rfl⟩ := hlook q o hq
      obtain ⟨k', o0', hk', rfl, h1', rfl⟩ := hlook q' o' hq'
      rw [excl_ren (hβ0 k hk) (hκ0 k hk)] at hb
      rw [excl_ren (hβ0 k' hk') (hκ0 k' hk')]
      exact h.objs.apart k o0 k' o0' b h1 h1' (fun e => hne (by rw [e])) hb
    · obtain ⟨k, o0, hk, rfl, h1, rfl⟩ := hlook q o hq
      obtain ⟨q', hq', rfl⟩ := AO.ren_keys _ _ r hr
      obtain ⟨_, _, e⟩ := hlook' q' (hcl q' (objKeys_mem hk h1 q' hq'))
      exact ⟨_, e⟩
  have hG0 : Good B.G c0 := ⟨h.good.there, fun g cs hg => (h.good.globs g cs hg).ext (ks := fun _ => False) ⟨fun _ _ _ _ hv => hv, fun _ _ hi => hi, fun _ hk => hk.elim, fun _ hk => hk.elim⟩ (by simp [AV.keys])⟩
  have hcall := hok
  have hfn := hl.fn
  refine (hcall c0 xs.toArray hG0 hO0 (by rw [renL_length]; exact hfn.1) (fun i u hu => ?_) (fun k hk => ?_)).mono ?_
  · rw [renL_get] at hu
    cases hi : l[i]? with
    | none => simp [hi] at hu
    | some u' => simp [hi] at hu; subst hu; exact Rep.ren (c := c) (c' := c0) (m := fwd) (fun _ _ _ _ hv => hv) (fun _ _ hi => hi) (hfn.2.1 i u' hi) fun q hq => hfwd q (hlk q (keys_mem_of hi q hq))
  · obtain ⟨q, hq, rfl⟩ := renL_keys _ _ k hk
    obtain ⟨_, _, e⟩ := hlook' q (hlk q hq)
    exact ⟨_, e⟩
  rintro e w' ⟨c', x, he, hw', hG', hF', hO', hr', hrk, hmine⟩
  have hheld : ∀ b, held c0 (enterObjs (os.map (AO.ren fwd)) keyBase) b → ∃ k o, k ∈ ks ∧ alook s.objs k = some o ∧ excl c k o = some b := by
    rintro b ⟨q, o, hq, hb⟩
    obtain ⟨k, o0, hk, rfl, h1, rfl⟩ := hlook q o hq
    exact ⟨k, o0, hk, h1, by rw [← excl_ren (hβ0 k hk) (hκ0 k hk)]; exact hb⟩
  have hK : ∀ k ∈ ks, live (enterObjs (os.map (AO.ren fwd)) keyBase) (fwd k) := fun k hk => by obtain ⟨_, _, e⟩ := hlook' k hk; exact ⟨_, e⟩
  have hlow : ∀ b, b < B.c0.w.heap.size → ¬ B.D b → b < c0.w.heap.size ∧ ¬ held c0 (enterObjs (os.map (AO.ren fwd)) keyBase) b := by
    intro b hb hd
    refine ⟨Nat.lt_of_lt_of_le hb h.frame.size, fun hh => ?_⟩
    obtain ⟨k, o, _, h1, h2⟩ := hheld b hh
    rcases h.mine k o b h1 h2 with h3 | h3
    · omega
    · exact hd h3
  have hdk : d ∉ ks := fun hk => by
    obtain ⟨_, o, e⟩ := hoo _ _ (idxOf_spec 0 hk)
    rw [hd] at e; cases e
  let kt := ks ++ [d]
  have hnt : kt.Nodup := List.nodup_append.2 ⟨hn, (by simp), fun x hx y hy => by simp at hy; subst hy; exact fun e => hdk (e ▸ hx)⟩
  let fwd2 := fun k => keyBase + idxOf kt k 0
  let bwd2 := fun k => nthD kt (k - keyBase)
  have hfb2 : ∀ k ∈ kt, bwd2 (fwd2 k) = k := fun k hk => by
    show nthD kt (keyBase + idxOf kt k 0 - keyBase) = k
    rw [Nat.add_sub_cancel_left]; exact nthD_spec (idxOf_spec 0 hk)
  have hbf2 : ∀ i k, kt[i]? = some k → bwd2 (keyBase + i) = k ∧ fwd2 k = keyBase + i := fun i k hk =>
    ⟨by show nthD kt (keyBase + i - keyBase) = k; rw [Nat.add_sub_cancel_left]; exact nthD_spec hk, by show keyBase + idxOf kt k 0 = _; rw [idx_eq hnt hk]⟩
  have hff : ∀ k ∈ ks, fwd2 k = fwd k := fun k hk => by
    have h1 := idxOf_spec 0 hk
    have h2 : kt[idxOf ks k 0]? = some k := by
      have := (List.getElem?_eq_some_iff.1 h1).1
      show (ks ++ [d])[idxOf ks k 0]? = some k
      rw [List.getElem?_append_left this]; exact h1
    show keyBase + idxOf kt k 0 = keyBase + idxOf ks k 0
    rw [idx_eq hnt h2]
  have hkt : ∀ k, k ∈ kt → k ≠ d → k ∈ ks := fun k hk hne => by
    rcases List.mem_append.1 hk with h | h
    · exact h
    · simp at h; exact absurd h hne
  have hlt2 : kt.length = ks.length + 1 := by show (ks ++ [d]).length = _; simp
  have hnd : ∀ k, k ∉ kt → k ≠ d := fun k hk e => hk (by subst e; exact List.mem_append.2 (.inr (by simp)))
  have hnk : ∀ k, k ∉ kt → k ∉ ks := fun k hk h => hk (List.mem_append.2 (.inl h))
  classical
  let c2 : Cx := { w := c'.w, I := c'.I, β := fun q => if q = d then c'.β (fwd2 q) else c.β q, κ := fun q => if q ∈ kt then c'.κ (fwd2 q) else c.κ q, fr := fun q => if q ∈ kt then c'.fr (fwd2 q) else c.fr q }
  have hκ2 : ∀ k ∈ kt, c2.κ k = c'.κ (fwd2 k) := fun k hk => if_pos hk
  have hf2 : ∀ k ∈ kt, c2.fr k = c'.fr (fwd2 k) := fun k hk => if_pos hk
  have hκn : ∀ k, k ∉ kt → c2.κ k = c.κ k := fun k hk => if_neg hk
  have hfn2 : ∀ k, k ∉ kt → c2.fr k = c.fr k := fun k hk => if_neg hk
  have hβn : ∀ k, k ≠ d → c2.β k = c.β k := fun k hk => if_neg hk
  have hβ2 : ∀ k ∈ kt, c2.β k = c'.β (fwd2 k) := fun k hk => by
    by_cases e : k = d
    · exact if_pos e
    · have hk' := hkt k hk e
      rw [hβn k e, hff k hk', hF'.ext.β (fwd k) (hK k hk')]; exact (hβ0 k hk').symm
  have hown2 : ∀ k ∈ kt, ∀ n y, OwnRep c' (.key (fwd2 k)) n y → OwnRep c2 (.key k) n y := fun k hk n y => by simp only [OwnRep, hκ2 k hk, hf2 k hk]; exact id
  have hext : Ext c c2 (live s.objs) := by
    refine ⟨hF'.ext.cell, hF'.ext.I, fun k hk => hβn k (fun e => by obtain ⟨o, ho⟩ := hk; rw [e, hd] at ho; cases ho), fun k hl n y hy => ?_⟩
    by_cases hk : k ∈ kt
    · have hk' := hkt k hk (fun e => by obtain ⟨o, ho⟩ := hl; rw [e, hd] at ho; cases ho)
      exact hown2 k hk n y (by rw [hff k hk']; exact hF'.ext.own (fwd k) (hK k hk') n y (hown0 k hk' n y hy))
    · simp only [OwnRep, hκn k hk, hfn2 k hk]; exact hy
  have hgrow : Grow B c c2 := ⟨hF'.os, hF'.output, hF'.tape, hF'.size, fun b hb hd => hF'.block b (hlow b hb hd).1 (hlow b hb hd).2,
    fun b o hb hd hi => hF'.new b o (hlow b hb hd).1 (hlow b hb hd).2 hi, hG'.there⟩
  have hput : ∀ k, alook (putObjs s.objs kt (os'.map (AO.ren bwd2))) k = if k ∈ kt then (os'.map (AO.ren bwd2))[idxOf kt k 0]? else alook s.objs k := alook_putObjs hnt (by simp [hlen, hlt2])
  have hin : ∀ k ∈ kt, ∃ o', alook (enterObjs os' keyBase) (fwd2 k) = some o' ∧ alook (putObjs s.objs kt (os'.map (AO.ren bwd2))) k = some (o'.ren bwd2) := by
    intro k hk
    have hi := idxOf_spec 0 hk
    have hlt := (List.getElem?_eq_some_iff.1 hi).1
    have ho : os'[idxOf kt k 0]? = some (os'[idxOf kt k 0]'(by omega)) := List.getElem?_eq_getElem _
    refine ⟨os'[idxOf kt k 0]'(by omega), ?_, ?_⟩
    · rw [alook_enter, if_pos (Nat.le_add_right _ _)]
      show os'[keyBase + idxOf kt k 0 - keyBase]? = _
      rw [Nat.add_sub_cancel_left]; exact ho
    · rw [hput, if_pos hk, List.getElem?_map, ho]; rfl
  have hback : ∀ q, live (enterObjs os' keyBase) q → bwd2 q ∈ kt ∧ fwd2 (bwd2 q) = q := by
    rintro q ⟨o, hq⟩
    rw [alook_enter] at hq
    by_cases hb : keyBase ≤ q
    · rw [if_pos hb] at hq
      have hlt := (List.getElem?_eq_some_iff.1 hq).1
      have hk : kt[q - keyBase]? = some (kt[q - keyBase]'(by omega)) := List.getElem?_eq_getElem _
      have := hbf2 _ _ hk
      rw [Nat.add_sub_cancel' hb] at this
      rw [this.1]
      exact ⟨List.mem_of_getElem? hk, this.2⟩
    · rw [if_neg hb] at hq; simp at hq
  have hbwd : ∀ q, live (enterObjs os' keyBase) q → c2.β (bwd2 q) = c'.β q ∧ ∀ n y, OwnRep c' (.key q) n y → OwnRep c2 (.key (bwd2 q)) n y := by
    intro q hq
    obtain ⟨h1, h2⟩ := hback q hq
    refine ⟨by rw [hβ2 _ h1, h2], fun n y hy => hown2 _ h1 n y (by rw [h2]; exact hy)⟩
  have hlive : ∀ k, live s.objs k → live (putObjs s.objs kt (os'.map (AO.ren bwd2))) k := by
    rintro k ⟨o, ho⟩
    by_cases hk : k ∈ kt
    · obtain ⟨_, _, e⟩ := hin k hk; exact ⟨_, e⟩
    · exact ⟨o, by rw [hput, if_neg hk]; exact ho⟩
  have hcases : ∀ k o, alook (putObjs s.objs kt (os'.map (AO.ren bwd2))) k = some o → (k ∈ kt ∧ ∃ o', alook (enterObjs os' keyBase) (fwd2 k) = some o' ∧ o = o'.ren bwd2 ∧ excl c2 k o = excl c' (fwd2 k) o') ∨ (k ∉ kt ∧ alook s.objs k = some o ∧ excl c2 k o = excl c k o) := by
    intro k o ho
    by_cases hk : k ∈ kt
    · obtain ⟨o', e1, e2⟩ := hin k hk
      rw [e2] at ho; cases ho
      exact .inl ⟨hk, o', e1, rfl, excl_ren (hβ2 k hk) (hκ2 k hk)⟩
    · rw [hput, if_neg hk] at ho
      exact .inr ⟨hk, ho, excl_same (hβn k (hnd k hk)) (hκn k hk)⟩
  have hout : ∀ k k' o' o b, k ∈ kt → alook (enterObjs os' keyBase) (fwd2 k) = some o' → k' ∉ kt → alook s.objs k' = some o → excl c' (fwd2 k) o' = some b → excl c k' o ≠ some b := by
    intro k k' o' o b hk h1 hk' h2 hb hb'
    rcases hmine _ _ b h1 hb with h3 | h3
    · have := excl_lt (h.objs.rep k' o h2) hb'
      have : c0.w.heap.size = c.w.heap.size := rfl
      omega
    · obtain ⟨k'', o'', h4, h5, h6⟩ := hheld b h3
      exact h.objs.apart k'' o'' k' o b h5 h2 (fun e => hnk _ hk' (e ▸ h4)) h6 hb'
  have hO2 : Objs c2 (putObjs s.objs kt (os'.map (AO.ren bwd2))) := by
    refine ⟨fun k o ho => ?_, fun k o k' o' b ho ho' hne hb => ?_, fun k o ho q hq => ?_⟩
    · rcases hcases k o ho with ⟨hk, o', e1, rfl, _⟩ | ⟨hk, e1, _⟩
      · exact (hO'.rep _ o' e1).ren rfl rfl (hβ2 k hk) (hκ2 k hk) (hf2 k hk) fun q hq => hbwd q (hO'.closed _ o' e1 q hq)
      · refine h.objs.rep_keep' hext e1 (hβn k (hnd k hk)) (hκn k hk) (hfn2 k hk) fun b hb => ?_
        have hlt := excl_lt (h.objs.rep k o e1) hb
        have hnh : ¬ held c0 (enterObjs (os.map (AO.ren fwd)) keyBase) b := fun hh => by
          obtain ⟨k'', o'', h4, h5, h6⟩ := hheld b hh
          exact h.objs.apart k'' o'' k o b h5 e1 (fun e => hnk _ hk (e ▸ h4)) h6 hb
        exact ⟨hF'.block b hlt hnh, fun off hi => hF'.new b off hlt hnh hi⟩
    · rcases hcases k o ho with ⟨hk, o1, e1, rfl, e2⟩ | ⟨hk, e1, e2⟩ <;> rcases hcases k' o' ho' with ⟨hk', o1', e1', rfl, e2'⟩ | ⟨hk', e1', e2'⟩
      · rw [e2'] ; rw [e2] at hb
        exact hO'.apart _ _ _ _ b e1 e1' (fun e => hne (by rw [← hfb2 k hk, e, hfb2 k' hk'])) hb
      · rw [e2']; rw [e2] at hb
        exact hout k k' o1 o' b hk e1 hk' e1' hb
      · rw [e2']; rw [e2] at hb
        exact fun hb' => hout k' k o1' o b hk' e1' hk e1 hb' hb
      · rw [e2']; rw [e2] at hb
        exact h.objs.apart k o k' o' b e1 e1' hne hb
    · rcases hcases k o ho with ⟨hk, o', e1, rfl, _⟩ | ⟨hk, e1, _⟩
      · obtain ⟨q', hq', rfl⟩ := AO.ren_keys _ _ q hq
        obtain ⟨_, _, e⟩ := hin _ (hback q' (hO'.closed _ o' e1 q' hq')).1
        exact ⟨_, e⟩
      · exact hlive q (h.objs.closed k o e1 q hq)
  refine ⟨c2, x, he, hw', ⟨h.good.grow hext hgrow, h.frame.grow hext hgrow h.kept, hO2, fun t v hv => (h.env t v hv).ext hext (h.closed t v hv),
    fun t v hv k hk => hlive k (h.closed t v hv k hk), fun k o b ho hb => ?_, h.tmps, h.defers, fun k hk => hlive k (h.kept k hk)⟩, ⟨?_, ?_, ?_⟩⟩
  · rcases hcases k o ho with ⟨hk, o', e1, rfl, e2⟩ | ⟨hk, e1, e2⟩
    · rw [e2] at hb
      rcases hmine _ _ b e1 hb with h3 | h3
      · exact .inl (Nat.le_trans h.frame.size h3)
      · obtain ⟨k'', o'', h4, h5, h6⟩ := hheld b h3
        exact h.mine k'' o'' b h5 h6
    · rw [e2] at hb; exact h.mine k o b e1 hb
  · exact Rep.ren (c := c') (c' := c2) (m := bwd2) (fun _ _ _ _ hv => hv) (fun _ _ hi => hi) hr' fun q hq => hbwd q (hrk q hq)
  · intro k hk
    obtain ⟨q, hq, rfl⟩ := ren_keys _ _ k hk
    obtain ⟨_, _, e⟩ := hin _ (hback q (hrk q hq)).1
    exact ⟨_, e⟩
  · cases hr' with
    | slNil o => cases o <;> rfl
    | sl o => cases o <;> rfl
    | _ => rfl
end Go.Ab

namespace Go.Ab
open Go Go.RowKit
variable {P : Program} {B : Base} {c : Cx} {s : St} {a : Act}
def Cx.obj (c : Cx) (k : Nat) (ob : Obj) : Cx :=
  { c with w := c.w.alloc ob, β := fun q => if q = k then c.w.heap.size else c.β q, fr := fun q => if q = k then none else c.fr q }
theorem Cx.obj_keeps {G : Nat → Option (List AV)} {c : Cx} (hg : Good G c) {objs : List (Nat × AO)} (ho : Objs c objs) {k : Nat} (hk : alook objs k = none) (ob : Obj) : KeepsBut c (c.obj k ob) objs k := by
  refine ⟨ext_alloc hg rfl (fun _ _ h => h) (fun q hq => by simp [Cx.obj, live_ne hk hq]) (fun _ _ => rfl) (fun q hq => by simp [Cx.obj, live_ne hk hq]), fun q _ hne => by simp [Cx.obj, hne], fun _ _ _ => rfl, fun q _ hne => by simp [Cx.obj, hne], fun q o b hq _ hb => ?_⟩
  exact ⟨heap_alloc_lt _ _ _ (excl_lt (ho.rep q o hq) hb), fun _ h => h⟩
theorem Cx.obj_grow {B : Base} {c : Cx} (hg : Good B.G c) (hf : Frame B c) (k : Nat) (ob : Obj) : Grow B c (c.obj k ob) := by
  refine ⟨rfl, rfl, rfl, by simp [Cx.obj], fun b hb _ => heap_alloc_lt _ _ _ (Nat.lt_of_lt_of_le hb hf.size), fun b o hb _ hi => hi, fun b o hi => ?_⟩
  obtain ⟨v, hv⟩ := hg.there b o hi
  exact ⟨v, by show (c.w.alloc _).cell? _ = _; rw [World.cell?_block (heap_alloc_lt c.w _ b (lt_of_cell hv))]; exact hv⟩
theorem range_sound (h : Rel B c s a) {k : Nat} (hk : s.obj k = none) {t : TypeId} (ht : P.underlying t = some .string) (b : List UInt8) :
    ∃ x c', (Instr.range t (.string ⟨b.toArray⟩)).run P c.w = .ok x c'.w ∧ Rel B c' (s.setObj k (.iter b 0)) a ∧ Sees B c' (s.setObj k (.iter b 0)) (.ref k 0) x := by
  refine ⟨.pointer (some ⟨c.w.heap.size, 0, none⟩), c.obj k (.stringIter ⟨b.toArray⟩ 0), run_range_string c.w t _ ht, ?_, ?_⟩
  · refine h.obj (Cx.obj_keeps h.good h.objs hk _) (Cx.obj_grow h.good h.frame k _) ⟨?_, fun o hi => ?_, by simp [Cx.obj]⟩ (fun q o' b' hq hne hb => ?_) (fun r hr => by simp [AO.keys] at hr) (fun b' hb => ?_)
    · simp only [Cx.obj, if_true]; exact heap_alloc_eq c.w _
    · simp only [Cx.obj, if_true] at hi
      obtain ⟨v, hv⟩ := h.good.there _ _ hi
      have := lt_of_cell hv
      omega
    · simp only [excl, Cx.obj, if_true]
      have := excl_lt (h.objs.rep q o' hq) hb
      intro e
      have := Option.some.inj e
      omega
    · simp only [excl, Cx.obj, if_true] at hb
      have := Option.some.inj hb
      have := h.frame.size
      left; omega
  · refine ⟨?_, fun q hq => ?_, rfl⟩
    · have := Rep.ref (c := c.obj k (.stringIter ⟨b.toArray⟩ 0)) k 0
      simpa [Cx.obj] using this
    · simp [AV.keys] at hq; subst hq; exact live_aput_self
theorem run_next (w : World) (r : Nat) (b : ByteArray) (pos : Nat) (ty : TypeId) (hb : w.heap[r]? = some (.stringIter b pos)) :
    (Instr.next (.pointer (some ⟨r, 0, none⟩)) true ty).run P w = if pos < b.size then .ok (.tuple #[.bool true, .int .i64 pos, .int .i32 (Utf8.decode b pos).1]) { w with heap := w.heap.setIfInBounds r (.stringIter b (pos + (Utf8.decode b pos).2)) } else .ok (.tuple #[.bool false]) w := by
  by_cases h : pos < b.size
  · simp [Instr.next, getObj, setObj, Sem.run_bind, Sem.run, hb, Result.andThen, h, goInt]
  · simp [Instr.next, getObj, Sem.run, hb, h]
theorem next_sound (h : Rel B c s a) {k : Nat} {b : List UInt8} {pos : Nat} (hk : s.obj k = some (.iter b pos)) {x : Value} (hx : Rep c (.ref k 0) x) (ty : TypeId) :
    ∃ y c', (Instr.next x true ty).run P c.w = .ok y c'.w ∧ Rel B c' (s.setObj k (.iter b (cond (Nat.blt pos b.length) (nextP b pos) pos))) a ∧
      Sees B c' (s.setObj k (.iter b (cond (Nat.blt pos b.length) (nextP b pos) pos))) (cond (Nat.blt pos b.length) (nextV b pos) (.tup [.bool false])) y := by
  cases hx
  obtain ⟨hh, hI, hfr⟩ := h.objs.rep k _ hk
  have hexcl : excl c k (.iter b pos) = some (c.β k) := rfl
  have hsz : (ByteArray.mk b.toArray).size = b.length := by simp [ByteArray.size]
  have put : ∀ (p : Nat) (w' : World), Wrote c (c.β k) w' → w'.heap[c.β k]? = some (.stringIter ⟨b.toArray⟩ p) → Rel B (c.write w') (s.setObj k (.iter b p)) a := by
    intro p w' hw hq
    refine h.obj (Cx.write_keeps h.objs hk hexcl hI hw) (Cx.write_grow h.good hI hw (h.mine k _ _ hk hexcl)) ⟨hq, hI, hfr⟩ (fun q o' b' hq hne hb => ?_) (fun r hr => by simp [AO.keys] at hr) (fun b' hb => h.mine k _ b' hk hb)
    intro e
    exact h.objs.apart q o' k _ b' hq hk hne hb e
  have hrun := run_next (P := P) c.w (c.β k) ⟨b.toArray⟩ pos ty hh
  rw [hsz] at hrun
  by_cases hp : pos < b.length
  · rw [if_pos hp] at hrun
    have hb : Nat.blt pos b.length = true := bltT hp
    rw [hb]
    simp only [cond_true]
    refine ⟨_, c.write { c.w with heap := c.w.heap.setIfInBounds (c.β k) (.stringIter ⟨b.toArray⟩ (nextP b pos)) }, hrun, put _ _ ⟨rfl, rfl, rfl, by simp, fun b' hne => ?_⟩ ?_, ⟨?_, fun q hq => by simp [nextV, AV.keys, keysL] at hq, rfl⟩⟩
    · simp only [Array.getElem?_setIfInBounds]; rw [if_neg (fun e => hne e.symm)]
    · simp [lt_of_heap hh]
    · refine .tup _ _ rfl fun i u hu => ?_
      match i with
      | 0 => simp at hu; subst hu; exact .bool _
      | 1 => simp at hu; subst hu; exact .int _ _
      | 2 => simp at hu; subst hu; exact .int _ _
      | i + 3 => simp at hu
  · rw [if_neg hp] at hrun
    have hb : Nat.blt pos b.length = false := by
      cases e : Nat.blt pos b.length with
      | false => rfl
      | true => exact absurd (ltB e) hp
    rw [hb]
    simp only [cond_false]
    refine ⟨_, c.write c.w, hrun, put _ _ ⟨rfl, rfl, rfl, rfl, fun _ _ => rfl⟩ hh, ⟨?_, fun q hq => by simp [AV.keys, keysL] at hq, rfl⟩⟩
    refine .tup _ _ rfl fun i u hu => ?_
    match i with
    | 0 => simp at hu; subst hu; exact .bool _
    | i + 1 => simp at hu
end Go.Ab

namespace Go.Ab
open Go Go.RowKit
variable {P : Program} {B : Base} {c : Cx} {s : St} {a : Act}
def CallsOk (X : Cfg) : Prop := ∀ f l os r os', X.pre f l os = true → X.call f l os = some (r, os') →
  CallOk X.P X.G f l os r os' ∧ ∃ fn, X.P.funcs[f]? = some fn ∧ (fn.name == "runtime.NumGoroutine") = false ∧ fn.body.isSome = true
theorem opt_bind {α β : Type} {x : Option α} {f : α → Option β} {r : β} (h : x.bind f = some r) : ∃ y, x = some y ∧ f y = some r := by
  cases x with
  | none => simp at h
  | some y => exact ⟨y, rfl, h⟩
theorem opt_map {α β : Type} {x : Option α} {f : α → β} {r : β} (h : x.map f = some r) : ∃ y, x = some y ∧ f y = r := by
  cases x with
  | none => simp at h
  | some y => exact ⟨y, rfl, by simpa using h⟩
theorem guardO_inv {α : Type} {b : Bool} {x : Option α} {r : α} (h : guardO b x = some r) : b = true ∧ x = some r := by
  cases b with
  | false => simp [guardO] at h
  | true => exact ⟨rfl, h⟩
theorem cond_none {α : Type} {b : Bool} {x : Option α} {r : α} (h : cond b x none = some r) : b = true ∧ x = some r := by
  cases b with
  | false => simp at h
  | true => exact ⟨rfl, h⟩
theorem cond_none' {α : Type} {b : Bool} {x : Option α} {r : α} (h : cond b none x = some r) : b = false ∧ x = some r := by
  cases b with
  | false => exact ⟨rfl, h⟩
  | true => simp at h
theorem doCall_sound {X : Cfg} (hX : CallsOk X) (hG : X.G = B.G) (h : Rel B c s a) {f : FuncId} {l : List AV} {xs : List Value} {v : AV} {objs' : List (Nat × AO)} (hs : SeesL B c s l xs)
    (he : doCall X s.objs f l = some (true, v, objs')) :
    (Calls X.P f xs.toArray c.w fun e w' => ∃ c2 x, e = .returned x ∧ c2.w = w' ∧ Rel B c2 (s.with objs') a ∧ Sees B c2 (s.with objs') v x) ∧
      ∃ fn, X.P.funcs[f]? = some fn ∧ (fn.name == "runtime.NumGoroutine") = false ∧ fn.body.isSome = true := by
  unfold doCall at he
  obtain ⟨⟨l1, o1⟩, h1, he⟩ := opt_bind he
  have hfz : ∃ c1, c1.w = c.w ∧ Rel B c1 (s.with o1) a ∧ SeesL B c1 (s.with o1) l1 xs := by
    cases hb : X.byRef f with
    | true => simp [hb] at h1; obtain ⟨rfl, rfl⟩ := h1; exact ⟨c, rfl, h, hs⟩
    | false =>
      simp [hb] at h1
      obtain ⟨c1, e1, e2, e3, _, _⟩ := freezeVs_sound h hs h1
      exact ⟨c1, e1, e2, e3⟩
  obtain ⟨c1, hw, hr1, hs1⟩ := hfz
  dsimp only at he
  obtain ⟨hcl, he⟩ := cond_none he
  obtain ⟨os, hos, he⟩ := opt_bind he
  obtain ⟨⟨r, os'⟩, hcall, he⟩ := opt_bind he
  obtain ⟨hlen, he⟩ := cond_none he
  dsimp only at hlen he
  simp only [Option.some.injEq, Prod.mk.injEq] at he
  obtain ⟨hpre, rfl, rfl⟩ := he
  obtain ⟨hok, hfn⟩ := hX _ _ _ _ _ hpre hcall
  rw [hG] at hok
  obtain ⟨hn, hk⟩ := reachK_spec o1 (keysL (shedL l1))
  have hcore := call_core (P := X.P) hr1 hn hos (subK_spec hcl) hs1.shed hk hok (beqT hlen)
  rw [hw] at hcore
  exact ⟨hcore, hfn⟩
theorem doCallV_sound {X : Cfg} (hX : CallsOk X) (hG : X.G = B.G) (h : Rel B c s a) {f : FuncId} {l : List AV} {xs : List Value} {v : AV} {objs' : List (Nat × AO)} (hs : SeesL B c s l xs)
    {d : Option Nat} (he : doCallV X d s.objs f l = some (true, v, objs')) :
    (Calls X.P f xs.toArray c.w fun e w' => ∃ c2 x, e = .returned x ∧ c2.w = w' ∧ Rel B c2 (s.with objs') a ∧ Sees B c2 (s.with objs') v x) ∧
      ∃ fn, X.P.funcs[f]? = some fn ∧ (fn.name == "runtime.NumGoroutine") = false ∧ fn.body.isSome = true := by
  unfold doCallV at he
  obtain ⟨⟨l1, o1⟩, h1, he⟩ := opt_bind he
  have hfz : ∃ c1, c1.w = c.w ∧ Rel B c1 (s.with o1) a ∧ SeesL B c1 (s.with o1) l1 xs := by
    cases hb : X.byRef f with
    | true => simp [hb] at h1; obtain ⟨rfl, rfl⟩ := h1; exact ⟨c, rfl, h, hs⟩
    | false =>
      simp [hb] at h1
      obtain ⟨c1, e1, e2, e3, _, _⟩ := freezeVs_sound h hs h1
      exact ⟨c1, e1, e2, e3⟩
  obtain ⟨c1, hw, hr1, hs1⟩ := hfz
  dsimp only at he
  obtain ⟨hcl, he⟩ := cond_none he
  obtain ⟨os, hos, he⟩ := opt_bind he
  obtain ⟨⟨r, os'⟩, hcall, he⟩ := opt_bind he
  dsimp only at he
  cases hlen : Nat.beq os'.length (reachK o1 (keysL (shedL l1))).length with
  | true =>
    rw [hlen, cond_true] at he
    simp only [Option.some.injEq, Prod.mk.injEq] at he
    obtain ⟨hpre, rfl, rfl⟩ := he
    obtain ⟨hok, hfn⟩ := hX _ _ _ _ _ hpre hcall
    rw [hG] at hok
    obtain ⟨hn, hk⟩ := reachK_spec o1 (keysL (shedL l1))
    have hcore := call_core (P := X.P) hr1 hn hos (subK_spec hcl) hs1.shed hk hok (beqT hlen)
    rw [hw] at hcore
    exact ⟨hcore, hfn⟩
  | false =>
    rw [hlen, cond_false] at he
    cases d with
    | none => simp at he
    | some d =>
      dsimp only at he
      obtain ⟨hlen1, he⟩ := cond_none he
      cases hd : alook o1 d with
      | some _ => simp [hd] at he
      | none =>
        simp only [hd, Option.some.injEq, Prod.mk.injEq] at he
        obtain ⟨hpre, rfl, rfl⟩ := he
        obtain ⟨hok, hfn⟩ := hX _ _ _ _ _ hpre hcall
        rw [hG] at hok
        obtain ⟨hn, hk⟩ := reachK_spec o1 (keysL (shedL l1))
        have hcore := call_new (P := X.P) hr1 hn hos (subK_spec hcl) hs1.shed hk hok (beqT hlen1) hd
        rw [hw] at hcore
        exact ⟨hcore, hfn⟩
theorem Rel.put' {d : Option Nat} {v : AV} {x : Value} (h : Rel B c s a) (hd : ∀ t, d = some t → t < B.N ∧ FreeOf s t) (hs : Sees B c s v x) : Rel B c (s.put d v) (a.put d x) := by
  cases d with
  | none => exact h
  | some d => exact h.put (hd d rfl).1 hs.rep hs.plain hs.live (hd d rfl).2
theorem run_program_bind {α : Type} (k : Program → Sem α) (w : World) : (program >>= k).run P w = (k P).run P w := rfl
theorem run_callFunc {f : FuncId} {args : Array Value} {w : World} {fn : Func} (h1 : P.funcs[f]? = some fn) (h2 : (fn.name == "runtime.NumGoroutine") = false) (h3 : fn.body.isSome = true) :
    (callFunc f args).run P w = .ok (.enter f args) w := by
  have h3' : fn.body.isNone = false := by cases hb : fn.body <;> simp_all
  unfold callFunc
  rw [run_program_bind, h1]
  simp only [h2, h3', Bool.false_eq_true, if_false, Sem.run_pure]
theorem SeesL.append {l m : List AV} {xs ys : List Value} (h : SeesL B c s l xs) (k : SeesL B c s m ys) : SeesL B c s (l ++ m) (xs ++ ys) := by
  refine ⟨by simp [h.1, k.1], fun i u hu => ?_⟩
  by_cases hi : i < l.length
  · rw [List.getElem?_append_left hi] at hu
    have : (xs ++ ys).getD i undef = xs.getD i undef := by simp [List.getD_eq_getElem?_getD, List.getElem?_append_left (show i < xs.length by rw [h.1]; exact hi)]
    rw [this]; exact h.2 i u hu
  · rw [List.getElem?_append_right (by omega)] at hu
    have : (xs ++ ys).getD i undef = ys.getD (i - l.length) undef := by
      simp only [List.getD_eq_getElem?_getD]
      rw [List.getElem?_append_right (by rw [h.1]; omega), h.1]
    rw [this]; exact k.2 _ u hu
theorem calleeA_sound (h : Rel B c s a) {ch : Chain} (hc : ChOk a ch) {o : Oper} {q : Operand} {args : Array Operand} {ts : Array TypeId} (ho : o.op = .call { callee := .value q, args, argTypes := ts }) {f : FuncId} {l : List AV}
    (he : calleeA ⟨s, B.G, ch⟩ { callee := .value q, args, argTypes := ts } = some (f, l)) :
    ∃ xs, SeesL B c s l xs ∧ ∀ (fn : Func), P.funcs[f]? = some fn → (fn.name == "runtime.NumGoroutine") = false → fn.body.isSome = true → (execOp a.eval o).run P c.w = .ok (.enter f xs.toArray) c.w := by
  unfold calleeA at he
  dsimp only at he
  obtain ⟨fv, h1, he⟩ := opt_bind he
  obtain ⟨vs, h2, he⟩ := opt_bind he
  have hf := evalO_sound h hc h1
  have hv := evalL_sound h hc h2
  cases fv with
  | fn f' first caps =>
    simp only [Option.some.injEq, Prod.mk.injEq] at he
    obtain ⟨rfl, rfl⟩ := he
    obtain ⟨hr, hl, _⟩ := hf
    generalize hq : a.eval q = Q at hr
    cases hr with
    | fn _ _ _ va vb e1 e2 e3 e4 =>
      have hfirst : SeesL B c s first va.toList := ⟨by simpa using e1, fun i u hu => ⟨by
        have := e3 i u hu
        simpa [Array.getD_eq_getD_getElem?, List.getD_eq_getElem?_getD] using this, fun k hk => hl k (by simp only [AV.keys, List.mem_append]; exact .inl (keys_mem_of hu k hk)), (e3 i u hu).plain⟩⟩
      have hcaps : SeesL B c s caps vb.toList := ⟨by simpa using e2, fun i u hu => ⟨by
        have := e4 i u hu
        simpa [Array.getD_eq_getD_getElem?, List.getD_eq_getElem?_getD] using this, fun k hk => hl k (by simp only [AV.keys, List.mem_append]; exact .inr (keys_mem_of hu k hk)), (e4 i u hu).plain⟩⟩
      refine ⟨_, (hfirst.append hv).append hcaps, fun fn g1 g2 g3 => ?_⟩
      have e : (va.toList ++ args.toList.map a.eval ++ vb.toList).toArray = va ++ args.map a.eval ++ vb := by apply Array.ext'; simp
      rw [e]
      simp only [execOp, ho, resolve, hq, Deferred.ofValue, pure_bind, invoke]
      exact run_callFunc g1 g2 g3
  | _ => simp at he
def OStep (P : Program) (B : Base) (c : Cx) (a : Act) (o : Oper) (s' : St) : Prop :=
  ∀ Q, o.wp P a c.w (fun a' w' => ∃ c', c'.w = w' ∧ Rel B c' s' a') Q
theorem OStep.value {c' : Cx} {o : Oper} {x : Value} {v : AV} {objs' : List (Nat × AO)} (hd : ∀ t, o.dst = some t → t < B.N ∧ FreeOf s t) (hrun : (execOp a.eval o).run P c.w = .ok (.value x) c'.w)
    (hr : Rel B c' (s.with objs') a) (hs : Sees B c' (s.with objs') v x) : OStep P B c a o (s.after o.dst v objs') := by
  intro Q
  simp only [Oper.wp, hrun, Oper.upon]
  exact ⟨c', rfl, hr.put' hd hs⟩
theorem OStep.skip {c' : Cx} {o : Oper} {objs' : List (Nat × AO)} (hd : ∀ t, o.dst = some t → t < B.N ∧ FreeOf s t) (hrun : (execOp a.eval o).run P c.w = .ok .skip c'.w)
    (hr : Rel B c' (s.with objs') a) : OStep P B c a o (s.after o.dst .undef objs') := by
  intro Q
  simp only [Oper.wp, hrun, Oper.upon]
  exact ⟨c', rfl, hr.put' hd ⟨.undef _, by simp [AV.keys], rfl⟩⟩
theorem OpGoes.step {o : Oper} {v : AV} (h : Rel B c s a) (hd : ∀ t, o.dst = some t → t < B.N ∧ FreeOf s t) (hg : OpGoes P B c s a o v) : OStep P B c a o (s.after o.dst v s.objs) := by
  obtain ⟨x, c', h1, h2, h3, h4⟩ := hg
  exact OStep.value hd h1 (h.keep h2 h3) h4
theorem execOp_v {o : Oper} {m : Sem Value} {x : Value} {w w' : World} (he : execOp a.eval o = (do let x ← m; pure (Next.value x))) (hm : m.run P w = .ok x w') : (execOp a.eval o).run P w = .ok (.value x) w' := by
  rw [he]; simp [hm]
theorem effA_sound {X : Cfg} (hX : CallsOk X) (hG : X.G = B.G) (h : Rel B c s a) {o : Oper} (hd : ∀ t, o.dst = some t → t < B.N ∧ FreeOf s t) {v : AV} {objs' : List (Nat × AO)}
    (he : effA X s o = some (true, v, objs')) : OStep X.P B c a o (s.after o.dst v objs') ∧ v.isGrd = false := by
  have hch : ChOk a [] := fun t w hm => by simp at hm
  have hpure : (pureA X.P ⟨s, X.G, []⟩ o.op).map (fun r => (r.1, r.2, s.objs)) = some (true, v, objs') → OStep X.P B c a o (s.after o.dst v objs') ∧ v.isGrd = false := by
    intro he
    obtain ⟨⟨b, u⟩, h1, h2⟩ := opt_map he
    simp only [Prod.mk.injEq] at h2
    obtain ⟨rfl, rfl, rfl⟩ := h2
    rw [hG] at h1
    have hg := pureA_sound h hch h1
    refine ⟨hg.step h hd, ?_⟩
    obtain ⟨_, _, _, _, _, h4⟩ := hg
    exact h4.plain
  cases ho : o.op with
  | alloc t =>
    simp only [effA, ho] at he
    cases hdst : o.dst with
    | none => simp [hdst] at he
    | some d =>
      simp only [hdst] at he
      cases hob : s.obj d with
      | some _ => simp [hob] at he
      | none =>
        simp only [hob] at he
        obtain ⟨ob, h1, h2⟩ := opt_map he
        simp only [Prod.mk.injEq] at h2
        obtain ⟨_, rfl, rfl⟩ := h2
        obtain ⟨x, c', e1, e2, e3⟩ := alloc_sound h hob h1
        exact ⟨hdst ▸ OStep.value hd (execOp_v (by simp [execOp, ho]) e1) e2 e3, e3.plain⟩
  | box t x =>
    simp only [effA, ho] at he
    cases hdst : o.dst with
    | none => simp [hdst] at he
    | some d =>
      simp only [hdst] at he
      cases hob : s.obj d with
      | some _ => simp [hob] at he
      | none =>
        simp only [hob] at he
        obtain ⟨u, h1, he⟩ := opt_bind he
        rw [hG] at h1
        have hu := evalO_sound h hch h1
        have hcells : guardO (allOne u.cells && (sizeOf? X.P t == some u.cells.length)) (some (true, AV.ref d 0, aput s.objs d (AO.cells u.cells))) = some (true, v, objs') → OStep X.P B c a o (s.after (some d) v objs') ∧ v.isGrd = false := by
          intro he
          obtain ⟨hb, he⟩ := guardO_inv he
          simp only [Option.some.injEq, Prod.mk.injEq] at he
          obtain ⟨_, rfl, rfl⟩ := he
          simp only [Bool.and_eq_true] at hb
          obtain ⟨y, c', e1, e2, e3⟩ := box_cells_sound (P := X.P) (t := t) h hob hu hb.1
          exact ⟨hdst ▸ OStep.value hd (execOp_v (by simp [execOp, ho]) e1) e2 e3, e3.plain⟩
        cases u with
        | arr sz n get =>
          dsimp only at he
          obtain ⟨hb, he⟩ := guardO_inv he
          simp only [Option.some.injEq, Prod.mk.injEq] at he
          obtain ⟨_, rfl, rfl⟩ := he
          obtain ⟨y, c', e1, e2, e3⟩ := box_arr_sound (P := X.P) (t := t) h hob hu.rep
          exact ⟨hdst ▸ OStep.value hd (execOp_v (by simp [execOp, ho]) e1) e2 e3, e3.plain⟩
        | _ => exact hcells he
  | store t x y =>
    simp only [effA, ho] at he
    obtain ⟨u, h1, he⟩ := opt_bind he
    obtain ⟨q, h2, he⟩ := opt_bind he
    obtain ⟨⟨b, k, ob⟩, h3, he⟩ := opt_map he
    simp only [Prod.mk.injEq] at he
    obtain ⟨rfl, rfl, rfl⟩ := he
    rw [hG] at h1 h2
    obtain ⟨c', e1, e2⟩ := storeA_sound h (evalO_sound h hch h1) (evalO_sound h hch h2) h3
    exact ⟨OStep.skip hd (by simp only [execOp, ho]; simp [e1]) e2, rfl⟩
  | range t x =>
    simp only [effA, ho] at he
    cases hdst : o.dst with
    | none => simp [hdst] at he
    | some d =>
      simp only [hdst] at he
      cases hob : s.obj d with
      | some _ => simp [hob] at he
      | none =>
        simp only [hob] at he
        obtain ⟨u, h1, he⟩ := opt_bind he
        rw [hG] at h1
        have hu := (evalO_sound h hch h1).rep
        split at he
        · rename_i b ht
          simp only [Option.some.injEq, Prod.mk.injEq] at he
          obtain ⟨_, rfl, rfl⟩ := he
          generalize hX : a.eval x = X at hu
          cases hu
          obtain ⟨y, c', e1, e2, e3⟩ := range_sound h hob ht b
          exact ⟨hdst ▸ OStep.value hd (execOp_v (by simp [execOp, ho, hX]) e1) e2 e3, e3.plain⟩
        · simp at he
  | next it isS =>
    simp only [effA, ho] at he
    obtain ⟨u, h1, he⟩ := opt_bind he
    rw [hG] at h1
    have hu := (evalO_sound h hch h1).rep
    split at he
    · rename_i q
      split at he
      · rename_i b pos hob
        simp only [Option.some.injEq, Prod.mk.injEq] at he
        obtain ⟨_, rfl, rfl⟩ := he
        obtain ⟨y, c', e1, e2, e3⟩ := next_sound (P := X.P) h hob hu o.type
        exact ⟨OStep.value hd (execOp_v (by simp [execOp, ho]) e1) e2 e3, e3.plain⟩
      · simp at he
    · simp at he
  | makeSlice t l n =>
    simp only [effA, ho] at he
    cases hdst : o.dst with
    | none => simp [hdst] at he
    | some d =>
      simp only [hdst] at he
      obtain ⟨u, h1, he⟩ := opt_bind he
      obtain ⟨q, h2, he⟩ := opt_bind he
      obtain ⟨⟨b, v', k, ob⟩, h3, he⟩ := opt_map he
      simp only [Prod.mk.injEq] at he
      obtain ⟨rfl, rfl, rfl⟩ := he
      rw [hG] at h1 h2
      obtain ⟨z, c', e1, e2, e3⟩ := makeSliceA_sound h (evalO_sound h hch h1).rep (evalO_sound h hch h2).rep h3
      exact ⟨hdst ▸ OStep.value hd (execOp_v (by simp [execOp, ho]) e1) e2 e3, e3.plain⟩
  | call q =>
    obtain ⟨callee, args, argTypes⟩ := q
    cases callee with
    | builtin b =>
      cases b with
      | append =>
        simp only [effA, ho] at he
        split at he
        · rename_i d t t' hdst hts
          obtain ⟨hb, he'⟩ := guardO_inv he
          have := beqT hb
          subst this
          clear he
          obtain ⟨l, h1, he⟩ := opt_bind he'
          rw [hG] at h1
          split at he
          · rename_i x y
            obtain ⟨⟨b, v', k, ob⟩, h3, he⟩ := opt_map he
            simp only [Prod.mk.injEq] at he
            obtain ⟨rfl, rfl, rfl⟩ := he
            have hs := evalL_sound h hch h1
            obtain ⟨x1, R, hXR, hx, hr⟩ := hs.cons_inv
            obtain ⟨x2, R2, hXR2, hy, hr2⟩ := hr.cons_inv
            have hR := hr2.nil_inv
            subst hR hXR2
            have e1 : args.map a.eval = #[x1, x2] := by apply Array.ext'; simpa using hXR
            have e2 : argTypes = #[t, t] := by apply Array.ext'; simpa using hts
            obtain ⟨V, c', g1, g2, g3⟩ : ∃ V c', (Builtin.append_ #[t, t] o.type #[x1, x2]).run X.P c.w = .ok V c'.w ∧ Rel B c' (s.setObj k ob) a ∧ Sees B c' (s.setObj k ob) v' V := by
              cases hg : (isGsl x || X.grow o) with
              | true => rw [hg] at h3; exact appendM_sound h hx.rep hy.rep h3
              | false => rw [hg] at h3; exact appendA_sound h hx.rep hy.rep h3
            refine ⟨hdst ▸ OStep.value hd (execOp_v (m := Builtin.append_ #[t, t] o.type #[x1, x2]) ?_ g1) g2 g3, g3.plain⟩
            simp only [execOp, ho, resolve, pure_bind, invoke, builtin, e1, e2]
          · simp at he
        · simp at he
      | _ => simp only [effA, ho] at he; exact hpure (by rw [ho]; exact he)
    | value f =>
      simp only [effA, ho] at he
      obtain ⟨⟨g, l⟩, h1, he⟩ := opt_bind he
      rw [hG] at h1
      obtain ⟨xs, hs, hrun⟩ := calleeA_sound (P := X.P) h hch ho h1
      obtain ⟨hcall, fn, g1, g2, g3⟩ := doCall_sound hX hG h hs he
      refine ⟨?_, ?_⟩
      case refine_2 =>
        obtain ⟨e, w', fr, ⟨c2, x, _, _, _, hx⟩, _⟩ := hcall []
        exact hx.plain
      intro Q
      simp only [Oper.wp, hrun fn g1 g2 g3, Oper.upon]
      refine hcall.mono ?_
      rintro e w' ⟨c2, x, rfl, rfl, hr, hx⟩
      exact ⟨c2, rfl, hr.put' hd hx⟩
    | invoke r m => simp only [effA, ho] at he; exact hpure (by rw [ho]; exact he)
  | _ => simp only [effA, ho] at he; exact hpure (by rw [ho]; exact he)
theorem effN_sound {X : Cfg} (hX : CallsOk X) (hG : X.G = B.G) (h : Rel B c s a) {o : Oper} (hd : ∀ t, o.dst = some t → t < B.N ∧ FreeOf s t) {v : AV} {objs' : List (Nat × AO)}
    (he : effN X s o = some (true, v, objs')) : OStep X.P B c a o (s.after o.dst v objs') ∧ v.isGrd = false := by
  unfold effN at he
  split at he
  · rename_i f args ts ho
    have hch : ChOk a [] := fun t w hm => by simp at hm
    obtain ⟨⟨g, l⟩, h1, he⟩ := opt_bind he
    rw [hG] at h1
    obtain ⟨xs, hs, hrun⟩ := calleeA_sound (P := X.P) h hch ho h1
    obtain ⟨hcall, fn, g1, g2, g3⟩ := doCallV_sound hX hG h hs he
    refine ⟨?_, ?_⟩
    case refine_2 =>
      obtain ⟨e, w', fr, ⟨c2, x, _, _, _, hx⟩, _⟩ := hcall []
      exact hx.plain
    intro Q
    simp only [Oper.wp, hrun fn g1 g2 g3, Oper.upon]
    refine hcall.mono ?_
    rintro e w' ⟨c2, x, rfl, rfl, hr, hx⟩
    exact ⟨c2, rfl, hr.put' hd hx⟩
  · exact effA_sound hX hG h hd he
end Go.Ab

namespace Go.Ab
open Go Go.RowKit
variable {P : Program} {B : Base} {c : Cx} {s : St} {a : Act}
theorem get_after (s : St) (d : Option Nat) (v : AV) (objs : List (Nat × AO)) (t : Nat) : (s.after d v objs).get t = if d = some t then some v else s.get t := by
  cases d with
  | none => simp [St.after, St.put, St.get]
  | some d =>
    simp only [St.after, St.get_put, Option.some.injEq]
    rfl
theorem objs_after (s : St) (d : Option Nat) (v : AV) (objs : List (Nat × AO)) : (s.after d v objs).objs = objs := by simp [St.after]
theorem undef_ne_bool (b : Bool) : undef ≠ .bool b := by simp [undef]
theorem domK_live {objs : List (Nat × AO)} {k : Nat} (h : k ∈ domK objs) : live objs k := by
  induction objs with
  | nil => simp [domK] at h
  | cons p r ih =>
    obtain ⟨q, o⟩ := p
    by_cases e : q = k
    · exact ⟨o, by simp [alook, e]⟩
    · simp only [domK, List.mem_cons] at h
      obtain ⟨o', h'⟩ := ih (h.resolve_left (fun x => e x.symm))
      exact ⟨o', by simp [alook, beqF e, h']⟩
theorem live_domK {objs : List (Nat × AO)} {k : Nat} (h : live objs k) : k ∈ domK objs := by
  induction objs with
  | nil => obtain ⟨o, h⟩ := h; simp [alook] at h
  | cons p r ih =>
    obtain ⟨q, o⟩ := p
    by_cases e : q = k
    · simp [domK, e]
    · obtain ⟨o', h'⟩ := h
      simp only [alook, beqF e, cond_false] at h'
      simp [domK, ih ⟨o', h'⟩]
theorem chain_ok (h : Rel B c s a) : ∀ {n t : Nat} {w : Bool}, a.tmps.getD t undef = .bool w → ChOk a (chainOf s n t w)
  | 0, t, w, ht => by
    intro t' w' hm
    simp [chainOf] at hm
    obtain ⟨rfl, rfl⟩ := hm; exact ht
  | n + 1, t, w, ht => by
    intro t' w' hm
    simp only [chainOf, List.mem_cons] at hm
    rcases hm with hm | hm
    · obtain ⟨rfl, rfl⟩ := hm; exact ht
    · cases hg : s.get t with
      | none => simp [hg] at hm
      | some u =>
        cases u with
        | grd tc wc u' =>
          simp only [hg] at hm
          have he := h.env t _ hg
          have : a.tmps.getD tc undef = .bool wc := by
            refine Classical.byContradiction fun hne => ?_
            have h2 := he.2 hne
            rw [ht] at h2
            exact undef_ne_bool w h2.symm
          exact chain_ok h this t' w' hm
        | _ => simp [hg] at hm
theorem holdsA_true (h : Rel B c s a) : ∀ {ch : Chain} {g : Bool}, ChOk a ch → holdsA s ch = some g → g = true
  | [], g, _, he => by simp [holdsA] at he; exact he
  | (t, w) :: r, g, hc, he => by
    have ht := hc t w (by simp)
    have hr : ChOk a r := fun t' w' hm => hc t' w' (List.mem_cons_of_mem _ hm)
    simp only [holdsA] at he
    cases hg : s.get t with
    | none => simp [hg] at he
    | some u =>
      have hE := h.env t _ hg
      cases u with
      | bool b =>
        simp only [hg] at he
        obtain ⟨g', h1, h2⟩ := opt_map he
        have := holdsA_true h hr h1
        subst this
        have hb : Rep c (.bool b) (a.tmps.getD t undef) := hE
        rw [ht] at hb
        cases hb
        simp at h2; exact h2
      | grd tc wc u' =>
        cases u' with
        | bool b =>
          simp only [hg] at he
          obtain ⟨g', h1, h2⟩ := opt_map he
          have := holdsA_true h hr h1
          subst this
          have hw : a.tmps.getD tc undef = .bool wc := by
            refine Classical.byContradiction fun hne => ?_
            have h2 := hE.2 hne
            rw [ht] at h2
            exact undef_ne_bool w h2.symm
          have hb : Rep c (.bool b) (a.tmps.getD t undef) := hE.1 hw
          rw [ht] at hb
          cases hb
          simp at h2; exact h2
        | _ => simp [hg] at he
      | _ => simp [hg] at he
def IStep (P : Program) (ops : Array Oper) (B : Base) (c : Cx) (a : Act) (i : Nat) (s' : St) : Prop :=
  ∀ (Q : Exit → Act → World → Prop) (K : Act → World → Prop), (∀ a' c', Rel B c' s' a' → K a' c'.w) → wpOp P ops Q i K a c.w
theorem OStep.istep {ops : Array Oper} {i : Nat} {o : Oper} {s' : St} (ho : ops[i]? = some o) (hg : o.guard = none) (h : OStep P B c a o s') : IStep P ops B c a i s' := by
  intro Q K hK
  unfold wpOp
  simp only [ho, Region.wanted, hg, if_true]
  exact .inl (Oper.wp_mono (fun a' w' => by rintro ⟨c', rfl, hr⟩; exact hK a' c' hr) (h Q))
theorem wanted_iff {ops : Array Oper} {o : Oper} {j t : Nat} {w : Bool} (hg : o.guard = some (j, w)) (ht : (ops[j]?).bind (·.dst) = some t) :
    Region.wanted o (yielded ops a.tmps) = true ↔ a.tmps.getD t undef = .bool w := by
  simp only [Region.wanted, hg, yielded, ht, Option.bind_some]
  rw [Array.getD_eq_getD_getElem?]
  cases ht' : a.tmps[t]? with
  | none => simp [undef]
  | some v =>
    cases v <;> simp
theorem ren_nil_aux : ∀ (o : Own) (m : Nat → Nat) (sz n : Nat) (get : Nat → List AV), (AV.sl o sz n get).keys = [] → (AV.sl o sz n get).ren m = .sl o sz n get := by
  intro o m sz n get h
  cases o <;> simp_all [AV.keys, AV.ren]
mutual
theorem ren_nil (m : Nat → Nat) : ∀ (v : AV), v.keys = [] → v.ren m = v
  | .sl o sz n get, h => ren_nil_aux o m sz n get h
  | .agg cs, h => by simp only [AV.ren]; rw [renL_nil m cs (by simpa [AV.keys] using h)]
  | .tup vs, h => by simp only [AV.ren]; rw [renL_nil m vs (by simpa [AV.keys] using h)]
  | .ref .., h | .aref .., h | .msl .., h => by simp [AV.keys] at h
  | .fn f p q, h => by
    simp only [AV.keys, List.append_eq_nil_iff] at h
    simp only [AV.ren]; rw [renL_nil m p h.1, renL_nil m q h.2]
  | .bool _, _ | .int .., _ | .str _, _ | .nilp, _ | .nilf, _ | .nilm, _ | .nili, _ | .nni, _ | .num _, _ | .undef, _ | .arr .., _ | .elt .., _ => rfl
  | .grd t w v, h => by simp only [AV.ren]; rw [ren_nil m v (by simpa [AV.keys] using h)]
theorem renL_nil (m : Nat → Nat) : ∀ (l : List AV), keysL l = [] → renL m l = l
  | [], _ => rfl
  | v :: r, h => by
    simp only [keysL, List.append_eq_nil_iff] at h
    simp only [renL]; rw [ren_nil m v h.1, renL_nil m r h.2]
end
theorem isNil_eq {α : Type} {l : List α} (h : isNil l = true) : l = [] := by cases l <;> simp_all [isNil]
theorem effG_pure {X : Cfg} {o : Oper} {t : Nat} {w : Bool} {v : AV} (he : effG X s o t w = some (true, v)) (hn : ∀ f args ts, o.op ≠ .call { callee := .value f, args, argTypes := ts }) :
    ∃ g b, holdsA s (chainOf s 4 t w) = some g ∧ pureA X.P ⟨s, X.G, chainOf s 4 t w⟩ o.op = some (b, v) ∧ (cond b true (!g)) = true ∧ subK v.keys (domK s.objs) = true := by
  have key : ((holdsA s (chainOf s 4 t w)).bind fun g => (pureA X.P ⟨s, X.G, chainOf s 4 t w⟩ o.op).bind fun r => guardO (subK r.2.keys (domK s.objs)) (some (cond r.1 true (!g), r.2))) = some (true, v) := by
    cases ho : o.op with
    | call q =>
      obtain ⟨callee, args, ts⟩ := q
      cases callee with
      | value f => exact absurd ho (hn f args ts)
      | _ => simpa only [effG, ho] using he
    | _ => simpa only [effG, ho] using he
  obtain ⟨g, h1, key⟩ := opt_bind key
  obtain ⟨⟨b, u⟩, h2, key⟩ := opt_bind key
  obtain ⟨h3, key⟩ := guardO_inv key
  simp only [Option.some.injEq, Prod.mk.injEq] at key
  obtain ⟨h4, rfl⟩ := key
  exact ⟨g, b, h1, h2, h4, h3⟩
theorem effG_sound {X : Cfg} (hX : CallsOk X) (hG : X.G = B.G) (h : Rel B c s a) {ops : Array Oper} {i j t d : Nat} {w : Bool} {o : Oper} (hoi : ops[i]? = some o) (hg : o.guard = some (j, w)) (ht : (ops[j]?).bind (·.dst) = some t)
    (hdst : o.dst = some d) (hdN : d < B.N) (hfree : FreeOf s d) (hdt : d ≠ t) {v : AV} (he : effG X s o t w = some (true, v)) : IStep X.P ops B c a i (s.put (some d) (.grd t w v)) := by
  intro Q K hK
  unfold wpOp
  simp only [hoi]
  have hkeys : ∀ k ∈ v.keys, live s.objs k := by
    intro k hk
    by_cases hc : ∃ f args ts, o.op = .call { callee := .value f, args, argTypes := ts }
    · obtain ⟨f, args, ts, ho⟩ := hc
      simp only [effG, ho] at he
      obtain ⟨q, _, he⟩ := opt_bind he
      obtain ⟨_, he⟩ := guardO_inv he
      obtain ⟨⟨r, os⟩, _, he⟩ := opt_bind he
      cases os with
      | nil =>
        dsimp only at he
        obtain ⟨hb, he⟩ := guardO_inv he
        simp only [Option.some.injEq, Prod.mk.injEq] at he
        obtain ⟨_, rfl⟩ := he
        simp only [Bool.and_eq_true] at hb
        rw [isNil_eq hb.1] at hk; simp at hk
      | cons _ _ => simp at he
    · obtain ⟨_, _, _, _, _, h5⟩ := effG_pure he (fun f args ts e => hc ⟨f, args, ts, e⟩)
      exact domK_live (subK_spec h5 k hk)
  by_cases hw : Region.wanted o (yielded ops a.tmps) = true
  · have hbool := (wanted_iff hg ht).1 hw
    have hch := chain_ok h (n := 4) hbool
    rw [if_pos hw]
    refine .inl ?_
    by_cases hc : ∃ f args ts, o.op = .call { callee := .value f, args, argTypes := ts }
    · obtain ⟨f, args, ts, ho⟩ := hc
      simp only [effG, ho] at he
      obtain ⟨⟨g, l⟩, h1, he⟩ := opt_bind he
      obtain ⟨hnil, he⟩ := guardO_inv he
      obtain ⟨⟨r, os⟩, h2, he⟩ := opt_bind he
      cases os with
      | cons _ _ => simp at he
      | nil =>
        dsimp only at he
        obtain ⟨hb, he⟩ := guardO_inv he
        simp only [Option.some.injEq, Prod.mk.injEq] at he
        obtain ⟨hpre, rfl⟩ := he
        simp only [Bool.and_eq_true] at hb
        have hl := isNil_eq hnil
        dsimp only at hl h2
        rw [hG] at h1
        obtain ⟨xs, hs, hrun⟩ := calleeA_sound (P := X.P) h hch ho h1
        obtain ⟨hok, fn, g1, g2, g3⟩ := hX _ _ _ _ _ hpre h2
        rw [hG] at hok
        have hcore := call_core (P := X.P) (f := g) (r := r) (ks := []) (os := []) (os' := []) h List.nodup_nil rfl (by simp [objKeys]) hs (by rw [hl]; simp) (by rw [renL_nil _ _ hl]; exact hok) rfl
        simp only [Oper.wp, hrun fn g1 g2 g3, Oper.upon]
        refine hcore.mono ?_
        rintro e w' ⟨c2, x, rfl, rfl, hr, hx⟩
        have hr' : Rel B c2 s a := hr
        have hx' : Rep c2 r x := by have := hx.rep; rw [ren_nil _ _ (isNil_eq hb.1)] at this; exact this
        refine hK _ _ ?_
        rw [hdst]
        exact hr'.putG hdN hdt (fun _ => hx') (fun hn => absurd hbool hn) hkeys hfree
    · obtain ⟨g, b, h1, h2, h3, _⟩ := effG_pure he (fun f args ts e => hc ⟨f, args, ts, e⟩)
      have := holdsA_true h hch h1
      subst this
      have hb : b = true := by cases b <;> simp_all
      subst hb
      rw [hG] at h2
      obtain ⟨x, c', e1, e2, e3, e4⟩ := pureA_sound h hch h2
      simp only [Oper.wp, e1, Oper.upon]
      refine hK _ _ ?_
      rw [hdst]
      exact (h.keep e2 e3).putG hdN hdt (fun _ => e4.rep) (fun hn => absurd hbool hn) hkeys hfree
  · have hbool : a.tmps.getD t undef ≠ .bool w := fun e => hw ((wanted_iff hg ht).2 e)
    rw [if_neg hw]
    refine hK _ _ ?_
    rw [hdst]
    exact h.putG hdN hdt (fun e => absurd e hbool) (fun _ => rfl) hkeys hfree
def NoGrd (s : St) : Prop := ∀ t v, s.get t = some v → v.isGrd = false
theorem stepA_inv {X : Cfg} {o : Oper} {k : St → Res} {r : AV × List AO} (he : stepA X s o k = some r) : ∃ v objs', effA X s o = some (true, v, objs') ∧ k (s.after o.dst v objs') = some r := by
  rw [stepA_eq] at he
  obtain ⟨⟨b, v, objs'⟩, h1, he⟩ := opt_bind he
  obtain ⟨rfl, he⟩ := guardO_inv he
  exact ⟨v, objs', h1, he⟩
theorem stepN_inv {X : Cfg} {o : Oper} {k : St → Res} {r : AV × List AO} (he : stepN X s o k = some r) : ∃ v objs', effN X s o = some (true, v, objs') ∧ k (s.after o.dst v objs') = some r := by
  rw [stepN_eq] at he
  obtain ⟨⟨b, v, objs'⟩, h1, he⟩ := opt_bind he
  obtain ⟨rfl, he⟩ := guardO_inv he
  exact ⟨v, objs', h1, he⟩
theorem stepG_inv {X : Cfg} {o : Oper} {t : Nat} {w : Bool} {k : St → Res} {r : AV × List AO} (he : stepG X s o t w k = some r) :
    ∃ d v, o.dst = some d ∧ d ≠ t ∧ effG X s o t w = some (true, v) ∧ k (s.put (some d) (.grd t w v)) = some r := by
  rw [stepG_eq] at he
  cases hd : o.dst with
  | none => simp [hd] at he
  | some d =>
    simp only [hd] at he
    obtain ⟨h1, he⟩ := cond_none' he
    obtain ⟨⟨b, v⟩, h2, he⟩ := opt_bind he
    obtain ⟨rfl, he⟩ := guardO_inv he
    exact ⟨d, v, rfl, fun e => by subst e; simp at h1, h2, he⟩
def GInv (s : St) (rest : List Oper) : Prop := ∀ t tc w v, s.get t = some (.grd tc w v) → ∀ o ∈ rest, o.dst ≠ some tc
theorem GInv.after {s : St} {o : Oper} {rest : List Oper} (h : GInv s (o :: rest)) {v : AV} (hv : v.isGrd = false) (objs : List (Nat × AO)) : GInv (s.after o.dst v objs) rest := by
  intro t tc w u hu q hq
  rw [get_after] at hu
  by_cases e : o.dst = some t
  · rw [if_pos e] at hu; cases hu; simp [AV.isGrd] at hv
  · rw [if_neg e] at hu; exact h t tc w u hu q (List.mem_cons_of_mem _ hq)
theorem GInv.putG {s : St} {o : Oper} {rest : List Oper} (h : GInv s (o :: rest)) {d t : Nat} {w : Bool} {v : AV} (hr : (rest.any fun q => q.dst == some t) = false) : GInv (s.put (some d) (.grd t w v)) rest := by
  intro t' tc w' u hu q hq
  rw [St.get_put] at hu
  by_cases e : d = t'
  · rw [if_pos e] at hu
    simp only [Option.some.injEq, AV.grd.injEq] at hu
    obtain ⟨rfl, _, _⟩ := hu
    have := List.any_eq_false.1 hr q hq
    simpa using this
  · rw [if_neg e] at hu; exact h t' tc w' u hu q (List.mem_cons_of_mem _ hq)
theorem get_same {s : St} {t : Nat} {v : AV} (h : s.get t = some v) (q : Nat) : (s.put (some t) v).get q = s.get q := by
  rw [St.get_put]
  by_cases e : t = q
  · subst e; rw [if_pos rfl, h]
  · rw [if_neg e]
theorem Rel.same (h : Rel B c s a) {t : Nat} {v : AV} (hv : s.get t = some v) : Rel B c (s.put (some t) v) a :=
  h.less (by rw [St.objs_put]; exact h.kept) (fun q u hu => by rwa [get_same hv] at hu) (fun k o ho => by simpa using ho) (fun q u hu k hk => by rw [St.objs_put]; rw [get_same hv] at hu; exact h.closed q u hu k hk) (fun k o ho q hq => by rw [St.objs_put]; exact h.objs.closed k o (by simpa [St.obj] using ho) q hq)
theorem GInv.same {s : St} {rest : List Oper} (h : GInv s rest) {t : Nat} {v : AV} (hv : s.get t = some v) : GInv (s.put (some t) v) rest := fun q tc w u hu => h q tc w u (by rwa [get_same hv] at hu)
theorem stepB_inv {X : Cfg} {s : St} {o : Oper} {t : Nat} {w : Bool} {k : St → Res} {r : AV × List AO} (he : stepB X s o t w k = some r) :
    ∃ b, s.get t = some (.bool b) ∧ ((b = w ∧ stepN X (s.put (some t) (.bool b)) o k = some r) ∨ (b ≠ w ∧ k ((s.put (some t) (.bool b)).put o.dst .undef) = some r)) := by
  unfold stepB at he
  split at he
  · rename_i b hb
    refine ⟨b, hb, ?_⟩
    cases w <;> cases b
    · exact .inl ⟨rfl, he⟩
    · exact .inr ⟨by simp, he⟩
    · exact .inr ⟨by simp, he⟩
    · exact .inl ⟨rfl, he⟩
  · cases he
theorem runOps_sound {X : Cfg} (hX : CallsOk X) (hG : X.G = B.G) {ops : Array Oper} {k : St → Res} {r : AV × List AO} {Q : Exit → Act → World → Prop}  :
    ∀ (rest : List Oper) (i : Nat) (s : St) (c : Cx) (a : Act), (∀ j o, rest[j]? = some o → ops[i + j]? = some o) → runOps X ops rest s k = some r → Rel B c s a → (∀ o ∈ rest, ∀ d, o.dst = some d → d < B.N) → GInv s rest →
      (∀ s' c' a', k s' = some r → Rel B c' s' a' → (NoGrd s → anyGuard rest = false → NoGrd s') → Q .normal a' c'.w) → wpOps X.P ops Q (List.range' i rest.length) a c.w
  | [], i, s, c, a, _, he, h, _, _, hk => by
    simp only [List.length_nil, List.range'_zero, wpOps]
    exact hk s c a he h (fun hn _ => hn)
  | o :: rest, i, s, c, a, hops, he, h, hN, hI, hk => by
    have hoi : ops[i]? = some o := hops 0 o rfl
    have hrest : ∀ j q, rest[j]? = some q → ops[i + 1 + j]? = some q := fun j q hq => by
      have := hops (j + 1) q (by simpa using hq)
      rw [Nat.add_assoc, Nat.add_comm 1 j]; exact this
    have hN' : ∀ o ∈ rest, ∀ d, o.dst = some d → d < B.N := fun q hq => hN q (List.mem_cons_of_mem _ hq)
    simp only [List.length_cons, List.range'_succ]
    rw [wpOps_cons]
    cases hg : o.guard with
    | none =>
      simp only [runOps, hg] at he
      obtain ⟨v, objs', h1, h2⟩ := stepN_inv he
      have hfree : ∀ t, o.dst = some t → t < B.N ∧ FreeOf s t := fun t ht => ⟨hN o (by simp) t ht, fun t' tc w v' hgt e => hI t' tc w v' hgt o (by simp) (by rw [ht, e])⟩
      obtain ⟨hstep, hv⟩ := effN_sound hX hG h hfree h1
      refine hstep.istep hoi hg Q _ fun a' c' hr => ?_
      refine runOps_sound hX hG rest (i + 1) _ c' a' hrest h2 hr hN' (hI.after hv objs') fun s' c2 a2 e1 e2 e3 => hk s' c2 a2 e1 e2 fun hn hq => e3 (fun t u hu => ?_) (by simpa [anyGuard, hg] using hq)
      rw [get_after] at hu
      by_cases e : o.dst = some t
      · rw [if_pos e] at hu; cases hu; exact hv
      · rw [if_neg e] at hu; exact hn t u hu
    | some jw =>
      obtain ⟨j, w⟩ := jw
      simp only [runOps, hg] at he
      cases ht : (ops[j]?).bind (·.dst) with
      | none => simp [ht] at he
      | some t =>
        simp only [ht] at he
        obtain ⟨hany, he⟩ := cond_none' he
        cases hbrk : X.brk o with
        | true =>
          rw [hbrk, cond_true] at he
          obtain ⟨b, hb, hee⟩ := stepB_inv he
          have h' := h.same hb
          have hI' := hI.same hb
          have hbt := (h.env t _ hb)
          have hbv : a.tmps.getD t undef = .bool b := by
            have hbt : Rep c (.bool b) (a.tmps.getD t undef) := hbt
            generalize a.tmps.getD t undef = Z at hbt
            cases hbt; rfl
          rcases hee with ⟨rfl, hs1⟩ | ⟨hne, hs1⟩
          · obtain ⟨v, objs', h1, h2⟩ := stepN_inv hs1
            have hfree : ∀ t', o.dst = some t' → t' < B.N ∧ FreeOf (s.put (some t) (.bool b)) t' := fun t' ht' => ⟨hN o (by simp) t' ht', fun t'' tc w' v' hgt e => hI' t'' tc w' v' hgt o (by simp) (by rw [ht', e])⟩
            obtain ⟨hstep, hv⟩ := effN_sound hX hG h' hfree h1
            have hw : Region.wanted o (yielded ops a.tmps) = true := (wanted_iff hg ht).2 hbv
            have hist : IStep X.P ops B c a i ((s.put (some t) (.bool b)).after o.dst v objs') := by
              intro Q K hK
              unfold wpOp
              simp only [hoi]
              rw [if_pos hw]
              exact .inl (Oper.wp_mono (fun a' w' => by rintro ⟨c', rfl, hr⟩; exact hK a' c' hr) (hstep Q))
            refine hist Q _ fun a' c' hr => ?_
            refine runOps_sound hX hG rest (i + 1) _ c' a' hrest h2 hr hN' (hI'.after hv objs') fun s' c2 a2 e1 e2 e3 => hk s' c2 a2 e1 e2 fun hn hq => ?_
            simp [anyGuard, hg] at hq
          · have hw : ¬ Region.wanted o (yielded ops a.tmps) = true := fun e => by
              have := (wanted_iff hg ht).1 e
              rw [hbv] at this
              exact hne (by simpa using this)
            have hist : IStep X.P ops B c a i ((s.put (some t) (.bool b)).put o.dst .undef) := by
              intro Q K hK
              unfold wpOp
              simp only [hoi]
              rw [if_neg hw]
              refine hK _ _ ?_
              cases hd : o.dst with
              | none => exact h'
              | some d => exact h'.put (hN o (by simp) d hd) (.undef _) rfl (by simp [AV.keys]) (fun t'' tc w' v' hgt e => hI' t'' tc w' v' hgt o (by simp) (by rw [hd, e]))
            refine hist Q _ fun a' c' hr => ?_
            refine runOps_sound hX hG rest (i + 1) _ c' a' hrest hs1 hr hN' (hI'.after (v := .undef) rfl (s.put (some t) (.bool b)).objs) fun s' c2 a2 e1 e2 e3 => hk s' c2 a2 e1 e2 fun hn hq => ?_
            simp [anyGuard, hg] at hq
        | false =>
        rw [hbrk, cond_false] at he
        obtain ⟨d, v, hd, hdt, h1, h2⟩ := stepG_inv he
        have hfree : FreeOf s d := fun t' tc w v' hgt e => hI t' tc w v' hgt o (by simp) (by rw [hd, e])
        refine effG_sound hX hG h hoi hg ht hd (hN o (by simp) d hd) hfree hdt h1 Q _ fun a' c' hr => ?_
        refine runOps_sound hX hG rest (i + 1) _ c' a' hrest h2 hr hN' (hI.putG hany) fun s' c2 a2 e1 e2 e3 => hk s' c2 a2 e1 e2 fun hn hq => ?_
        simp [anyGuard, hg] at hq
theorem alook_purge (env : List (Nat × AV)) (t : Nat) : alook (purge env) t = (alook env t).map fun v => cond v.isGrd .undef v := by
  induction env with
  | nil => rfl
  | cons p r ih =>
    obtain ⟨q, v⟩ := p
    simp only [purge, alook]
    cases Nat.beq q t <;> simp [ih]
theorem Rel.purge (h : Rel B c s a) : Rel B c { s with env := purge s.env } a := by
  refine ⟨h.good, h.frame, h.objs, fun t v hv => ?_, fun t v hv => ?_, h.mine, h.tmps, h.defers, h.kept⟩
  · simp only [St.get, alook_purge] at hv
    obtain ⟨u, h1, h2⟩ := opt_map hv
    cases hu : u.isGrd with
    | true => simp only [hu, cond_true] at h2; subst h2; exact EnvRep.of_rep rfl (.undef _)
    | false => simp only [hu, cond_false] at h2; subst h2; exact h.env t u h1
  · simp only [St.get, alook_purge] at hv
    obtain ⟨u, h1, h2⟩ := opt_map hv
    cases hu : u.isGrd with
    | true => simp only [hu, cond_true] at h2; subst h2; simp [AV.keys]
    | false => simp only [hu, cond_false] at h2; subst h2; exact h.closed t u h1
theorem NoGrd.purge (s : St) : NoGrd { s with env := Go.Ab.purge s.env } := by
  intro t v hv
  simp only [St.get, alook_purge] at hv
  obtain ⟨u, h1, h2⟩ := opt_map hv
  cases hu : u.isGrd with
  | true => simp only [hu, cond_true] at h2; subst h2; rfl
  | false => simp only [hu, cond_false] at h2; subst h2; exact hu
theorem NoGrd.ginv {s : St} (h : NoGrd s) (rest : List Oper) : GInv s rest := by
  intro t tc w v hv
  have := h t _ hv
  simp [AV.isGrd] at this
theorem runRegion_sound {X : Cfg} (hX : CallsOk X) (hG : X.G = B.G) {ops : Array Oper} {id : Nat} {k : St → Res} {r : AV × List AO} {Q : Exit → Act → World → Prop} (he : runRegion X ops s k = some r) (h : Rel B c s a) (hn : NoGrd s)
    (hN : ∀ o ∈ ops.toList, ∀ d, o.dst = some d → d < B.N) (hk : ∀ s' c' a', k s' = some r → Rel B c' s' a' → NoGrd s' → Q .normal a' c'.w) : (Code.region id ops false).wp X.P Q a c.w := by
  apply wp_region
  have hr : List.range ops.size = List.range' 0 ops.toList.length := by simp [List.range_eq_range']
  rw [hr]
  have hops : ∀ j o, ops.toList[j]? = some o → ops[0 + j]? = some o := fun j o ho => by simpa using ho
  unfold runRegion at he
  cases hb : anyGuard ops.toList with
  | true =>
    simp only [hb, cond_true] at he
    obtain ⟨_, he⟩ := cond_none he
    exact runOps_sound hX hG ops.toList 0 s c a hops he h hN (hn.ginv _) fun s' c' a' e1 e2 _ => hk _ c' a' e1 e2.purge (NoGrd.purge _)
  | false =>
    simp only [hb, cond_false] at he
    exact runOps_sound hX hG ops.toList 0 s c a hops he h hN (hn.ginv _) fun s' c' a' e1 e2 e3 => hk _ c' a' e1 e2 (e3 hn hb)
end Go.Ab

namespace Go.Ab
open Go Go.RowKit
def Agree (s1 s2 : St) (l : List Nat) : Prop := ∀ t ∈ l, s1.get t = s2.get t
theorem opTmps_mem {l : List Operand} {t : Nat} : t ∈ opTmps l ↔ Operand.tmp t ∈ l := by
  induction l with
  | nil => simp [opTmps]
  | cons o r ih => cases o <;> simp [opTmps, ih]
theorem Agree.sub {s1 s2 : St} {l m : List Operand} (h : Agree s1 s2 (opTmps l)) (hs : ∀ x ∈ m, x ∈ l) : Agree s1 s2 (opTmps m) :=
  fun t ht => h t (opTmps_mem.2 (hs _ (opTmps_mem.1 ht)))
section
variable {s1 s2 : St} {G : Nat → Option (List AV)} {ch : Chain}
theorem evalO_congr {x : Operand} (h : Agree s1 s2 (opTmps [x])) : evalO ⟨s1, G, ch⟩ x = evalO ⟨s2, G, ch⟩ x := by
  cases x with
  | tmp t => simp only [evalO]; rw [h t (by simp [opTmps])]
  | _ => rfl
theorem evalL_congr : ∀ {l : List Operand}, Agree s1 s2 (opTmps l) → evalL ⟨s1, G, ch⟩ l = evalL ⟨s2, G, ch⟩ l
  | [], _ => rfl
  | x :: r, h => by
    simp only [evalL]
    rw [evalO_congr (h.sub (by simp)), evalL_congr (l := r) (h.sub (by simp +contextual))]
theorem evalParts_congr : ∀ {l : List (Nat × Operand)}, Agree s1 s2 (opTmps (l.map (·.2))) → evalParts ⟨s1, G, ch⟩ l = evalParts ⟨s2, G, ch⟩ l
  | [], _ => rfl
  | (i, x) :: r, h => by
    simp only [evalParts]
    rw [evalO_congr (h.sub (by simp)), evalParts_congr (l := r) (h.sub (by simp +contextual))]
theorem evalM_congr {x : Option Operand} (h : Agree s1 s2 (opTmps x.toList)) : pureA.evalM ⟨s1, G, ch⟩ x = pureA.evalM ⟨s2, G, ch⟩ x := by
  cases x with
  | none => rfl
  | some o => simp only [pureA.evalM]; rw [evalO_congr (h.sub (by simp))]
def SameK (s1 s2 : St) (l : List Nat) : Prop := ∀ k ∈ l, s1.obj k = s2.obj k
theorem srcA_congr {x : AV} (h : SameK s1 s2 x.keys) : srcA s1 x = srcA s2 x := by
  cases x with
  | msl k sz off n => simp only [srcA, h k (by simp [AV.keys])]
  | gsl k sz n => simp only [srcA, h k (by simp [AV.keys])]
  | _ => rfl
theorem loadA_congr {x : AV} (h : SameK s1 s2 x.keys) (P : Program) (t : TypeId) : loadA P s1 t x = loadA P s2 t x := by
  cases x with
  | ref k off => simp only [loadA, h k (by simp [AV.keys])]
  | aref k sz i off => simp only [loadA, h k (by simp [AV.keys])]
  | gref k sz n i off => simp only [loadA, h k (by simp [AV.keys])]
  | _ => rfl
theorem indexAddrA_congr {x : AV} (h : SameK s1 s2 x.keys) (P : Program) (t : TypeId) (i : AV) : indexAddrA P s1 t x i = indexAddrA P s2 t x i := by
  cases i <;> try rfl
  simp only [indexAddrA]
  cases P.underlying t with
  | none => rfl
  | some d =>
    cases x with
    | ref k off => cases d <;> first | rfl | (cases off <;> simp only [h k (by simp [AV.keys])])
    | gsl k sz n => cases d <;> first | rfl | simp only [h k (by simp [AV.keys])]
    | _ => cases d <;> rfl
theorem convA_congr {x : AV} (h : SameK s1 s2 x.keys) (P : Program) (a b : TypeId) : convA P s1 a b x = convA P s2 a b x := by
  unfold convA
  cases P.underlying b with
  | none => rfl
  | some d =>
    cases x with
    | msl k sz off n => cases d <;> first | rfl | simp only [srcA, h k (by simp [AV.keys])]
    | gsl k sz n => cases d <;> first | rfl | simp only [srcA, h k (by simp [AV.keys])]
    | _ => cases d <;> rfl
theorem storeA_congr {x : AV} (h : SameK s1 s2 x.keys) (P : Program) (t : TypeId) (v : AV) : storeA P s1 t x v = storeA P s2 t x v := by
  cases x with
  | ref k off => simp only [storeA, h k (by simp [AV.keys])]
  | aref k sz i off => simp only [storeA, h k (by simp [AV.keys])]
  | gref k sz n i off => simp only [storeA, h k (by simp [AV.keys])]
  | _ => rfl
theorem makeSliceA_congr {d : Nat} (h : s1.obj d = s2.obj d) (P : Program) (t : TypeId) (x v : AV) : makeSliceA P s1 d t x v = makeSliceA P s2 d t x v := by
  simp only [makeSliceA, h]
theorem appendA_congr {d : Nat} {x y : AV} (h : s1.obj d = s2.obj d) (hx : SameK s1 s2 x.keys) (hy : SameK s1 s2 y.keys) (P : Program) (t : TypeId) : appendA P s1 d t x y = appendA P s2 d t x y := by
  unfold appendA
  rw [srcA_congr hy]
  cases P.underlying t with
  | none => rfl
  | some D =>
    cases D with
    | slice e =>
      dsimp only
      cases sizeOf? P e with
      | none => rfl
      | some sz => cases zeroCells P e with
        | none => rfl
        | some z => cases P.info? e with
          | none => rfl
          | some inf => cases x with
            | sl o sz0 n get => cases srcA s2 y with
              | none => rfl
              | some q => cases o with
                | no => rfl
                | fit => dsimp only; rw [h]
                | key k => dsimp only; rw [hx k (by simp [AV.keys])]
            | _ => rfl
    | _ => rfl
theorem appendM_congr {d : Nat} {x y : AV} (h : s1.obj d = s2.obj d) (hx : SameK s1 s2 x.keys) (hy : SameK s1 s2 y.keys) (P : Program) (t : TypeId) : appendM P s1 d t x y = appendM P s2 d t x y := by
  unfold appendM
  rw [srcA_congr hy]
  cases P.underlying t with
  | none => rfl
  | some D =>
    cases D with
    | slice e =>
      dsimp only
      cases sizeOf? P e with
      | none => rfl
      | some sz => cases zeroCells P e with
        | none => rfl
        | some z => cases P.info? e with
          | none => rfl
          | some inf => cases srcA s2 y with
            | none => rfl
            | some q => cases x with
              | sl o sz0 n get => cases o with
                | no => rfl
                | fit => dsimp only; rw [h]
                | key k => rfl
              | gsl k sz0 n => dsimp only; rw [hx k (by simp [AV.keys])]
              | _ => rfl
    | _ => rfl
theorem opKeys_mem {c : Ctx} {x : Operand} {v : AV} (hv : evalO c x = some v) : ∀ {l : List Operand}, x ∈ l → ∀ k ∈ v.keys, k ∈ opKeys c l
  | [], hx, _, _ => by simp at hx
  | y :: r, hx, k, hk => by
    simp only [opKeys, List.mem_append]
    rcases List.mem_cons.1 hx with rfl | hx
    · left; rw [hv]; exact hk
    · exact .inr (opKeys_mem hv hx k hk)
theorem pureA_congr (P : Program) {op : Op} (h : Agree s1 s2 (opTmps op.operands.toList)) (ho : SameK s1 s2 (cond (readsObj op) (opKeys ⟨s2, G, ch⟩ op.operands.toList) [])) : pureA P ⟨s1, G, ch⟩ op = pureA P ⟨s2, G, ch⟩ op := by
  have E : ∀ {x : Operand} {ch : Chain}, x ∈ op.operands.toList → evalO ⟨s1, G, ch⟩ x = evalO ⟨s2, G, ch⟩ x := fun {x ch} hx => evalO_congr (h.sub (m := [x]) (by simpa using hx))
  have K : readsObj op = true → ∀ {x : Operand} {v : AV}, x ∈ op.operands.toList → evalO ⟨s2, G, ch⟩ x = some v → SameK s1 s2 v.keys := fun hr {x v} hx hv k hk => ho k (by rw [hr]; exact opKeys_mem hv hx k hk)
  cases op with
  | move x | assign x | nilCheck x | unOp _ _ x | extract x _ | fieldAddr _ x _ | field _ x _ => simp only [pureA]; rw [E (by simp [Op.operands])]
  | load t x =>
    simp only [pureA]; rw [E (by simp [Op.operands])]
    cases hx : evalO ⟨s2, G, ch⟩ x with
    | none => rfl
    | some v => simp only [Option.bind_some]; exact loadA_congr (K rfl (by simp [Op.operands]) hx) P t
  | convert a b x =>
    simp only [pureA]; rw [E (by simp [Op.operands])]
    cases hx : evalO ⟨s2, G, ch⟩ x with
    | none => rfl
    | some v => simp only [Option.bind_some]; exact convA_congr (K rfl (by simp [Op.operands]) hx) P a b
  | pick q a b =>
    cases q with
    | tmp t => simp only [pureA]; rw [E (x := .tmp t) (by simp [Op.operands]), E (x := a) (by simp [Op.operands]), E (x := b) (by simp [Op.operands])]
    | _ => rfl
  | build t ps | buildSlice t n ps =>
    simp only [pureA]; rw [evalParts_congr (h.sub (by simp [Op.operands]))]
  | binOp op t x y z => simp only [pureA]; rw [E (x := x) (by simp [Op.operands]), E (x := y) (by simp [Op.operands])]
  | indexAddr t x y =>
    simp only [pureA]; rw [E (x := x) (by simp [Op.operands]), E (x := y) (by simp [Op.operands])]
    cases hx : evalO ⟨s2, G, ch⟩ x with
    | none => rfl
    | some v => simp only [Option.bind_some, indexAddrA_congr (K rfl (by simp [Op.operands]) hx)]
  | index t x y =>
    simp only [pureA]; rw [E (x := x) (by simp [Op.operands]), E (x := y) (by simp [Op.operands])]
  | makeFunc f a b =>
    cases f with
    | func f => simp only [pureA]; rw [evalL_congr (l := a.toList) (h.sub (by simp +contextual [Op.operands])), evalL_congr (l := b.toList) (h.sub (by simp +contextual [Op.operands]))]
    | _ => rfl
  | slice t x l hi m =>
    simp only [pureA]
    rw [E (x := x) (by simp [Op.operands]), evalM_congr (x := l) (h.sub (by simp +contextual [Op.operands])), evalM_congr (x := hi) (h.sub (by simp +contextual [Op.operands])), evalM_congr (x := m) (h.sub (by simp +contextual [Op.operands]))]
  | call q =>
    obtain ⟨callee, args, ts⟩ := q
    cases callee with
    | builtin b =>
      have hl : evalL ⟨s1, G, ch⟩ args.toList = evalL ⟨s2, G, ch⟩ args.toList := evalL_congr (h.sub (by simp +contextual [Op.operands, Call.operands]))
      cases b <;> first | rfl | (simp only [pureA]; rw [hl])
    | _ => rfl
  | _ => rfl
end
end Go.Ab

namespace Go.Ab
open Go Go.RowKit
mutual
theorem shed_nil : ∀ (v : AV), v.keys = [] → v.shed = v
  | .sl o sz n get, h => by cases o <;> simp_all [AV.keys, AV.shed]
  | .agg cs, h => by simp only [AV.shed]; rw [shedL_nil cs (by simpa [AV.keys] using h)]
  | .tup vs, h => by simp only [AV.shed]; rw [shedL_nil vs (by simpa [AV.keys] using h)]
  | .ref .., _ | .aref .., _ | .msl .., _ | .fn .., _ | .bool _, _ | .int .., _ | .str _, _ | .nilp, _ | .nilf, _ | .nilm, _ | .nili, _ | .nni, _ | .num _, _ | .undef, _ | .arr .., _ | .elt .., _ | .grd .., _ => rfl
theorem shedL_nil : ∀ (l : List AV), keysL l = [] → shedL l = l
  | [], _ => rfl
  | v :: r, h => by
    simp only [keysL, List.append_eq_nil_iff] at h
    simp only [shedL]; rw [shed_nil v h.1, shedL_nil r h.2]
end
section
variable {s1 s2 : St} {G : Nat → Option (List AV)} {ch : Chain}
theorem calleeA_congr {f : Operand} {args : Array Operand} {ts : Array TypeId} (h : Agree s1 s2 (opTmps (Op.call { callee := .value f, args, argTypes := ts }).operands.toList)) :
    calleeA ⟨s1, G, ch⟩ { callee := .value f, args, argTypes := ts } = calleeA ⟨s2, G, ch⟩ { callee := .value f, args, argTypes := ts } := by
  simp only [calleeA]
  rw [evalO_congr (x := f) (h.sub (by simp [Op.operands, Call.operands])), evalL_congr (l := args.toList) (h.sub (by simp +contextual [Op.operands, Call.operands]))]
theorem effA_pure {X : Cfg} {s : St} {o : Oper} (h1 : isLoud o.op = false) (h2 : isCallV o.op = false) : effA X s o = (pureA X.P ⟨s, X.G, []⟩ o.op).map fun r => (r.1, r.2, s.objs) := by
  cases hop : o.op with
  | call q =>
    obtain ⟨callee, args, ts⟩ := q
    cases callee with
    | builtin b => cases b <;> first | (simp [hop, isLoud] at h1; done) | simp only [effA, hop]
    | value f => simp [hop, isCallV] at h2
    | invoke r m => simp only [effA, hop]
  | alloc _ => simp [hop, isLoud] at h1
  | box _ _ => simp [hop, isLoud] at h1
  | store _ _ _ => simp [hop, isLoud] at h1
  | range _ _ => simp [hop, isLoud] at h1
  | next _ _ => simp [hop, isLoud] at h1
  | makeSlice _ _ _ => simp [hop, isLoud] at h1
  | _ => simp only [effA, hop]
def SameO (O1 O2 : List (Nat × AO)) : Prop := ∀ k, alook O1 k = alook O2 k
theorem SameO.put {O1 O2 : List (Nat × AO)} (h : SameO O1 O2) (k : Nat) (o : AO) : SameO (aput O1 k o) (aput O2 k o) := fun q => by rw [alook_aput, alook_aput, h q]
theorem freezeA_same {O1 O2 : List (Nat × AO)} (h : SameO O1 O2) {v v' : AV} {O2' : List (Nat × AO)} (he : freezeA O2 v = some (v', O2')) : ∃ O1', freezeA O1 v = some (v', O1') ∧ SameO O1' O2' := by
  cases v with
  | msl k sz off n =>
    simp only [freezeA] at he ⊢
    rw [h k]
    cases ho : alook O2 k with
    | none => simp [ho] at he
    | some ob =>
      cases ob with
      | arr sz' m get =>
        simp only [ho] at he ⊢
        obtain ⟨hb, he⟩ := guardO_inv he
        simp only [Option.some.injEq, Prod.mk.injEq] at he
        obtain ⟨rfl, rfl⟩ := he
        exact ⟨_, by rw [hb]; rfl, h.put _ _⟩
      | frz sz' m get =>
        simp only [ho] at he ⊢
        obtain ⟨hb, he⟩ := guardO_inv he
        simp only [Option.some.injEq, Prod.mk.injEq] at he
        obtain ⟨rfl, rfl⟩ := he
        exact ⟨_, by rw [hb]; rfl, h⟩
      | _ => simp [ho] at he
  | gsl k sz n =>
    simp only [freezeA] at he ⊢
    rw [h k]
    cases ho : alook O2 k with
    | none => simp [ho] at he
    | some ob =>
      cases ob with
      | grw sz' m get =>
        simp only [ho] at he ⊢
        obtain ⟨hb, he⟩ := guardO_inv he
        simp only [Option.some.injEq, Prod.mk.injEq] at he
        obtain ⟨rfl, rfl⟩ := he
        exact ⟨_, by rw [hb]; rfl, h.put _ _⟩
      | _ => simp [ho] at he
  | _ => simp only [freezeA, Option.some.injEq, Prod.mk.injEq] at he ⊢; obtain ⟨rfl, rfl⟩ := he; exact ⟨_, ⟨rfl, rfl⟩, h⟩
theorem freezeL_same : ∀ {l l' : List AV} {O1 O2 O2' : List (Nat × AO)}, SameO O1 O2 → freezeL O2 l = some (l', O2') → ∃ O1', freezeL O1 l = some (l', O1') ∧ SameO O1' O2'
  | [], l', O1, O2, O2', h, he => by simp only [freezeL, Option.some.injEq, Prod.mk.injEq] at he; obtain ⟨rfl, rfl⟩ := he; exact ⟨_, rfl, h⟩
  | v :: r, l', O1, O2, O2', h, he => by
    simp only [freezeL] at he ⊢
    obtain ⟨⟨v', o1⟩, e1, he⟩ := opt_bind he
    obtain ⟨⟨r', o2⟩, e2, he⟩ := opt_bind he
    simp only [Option.some.injEq, Prod.mk.injEq] at he
    obtain ⟨rfl, rfl⟩ := he
    obtain ⟨p1, g1, g2⟩ := freezeA_same h e1
    obtain ⟨p2, g3, g4⟩ := freezeL_same g2 e2
    exact ⟨p2, by rw [g1]; simp only [Option.bind_some]; rw [g3]; rfl, g4⟩
theorem freezeV_same {O1 O2 : List (Nat × AO)} (h : SameO O1 O2) {v v' : AV} {O2' : List (Nat × AO)} (he : freezeV O2 v = some (v', O2')) : ∃ O1', freezeV O1 v = some (v', O1') ∧ SameO O1' O2' := by
  cases v with
  | agg cs =>
    simp only [freezeV] at he ⊢
    obtain ⟨⟨l, o⟩, e1, he⟩ := opt_map he
    simp only [Prod.mk.injEq] at he
    obtain ⟨rfl, rfl⟩ := he
    obtain ⟨p, g1, g2⟩ := freezeL_same h e1
    exact ⟨p, by rw [g1]; rfl, g2⟩
  | _ => simp only [freezeV] at he ⊢; exact freezeA_same h he
theorem freezeVs_same : ∀ {l l' : List AV} {O1 O2 O2' : List (Nat × AO)}, SameO O1 O2 → freezeVs O2 l = some (l', O2') → ∃ O1', freezeVs O1 l = some (l', O1') ∧ SameO O1' O2'
  | [], l', O1, O2, O2', h, he => by simp only [freezeVs, Option.some.injEq, Prod.mk.injEq] at he; obtain ⟨rfl, rfl⟩ := he; exact ⟨_, rfl, h⟩
  | v :: r, l', O1, O2, O2', h, he => by
    simp only [freezeVs] at he ⊢
    obtain ⟨⟨v', o1⟩, e1, he⟩ := opt_bind he
    obtain ⟨⟨r', o2⟩, e2, he⟩ := opt_bind he
    simp only [Option.some.injEq, Prod.mk.injEq] at he
    obtain ⟨rfl, rfl⟩ := he
    obtain ⟨p1, g1, g2⟩ := freezeV_same h e1
    obtain ⟨p2, g3, g4⟩ := freezeVs_same g2 e2
    exact ⟨p2, by rw [g1]; simp only [Option.bind_some]; rw [g3]; rfl, g4⟩
theorem objKeys_same {O1 O2 : List (Nat × AO)} (h : SameO O1 O2) : ∀ l, objKeys O1 l = objKeys O2 l
  | [] => rfl
  | k :: r => by simp only [objKeys, h k, objKeys_same h r]
theorem getObjs_same {O1 O2 : List (Nat × AO)} (h : SameO O1 O2) : ∀ l, getObjs O1 l = getObjs O2 l
  | [] => rfl
  | k :: r => by simp only [getObjs, h k, getObjs_same h r]
theorem putObjs_same : ∀ {ks : List Nat} {l : List AO} {O1 O2 : List (Nat × AO)}, SameO O1 O2 → SameO (putObjs O1 ks l) (putObjs O2 ks l)
  | [], l, O1, O2, h => by cases l <;> exact h
  | k :: r, [], O1, O2, h => h
  | k :: r, o :: l, O1, O2, h => putObjs_same (ks := r) (l := l) (h.put k o)
theorem doCall_same {X : Cfg} {O1 O2 : List (Nat × AO)} (h : SameO O1 O2) {f : FuncId} {l : List AV} {b : Bool} {v : AV} {O2' : List (Nat × AO)} (he : doCall X O2 f l = some (b, v, O2')) : ∃ O1', doCall X O1 f l = some (b, v, O1') ∧ SameO O1' O2' := by
  unfold doCall at he ⊢
  obtain ⟨⟨l1, o1⟩, h1, he⟩ := opt_bind he
  have hfz : ∃ p, cond (X.byRef f) (some (l, O1)) (freezeVs O1 l) = some (l1, p) ∧ SameO p o1 := by
    cases hb : X.byRef f with
    | true => simp only [hb, cond_true, Option.some.injEq, Prod.mk.injEq] at h1; obtain ⟨rfl, rfl⟩ := h1; exact ⟨O1, rfl, h⟩
    | false => simp only [hb, cond_false] at h1; exact freezeVs_same h h1
  obtain ⟨p, g1, g2⟩ := hfz
  rw [g1]
  dsimp only [Option.bind_some] at he ⊢
  have e1 : reachK p (keysL (shedL l1)) = reachK o1 (keysL (shedL l1)) := by simp only [reachK, objKeys_same g2]
  obtain ⟨hcl, he⟩ := cond_none he
  obtain ⟨os, hos, he⟩ := opt_bind he
  obtain ⟨⟨r, os'⟩, hcall, he⟩ := opt_bind he
  obtain ⟨hlen, he⟩ := cond_none he
  dsimp only at hlen he
  simp only [Option.some.injEq, Prod.mk.injEq] at he
  obtain ⟨rfl, rfl, rfl⟩ := he
  refine ⟨putObjs p _ _, ?_, putObjs_same g2⟩
  rw [e1, objKeys_same g2, hcl, getObjs_same g2, hos]
  simp only [cond_true, Option.bind_some]
  rw [hcall]
  simp only [Option.bind_some, hlen, cond_true]
theorem effA_call_same {X : Cfg} {o : Oper} (h1 : isCallV o.op = true) (hO : SameO s1.objs s2.objs) (h : Agree s1 s2 (opTmps o.op.operands.toList)) {b : Bool} {v : AV} {O' : List (Nat × AO)} (he : effA X s2 o = some (b, v, O')) :
    ∃ O1', effA X s1 o = some (b, v, O1') ∧ SameO O1' O' := by
  cases hop : o.op with
  | call q =>
    obtain ⟨callee, args, ts⟩ := q
    cases callee with
    | value f =>
      rw [hop] at h
      simp only [effA, hop] at he ⊢
      obtain ⟨⟨g, l⟩, e1, he⟩ := opt_bind he
      obtain ⟨p, g1, g2⟩ := doCall_same hO he
      rw [calleeA_congr h, e1]
      exact ⟨p, by simp only [Option.bind_some]; rw [g1], g2⟩
    | builtin b => simp [hop, isCallV] at h1
    | invoke r m => simp [hop, isCallV] at h1
  | _ => simp [hop, isCallV] at h1
theorem effA_loud {X : Cfg} {o : Oper} (h1 : isLoud o.op = true) (h : Agree s1 s2 (opTmps o.op.operands.toList)) (hK : SameK s1 s2 (o.dst.toList ++ opKeys ⟨s2, X.G, []⟩ o.op.operands.toList)) {b : Bool} {v : AV} {O' : List (Nat × AO)} (he : effA X s2 o = some (b, v, O')) :
    ∃ q ob, q ∈ o.dst.toList ++ opKeys ⟨s2, X.G, []⟩ o.op.operands.toList ∧ O' = aput s2.objs q ob ∧ effA X s1 o = some (b, v, aput s1.objs q ob) := by
  have E : ∀ {x : Operand}, x ∈ o.op.operands.toList → evalO ⟨s1, X.G, []⟩ x = evalO ⟨s2, X.G, []⟩ x := fun {x} hx => evalO_congr (h.sub (m := [x]) (by simpa using hx))
  have K : ∀ {x : Operand} {v : AV}, x ∈ o.op.operands.toList → evalO ⟨s2, X.G, []⟩ x = some v → ∀ k ∈ v.keys, k ∈ o.dst.toList ++ opKeys ⟨s2, X.G, []⟩ o.op.operands.toList := fun {x v} hx hv k hk => List.mem_append_right _ (opKeys_mem hv hx k hk)
  have D : ∀ d, o.dst = some d → d ∈ o.dst.toList ++ opKeys ⟨s2, X.G, []⟩ o.op.operands.toList := fun d hd => List.mem_append_left _ (by rw [hd]; simp)
  cases hop : o.op with
  | alloc t =>
    simp only [effA, hop] at he ⊢
    cases hdst : o.dst with
    | none => simp [hdst] at he
    | some d =>
      simp only [hdst] at he ⊢
      rw [hK d (D d hdst)]
      cases hob : s2.obj d with
      | some _ => simp [hob] at he
      | none =>
        simp only [hob] at he ⊢
        obtain ⟨ob, e1, e2⟩ := opt_map he
        simp only [Prod.mk.injEq] at e2
        obtain ⟨rfl, rfl, rfl⟩ := e2
        exact ⟨d, ob, by simp, rfl, by rw [e1]; rfl⟩
  | box t x =>
    have hE := E (x := x) (by simp [hop, Op.operands])
    simp only [effA, hop] at he ⊢
    cases hdst : o.dst with
    | none => simp [hdst] at he
    | some d =>
      simp only [hdst] at he ⊢
      rw [hK d (D d hdst), hE]
      cases hob : s2.obj d with
      | some _ => simp [hob] at he
      | none =>
        simp only [hob] at he ⊢
        obtain ⟨u, e1, he⟩ := opt_bind he
        rw [e1]
        simp only [Option.bind_some]
        cases u with
        | arr sz n get =>
          dsimp only at he ⊢
          obtain ⟨hb, he⟩ := guardO_inv he
          simp only [Option.some.injEq, Prod.mk.injEq] at he
          obtain ⟨rfl, rfl, rfl⟩ := he
          exact ⟨d, _, by simp, rfl, by rw [hb]; rfl⟩
        | _ =>
          dsimp only at he ⊢
          obtain ⟨hb, he⟩ := guardO_inv he
          simp only [Option.some.injEq, Prod.mk.injEq] at he
          obtain ⟨rfl, rfl, rfl⟩ := he
          exact ⟨d, _, by simp, rfl, by rw [hb]; rfl⟩
  | range t x =>
    have hE := E (x := x) (by simp [hop, Op.operands])
    simp only [effA, hop] at he ⊢
    cases hdst : o.dst with
    | none => simp [hdst] at he
    | some d =>
      simp only [hdst] at he ⊢
      rw [hK d (D d hdst), hE]
      cases hob : s2.obj d with
      | some _ => simp [hob] at he
      | none =>
        simp only [hob] at he ⊢
        obtain ⟨u, e1, he⟩ := opt_bind he
        rw [e1]
        simp only [Option.bind_some]
        split at he
        · rename_i bs ht
          simp only [Option.some.injEq, Prod.mk.injEq] at he
          obtain ⟨rfl, rfl, rfl⟩ := he
          exact ⟨d, _, by simp, rfl, rfl⟩
        · simp at he
  | next x isS =>
    have hE := E (x := x) (by simp [hop, Op.operands])
    have hKx : ∀ {v : AV}, evalO ⟨s2, X.G, []⟩ x = some v → ∀ k ∈ v.keys, k ∈ o.dst.toList ++ opKeys ⟨s2, X.G, []⟩ o.op.operands.toList := fun {v} => K (x := x) (v := v) (by simp [hop, Op.operands])
    rw [hop] at hK hKx
    simp only [effA, hop] at he ⊢
    rw [hE]
    obtain ⟨u, e1, he'⟩ := opt_bind he
    clear he
    have hku := hKx e1
    rw [e1]
    simp only [Option.bind_some]
    split at he'
    · rename_i q
      have he := he'
      clear he'
      have hq := hku q (by simp [AV.keys])
      split at he
      · rename_i bs pos hob
        simp only [Option.some.injEq, Prod.mk.injEq] at he
        obtain ⟨rfl, rfl, rfl⟩ := he
        exact ⟨q, _, hq, rfl, by simp only [hK q hq, hob]⟩
      · simp at he
    · simp at he'
  | store t x y =>
    have hE := E (x := x) (by simp [hop, Op.operands])
    have hE' := E (x := y) (by simp [hop, Op.operands])
    have hKx : ∀ {v : AV}, evalO ⟨s2, X.G, []⟩ x = some v → ∀ k ∈ v.keys, k ∈ o.dst.toList ++ opKeys ⟨s2, X.G, []⟩ o.op.operands.toList := fun {v} => K (x := x) (v := v) (by simp [hop, Op.operands])
    simp only [effA, hop] at he ⊢
    rw [hE, hE']
    obtain ⟨u, e1, he⟩ := opt_bind he
    obtain ⟨q, e2, he⟩ := opt_bind he
    obtain ⟨⟨b', k, ob⟩, e3, he⟩ := opt_map he
    simp only [Prod.mk.injEq] at he
    obtain ⟨rfl, rfl, rfl⟩ := he
    rw [e1, e2]
    simp only [Option.bind_some]
    have hku := hKx e1
    rw [storeA_congr (fun k hk => hK k (hku k hk)), e3]
    refine ⟨k, ob, ?_, rfl, rfl⟩
    have hk : k ∈ u.keys := by
      cases u with
      | ref k' off =>
        have : k = k' := by
          simp only [storeA] at e3
          cases ho : s2.obj k' with
          | none => simp [ho] at e3
          | some o' =>
            cases o' with
            | cells cs =>
              simp only [ho] at e3
              obtain ⟨_, e3⟩ := guardO_inv e3
              obtain ⟨_, _, e3⟩ := opt_map e3
              simp only [Prod.mk.injEq] at e3; exact e3.2.1.symm
            | arr sz n get =>
              simp only [ho] at e3
              cases q <;> simp only [] at e3 <;> first
                | (cases e3; done)
                | (obtain ⟨_, e3⟩ := guardO_inv e3; simp only [Option.some.injEq, Prod.mk.injEq] at e3; exact e3.2.1.symm)
            | _ => simp [ho] at e3
        simp [AV.keys, this]
      | aref k' sz' i off =>
        have : k = k' := by
          simp only [storeA] at e3
          cases ho : s2.obj k' with
          | none => simp [ho] at e3
          | some o' =>
            cases o' with
            | arr sz n get =>
              simp only [ho] at e3
              obtain ⟨_, e3⟩ := guardO_inv e3
              obtain ⟨_, _, e3⟩ := opt_map e3
              simp only [Prod.mk.injEq] at e3; exact e3.2.1.symm
            | _ => simp [ho] at e3
        simp [AV.keys, this]
      | gref k' sz' n' i off =>
        have : k = k' := by
          simp only [storeA] at e3
          cases ho : s2.obj k' with
          | none => simp [ho] at e3
          | some o' =>
            cases o' with
            | grw sz n get =>
              simp only [ho] at e3
              obtain ⟨_, e3⟩ := guardO_inv e3
              obtain ⟨_, _, e3⟩ := opt_map e3
              simp only [Prod.mk.injEq] at e3; exact e3.2.1.symm
            | _ => simp [ho] at e3
        simp [AV.keys, this]
      | _ => simp [storeA] at e3
    rw [← hop]; exact hku k hk
  | makeSlice t x y =>
    have hE := E (x := x) (by simp [hop, Op.operands])
    have hE' := E (x := y) (by simp [hop, Op.operands])
    simp only [effA, hop] at he ⊢
    rw [hE, hE']
    cases hdst : o.dst with
    | none => simp [hdst] at he
    | some d =>
      simp only [hdst] at he ⊢
      obtain ⟨u, e1, he⟩ := opt_bind he
      obtain ⟨q, e2, he⟩ := opt_bind he
      obtain ⟨⟨b', v', k, ob⟩, e3, he⟩ := opt_map he
      simp only [Prod.mk.injEq] at he
      obtain ⟨rfl, rfl, rfl⟩ := he
      rw [e1, e2]
      simp only [Option.bind_some]
      rw [makeSliceA_congr (hK d (D d hdst)), e3]
      have hk : k = d := by
        clear he hE hE' e1 e2
        unfold makeSliceA at e3
        split at e3
        · rename_i e l m hu
          split at e3
          · obtain ⟨_, e3⟩ := guardO_inv e3
            by_cases hb : l = m
            · rw [decide_eq_true hb] at e3; simp only [cond_true, Option.some.injEq, Prod.mk.injEq] at e3; exact e3.2.2.1.symm
            · rw [decide_eq_false hb] at e3; simp only [cond_false, Option.some.injEq, Prod.mk.injEq] at e3; exact e3.2.2.1.symm
          · cases e3
        · cases e3
      exact ⟨k, ob, by simp [hk], rfl, rfl⟩
  | call q =>
    obtain ⟨callee, args, ts⟩ := q
    cases callee with
    | builtin bi =>
      cases bi with
      | append =>
        have hl : evalL ⟨s1, X.G, []⟩ args.toList = evalL ⟨s2, X.G, []⟩ args.toList := evalL_congr (h.sub (by rw [hop]; simp +contextual [Op.operands, Call.operands]))
        simp only [effA, hop] at he ⊢
        split at he
        · rename_i d t t' hdst hts
          obtain ⟨hb, he⟩ := guardO_inv he
          obtain ⟨l, e1, he⟩ := opt_bind he
          rw [hl, e1, hb]
          split at he
          · rename_i x y
            obtain ⟨⟨b', v', k, ob⟩, e3, he⟩ := opt_map he
            simp only [Prod.mk.injEq] at he
            obtain ⟨rfl, rfl, rfl⟩ := he
            have hkeys : ∀ k ∈ keysL [x, y], k ∈ o.dst.toList ++ opKeys ⟨s2, X.G, []⟩ o.op.operands.toList := by
              have aux : ∀ (as : List Operand) (l : List AV), evalL ⟨s2, X.G, []⟩ as = some l → ∀ k ∈ keysL l, k ∈ opKeys ⟨s2, X.G, []⟩ as := by
                intro as
                induction as with
                | nil => intro l hl k hk; simp [evalL] at hl; subst hl; simp [keysL] at hk
                | cons x r ih =>
                  intro l hl k hk
                  simp only [evalL] at hl
                  obtain ⟨v, g1, hl⟩ := opt_bind hl
                  obtain ⟨l', g2, hl⟩ := opt_map hl
                  subst hl
                  simp only [keysL, List.mem_append] at hk
                  simp only [opKeys, g1, List.mem_append]
                  rcases hk with hk | hk
                  · exact .inl hk
                  · exact .inr (ih l' g2 k hk)
              intro k hk
              have := aux _ _ e1 k hk
              refine List.mem_append_right _ ?_
              rw [hop]
              simpa [Op.operands, Call.operands] using this
            have hsx : SameK s1 s2 x.keys := fun k hk => hK k (hkeys k (by simp only [keysL, List.mem_append]; exact .inl hk))
            have hsy : SameK s1 s2 y.keys := fun k hk => hK k (hkeys k (by simp only [keysL, List.mem_append]; exact .inr (.inl hk)))
            simp only [guardO, cond_true, Option.bind_some]
            rw [appendA_congr (hK d (D d hdst)) hsx hsy, appendM_congr (hK d (D d hdst)) hsx hsy, e3]
            refine ⟨k, ob, ?_, rfl, rfl⟩
            have hk : k = d ∨ k ∈ x.keys := by
              cases hgr : (isGsl x || X.grow o) with
              | true =>
                rw [hgr, cond_true] at e3
                unfold appendM at e3
                split at e3
                · split at e3
                  · rename_i sz z inf sz2 m get2 _ _ _ _
                    obtain ⟨_, e3⟩ := guardO_inv e3
                    split at e3
                    · obtain ⟨_, e3⟩ := guardO_inv e3
                      split at e3
                      · simp only [Option.some.injEq, Prod.mk.injEq] at e3; exact .inl e3.2.2.1.symm
                      · cases e3
                    · obtain ⟨_, e3⟩ := guardO_inv e3
                      split at e3
                      · obtain ⟨_, e3⟩ := guardO_inv e3
                        simp only [Option.some.injEq, Prod.mk.injEq] at e3; exact .inr (by simp [AV.keys, e3.2.2.1])
                      · cases e3
                    · cases e3
                  · cases e3
                · cases e3
              | false =>
                rw [hgr, cond_false] at e3
                unfold appendA at e3
                split at e3
                · split at e3
                  · rename_i ow sz0 n get sz2 m get2 _ _ _ _
                    obtain ⟨_, e3⟩ := guardO_inv e3
                    cases ow with
                    | no => cases e3
                    | fit =>
                      simp only [] at e3
                      split at e3
                      · simp only [Option.some.injEq, Prod.mk.injEq] at e3; exact .inl e3.2.2.1.symm
                      · cases e3
                    | key k' =>
                      simp only [] at e3
                      split at e3
                      · obtain ⟨_, e3⟩ := guardO_inv e3
                        simp only [Option.some.injEq, Prod.mk.injEq] at e3; exact .inr (by simp [AV.keys, e3.2.2.1])
                      · cases e3
                  · cases e3
                · cases e3
            rw [← hop]
            rcases hk with rfl | hk
            · exact List.mem_append_left _ (by simp [hdst])
            · exact hkeys k (by simp only [keysL, List.mem_append]; exact .inl hk)
          · cases he
        · cases he
      | _ => simp [hop, isLoud] at h1
    | _ => simp [hop, isLoud] at h1
  | _ => simp [hop, isLoud] at h1
theorem chainOf_congr : ∀ {n t : Nat} {w : Bool}, Agree s1 s2 ((chainOf s2 n t w).map (·.1)) → chainOf s1 n t w = chainOf s2 n t w
  | 0, _, _, _ => rfl
  | n + 1, t, w, h => by
    have ht : s1.get t = s2.get t := h t (by simp [chainOf])
    simp only [chainOf] at h ⊢
    rw [ht]
    cases hg : s2.get t with
    | none => rfl
    | some u =>
      cases u with
      | grd tc wc u' =>
        simp only [hg] at h ⊢
        rw [chainOf_congr (n := n) fun q hq => h q (by simp only [List.map_cons, List.mem_cons]; exact .inr hq)]
      | _ => rfl
theorem holdsA_congr : ∀ {ch : Chain}, Agree s1 s2 (ch.map (·.1)) → holdsA s1 ch = holdsA s2 ch
  | [], _ => rfl
  | (t, w) :: r, h => by
    have ht : s1.get t = s2.get t := h t (by simp)
    simp only [holdsA]
    rw [ht, holdsA_congr (ch := r) fun q hq => h q (by simp only [List.map_cons, List.mem_cons]; exact .inr hq)]
theorem subK_domK {O1 O2 : List (Nat × AO)} : ∀ {l : List Nat}, (∀ k ∈ l, alook O1 k = alook O2 k) → subK l (domK O2) = true → subK l (domK O1) = true
  | [], _, _ => rfl
  | k :: r, h, he => by
    simp only [subK, Bool.and_eq_true] at he ⊢
    refine ⟨any_beq.2 (live_domK ?_), subK_domK (fun q hq => h q (List.mem_cons_of_mem _ hq)) he.2⟩
    obtain ⟨o, ho⟩ := domK_live (any_beq.1 he.1)
    exact ⟨o, by rw [h k (by simp)]; exact ho⟩
theorem effG_congr {X : Cfg} {o : Oper} {t : Nat} {w : Bool} {b : Bool} {v : AV} (he : effG X s2 o t w = some (b, v)) (h : Agree s1 s2 ((chainOf s2 4 t w).map (·.1) ++ opTmps o.op.operands.toList))
    (ho : SameK s1 s2 (cond (readsObj o.op) (opKeys ⟨s2, X.G, chainOf s2 4 t w⟩ o.op.operands.toList) [] ++ v.keys)) : effG X s1 o t w = some (b, v) := by
  have hc : Agree s1 s2 ((chainOf s2 4 t w).map (·.1)) := fun q hq => h q (List.mem_append_left _ hq)
  have hop' : Agree s1 s2 (opTmps o.op.operands.toList) := fun q hq => h q (List.mem_append_right _ hq)
  have e1 := chainOf_congr hc
  have e2 := holdsA_congr hc
  have hp : (holdsA s2 (chainOf s2 4 t w)).bind (fun g => (pureA X.P ⟨s2, X.G, chainOf s2 4 t w⟩ o.op).bind fun r => guardO (subK r.2.keys (domK s2.objs)) (some (cond r.1 true (!g), r.2))) = some (b, v) →
      (holdsA s1 (chainOf s1 4 t w)).bind (fun g => (pureA X.P ⟨s1, X.G, chainOf s1 4 t w⟩ o.op).bind fun r => guardO (subK r.2.keys (domK s1.objs)) (some (cond r.1 true (!g), r.2))) = some (b, v) := by
    intro he
    rw [e1, e2, pureA_congr X.P hop' (fun k hk => ho k (List.mem_append_left _ hk))]
    obtain ⟨g, f1, he⟩ := opt_bind he
    obtain ⟨⟨b', v'⟩, f2, he⟩ := opt_bind he
    obtain ⟨f3, he⟩ := guardO_inv he
    simp only [Option.some.injEq, Prod.mk.injEq] at he
    obtain ⟨rfl, rfl⟩ := he
    rw [f1, f2]
    simp only [Option.bind_some]
    rw [subK_domK (fun k hk => ho k (List.mem_append_right _ hk)) f3]; rfl
  cases hop : o.op with
  | call q =>
    obtain ⟨callee, args, ts⟩ := q
    cases callee with
    | value f => simp only [effG, hop] at he ⊢; rw [e1, calleeA_congr (by rw [← hop]; exact hop')]; exact he
    | _ => simp only [effG, hop] at he ⊢; rw [hop] at hp; exact hp he
  | _ => simp only [effG, hop] at he ⊢; rw [hop] at hp; exact hp he
end
end Go.Ab

namespace Go.Ab
open Go Go.RowKit
variable {P : Program} {B : Base} {c : Cx} {s : St} {a : Act}
inductive One (X : Cfg) (ops : Array Oper) (o : Oper) (s : St) : St → Prop
  | plain (v : AV) (objs' : List (Nat × AO)) : o.guard = none → effA X s o = some (true, v, objs') → One X ops o s (s.after o.dst v objs')
  | guarded (j t d : Nat) (w : Bool) (v : AV) : o.guard = some (j, w) → (ops[j]?).bind (·.dst) = some t → o.dst = some d → d ≠ t → effG X s o t w = some (true, v) → One X ops o s (s.put (some d) (.grd t w v))
theorem One.other {X : Cfg} {ops : Array Oper} {o : Oper} {s s' : St} (h : One X ops o s s') {t : Nat} (ht : o.dst ≠ some t) : s'.get t = s.get t := by
  cases h with
  | plain v objs' _ _ => rw [get_after, if_neg ht]
  | guarded j t' d w v _ _ hd _ _ => rw [St.get_put, if_neg]; rintro rfl; exact ht hd
structure Trace (X : Cfg) (ops : Array Oper) (st : Nat → St) : Prop where
  step : ∀ i o, ops[i]? = some o → One X ops o (st i) (st (i + 1))
  later : ∀ (i : Nat) (o : Oper) (j t : Nat) (w : Bool), ops[i]? = some o → o.guard = some (j, w) → (ops[j]?).bind (·.dst) = some t → ∀ (k : Nat) (q : Oper), i < k → ops[k]? = some q → q.dst ≠ some t
theorem runOpsD_inv {X : Cfg} {ops : Array Oper} {K : List Fp → St → Res} {r : AV × List AO} : ∀ (rest : List Oper) (i : Nat) (acc : List Fp) (s : St), (∀ j, rest[j]? = ops[i + j]?) → runOpsD X ops rest i acc s K = some r →
    ∃ st : Nat → St, st i = s ∧ (∀ q o, i ≤ q → ops[q]? = some o → One X ops o (st q) (st (q + 1))) ∧
      (∀ q o j t w, i ≤ q → ops[q]? = some o → o.guard = some (j, w) → (ops[j]?).bind (·.dst) = some t → ∀ k p, q < k → ops[k]? = some p → p.dst ≠ some t) ∧
      ∃ fps, K (acc ++ fps) (st (i + rest.length)) = some r ∧ fps.length = rest.length ∧ ∀ q o, i ≤ q → ops[q]? = some o → fps[q - i]? = some (fpOf X (st q) ops q o)
  | [], i, acc, s, hops, he => by
    have hno : ∀ q o, i ≤ q → ops[q]? ≠ some o := fun q o hq h => by
      have := hops (q - i)
      rw [show i + (q - i) = q by omega, h] at this; simp at this
    refine ⟨fun _ => s, rfl, fun q o hq h => absurd h (hno q o hq), fun q o _ _ _ hq h => absurd h (hno q o hq), [], by simpa [runOpsD] using he, rfl, fun q o hq h => absurd h (hno q o hq)⟩
  | o :: rest, i, acc, s, hops, he => by
    have hoi : ops[i]? = some o := by have := hops 0; simpa using this.symm
    have hrest : ∀ j, rest[j]? = ops[i + 1 + j]? := fun j => by
      have := hops (j + 1)
      rw [Nat.add_assoc, Nat.add_comm 1 j]; simpa using this
    have main : ∀ s', One X ops o s s' → runOpsD X ops rest (i + 1) (acc ++ [fpOf X s ops i o]) s' K = some r →
        (∀ j t w, o.guard = some (j, w) → (ops[j]?).bind (·.dst) = some t → ∀ p ∈ rest, p.dst ≠ some t) →
        ∃ st : Nat → St, st i = s ∧ (∀ q o, i ≤ q → ops[q]? = some o → One X ops o (st q) (st (q + 1))) ∧
      (∀ q o j t w, i ≤ q → ops[q]? = some o → o.guard = some (j, w) → (ops[j]?).bind (·.dst) = some t → ∀ k p, q < k → ops[k]? = some p → p.dst ≠ some t) ∧
      ∃ fps, K (acc ++ fps) (st (i + (o :: rest).length)) = some r ∧ fps.length = (o :: rest).length ∧ ∀ q o, i ≤ q → ops[q]? = some o → fps[q - i]? = some (fpOf X (st q) ops q o) := by
      intro s' hone he' hlat
      obtain ⟨st, h1, h2, h3, fps, h4, h5, h6⟩ := runOpsD_inv rest (i + 1) _ s' hrest he'
      have hst : ∀ q, i + 1 ≤ q → (if q ≤ i then s else st q) = st q := fun q hq => if_neg (by omega)
      refine ⟨fun q => if q ≤ i then s else st q, by simp, fun q p hq hp => ?_, fun q p j t w hq hp hg ht k p' hk hp' => ?_, fpOf X s ops i o :: fps, ?_, by simp [h5], fun q p hq hp => ?_⟩
      · by_cases e : q = i
        · subst e
          rw [hoi] at hp; cases hp
          simp only [Nat.le_refl, if_true]
          rw [if_neg (by omega), h1]; exact hone
        · simp only [hst q (by omega), hst (q + 1) (by omega)]
          exact h2 q p (by omega) hp
      · by_cases e : q = i
        · subst e
          rw [hoi] at hp; cases hp
          have hm := hrest (k - (q + 1))
          rw [show q + 1 + (k - (q + 1)) = k by omega, hp'] at hm
          exact hlat j t w hg ht p' (List.mem_of_getElem? hm)
        · exact h3 q p j t w (by omega) hp hg ht k p' hk hp'
      · have e : i + (o :: rest).length = i + 1 + rest.length := by simp; omega
        simp only [e]
        rw [if_neg (by omega)]
        simpa [List.append_assoc] using h4
      · by_cases e : q = i
        · subst e
          rw [hoi] at hp; cases hp
          simp
        · have := h6 q p (by omega) hp
          simp only [hst q (by omega)]
          rw [show q - i = (q - (i + 1)) + 1 by omega]
          simpa using this
    simp only [runOpsD] at he
    cases hg : o.guard with
    | none =>
      simp only [hg] at he
      obtain ⟨v, objs', e1, e2⟩ := stepA_inv he
      exact main _ (.plain v objs' hg e1) e2 (fun j t w h => by rw [hg] at h; cases h)
    | some jw =>
      obtain ⟨j, w⟩ := jw
      simp only [hg] at he
      cases ht : (ops[j]?).bind (·.dst) with
      | none => simp [ht] at he
      | some t =>
        simp only [ht] at he
        obtain ⟨hany, he⟩ := cond_none' he
        obtain ⟨d, v, hd, hdt, e1, e2⟩ := stepG_inv he
        refine main _ (.guarded j t d w v hg ht hd hdt e1) e2 (fun j' t' w' h ht' p hp => ?_)
        rw [hg] at h; cases h
        rw [ht] at ht'; cases ht'
        have := List.any_eq_false.1 hany p hp
        simpa using this
theorem dstsApart_spec : ∀ {l : List Oper} {seen : List Nat}, dstsApart l seen = true → (∀ (i : Nat) (o : Oper) (d : Nat), l[i]? = some o → o.dst = some d → d ∉ seen) ∧
    ∀ (i j : Nat) (o q : Oper) (d : Nat), l[i]? = some o → l[j]? = some q → o.dst = some d → q.dst = some d → i = j
  | [], seen, _ => ⟨by simp, by simp⟩
  | p :: r, seen, h => by
    simp only [dstsApart] at h
    cases hd : p.dst with
    | none =>
      simp only [hd] at h
      obtain ⟨h1, h2⟩ := dstsApart_spec h
      refine ⟨fun i o d hi ho => ?_, fun i j o q d hi hj ho hq => ?_⟩
      · cases i with
        | zero => simp at hi; subst hi; rw [hd] at ho; cases ho
        | succ i => exact h1 i o d (by simpa using hi) ho
      · cases i with
        | zero => simp at hi; subst hi; rw [hd] at ho; cases ho
        | succ i =>
          cases j with
          | zero => simp at hj; subst hj; rw [hd] at hq; cases hq
          | succ j => rw [h2 i j o q d (by simpa using hi) (by simpa using hj) ho hq]
    | some e =>
      simp only [hd, Bool.and_eq_true, Bool.not_eq_true'] at h
      obtain ⟨h1, h2⟩ := dstsApart_spec h.2
      have hseen : e ∉ seen := fun hm => by rw [any_beq.2 hm] at h; simp at h
      refine ⟨fun i o d hi ho => ?_, fun i j o q d hi hj ho hq => ?_⟩
      · cases i with
        | zero => simp at hi; subst hi; rw [hd] at ho; cases ho; exact hseen
        | succ i => exact fun hm => h1 i o d (by simpa using hi) ho (List.mem_cons_of_mem _ hm)
      · cases i with
        | zero =>
          simp at hi; subst hi; rw [hd] at ho; cases ho
          cases j with
          | zero => rfl
          | succ j => exact absurd (List.mem_cons_self) (h1 j q e (by simpa using hj) hq)
        | succ i =>
          cases j with
          | zero => simp at hj; subst hj; rw [hd] at hq; cases hq; exact absurd (List.mem_cons_self) (h1 i o e (by simpa using hi) ho)
          | succ j => rw [h2 i j o q d (by simpa using hi) (by simpa using hj) ho hq]
theorem edgesOk_spec : ∀ {l : List Oper} {i : Nat}, edgesOk l i = true → ∀ (j : Nat) (o : Oper), l[j]? = some o → ∀ e ∈ o.after, Region.binds .any e = true → e.on < i + j
  | [], _, _, j, o, h => by simp at h
  | p :: r, i, h, j, o, hj => by
    simp only [edgesOk, Bool.and_eq_true] at h
    cases j with
    | zero => simp at hj; subst hj; intro e he hb; have := Array.all_eq_true_iff_forall_mem.1 h.1 e he; rw [hb, cond_true] at this; exact ltB this
    | succ j => intro e he hb; have := edgesOk_spec h.2 j o (by simpa using hj) e he hb; omega
theorem fpsOk_spec {bits : List Nat} : ∀ {l : List Fp}, fpsOk bits l = true → ∀ (i j : Nat) (x y : Fp), i < j → l[i]? = some x → l[j]? = some y → (bits.getD y.i 0).testBit x.i = true ∨ apartF x y = true
  | [], _, i, j, x, y, _, h, _ => by simp at h
  | p :: r, h, i, j, x, y, hij, hi, hj => by
    simp only [fpsOk, Bool.and_eq_true] at h
    cases j with
    | zero => omega
    | succ j =>
      cases i with
      | zero =>
        simp at hi; subst hi
        have := List.all_eq_true.1 h.1 y (List.mem_of_getElem? (by simpa using hj))
        simpa using this
      | succ i => exact fpsOk_spec h.2 i j x y (by omega) (by simpa using hi) (by simpa using hj)
theorem edgeBits_spec {acc : List Nat} : ∀ {l : List Edge} {k : Nat}, (edgeBits acc l).testBit k = true → ∃ e ∈ l, Region.binds .any e = true ∧ (k = e.on ∨ (acc.getD e.on 0).testBit k = true)
  | [], k, h => by simp [edgeBits] at h
  | e :: r, k, h => by
    simp only [edgeBits] at h
    cases hb : Region.binds .any e with
    | false =>
      simp only [hb, cond_false] at h
      obtain ⟨e', h1, h2⟩ := edgeBits_spec h
      exact ⟨e', List.mem_cons_of_mem _ h1, h2⟩
    | true =>
      simp only [hb, cond_true] at h
      have hor : ∀ x y : Nat, Nat.lor x y = x ||| y := fun _ _ => rfl
      simp only [hor, Nat.testBit_or, Bool.or_eq_true, Nat.testBit_two_pow, decide_eq_true_eq] at h
      rcases h with (h | h) | h
      · exact ⟨e, by simp, hb, .inl h.symm⟩
      · exact ⟨e, by simp, hb, .inr h⟩
      · obtain ⟨e', h1, h2⟩ := edgeBits_spec h
        exact ⟨e', List.mem_cons_of_mem _ h1, h2⟩
theorem befores_spec {S : Nat → Prop} {ops : Array Oper} (hS : ∀ i o, S i → ops[i]? = some o → ∀ e ∈ o.after, Region.binds .any e = true → S e.on) :
    ∀ (rest : List Oper) (acc : List Nat), (∀ j, rest[j]? = ops[acc.length + j]?) →
      (∀ j o, j < acc.length → ops[j]? = some o → (∀ e ∈ o.after, Region.binds .any e = true → S e.on) → ∀ k, (acc.getD j 0).testBit k = true → S k) →
      ∀ j o, ops[j]? = some o → (∀ e ∈ o.after, Region.binds .any e = true → S e.on) → ∀ k, ((befores rest acc).getD j 0).testBit k = true → S k
  | [], acc, hops, hacc, j, o, ho, hr, k, hk => by
    by_cases hj : j < acc.length
    · exact hacc j o hj ho hr k hk
    · have := hops (j - acc.length)
      rw [show acc.length + (j - acc.length) = j by omega, ho] at this; simp at this
  | p :: rest, acc, hops, hacc, j, o, ho, hr, k, hk => by
    have e : befores (p :: rest) acc = befores rest (acc ++ [edgeBits acc p.after.toList]) := by
      simp only [befores]
      cases edgeBits acc p.after.toList <;> rfl
    rw [e] at hk
    have hp : ops[acc.length]? = some p := by have := hops 0; simpa using this.symm
    refine befores_spec hS rest _ (fun j => by have := hops (j + 1); rw [List.length_append, List.length_singleton, Nat.add_assoc, Nat.add_comm 1 j]; simpa using this) ?_ j o ho hr k hk
    intro j q hj hq hrq k hk
    by_cases hlt : j < acc.length
    · rw [List.getD_eq_getElem?_getD, List.getElem?_append_left hlt, ← List.getD_eq_getElem?_getD] at hk
      exact hacc j q hlt hq hrq k hk
    · have hj' : j = acc.length := by simp at hj; omega
      subst hj'
      rw [hp] at hq; cases hq
      have : (acc ++ [edgeBits acc p.after.toList]).getD acc.length 0 = edgeBits acc p.after.toList := by simp
      rw [this] at hk
      obtain ⟨ed, h1, h2, h3⟩ := edgeBits_spec hk
      have hSe := hrq ed (by simpa using h1) h2
      rcases h3 with rfl | h3
      · exact hSe
      · by_cases hl : ed.on < acc.length
        · have ho' : ops[ed.on]? = some (ops[ed.on]'(by have := (Array.getElem?_eq_some_iff.1 hp).1; omega)) := Array.getElem?_eq_getElem _
          exact hacc ed.on _ hl ho' (fun e' he' hb' => hS _ _ hSe ho' e' he' hb') k h3
        · have : acc.getD ed.on 0 = 0 := by simp [List.getD_eq_getElem?_getD, List.getElem?_eq_none (by omega : acc.length ≤ ed.on)]
          rw [this] at h3; simp at h3
end Go.Ab

namespace Go.Ab
open Go Go.RowKit
structure Loc (K : Nat → Prop) (O1 O2 p1 p2 : List (Nat × AO)) : Prop where
  on : ∀ k, K k → alook p1 k = alook p2 k
  off1 : ∀ k, ¬ K k → alook p1 k = alook O1 k
  off2 : ∀ k, ¬ K k → alook p2 k = alook O2 k
  bare : ∀ k ob, K k → alook p2 k = some ob → ob.keys = []
variable {K : Nat → Prop}
theorem Loc.start {O1 O2 : List (Nat × AO)} (h : ∀ k, K k → alook O1 k = alook O2 k) (hb : ∀ k ob, K k → alook O2 k = some ob → ob.keys = []) : Loc K O1 O2 O1 O2 := ⟨h, fun _ _ => rfl, fun _ _ => rfl, hb⟩
theorem Loc.trans {O1 O2 p1 p2 q1 q2 : List (Nat × AO)} (h : Loc K O1 O2 p1 p2) (g : Loc K p1 p2 q1 q2) : Loc K O1 O2 q1 q2 :=
  ⟨g.on, fun k hk => (g.off1 k hk).trans (h.off1 k hk), fun k hk => (g.off2 k hk).trans (h.off2 k hk), g.bare⟩
theorem Loc.put {O1 O2 p1 p2 : List (Nat × AO)} (h : Loc K O1 O2 p1 p2) {k : Nat} (hk : K k) {o : AO} (ho : o.keys = []) : Loc K O1 O2 (aput p1 k o) (aput p2 k o) := by
  refine ⟨fun q hq => ?_, fun q hq => ?_, fun q hq => ?_, fun q ob hq he => ?_⟩
  · rw [alook_aput, alook_aput, h.on q hq]
  · rw [alook_aput, if_neg (by rintro rfl; exact hq hk), h.off1 q hq]
  · rw [alook_aput, if_neg (by rintro rfl; exact hq hk), h.off2 q hq]
  · rw [alook_aput] at he
    split at he
    · simp only [Option.some.injEq] at he; subst he; exact ho
    · exact h.bare q ob hq he
theorem freezeA_loc {O1 O2 p1 p2 : List (Nat × AO)} (h : Loc K O1 O2 p1 p2) {v v' : AV} (hv : ∀ k ∈ v.keys, K k) {q2 : List (Nat × AO)} (he : freezeA p2 v = some (v', q2)) : ∃ q1, freezeA p1 v = some (v', q1) ∧ Loc K O1 O2 q1 q2 ∧ ∀ k ∈ v'.keys, K k := by
  cases v with
  | msl k sz off n =>
    have hk : K k := hv k (by simp [AV.keys])
    simp only [freezeA] at he ⊢
    rw [h.on k hk]
    cases ho : alook p2 k with
    | none => simp [ho] at he
    | some ob =>
      cases ob with
      | arr sz' m get =>
        simp only [ho] at he ⊢
        obtain ⟨hb, he⟩ := guardO_inv he
        simp only [Option.some.injEq, Prod.mk.injEq] at he
        obtain ⟨rfl, rfl⟩ := he
        exact ⟨_, by rw [hb]; rfl, h.put hk rfl, by simp [AV.keys]⟩
      | frz sz' m get =>
        simp only [ho] at he ⊢
        obtain ⟨hb, he⟩ := guardO_inv he
        simp only [Option.some.injEq, Prod.mk.injEq] at he
        obtain ⟨rfl, rfl⟩ := he
        exact ⟨_, by rw [hb]; rfl, h, by simp [AV.keys]⟩
      | _ => simp [ho] at he
  | gsl k sz n =>
    have hk : K k := hv k (by simp [AV.keys])
    simp only [freezeA] at he ⊢
    rw [h.on k hk]
    cases ho : alook p2 k with
    | none => simp [ho] at he
    | some ob =>
      cases ob with
      | grw sz' m get =>
        simp only [ho] at he ⊢
        obtain ⟨hb, he⟩ := guardO_inv he
        simp only [Option.some.injEq, Prod.mk.injEq] at he
        obtain ⟨rfl, rfl⟩ := he
        exact ⟨_, by rw [hb]; rfl, h.put hk rfl, by simp [AV.keys]⟩
      | _ => simp [ho] at he
  | _ => simp only [freezeA, Option.some.injEq, Prod.mk.injEq] at he ⊢; obtain ⟨rfl, rfl⟩ := he; exact ⟨_, ⟨rfl, rfl⟩, h, hv⟩
theorem freezeL_loc : ∀ {l l' : List AV} {O1 O2 p1 p2 q2 : List (Nat × AO)}, Loc K O1 O2 p1 p2 → (∀ k ∈ keysL l, K k) → freezeL p2 l = some (l', q2) → ∃ q1, freezeL p1 l = some (l', q1) ∧ Loc K O1 O2 q1 q2 ∧ ∀ k ∈ keysL l', K k
  | [], l', O1, O2, p1, p2, q2, h, hv, he => by simp only [freezeL, Option.some.injEq, Prod.mk.injEq] at he; obtain ⟨rfl, rfl⟩ := he; exact ⟨_, rfl, h, hv⟩
  | v :: r, l', O1, O2, p1, p2, q2, h, hv, he => by
    simp only [freezeL] at he ⊢
    simp only [keysL, List.mem_append] at hv
    obtain ⟨⟨v', o1⟩, e1, he⟩ := opt_bind he
    obtain ⟨⟨r', o2⟩, e2, he⟩ := opt_bind he
    simp only [Option.some.injEq, Prod.mk.injEq] at he
    obtain ⟨rfl, rfl⟩ := he
    obtain ⟨x1, g1, g2, g3⟩ := freezeA_loc h (fun k hk => hv k (.inl hk)) e1
    obtain ⟨x2, g4, g5, g6⟩ := freezeL_loc g2 (fun k hk => hv k (.inr hk)) e2
    refine ⟨x2, by rw [g1]; simp only [Option.bind_some]; rw [g4]; rfl, g5, fun k hk => ?_⟩
    simp only [keysL, List.mem_append] at hk
    exact hk.elim (g3 k) (g6 k)
theorem freezeV_loc {O1 O2 p1 p2 : List (Nat × AO)} (h : Loc K O1 O2 p1 p2) {v v' : AV} (hv : ∀ k ∈ v.keys, K k) {q2 : List (Nat × AO)} (he : freezeV p2 v = some (v', q2)) : ∃ q1, freezeV p1 v = some (v', q1) ∧ Loc K O1 O2 q1 q2 ∧ ∀ k ∈ v'.keys, K k := by
  cases v with
  | agg cs =>
    simp only [freezeV] at he ⊢
    simp only [AV.keys] at hv
    obtain ⟨⟨l, o⟩, e1, he⟩ := opt_map he
    simp only [Prod.mk.injEq] at he
    obtain ⟨rfl, rfl⟩ := he
    obtain ⟨p, g1, g2, g3⟩ := freezeL_loc h hv e1
    exact ⟨p, by rw [g1]; rfl, g2, fun k hk => g3 k (by simpa [AV.keys] using hk)⟩
  | _ => simp only [freezeV] at he ⊢; exact freezeA_loc h hv he
theorem freezeVs_loc : ∀ {l l' : List AV} {O1 O2 p1 p2 q2 : List (Nat × AO)}, Loc K O1 O2 p1 p2 → (∀ k ∈ keysL l, K k) → freezeVs p2 l = some (l', q2) → ∃ q1, freezeVs p1 l = some (l', q1) ∧ Loc K O1 O2 q1 q2 ∧ ∀ k ∈ keysL l', K k
  | [], l', O1, O2, p1, p2, q2, h, hv, he => by simp only [freezeVs, Option.some.injEq, Prod.mk.injEq] at he; obtain ⟨rfl, rfl⟩ := he; exact ⟨_, rfl, h, hv⟩
  | v :: r, l', O1, O2, p1, p2, q2, h, hv, he => by
    simp only [freezeVs] at he ⊢
    simp only [keysL, List.mem_append] at hv
    obtain ⟨⟨v', o1⟩, e1, he⟩ := opt_bind he
    obtain ⟨⟨r', o2⟩, e2, he⟩ := opt_bind he
    simp only [Option.some.injEq, Prod.mk.injEq] at he
    obtain ⟨rfl, rfl⟩ := he
    obtain ⟨x1, g1, g2, g3⟩ := freezeV_loc h (fun k hk => hv k (.inl hk)) e1
    obtain ⟨x2, g4, g5, g6⟩ := freezeVs_loc g2 (fun k hk => hv k (.inr hk)) e2
    refine ⟨x2, by rw [g1]; simp only [Option.bind_some]; rw [g4]; rfl, g5, fun k hk => ?_⟩
    simp only [keysL, List.mem_append] at hk
    exact hk.elim (g3 k) (g6 k)
theorem objKeys_loc {O : List (Nat × AO)} (hb : ∀ k ob, K k → alook O k = some ob → ob.keys = []) : ∀ l, (∀ k ∈ l, K k) → objKeys O l = []
  | [], _ => rfl
  | k :: r, h => by
    simp only [objKeys]
    rw [objKeys_loc hb r fun q hq => h q (List.mem_cons_of_mem _ hq), List.append_nil]
    cases ho : alook O k with
    | none => rfl
    | some ob => simp [hb k ob (h k (by simp)) ho]
theorem getObjs_loc {O1 O2 : List (Nat × AO)} (h : ∀ k, K k → alook O1 k = alook O2 k) : ∀ l, (∀ k ∈ l, K k) → getObjs O1 l = getObjs O2 l
  | [], _ => rfl
  | k :: r, hl => by simp only [getObjs, h k (hl k (by simp)), getObjs_loc h r fun q hq => hl q (List.mem_cons_of_mem _ hq)]
theorem reachK_loc {O : List (Nat × AO)} (hb : ∀ k ob, K k → alook O k = some ob → ob.keys = []) {l : List Nat} (h : ∀ k ∈ l, K k) : reachK O l = addKeys (addKeys (addKeys [] l) []) [] ∧ ∀ k ∈ reachK O l, K k := by
  have h1 : ∀ k ∈ addKeys [] l, K k := fun k hk => by
    rcases ((addKeys_spec l [] List.nodup_nil).2 k).1 hk with hk | hk
    · simp at hk
    · exact h k hk
  have e1 : objKeys O (addKeys [] l) = [] := objKeys_loc hb _ h1
  have e2 : reachK O l = addKeys (addKeys (addKeys [] l) []) [] := by
    simp only [reachK, e1, addKeys]
  refine ⟨e2, fun k hk => ?_⟩
  rw [e2] at hk
  simp only [addKeys] at hk
  exact h1 k hk
theorem doCall_loc {X : Cfg} {O1 O2 : List (Nat × AO)} (h : ∀ k, K k → alook O1 k = alook O2 k) (hb : ∀ k ob, K k → alook O2 k = some ob → ob.keys = []) {f : FuncId} {l : List AV} (hl : ∀ k ∈ keysL l, K k) {b : Bool} {v : AV} {O2' : List (Nat × AO)} (he : doCall X O2 f l = some (b, v, O2')) :
    ∃ O1', doCall X O1 f l = some (b, v, O1') ∧ (∀ k, K k → alook O1' k = alook O2' k) ∧ (∀ k, ¬ K k → alook O1' k = alook O1 k) ∧ (∀ k, ¬ K k → alook O2' k = alook O2 k) := by
  unfold doCall at he ⊢
  obtain ⟨⟨l1, o1⟩, h1, he⟩ := opt_bind he
  have hfz : ∃ p, cond (X.byRef f) (some (l, O1)) (freezeVs O1 l) = some (l1, p) ∧ Loc K O1 O2 p o1 ∧ ∀ k ∈ keysL l1, K k := by
    cases hb' : X.byRef f with
    | true => simp only [hb', cond_true, Option.some.injEq, Prod.mk.injEq] at h1; obtain ⟨rfl, rfl⟩ := h1; exact ⟨O1, rfl, Loc.start h hb, hl⟩
    | false => simp only [hb', cond_false] at h1; exact freezeVs_loc (Loc.start h hb) hl h1
  obtain ⟨p, g1, g2, g3⟩ := hfz
  rw [g1]
  dsimp only [Option.bind_some] at he ⊢
  have g4 : ∀ k ∈ keysL (shedL l1), K k := fun k hk => g3 k (shedL_keys l1 k hk)
  obtain ⟨r1, r2⟩ := reachK_loc g2.bare g4
  obtain ⟨r3, _⟩ := reachK_loc (O := p) (fun k ob hk ho => g2.bare k ob hk (by rw [← g2.on k hk]; exact ho)) g4
  have e1 : reachK p (keysL (shedL l1)) = reachK o1 (keysL (shedL l1)) := r3.trans r1.symm
  have e2 : objKeys o1 (reachK o1 (keysL (shedL l1))) = [] := objKeys_loc g2.bare _ r2
  have e3 : objKeys p (reachK o1 (keysL (shedL l1))) = [] := objKeys_loc (fun k ob hk ho => g2.bare k ob hk (by rw [← g2.on k hk]; exact ho)) _ r2
  have hnd : (reachK o1 (keysL (shedL l1))).Nodup := (reachK_spec o1 (keysL (shedL l1))).1
  obtain ⟨hcl, he⟩ := cond_none he
  obtain ⟨os, hos, he⟩ := opt_bind he
  obtain ⟨⟨r, os'⟩, hcall, he⟩ := opt_bind he
  obtain ⟨hlen, he⟩ := cond_none he
  dsimp only at hlen he
  simp only [Option.some.injEq, Prod.mk.injEq] at he
  obtain ⟨rfl, rfl, rfl⟩ := he
  rw [e2] at hcl
  generalize hks : reachK o1 (keysL (shedL l1)) = ks at *
  have hlen' : (os'.map (AO.ren fun k => nthD ks (k - keyBase))).length = ks.length := by rw [List.length_map]; exact beqT hlen
  refine ⟨putObjs p ks (os'.map (AO.ren fun k => nthD ks (k - keyBase))), ?_, fun k hk => ?_, fun k hk => ?_, fun k hk => ?_⟩
  · rw [e1, e3, hcl, getObjs_loc g2.on _ r2, hos]
    simp only [cond_true, Option.bind_some]
    rw [hcall]
    simp only [Option.bind_some, hlen, cond_true]
  · rw [alook_putObjs hnd hlen', alook_putObjs hnd hlen', g2.on k hk]
  · rw [alook_putObjs hnd hlen', if_neg fun hm => hk (r2 k hm), g2.off1 k hk]
  · rw [alook_putObjs hnd hlen', if_neg fun hm => hk (r2 k hm), g2.off2 k hk]
theorem keysL_evalL_sub {G : Nat → Option (List AV)} {ch : Chain} {s : St} : ∀ {l : List Operand} {vs : List AV}, evalL ⟨s, G, ch⟩ l = some vs → ∀ k ∈ keysL vs, k ∈ opKeys ⟨s, G, ch⟩ l
  | [], vs, h, k, hk => by simp [evalL] at h; subst h; simp [keysL] at hk
  | x :: r, vs, h, k, hk => by
    simp only [evalL] at h
    obtain ⟨v, h1, h⟩ := opt_bind h
    obtain ⟨l, h2, h⟩ := opt_map h
    subst h
    simp only [keysL, List.mem_append] at hk
    simp only [opKeys, h1, List.mem_append]
    exact hk.imp id (keysL_evalL_sub h2 k)
theorem calleeA_sub {G : Nat → Option (List AV)} {ch : Chain} {s : St} {f : Operand} {args : Array Operand} {ts : Array TypeId} {g : FuncId} {l : List AV}
    (he : calleeA ⟨s, G, ch⟩ { callee := .value f, args, argTypes := ts } = some (g, l)) : ∀ k ∈ keysL l, k ∈ opKeys ⟨s, G, ch⟩ (Op.call { callee := .value f, args, argTypes := ts }).operands.toList := by
  unfold calleeA at he
  dsimp only at he
  obtain ⟨fv, h1, he⟩ := opt_bind he
  obtain ⟨vs, h2, he⟩ := opt_bind he
  have hm : ∀ (l : List Operand) (x : Operand) (v : AV), x ∈ l → evalO ⟨s, G, ch⟩ x = some v → ∀ k ∈ v.keys, k ∈ opKeys ⟨s, G, ch⟩ l := by
    intro l
    induction l with
    | nil => intro x v hx; simp at hx
    | cons y r ih =>
      intro x v hx hv k hk
      simp only [opKeys, List.mem_append]
      rcases List.mem_cons.1 hx with rfl | hx
      · left; rw [hv]; exact hk
      · exact .inr (ih x v hx hv k hk)
  have hsub : ∀ (l m : List Operand), (∀ x ∈ m, x ∈ l) → (∀ x ∈ m, ∃ v, evalO ⟨s, G, ch⟩ x = some v) → ∀ k ∈ opKeys ⟨s, G, ch⟩ m, k ∈ opKeys ⟨s, G, ch⟩ l := by
    intro l m
    induction m with
    | nil => intro _ _ k hk; simp [opKeys] at hk
    | cons y r ih =>
      intro hx hv k hk
      obtain ⟨v, hv'⟩ := hv y (by simp)
      simp only [opKeys, hv', List.mem_append] at hk
      rcases hk with hk | hk
      · exact hm l y v (hx y (by simp)) hv' k hk
      · exact ih (fun x h => hx x (List.mem_cons_of_mem _ h)) (fun x h => hv x (List.mem_cons_of_mem _ h)) k hk
  have hev : ∀ (m : List Operand) (vs : List AV), evalL ⟨s, G, ch⟩ m = some vs → ∀ x ∈ m, ∃ v, evalO ⟨s, G, ch⟩ x = some v := by
    intro m
    induction m with
    | nil => intro vs _ x hx; simp at hx
    | cons y r ih =>
      intro vs h x hx
      simp only [evalL] at h
      obtain ⟨v, h1, h⟩ := opt_bind h
      obtain ⟨l, h2, h⟩ := opt_map h
      rcases List.mem_cons.1 hx with rfl | hx
      · exact ⟨v, h1⟩
      · exact ih l h2 x hx
  cases fv with
  | fn f' first caps =>
    simp only [Option.some.injEq, Prod.mk.injEq] at he
    obtain ⟨_, rfl⟩ := he
    intro k hk
    simp only [keysL_append, List.mem_append] at hk
    have hf : ∀ k ∈ (AV.fn f' first caps).keys, k ∈ opKeys ⟨s, G, ch⟩ (Op.call { callee := .value f, args, argTypes := ts }).operands.toList := hm _ f _ (by simp [Op.operands, Call.operands]) h1
    rcases hk with (hk | hk) | hk
    · exact hf k (by simp [AV.keys, hk])
    · exact hsub _ args.toList (by simp +contextual [Op.operands, Call.operands]) (hev _ _ h2) k (keysL_evalL_sub h2 k hk)
    · exact hf k (by simp [AV.keys, hk])
  | _ => simp at he
variable {s1 s2 : St}
theorem effA_local {X : Cfg} {o : Oper} (h1 : isCallV o.op = true) (h : Agree s1 s2 (opTmps o.op.operands.toList)) (hb : objKeys s2.objs (opKeys ⟨s2, X.G, []⟩ o.op.operands.toList) = [])
    (hK : ∀ k ∈ opKeys ⟨s2, X.G, []⟩ o.op.operands.toList, s1.obj k = s2.obj k) {b : Bool} {v : AV} {O' : List (Nat × AO)} (he : effA X s2 o = some (b, v, O')) :
    ∃ O1', effA X s1 o = some (b, v, O1') ∧ (∀ k ∈ opKeys ⟨s2, X.G, []⟩ o.op.operands.toList, alook O1' k = alook O' k) ∧ (∀ k, k ∉ opKeys ⟨s2, X.G, []⟩ o.op.operands.toList → alook O1' k = alook s1.objs k) ∧
      (∀ k, k ∉ opKeys ⟨s2, X.G, []⟩ o.op.operands.toList → alook O' k = alook s2.objs k) := by
  cases hop : o.op with
  | call q =>
    obtain ⟨callee, args, ts⟩ := q
    cases callee with
    | value f =>
      rw [hop] at h hb hK
      simp only [effA, hop] at he ⊢
      obtain ⟨⟨g, l⟩, e1, he⟩ := opt_bind he
      have hl := calleeA_sub e1
      have hbare : ∀ k ob, k ∈ opKeys ⟨s2, X.G, []⟩ (Op.call { callee := .value f, args, argTypes := ts }).operands.toList → alook s2.objs k = some ob → ob.keys = [] := fun k ob hk ho => by
        cases hx : ob.keys with
        | nil => rfl
        | cons y r => exact absurd (objKeys_mem hk ho y (by rw [hx]; simp)) (by rw [hb]; simp)
      obtain ⟨O1', g1, g2, g3, g4⟩ := doCall_loc (K := fun k => k ∈ opKeys ⟨s2, X.G, []⟩ (Op.call { callee := .value f, args, argTypes := ts }).operands.toList) (O1 := s1.objs) hK hbare hl he
      rw [calleeA_congr h, e1]
      exact ⟨O1', by simp only [Option.bind_some]; rw [g1], g2, g3, g4⟩
    | builtin b => simp [hop, isCallV] at h1
    | invoke r m => simp [hop, isCallV] at h1
  | _ => simp [hop, isCallV] at h1
end Go.Ab
