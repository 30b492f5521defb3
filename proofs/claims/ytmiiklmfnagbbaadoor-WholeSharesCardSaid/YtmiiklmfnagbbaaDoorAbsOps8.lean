/- Soundness of append. -/
import Derived.Test.YtmiiklmfnagbbaaDoorAbsOps7
namespace Go.Ab
open Go Go.RowKit
variable {P : Program} {B : Base} {c : Cx} {s : St} {a : Act}

theorem Rep.reown {o o' : Own} {sz sz' n : Nat} {get get' : Nat → List AV} {X : Value} (h : Rep c (.sl o sz n get) X) (hs : n = 0 ∨ sz = sz') (hg : ∀ j, j < n → get' j = get j) (ho : OwnRep c o' n X) : Rep c (.sl o' sz' n get') X := by
  cases h with
  | slNil => exact .slNil _ _ _ ho
  | sl _ _ _ _ ad cap vals h1 h2 h3 h4 h5 h6 =>
    rcases hs with rfl | rfl
    · exact .sl _ _ _ _ ad cap vals h1 h2 ho (fun j hj => by omega) (fun j i u hj => by omega) (fun j i u hj => by omega)
    · exact .sl _ _ _ _ ad cap vals h1 h2 ho (fun j hj => by rw [hg j hj]; exact h4 j hj) (fun j i u hj hu => h5 j i u hj (by rwa [hg j hj] at hu)) (fun j i u hj hu => h6 j i u hj (by rwa [hg j hj] at hu))

/-- Nothing is appended: the slice has an owner, and stands as it stood. -/
theorem append_zero' (h : Rel B c s a) {o : Own} {sz sz0 n K : Nat} {get get' : Nat → List AV} {X : Value} (hsz : 0 < sz) (hx : Rep c (.sl o sz0 n get) X) (hO : Owner c s o sz n K X) (hs : n = 0 ∨ sz0 = sz) (hg : ∀ j, j < n → get' j = get j) :
    ∃ c', c'.β = c.β ∧ c'.w = c.w ∧ Rel B c' (s.setObj K (.own sz n)) a ∧ Sees B c' (s.setObj K (.own sz n)) (.sl (.key K) sz n get') X := by
  -- the place of the slice
  obtain ⟨κ', e1, e2⟩ : ∃ κ', X = slOf κ' n ∧ (match κ' with
      | none => n = 0
      | some (ad, cap) => ad.spot = none ∧ n ≤ cap ∧ (n < cap → RoomAt c ad sz n cap ∧ (s.obj K = some (.own sz n) ∧ c.κ K = some (ad, cap)))) := by
    rcases hO.cases with ⟨rfl, _⟩ | ⟨rfl, hk⟩
    · have ho := hO.own
      cases hx with
      | slNil => exact ⟨none, rfl, rfl⟩
      | sl _ _ _ _ ad cap vals h1 h2 h3 h4 h5 h6 =>
        have : cap = n := ho
        subst this
        exact ⟨some (ad, cap), rfl, h1, Nat.le_refl _, fun hlt => by omega⟩
    · obtain ⟨m', f1, f2, f3⟩ := hO.own
      have hr := h.objs.rep K _ hk
      rw [hr.2.1] at f1
      have := Option.some.inj f1
      subst this
      refine ⟨c.κ K, f3 rfl, ?_⟩
      have := hr.2.2
      cases hκ : c.κ K with
      | none => simpa [hκ] using this
      | some p =>
        obtain ⟨ad, cap⟩ := p
        simp only [hκ] at this
        exact ⟨this.1, this.2.1, fun hlt => ⟨this.2.2 hlt, hk, rfl⟩⟩
  let c' := c.owns c.w c.I K κ' n
  have hkb : KeepsBut c c' s.objs K := by
    refine owns_keeps (fun _ _ hi => hi) (fun _ _ _ _ hv => hv) (fun n' v hl hv => ?_) (fun _ _ _ _ _ _ => ⟨rfl, fun _ hi => hi⟩)
    rcases hO.cases with ⟨_, hk⟩ | ⟨rfl, hk⟩
    · exact absurd rfl (live_ne hk hl)
    · obtain ⟨m', f1, f2, f3⟩ := hv
      have hr := h.objs.rep K _ hk
      rw [hr.2.1] at f1
      have := Option.some.inj f1
      subst this
      refine ⟨n, by simp [Cx.owns], f2, fun e => ?_⟩
      subst e
      obtain ⟨m'', g1, g2, g3⟩ := hO.own
      rw [hr.2.1] at g1
      have := Option.some.inj g1
      rw [f3 rfl, ← g3 this, e1]
      simp [Cx.owns]
  have hgr : Grow B c c' := ⟨rfl, rfl, rfl, Nat.le_refl _, fun _ _ _ => rfl, fun _ _ _ _ hi => hi, h.good.there⟩
  have hexcl : ∀ b, excl c' K (.own sz n) = some b → s.obj K = some (.own sz n) ∧ excl c K (.own sz n) = some b := by
    intro b hb
    simp only [excl, c', Cx.owns, if_true] at hb
    cases κ' with
    | none => simp at hb
    | some p =>
      obtain ⟨ad, cap⟩ := p
      simp only at hb e2
      split at hb
      · rename_i hlt
        obtain ⟨_, hk, hκ⟩ := e2.2.2 hlt
        exact ⟨hk, by simp [excl, hκ, hlt]; exact Option.some.inj hb⟩
      · simp at hb
  refine ⟨c', rfl, rfl, h.obj hkb hgr ⟨hsz, by simp [c', Cx.owns], ?_⟩ (fun q o' b hq hne hb e => ?_) (by simp [AO.keys]) (fun b hb => ?_), ⟨?_, fun q hq => ?_, rfl⟩⟩
  · simp only [c', Cx.owns, if_true]
    cases κ' with
    | none => exact e2
    | some p =>
      obtain ⟨ad, cap⟩ := p
      refine ⟨e2.1, e2.2.1, fun hlt => ?_⟩
      obtain ⟨⟨r1, r2, r3⟩, _⟩ := e2.2.2 hlt
      exact ⟨r1, r2, r3⟩
  · obtain ⟨hk, hb'⟩ := hexcl b e
    exact h.objs.apart q o' K _ b hq hk hne hb hb'
  · obtain ⟨hk, hb'⟩ := hexcl b hb
    exact h.mine K _ b hk hb'
  · have hx' : Rep c' (.sl .no sz0 n get) X := by
      have hx0 : Rep c (.sl .no sz0 n get) X := hx.reown (.inr rfl) (fun _ _ => rfl) trivial
      exact hx0.ext (ks := live s.objs) hkb.ext (by simp [AV.keys])
    exact hx'.reown hs hg ⟨n, by simp [c', Cx.owns], Nat.le_refl _, fun _ => by rw [e1]; simp [c', Cx.owns]⟩
  · simp [AV.keys] at hq; subst hq; exact live_aput_self
theorem append_zero (h : Rel B c s a) {o : Own} {sz sz0 n K : Nat} {get get' : Nat → List AV} {X : Value} (hsz : 0 < sz) (hx : Rep c (.sl o sz0 n get) X) (hO : Owner c s o sz n K X) (hs : n = 0 ∨ sz0 = sz) (hg : ∀ j, j < n → get' j = get j) :
    ∃ c', c'.w = c.w ∧ Rel B c' (s.setObj K (.own sz n)) a ∧ Sees B c' (s.setObj K (.own sz n)) (.sl (.key K) sz n get') X := by
  obtain ⟨c', _, h'⟩ := append_zero' (get' := get') h hsz hx hO hs hg
  exact ⟨c', h'⟩

theorem append_room_run {t ty e : TypeId} {i : TypeInfo} {sz : Nat} (ht : P.underlying t = some (.slice e)) (hi : P.info? e = some i) (hs : i.size = sz) {w : World}
    {g sLen sCap : Nat} {cur : Array Value} {e' : TypeId} (hg : w.heap[g]? = some (.cells cur e' (0, 0)))
    {ad : Addr} {m cc : Nat} {news : List Value} (hl : news.length = m * sz) (hnews : ∀ j u, news[j]? = some u → w.cell? (ad.add j) = some u) (h1 : ∀ u ∈ news, u.oneCell' = true)
    (hroom : sLen + m ≤ sCap) (hfit : sLen * sz + news.length ≤ cur.size) :
    (Builtin.append_ #[t, t] ty #[.slice (some ⟨g, 0, none⟩) sLen sCap, .slice (some ad) m cc]).run P w =
      .ok (.slice (some ⟨g, 0, none⟩) (sLen + m) sCap) (w.setRow g (cur.toList.take (sLen * sz) ++ news ++ cur.toList.drop (sLen * sz + news.length)).toArray) := by
  subst hs
  have hf := run_firstCells_some (P := P) w i.size m ad m cc news hl hnews
  have hst := run_storeCells_at P g (sLen * i.size) e' news 0 cur w hg (by simpa using hfit) h1
  simp only [Nat.add_zero] at hst
  simp [Builtin.append_, run_underlying ht, sizeOf, typeInfo, hi, Builtin.lenOf, hroom, hf, Addr.add_lit, hst]

theorem appendA_core (h : Rel B c s a) {t ty e : TypeId} {o : Own} {sz sz0 n sz2 m K : Nat} {get get2 : Nat → List AV} {X Y : Value} {y : AV} {i : TypeInfo} {z : List AV} (hu : P.underlying t = some (.slice e))
    (hi : P.info? e = some i) (hsz : sizeOf? P e = some sz) (hz : zeroCells P e = some z) (hzl : z.length = sz) (h0 : 0 < sz) (hb : 0 < i.bytes) (hx : Rep c (.sl o sz0 n get) X) (hy : Rep c y Y) (hsrc : srcA s y = some (sz2, m, get2))
    (hO : Owner c s o sz n K X) (hs1 : n = 0 ∨ sz0 = sz) (hs2 : m = 0 ∨ sz2 = sz) (hroom : (n + m) * i.bytes ≤ 140737488355328) :
    ∃ V c', (Builtin.append_ #[t, t] ty #[X, Y]).run P c.w = .ok V c'.w ∧ Rel B c' (s.setObj K (.own sz (n + m))) a ∧ Sees B c' (s.setObj K (.own sz (n + m))) (.sl (.key K) sz (n + m) (appGet n m get get2)) V := by
  obtain ⟨i', zv, hi', hzv, hcz⟩ := zeroCells_inv hz
  have : i' = i := by rw [hi] at hi'; exact (Option.some.inj hi').symm
  subst this
  have hisz : i'.size = sz := by unfold sizeOf? at hsz; simp [hi] at hsz; exact hsz
  obtain ⟨hzc, _⟩ := zero_CR (c := c) hcz
  have hzs : zv.cells.size = sz := by rw [hzc.1, hzl]
  have hnm : n + m ≤ 140737488355328 := Nat.le_trans (Nat.le_mul_of_pos_right _ hb) hroom
  have hmem : n ≤ n + m := Nat.le_add_right _ _
  -- the row as it is read, in the stride of the element's type
  have hx' : Rep c (.sl o sz n get) X := hx.reown hs1 (fun _ _ => rfl) (by
    cases hx with
    | slNil _ _ _ ho => exact ho
    | sl _ _ _ _ ad cap vals h1 h2 h3 h4 h5 h6 => exact h3)
  by_cases hm : m = 0
  · subst hm
    have hY : Y = .slice none 0 0 ∨ ∃ ad cc, Y = .slice (some ad) 0 cc := by
      rcases srcA_sound h hy hsrc with ⟨rfl, _⟩ | ⟨b, of, cap, rfl, _⟩
      · exact .inl rfl
      · exact .inr ⟨_, _, rfl⟩
    obtain ⟨c', e1, e2, e3⟩ := append_zero h (get' := appGet n 0 get get2) h0 hx hO hs1 (fun j hj => appGet_lt hj)
    refine ⟨X, c', ?_, e2, e3⟩
    rw [e1]
    rcases slice_row hx rfl with ⟨rfl, rfl, _⟩ | ⟨b, of, cap, rfl, hle, _⟩
    · exact append_none hu hi (Nat.le_refl _) hY c.w
    · exact append_none hu hi hle hY c.w
  · have hm0 : 0 < m := Nat.pos_of_ne_zero hm
    have hs2 : sz2 = sz := hs2.resolve_left hm
    subst hs2
    rcases srcA_sound h hy hsrc with ⟨_, e⟩ | ⟨b2, o2, cap2, rfl, _, hlen2, hcell2⟩
    · omega
    have h2 : RowSees c b2 o2 m sz2 get2 := ⟨hlen2, hcell2⟩
    have hc2 := h2.cells
    have hzsz : ∀ k, (Builtin.zeroCells zv.cells k).size = k * sz2 := fun k => by rw [size_zeroCells, hzs]
    rcases slice_row hx' rfl with ⟨rfl, rfl, _⟩ | ⟨b1, o1, cap, rfl, hle, _, h1, hI1⟩
    · have hrun := run_append_nil (P := P) (w := c.w) t ty e i' zv hu hi hzv ⟨b2, o2, none⟩ m cap2 (rdL c.w b2 o2 (m * sz2)) (by rw [rdL_length, hisz]) hc2.1 hm0 (by omega) (by simp only [Nat.zero_add] at hroom; omega)
      have hge := grownCap_ge c.w m 0 e
      generalize grownCap c.w m 0 e = nc at hrun hge
      obtain ⟨c', e1, e2, e3⟩ := append_new h (vs := (rdL c.w b2 o2 (m * sz2)).toArray ++ Builtin.zeroCells zv.cells (nc - m)) (e := e) (cap := nc) hO hm0 h0 (by omega) (by
        simp only [Array.size_append, List.size_toArray, rdL_length, hzsz, ← Nat.add_mul]; congr 1; omega)
        (b1 := 0) (o1 := 0) (get := get) ⟨fun j hj => by omega, fun j i u hj => by omega⟩ h2 (fun q hq => by omega) (fun q hq => by
          simp only [Nat.zero_mul, Nat.zero_add, Array.getElem?_append]
          rw [if_pos (by simpa [rdL_length] using hq)]
          simpa using rdL_at _ _ _ _ _ hq)
      simp only [Nat.zero_add] at e2 e3 ⊢
      exact ⟨_, c', by rw [e1]; exact hrun, e2, e3⟩
    · by_cases hroom' : n + m ≤ cap
      · -- into the room
        rcases hO.cases with ⟨rfl, _⟩ | ⟨rfl, hk⟩
        · have : cap = n := hO.own
          omega
        · obtain ⟨m', f1, f2, f3⟩ := hO.own
          have hr := h.objs.rep K _ hk
          rw [hr.2.1] at f1
          have := Option.some.inj f1
          subst this
          have hX := f3 rfl
          have hr2 := hr.2.2
          cases hκ : c.κ K with
          | none => rw [hκ] at hX; simp [slOf] at hX
          | some p =>
            obtain ⟨ad, cap'⟩ := p
            rw [hκ] at hX
            simp [slOf] at hX
            obtain ⟨rfl, rfl⟩ := hX
            simp only [hκ] at hr2
            obtain ⟨⟨cur, e', hh, hcs⟩, hoff, hfree⟩ := hr2.2.2 (by omega)
            simp only at hoff hh hfree
            subst hoff
            have hrun := append_room_run (P := P) (ty := ty) (w := c.w) (ad := ⟨b2, o2, none⟩) (m := m) (cc := cap2) (sLen := n) (sCap := cap) hu hi hisz hh (rdL_length c.w b2 o2 (m * sz2)) hc2.1 hc2.2 hroom' (by rw [rdL_length, hcs, ← Nat.add_mul]; exact Nat.mul_le_mul_right _ hroom')
            obtain ⟨c', e1, e2, e3⟩ := append_in h hk hm0 hκ hroom' hh hcs hfree h1 hI1 h2
            exact ⟨_, c', by rw [e1]; exact hrun, e2, e3⟩
      · have hrun := run_append_grow (P := P) (w := c.w) t ty e i' zv hu hi hzv ⟨b1, o1, none⟩ n cap (rdL c.w b1 o1 (n * sz2)) (by rw [rdL_length, hisz]) h1.cells.1 ⟨b2, o2, none⟩ m cap2 (rdL c.w b2 o2 (m * sz2)) (by rw [rdL_length, hisz]) hc2.1 (by omega) (by omega) (growslice_fits (by omega) hroom)
        have hge := grownCap_ge c.w (n + m) cap e
        generalize grownCap c.w (n + m) cap e = nc at hrun hge
        obtain ⟨c', e1, e2, e3⟩ := append_new h (vs := (rdL c.w b1 o1 (n * sz2)).toArray ++ (rdL c.w b2 o2 (m * sz2)).toArray ++ Builtin.zeroCells zv.cells (nc - (n + m))) (e := e) (cap := nc) hO hm0 h0 hge (by
          simp only [Array.size_append, List.size_toArray, rdL_length, hzsz, ← Nat.add_mul]; congr 1; omega)
          h1 h2 (fun q hq => by
            rw [Array.append_assoc, Array.getElem?_append, if_pos (by simpa [rdL_length] using hq)]
            simpa using rdL_at _ _ _ _ _ hq) (fun q hq => by
            rw [Array.getElem?_append, if_pos (by simp [rdL_length]; omega), Array.getElem?_append, if_neg (by simp [rdL_length])]
            simp only [List.size_toArray, rdL_length]
            have e5 : n * sz2 + q - n * sz2 = q := by omega
            rw [e5]
            simpa using rdL_at _ _ _ _ _ hq)
        exact ⟨_, c', by rw [e1]; exact hrun, e2, e3⟩

theorem appendA_sound (h : Rel B c s a) {d : Nat} {t ty : TypeId} {x y v : AV} {X Y : Value} {k : Nat} {ob : AO} (hx : Rep c x X) (hy : Rep c y Y) (he : appendA P s d t x y = some (true, v, k, ob)) :
    ∃ V c', (Builtin.append_ #[t, t] ty #[X, Y]).run P c.w = .ok V c'.w ∧ Rel B c' (s.setObj k ob) a ∧ Sees B c' (s.setObj k ob) v V := by
  unfold appendA at he
  split at he
  · rename_i e hu
    split at he
    · rename_i sz z inf o sz0 n get sz2 m get2 hsz hz hi hsrc
      simp only [guardO] at he
      cases hb : (Nat.blt 0 sz && (Nat.blt 0 inf.bytes && (Nat.beq z.length sz && ((Nat.beq n 0 || Nat.beq sz0 sz) && (Nat.beq m 0 || Nat.beq sz2 sz))))) with
      | false => simp [hb] at he
      | true =>
        simp only [hb, cond_true] at he
        simp only [Bool.and_eq_true, Bool.or_eq_true] at hb
        obtain ⟨b1, b2, b3, b4, b5⟩ := hb
        have b1 := ltB b1
        have b2 := ltB b2
        have b3 := beqT b3
        have b4 : n = 0 ∨ sz0 = sz := b4.imp beqT beqT
        have b5 : m = 0 ∨ sz2 = sz := b5.imp beqT beqT
        have hown : OwnRep c o n X := by
          cases hx with
          | slNil _ _ _ ho => exact ho
          | sl _ _ _ _ ad cap vals h1 h2 h3 h4 h5 h6 => exact h3
        cases o with
        | no => simp at he
        | fit =>
          simp only at he
          split at he
          · rename_i hd
            simp only [Option.some.injEq, Prod.mk.injEq] at he
            obtain ⟨hr, rfl, rfl, rfl⟩ := he
            exact appendA_core h hu hi hsz hz b3 b1 b2 hx hy hsrc ⟨.inl ⟨rfl, hd⟩, hown⟩ b4 b5 (Nat.le_of_ble_eq_true hr)
          · simp at he
        | key q =>
          simp only at he
          split at he
          · rename_i sz1 f hq
            cases hb1 : Nat.beq sz1 sz with
            | false => simp [hb1] at he
            | true =>
              simp only [hb1, cond_true, Option.some.injEq, Prod.mk.injEq, Bool.and_eq_true] at he
              obtain ⟨⟨hr, hf⟩, rfl, rfl, rfl⟩ := he
              have hb1 := beqT hb1
              have hf := beqT hf
              subst hb1; subst hf
              exact appendA_core h hu hi hsz hz b3 b1 b2 hx hy hsrc ⟨.inr ⟨rfl, hq⟩, hown⟩ b4 b5 (Nat.le_of_ble_eq_true hr)
          · simp at he
    · simp at he
  · simp at he
end Go.Ab
