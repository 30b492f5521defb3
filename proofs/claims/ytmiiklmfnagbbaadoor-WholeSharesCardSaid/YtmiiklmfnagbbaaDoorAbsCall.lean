/- A call, seen from the caller: what the callee's contract says, under other keys. -/
import Derived.Test.YtmiiklmfnagbbaaDoorAbsOps8
namespace Go.Ab
open Go Go.RowKit
variable {P : Program} {B : Base} {c : Cx} {s : St} {a : Act}

theorem alook_enter : ∀ (os : List AO) (b k : Nat), alook (enterObjs os b) k = if b ≤ k then os[k - b]? else none
  | [], b, k => by simp [enterObjs, alook]
  | o :: r, b, k => by
    simp only [enterObjs, alook]
    by_cases h : b = k
    · subst h; simp
    · rw [beqF h, cond_false, alook_enter r (b + 1) k]
      by_cases h1 : b + 1 ≤ k
      · rw [if_pos h1, if_pos (by omega)]
        have : k - b = (k - (b + 1)) + 1 := by omega
        rw [this]; simp
      · rw [if_neg h1, if_neg (by omega)]

/-- The blocks that a row of objects has for itself. -/
def held (c : Cx) (objs : List (Nat × AO)) (b : Nat) : Prop := ∃ k o, alook objs k = some o ∧ excl c k o = some b

/-- The contract of a call. -/
def CallOk (P : Program) (G : Nat → Option (List AV)) (f : FuncId) (args : List AV) (os : List AO) (r : AV) (os' : List AO) : Prop :=
  ∀ (c0 : Cx) (vs : Array Value), Good G c0 → Objs c0 (enterObjs os keyBase) → vs.size = args.length →
    (∀ (i : Nat) (u : AV), args[i]? = some u → Rep c0 u (vs.getD i undef)) → (∀ k ∈ keysL args, live (enterObjs os keyBase) k) →
    Calls P f vs c0.w fun e w' => ∃ c' x, e = .returned x ∧ c'.w = w' ∧ Good G c' ∧
      Frame { c0 := c0, D := held c0 (enterObjs os keyBase), K := live (enterObjs os keyBase), G := G, N := 0 } c' ∧
      Objs c' (enterObjs os' keyBase) ∧ Rep c' r x ∧ (∀ k ∈ r.keys, live (enterObjs os' keyBase) k) ∧
      ∀ k o b, alook (enterObjs os' keyBase) k = some o → excl c' k o = some b → c0.w.heap.size ≤ b ∨ held c0 (enterObjs os keyBase) b

theorem renL_get (m : Nat → Nat) : ∀ (l : List AV) (i : Nat), (renL m l)[i]? = l[i]?.map (AV.ren m)
  | [], i => by simp [renL]
  | v :: r, i => by cases i <;> simp [renL, renL_get m r]
theorem renL_length (m : Nat → Nat) (l : List AV) : (renL m l).length = l.length := by induction l <;> simp [renL, *]
theorem ren_one (m : Nat → Nat) (v : AV) : (v.ren m).one = v.one := by
  cases v with
  | sl o => cases o <;> rfl
  | _ => rfl
mutual
theorem ren_keys (m : Nat → Nat) : ∀ (v : AV), ∀ k ∈ (v.ren m).keys, ∃ q ∈ v.keys, k = m q
  | .sl o sz n get => by cases o <;> simp [AV.ren, AV.keys]
  | .agg cs => by simp only [AV.ren, AV.keys]; exact renL_keys m cs
  | .tup vs => by simp only [AV.ren, AV.keys]; exact renL_keys m vs
  | .ref .. | .aref .. | .msl .. => by simp [AV.ren, AV.keys]
  | .fn f p q => by
    simp only [AV.ren, AV.keys, List.mem_append]
    rintro k (hk | hk)
    · obtain ⟨x, h1, h2⟩ := renL_keys m p k hk; exact ⟨x, .inl h1, h2⟩
    · obtain ⟨x, h1, h2⟩ := renL_keys m q k hk; exact ⟨x, .inr h1, h2⟩
  | .bool _ | .int .. | .str _ | .nilp | .nilf | .nilm | .nili | .undef | .arr .. | .elt .. => by simp [AV.ren, AV.keys]
  | .grd t w v => by simp only [AV.ren, AV.keys]; exact ren_keys m v
theorem renL_keys (m : Nat → Nat) : ∀ (l : List AV), ∀ k ∈ keysL (renL m l), ∃ q ∈ keysL l, k = m q
  | [] => by simp [renL, keysL]
  | v :: r => by
    intro k hk
    simp only [renL, keysL, List.mem_append] at hk
    rcases hk with hk | hk
    · obtain ⟨x, h1, h2⟩ := ren_keys m v k hk
      exact ⟨x, by simp [keysL, h1], h2⟩
    · obtain ⟨x, h1, h2⟩ := renL_keys m r k hk
      exact ⟨x, by simp [keysL, h1], h2⟩
end

theorem Rep.ren {c c' : Cx} {m : Nat → Nat} (hc : ∀ b o v, c.I b o → c.w.cell? ⟨b, o, none⟩ = some v → c'.w.cell? ⟨b, o, none⟩ = some v) (hI : ∀ b o, c.I b o → c'.I b o) {v : AV} {x : Value} (h : Rep c v x) :
    (∀ k ∈ v.keys, c'.β (m k) = c.β k ∧ ∀ n y, OwnRep c (.key k) n y → OwnRep c' (.key (m k)) n y) → Rep c' (v.ren m) x := by
  have he : Ext c c' (fun _ => False) := ⟨hc, hI, fun _ h => h.elim, fun _ h => h.elim⟩
  induction h with
  | slNil o sz get ho =>
    intro hk
    cases o with
    | key k => exact .slNil _ _ _ ((hk k (by simp [AV.keys])).2 _ _ ho)
    | _ => exact .slNil _ _ _ ho
  | sl o sz n get ad cap vals h1 h2 h3 h4 h5 h6 _ =>
    intro hk
    have hown : ∀ o', OwnRep c' o' n (.slice (some ad) n cap) → Rep c' (.sl o' sz n get) (.slice (some ad) n cap) := fun o' ho =>
      .sl _ _ _ _ ad cap vals h1 h2 ho h4 (fun j i u hj hu => ⟨(h5 j i u hj hu).1, hc _ _ _ (h5 j i u hj hu).2.2 (h5 j i u hj hu).2.1, hI _ _ (h5 j i u hj hu).2.2⟩)
        (fun j i u hj hu => (h6 j i u hj hu).ext he fun k hk' => by rw [keys_nil_of (h4 j hj).2 hu] at hk'; simp at hk')
    cases o with
    | key k => exact hown _ ((hk k (by simp [AV.keys])).2 _ _ h3)
    | _ => exact hown _ h3
  | agg cs vs h1 h2 h3 ih =>
    intro hk
    refine .agg _ _ (by rw [h1, renL_length]) (fun i u hu => ?_) (fun i u hu => ?_)
    · rw [renL_get] at hu
      cases hi : cs[i]? with
      | none => simp [hi] at hu
      | some u' => simp [hi] at hu; subst hu; rw [ren_one]; exact h2 i u' hi
    · rw [renL_get] at hu
      cases hi : cs[i]? with
      | none => simp [hi] at hu
      | some u' => simp [hi] at hu; subst hu; exact ih i u' hi fun k hk' => hk k (by simpa [AV.keys] using keys_mem_of hi k hk')
  | tup us vs h1 h3 ih =>
    intro hk
    refine .tup _ _ (by rw [h1, renL_length]) (fun i u hu => ?_)
    rw [renL_get] at hu
    cases hi : us[i]? with
    | none => simp [hi] at hu
    | some u' => simp [hi] at hu; subst hu; exact ih i u' hi fun k hk' => hk k (by simpa [AV.keys] using keys_mem_of hi k hk')
  | bool b => intro _; exact .bool b
  | int k n => intro _; exact .int k n
  | str l => intro _; exact .str l
  | nilp => intro _; exact .nilp
  | nilf => intro _; exact .nilf
  | nilm => intro _; exact .nilm
  | nili => intro _; exact .nili
  | undef v => intro _; exact .undef v
  | arr sz n get vs h1 h2 h3 h4 _ =>
    intro _
    exact .arr sz n get vs h1 h2 h3 fun j i u hj hu => (h4 j i u hj hu).ext he fun k hk' => by rw [keys_nil_of (h2 j hj).2 hu] at hk'; simp at hk'
  | ref k off => intro hk; rw [← (hk k (by simp [AV.keys])).1]; exact .ref _ _
  | aref k sz i off => intro hk; rw [← (hk k (by simp [AV.keys])).1]; exact .aref _ _ _ _
  | elt cs off b o vals h1 h2 h3 _ =>
    intro _
    exact .elt cs off b o vals h1 (fun i u hu => ⟨(h2 i u hu).1, hc _ _ _ (h2 i u hu).2.2 (h2 i u hu).2.1, hI _ _ (h2 i u hu).2.2⟩) fun i u hu => (h3 i u hu).ext he fun k hk' => by rw [keys_nil_of h1 hu] at hk'; simp at hk'
  | msl k sz off len cap o h1 h2 => intro hk; rw [← (hk k (by simp [AV.keys])).1]; exact .msl _ _ _ _ _ _ h1 h2
  | fn f p q vp vq h1 h2 h3 h4 ih1 ih2 =>
    intro hk
    refine .fn _ _ _ _ _ (by rw [h1, renL_length]) (by rw [h2, renL_length]) (fun i u hu => ?_) (fun i u hu => ?_)
    · rw [renL_get] at hu
      cases hi : p[i]? with
      | none => simp [hi] at hu
      | some u' => simp [hi] at hu; subst hu; exact ih1 i u' hi fun k hk' => hk k (by simpa [AV.keys] using .inl (keys_mem_of hi k hk'))
    · rw [renL_get] at hu
      cases hi : q[i]? with
      | none => simp [hi] at hu
      | some u' => simp [hi] at hu; subst hu; exact ih2 i u' hi fun k hk' => hk k (by simpa [AV.keys] using .inr (keys_mem_of hi k hk'))

/-! ### freezing -/

/-- The cells of a row, never written again from here on. -/
def Cx.froze (c : Cx) (b n : Nat) : Cx := { c with I := fun b' o => c.I b' o ∨ (b' = b ∧ o < n) }

theorem freezeA_sound (h : Rel B c s a) {v v' : AV} {x : Value} {objs' : List (Nat × AO)} (hs : Sees B c s v x) (he : freezeA s.objs v = some (v', objs')) :
    ∃ c', c'.w = c.w ∧ Rel B c' { s with objs := objs' } a ∧ Sees B c' { s with objs := objs' } v' x ∧ (∀ k, live s.objs k → live objs' k) ∧ Ext c c' (live s.objs) := by
  cases v with
  | msl k sz off n =>
    simp only [freezeA] at he
    have hrep := hs.rep
    -- what the frozen slice reads as
    have key : ∀ (c' : Cx) (sz' m : Nat) (get : Nat → List AV), c'.w = c.w → c'.β k = c.β k → ArrAt c' (c'.β k) sz' m get → (∀ o, o < m * sz' → c'.I (c'.β k) o) → sz = sz' → off + n ≤ m → Rep c' (.sl .no sz n fun j => get (off + j)) x := by
      intro c' sz' m get hw hβ ha hI e hle
      subst e
      cases hrep with
      | msl _ _ _ _ cap o h1 h2 =>
        by_cases hn : n = 0
        · subst hn
          exact .sl _ _ _ _ _ _ (fun _ _ => undef) rfl (Nat.zero_le _) trivial (fun j hj => by omega) (fun j i u hj => by omega) (fun j i u hj => by omega)
        · have ho := h2 (by omega)
          subst ho
          have hcell : ∀ (j i : Nat) (u : AV), j < n → (get (off + j))[i]? = some u → u.one = true ∧ ∃ y, c'.w.cell? ⟨c.β k, off * sz + (j * sz + i), none⟩ = some y ∧ Rep c' u y := by
            intro j i u hj hu
            obtain ⟨e1, y, e2, e3⟩ := ha.cellsAt (i := off + j) (by omega) i u hu
            refine ⟨e1, y, ?_, e3⟩
            rw [← e2, hβ]; congr 2; rw [Nat.add_mul]; omega
          refine .sl _ _ _ _ ⟨c.β k, off * sz, none⟩ cap (fun j i => (c'.w.cell? ⟨c.β k, off * sz + (j * sz + i), none⟩).getD undef) rfl h1 trivial (fun j hj => ha.len _ (by omega)) (fun j i u hj hu => ?_) (fun j i u hj hu => ?_)
          · obtain ⟨e1, y, e2, e3⟩ := hcell j i u hj hu
            have hi : i < sz := by rw [← (ha.len (off + j) (by omega)).1]; exact (List.getElem?_eq_some_iff.1 hu).1
            refine ⟨e1, by simp [e2], ?_⟩
            have := hI ((off + j) * sz + i) (row_off_lt (by omega) hi)
            rw [hβ] at this
            have e5 : (off + j) * sz + i = off * sz + (j * sz + i) := by rw [Nat.add_mul]; omega
            rw [← e5]; exact this
          · obtain ⟨e1, y, e2, e3⟩ := hcell j i u hj hu
            simp only [e2, Option.getD_some]; exact e3
    cases ho : alook s.objs k with
    | none => simp [ho] at he
    | some ob =>
      have hob := h.objs.rep k ob ho
      cases ob with
      | arr sz' m get =>
        simp only [ho, guardO] at he
        cases hb : (Nat.beq sz sz' && Nat.ble (off + n) m) with
        | false => simp [hb] at he
        | true =>
          simp [hb] at he
          obtain ⟨rfl, rfl⟩ := he
          simp only [Bool.and_eq_true] at hb
          have hb1 := beqT hb.1
          have hb2 := Nat.le_of_ble_eq_true hb.2
          let c' := c.froze (c.β k) (m * sz')
          have hext : Ext c c' (live s.objs) := ⟨fun _ _ _ _ hv => hv, fun _ _ hi => .inl hi, fun _ _ => rfl, fun _ _ _ _ hv => hv⟩
          have hkb : KeepsBut c c' s.objs k := ⟨hext, fun _ _ _ => rfl, fun _ _ _ => rfl, fun _ _ _ => rfl, fun q o' b hq hne hb' => ⟨rfl, fun off' hi => by
            rcases hi with hi | ⟨rfl, _⟩
            · exact hi
            · exact (h.objs.apart q o' k _ _ hq ho hne hb' rfl).elim⟩⟩
          obtain ⟨⟨⟨vs, t', hh, hsz, hr⟩, hl, h1⟩, hI, hfr⟩ := hob
          have hgr : Grow B c c' := ⟨rfl, rfl, rfl, Nat.le_refl _, fun _ _ _ => rfl, fun b o hb' hd hi => by
            rcases hi with hi | ⟨rfl, _⟩
            · exact hi
            · rcases h.mine k _ _ ho rfl with h' | h'
              · omega
              · exact absurd h' hd, fun b o hi => by
            rcases hi with hi | ⟨rfl, hlt⟩
            · exact h.good.there b o hi
            · exact ⟨vs[o]'(by omega), by show c.w.cell? _ = _; rw [cell?_cells hh]; simp⟩⟩
          have harr : ArrAt c' (c'.β k) sz' m get := ⟨⟨vs, t', hh, hsz, fun j i u hj hu => (hr j i u hj hu).ext hext fun q hq => by rw [keys_nil_of (hl j hj).2 hu] at hq; simp at hq⟩, hl, h1⟩
          have hrel := h.obj (k := k) (o := .frz sz' m get) hkb hgr ⟨harr, fun o ho' => .inr ⟨rfl, ho'⟩, hfr⟩ (fun q o' b hq hne hb' e => h.objs.apart q o' k _ b hq ho hne hb' e) (by simp [AO.keys]) (fun b hb' => h.mine k _ b ho hb')
          exact ⟨c', rfl, hrel, ⟨key c' sz' m get rfl rfl harr (fun o ho' => .inr ⟨rfl, ho'⟩) hb1 hb2, by simp [AV.keys], rfl⟩, fun q hq => live_aput hq, hext⟩
      | frz sz' m get =>
        simp only [ho, guardO] at he
        cases hb : (Nat.beq sz sz' && Nat.ble (off + n) m) with
        | false => simp [hb] at he
        | true =>
          simp [hb] at he
          obtain ⟨rfl, rfl⟩ := he
          simp only [Bool.and_eq_true] at hb
          have hb1 := beqT hb.1
          have hb2 := Nat.le_of_ble_eq_true hb.2
          exact ⟨c, rfl, h, ⟨key c sz' m get rfl rfl hob.1 hob.2.1 hb1 hb2, by simp [AV.keys], rfl⟩, fun q hq => hq, Ext.refl _ _⟩
      | _ => simp [ho] at he
  | _ => simp [freezeA] at he; obtain ⟨rfl, rfl⟩ := he; exact ⟨c, rfl, h, hs, fun _ h => h, Ext.refl _ _⟩

theorem Sees.move {c c' : Cx} {s s' : St} {v : AV} {x : Value} (h : Sees B c s v x) (hl : ∀ k, Go.Ab.live s.objs k → Go.Ab.live s'.objs k) (he : Ext c c' (Go.Ab.live s.objs)) : Sees B c' s' v x :=
  ⟨h.rep.ext he h.live, fun k hk => hl k (h.live k hk), h.plain⟩

/-- The state with other objects. -/
abbrev St.with (s : St) (objs : List (Nat × AO)) : St := { s with objs := objs }

theorem freezeL_sound : ∀ {l l' : List AV} {xs : List Value} {c : Cx} {s : St} {objs' : List (Nat × AO)}, Rel B c s a → SeesL B c s l xs → freezeL s.objs l = some (l', objs') →
    ∃ c', c'.w = c.w ∧ Rel B c' (s.with objs') a ∧ SeesL B c' (s.with objs') l' xs ∧ (∀ k, live s.objs k → live objs' k) ∧ Ext c c' (live s.objs)
  | [], l', xs, c, s, objs', h, hs, he => by
    simp [freezeL] at he; obtain ⟨rfl, rfl⟩ := he
    exact ⟨c, rfl, h, hs, fun _ h => h, Ext.refl _ _⟩
  | v :: r, l', xs, c, s, objs', h, hs, he => by
    simp only [freezeL] at he
    cases h1 : freezeA s.objs v with
    | none => simp [h1] at he
    | some p =>
      obtain ⟨v', o1⟩ := p
      cases h2 : freezeL o1 r with
      | none => simp [h1, h2] at he
      | some q =>
        obtain ⟨r', o2⟩ := q
        simp [h1, h2] at he
        obtain ⟨rfl, rfl⟩ := he
        obtain ⟨x, rs, rfl, hx, hr⟩ := hs.cons_inv
        obtain ⟨c1, e1, e2, e3, e4, e5⟩ := freezeA_sound h hx h1
        have hr1 : SeesL B c1 (s.with o1) r rs := ⟨hr.1, fun i u hu => (hr.2 i u hu).move e4 e5⟩
        obtain ⟨c2, f1, f2, f3, f4, f5⟩ := freezeL_sound e2 hr1 h2
        refine ⟨c2, f1.trans e1, f2, ⟨by simp [f3.1], fun i u hu => ?_⟩, fun k hk => f4 k (e4 k hk), e5.trans (f5.sub e4)⟩
        cases i with
        | zero => simp at hu; subst hu; simpa using e3.move f4 f5
        | succ i => simpa using f3.2 i u (by simpa using hu)

theorem freezeA_one {objs objs' : List (Nat × AO)} {v v' : AV} (h : freezeA objs v = some (v', objs')) : v'.one = v.one := by
  cases v with
  | msl k sz off n =>
    simp only [freezeA] at h
    cases ho : alook objs k with
    | none => simp [ho] at h
    | some ob =>
      cases ob with
      | arr sz' m get =>
        cases hb : (Nat.beq sz sz' && Nat.ble (off + n) m) with
        | false => simp [ho, hb, guardO] at h
        | true => simp [ho, hb, guardO] at h; rw [← h.1]; rfl
      | frz sz' m get =>
        cases hb : (Nat.beq sz sz' && Nat.ble (off + n) m) with
        | false => simp [ho, hb, guardO] at h
        | true => simp [ho, hb, guardO] at h; rw [← h.1]; rfl
      | _ => simp [ho] at h
  | _ => simp [freezeA] at h; rw [← h.1]
theorem freezeL_ones : ∀ {l l' : List AV} {objs objs' : List (Nat × AO)}, freezeL objs l = some (l', objs') → ∀ (i : Nat) (u' : AV), l'[i]? = some u' → ∃ u, l[i]? = some u ∧ u'.one = u.one
  | [], l', objs, objs', h, i, u', hu => by simp [freezeL] at h; obtain ⟨rfl, _⟩ := h; simp at hu
  | v :: r, l', objs, objs', h, i, u', hu => by
    simp only [freezeL] at h
    cases h1 : freezeA objs v with
    | none => simp [h1] at h
    | some p =>
      obtain ⟨v', o1⟩ := p
      cases h2 : freezeL o1 r with
      | none => simp [h1, h2] at h
      | some q =>
        obtain ⟨r', o2⟩ := q
        simp [h1, h2] at h
        obtain ⟨rfl, rfl⟩ := h
        cases i with
        | zero => simp at hu; subst hu; exact ⟨v, rfl, freezeA_one h1⟩
        | succ i => simpa using freezeL_ones h2 i u' (by simpa using hu)

theorem freezeV_sound (h : Rel B c s a) {v v' : AV} {x : Value} {objs' : List (Nat × AO)} (hs : Sees B c s v x) (he : freezeV s.objs v = some (v', objs')) :
    ∃ c', c'.w = c.w ∧ Rel B c' (s.with objs') a ∧ Sees B c' (s.with objs') v' x ∧ (∀ k, live s.objs k → live objs' k) ∧ Ext c c' (live s.objs) := by
  cases v with
  | agg cs =>
    simp only [freezeV] at he
    cases h1 : freezeL s.objs cs with
    | none => simp [h1] at he
    | some p =>
      obtain ⟨cs', o1⟩ := p
      simp [h1] at he
      obtain ⟨rfl, rfl⟩ := he
      obtain ⟨hr, hl, hp⟩ := hs
      cases hr with
      | agg _ vs e1 e2 e3 =>
        have hL : SeesL B c s cs vs.toList := ⟨by simpa using e1, fun i u hu => ⟨by
          have := e3 i u hu
          simpa [Array.getD_eq_getD_getElem?, List.getD_eq_getElem?_getD] using this, fun k hk => hl k (by simpa [AV.keys] using keys_mem_of hu k hk), (e3 i u hu).plain⟩⟩
        obtain ⟨c', f1, f2, f3, f4, f5⟩ := freezeL_sound h hL h1
        have hfn := f3.fn
        refine ⟨c', f1, f2, ⟨.agg _ _ (by simpa using hfn.1) (fun i u hu => ?_) (fun i u hu => by simpa using hfn.2.1 i u hu), by simpa [AV.keys] using hfn.2.2, rfl⟩, f4, f5⟩
        obtain ⟨u0, g1, g2⟩ := freezeL_ones h1 i u hu
        rw [g2]; exact e2 i u0 g1
  | _ => exact freezeA_sound h hs he

theorem freezeVs_sound : ∀ {l l' : List AV} {xs : List Value} {c : Cx} {s : St} {objs' : List (Nat × AO)}, Rel B c s a → SeesL B c s l xs → freezeVs s.objs l = some (l', objs') →
    ∃ c', c'.w = c.w ∧ Rel B c' (s.with objs') a ∧ SeesL B c' (s.with objs') l' xs ∧ (∀ k, live s.objs k → live objs' k) ∧ Ext c c' (live s.objs)
  | [], l', xs, c, s, objs', h, hs, he => by
    simp [freezeVs] at he; obtain ⟨rfl, rfl⟩ := he
    exact ⟨c, rfl, h, hs, fun _ h => h, Ext.refl _ _⟩
  | v :: r, l', xs, c, s, objs', h, hs, he => by
    simp only [freezeVs] at he
    cases h1 : freezeV s.objs v with
    | none => simp [h1] at he
    | some p =>
      obtain ⟨v', o1⟩ := p
      cases h2 : freezeVs o1 r with
      | none => simp [h1, h2] at he
      | some q =>
        obtain ⟨r', o2⟩ := q
        simp [h1, h2] at he
        obtain ⟨rfl, rfl⟩ := he
        obtain ⟨x, rs, rfl, hx, hr⟩ := hs.cons_inv
        obtain ⟨c1, e1, e2, e3, e4, e5⟩ := freezeV_sound h hx h1
        have hr1 : SeesL B c1 (s.with o1) r rs := ⟨hr.1, fun i u hu => (hr.2 i u hu).move e4 e5⟩
        obtain ⟨c2, f1, f2, f3, f4, f5⟩ := freezeVs_sound e2 hr1 h2
        refine ⟨c2, f1.trans e1, f2, ⟨by simp [f3.1], fun i u hu => ?_⟩, fun k hk => f4 k (e4 k hk), e5.trans (f5.sub e4)⟩
        cases i with
        | zero => simp at hu; subst hu; simpa using e3.move f4 f5
        | succ i => simpa using f3.2 i u (by simpa using hu)

theorem SeesL.shed : ∀ {l : List AV} {xs : List Value}, SeesL B c s l xs → SeesL B c s (shedL l) xs := by
  intro l xs h
  refine ⟨by rw [shedL_length]; exact h.1, fun i u hu => ?_⟩
  rw [shedL_get] at hu
  cases hi : l[i]? with
  | none => simp [hi] at hu
  | some u' => simp [hi] at hu; subst hu; exact (h.2 i u' hi).shed

/-! ### lists of keys -/

theorem any_beq {l : List Nat} {k : Nat} : l.any (Nat.beq k) = true ↔ k ∈ l := by
  rw [List.any_eq_true]
  exact ⟨fun ⟨x, h1, h2⟩ => beqT h2 ▸ h1, fun h => ⟨k, h, Nat.beq_refl k⟩⟩
theorem addKeys_spec : ∀ (l acc : List Nat), acc.Nodup → (addKeys acc l).Nodup ∧ ∀ k, k ∈ addKeys acc l ↔ k ∈ acc ∨ k ∈ l
  | [], acc, h => ⟨h, by simp [addKeys]⟩
  | k :: r, acc, h => by
    simp only [addKeys]
    cases hb : acc.any (Nat.beq k) with
    | true =>
      obtain ⟨h1, h2⟩ := addKeys_spec r acc h
      refine ⟨h1, fun q => ?_⟩
      have := any_beq.1 hb
      simp only [cond_true, h2 q, List.mem_cons]
      constructor
      · rintro (h | h)
        · exact .inl h
        · exact .inr (.inr h)
      · rintro (h | rfl | h)
        · exact .inl h
        · exact .inl this
        · exact .inr h
    | false =>
      have hk : k ∉ acc := fun hm => by rw [any_beq.2 hm] at hb; simp at hb
      obtain ⟨h1, h2⟩ := addKeys_spec r (acc ++ [k]) (by
        rw [List.nodup_append]
        exact ⟨h, by simp, fun x hx y hy => by simp at hy; subst hy; rintro rfl; exact hk hx⟩)
      refine ⟨h1, fun q => ?_⟩
      simp only [cond_false, h2 q, List.mem_append, List.mem_cons, List.not_mem_nil, or_false, or_assoc]
theorem reachK_spec (objs : List (Nat × AO)) (l : List Nat) : (reachK objs l).Nodup ∧ ∀ k ∈ l, k ∈ reachK objs l := by
  unfold reachK
  obtain ⟨a1, a2⟩ := addKeys_spec l [] List.nodup_nil
  obtain ⟨b1, b2⟩ := addKeys_spec (objKeys objs (addKeys [] l)) (addKeys [] l) a1
  obtain ⟨c1, c2⟩ := addKeys_spec (objKeys objs (addKeys (addKeys [] l) (objKeys objs (addKeys [] l)))) _ b1
  exact ⟨c1, fun k hk => (c2 k).2 (.inl ((b2 k).2 (.inl ((a2 k).2 (.inr hk)))))⟩
theorem subK_spec : ∀ {l m : List Nat}, subK l m = true → ∀ k ∈ l, k ∈ m
  | [], m, _ => by simp
  | k :: r, m, h => by
    simp only [subK, Bool.and_eq_true] at h
    intro q hq
    rcases List.mem_cons.1 hq with rfl | hq
    · exact any_beq.1 h.1
    · exact subK_spec h.2 q hq
theorem getObjs_spec : ∀ {objs : List (Nat × AO)} {ks : List Nat} {os : List AO}, getObjs objs ks = some os → os.length = ks.length ∧ ∀ (i : Nat) (k : Nat), ks[i]? = some k → alook objs k = os[i]? ∧ live objs k
  | objs, [], os, h => by simp [getObjs] at h; subst h; simp
  | objs, k :: r, os, h => by
    simp only [getObjs] at h
    cases ho : alook objs k with
    | none => simp [ho] at h
    | some o =>
      cases hr : getObjs objs r with
      | none => simp [ho, hr] at h
      | some l =>
        simp [ho, hr] at h; subst h
        obtain ⟨h1, h2⟩ := getObjs_spec hr
        refine ⟨by simp [h1], fun i q hq => ?_⟩
        cases i with
        | zero => simp at hq; subst hq; exact ⟨by simp [ho], o, ho⟩
        | succ i => simpa using h2 i q (by simpa using hq)
theorem objKeys_mem {objs : List (Nat × AO)} : ∀ {ks : List Nat} {k : Nat} {o : AO}, k ∈ ks → alook objs k = some o → ∀ q ∈ o.keys, q ∈ objKeys objs ks
  | [], k, o, hk, _ => by simp at hk
  | q :: r, k, o, hk, ho => by
    intro x hx
    simp only [objKeys, List.mem_append]
    rcases List.mem_cons.1 hk with rfl | hk
    · left; simp [ho, hx]
    · right; exact objKeys_mem hk ho x hx
theorem idxOf_spec : ∀ {ks : List Nat} {k : Nat} (d : Nat), k ∈ ks → ks[idxOf ks k d]? = some k
  | [], k, d, h => by simp at h
  | q :: r, k, d, h => by
    simp only [idxOf]
    by_cases e : q = k
    · subst e; simp
    · rw [beqF e, cond_false]
      simp only [List.getElem?_cons_succ]
      exact idxOf_spec d (by rcases List.mem_cons.1 h with rfl | h; exact absurd rfl e; exact h)
theorem nthD_spec : ∀ {ks : List Nat} {i k : Nat}, ks[i]? = some k → nthD ks i = k
  | [], i, k, h => by simp at h
  | q :: r, 0, k, h => by simp at h; subst h; rfl
  | q :: r, i + 1, k, h => by simpa [nthD] using nthD_spec (ks := r) (by simpa using h)
theorem alook_putObjs : ∀ {ks : List Nat} {l : List AO} {objs : List (Nat × AO)}, ks.Nodup → l.length = ks.length → ∀ k, alook (putObjs objs ks l) k = if k ∈ ks then l[idxOf ks k 0]? else alook objs k
  | [], l, objs, _, _, k => by
    cases l <;> simp [putObjs]
  | q :: r, [], objs, _, hl, k => by simp at hl
  | q :: r, o :: l, objs, hn, hl, k => by
    obtain ⟨hq, hn⟩ := List.nodup_cons.1 hn
    simp only [putObjs]
    rw [alook_putObjs hn (by simpa using hl) k, alook_aput]
    simp only [idxOf]
    by_cases e : q = k
    · subst e
      rw [if_neg hq]; simp
    · rw [beqF e]
      by_cases hk : k ∈ r
      · rw [if_pos hk, if_pos (List.mem_cons_of_mem _ hk)]; simp
      · rw [if_neg hk, if_neg e, if_neg (by simp [hk]; exact fun h => e h.symm)]
end Go.Ab
