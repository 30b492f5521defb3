/- Soundness of what is built: structs, slices' literals; new variables; stores. -/
import Derived.Test.YtmiiklmfnagbbaaDoorAbsOps3
import Derived.Great.BuildSlice
import Derived.Laws.MakeOwn
namespace Go.Ab
open Go Go.RowKit
variable {P : Program} {B : Base} {c : Cx} {s : St} {a : Act}

theorem rep_oneCell {u : AV} {y : Value} (h : Rep c u y) (h1 : u.one = true) : y.oneCell' = true := by
  cases h <;> first | rfl | simp [AV.one] at h1

/-- A row of abstract cells and a row of the model's. -/
def CR (c : Cx) (cs : List AV) (vs : Array Value) : Prop := vs.size = cs.length ∧ ∀ (i : Nat) (u : AV), cs[i]? = some u → u.one = true ∧ Rep c u (vs.getD i undef)

theorem allOne_get : ∀ {l : List AV}, allOne l = true → ∀ (i : Nat) (u : AV), l[i]? = some u → u.one = true
  | [], _, i, u, h => by simp at h
  | v :: r, ho, i, u, h => by
    simp only [allOne, Bool.and_eq_true] at ho
    cases i with
    | zero => simp at h; subst h; exact ho.1
    | succ i => exact allOne_get ho.2 i u (by simpa using h)

theorem cells_rel {v : AV} {x : Value} (hx : Rep c v x) (ho : allOne v.cells = true) : CR c v.cells x.cells := by
  have one1 : v.one = true → v.cells = [v] → x.cells = #[x] → CR c v.cells x.cells := by
    intro h1 h2 h3
    rw [h2, h3]
    refine ⟨rfl, fun i u hu => ?_⟩
    cases i with
    | zero => simp at hu; subst hu; exact ⟨h1, hx⟩
    | succ i => simp at hu
  cases hx with
  | agg cs vs hs h1 hr => exact ⟨hs, fun i u hu => ⟨h1 i u hu, hr i u hu⟩⟩
  | arr => simp [AV.cells, allOne, AV.one] at ho
  | tup => simp [AV.cells, allOne, AV.one] at ho
  | undef => simp [AV.cells, allOne, AV.one] at ho
  | _ => exact one1 rfl rfl rfl

theorem keys_cells {v : AV} (h : v.isGrd = false) : keysL v.cells = v.keys := by
  cases v <;> simp_all [AV.cells, AV.keys, keysL, AV.isGrd]

theorem setCells_spec : ∀ {cs : List AV} {off : Nat} {l cs' : List AV}, setCells cs off l = some cs' →
    cs'.length = cs.length ∧ off + l.length ≤ cs.length ∧ ∀ (i : Nat), cs'[i]? = if off ≤ i ∧ i < off + l.length then l[i - off]? else cs[i]?
  | cs, 0, [], cs', h => by simp [setCells] at h; subst h; simp
  | [], 0, v :: l, cs', h => by simp [setCells] at h
  | [], off + 1, l, cs', h => by cases l <;> simp [setCells] at h
  | q :: cs, 0, v :: l, cs', h => by
    simp only [setCells] at h
    cases hr : setCells cs 0 l with
    | none => simp [hr] at h
    | some r =>
      simp [hr] at h; subst h
      obtain ⟨h1, h2, h3⟩ := setCells_spec hr
      refine ⟨by simp [h1], by simp at h2 ⊢; omega, fun i => ?_⟩
      cases i with
      | zero => simp
      | succ i =>
        have := h3 i
        simp only [List.getElem?_cons_succ, this, Nat.zero_le, true_and, Nat.zero_add, Nat.sub_zero, List.length_cons, Nat.add_lt_add_iff_right]
  | q :: cs, off + 1, l, cs', h => by
    have e : setCells (q :: cs) (off + 1) l = (setCells cs off l).map fun r => q :: r := by cases l <;> simp [setCells]
    rw [e] at h
    cases hr : setCells cs off l with
    | none => simp [hr] at h
    | some r =>
      simp [hr] at h; subst h
      obtain ⟨h1, h2, h3⟩ := setCells_spec hr
      refine ⟨by simp [h1], by simp; omega, fun i => ?_⟩
      cases i with
      | zero => simp
      | succ i =>
        have := h3 i
        simp only [List.getElem?_cons_succ, this]
        by_cases hc : off ≤ i ∧ i < off + l.length
        · rw [if_pos hc, if_pos (by omega)]; congr 1; omega
        · rw [if_neg hc, if_neg (by omega)]

theorem foldl_set : ∀ (xs : List Value) (k off : Nat) (vs : Array Value), ((xs.zipIdx k).foldl (fun cs (p : Value × Nat) => cs.setIfInBounds (off + p.2) p.1) vs).size = vs.size ∧
    ∀ i, i < vs.size → ((xs.zipIdx k).foldl (fun cs (p : Value × Nat) => cs.setIfInBounds (off + p.2) p.1) vs).getD i undef = if off + k ≤ i ∧ i < off + k + xs.length then xs.getD (i - (off + k)) undef else vs.getD i undef
  | [], k, off, vs => by simp; intro i _ h1 h2; omega
  | x :: r, k, off, vs => by
    have ih := foldl_set r (k + 1) off (vs.setIfInBounds (off + k) x)
    simp only [List.zipIdx_cons, List.foldl_cons]
    refine ⟨by simpa using ih.1, fun i hi => ?_⟩
    rw [ih.2 i (by simpa using hi)]
    by_cases h1 : off + (k + 1) ≤ i ∧ i < off + (k + 1) + r.length
    · rw [if_pos h1, if_pos (by simp; omega)]
      have : i - (off + k) = (i - (off + (k + 1))) + 1 := by omega
      rw [this]; simp
    · rw [if_neg h1]
      by_cases h2 : off + k = i
      · subst h2; rw [getD_set hi, if_pos rfl, if_pos (by simp)]; simp
      · have : (vs.setIfInBounds (off + k) x).getD i undef = vs.getD i undef := by
          simp only [Array.getD_eq_getD_getElem?, Array.getElem?_setIfInBounds]; simp [h2]
        rw [this, if_neg (by simp; omega)]

theorem zipIdx_foldl (xs : Array Value) (off : Nat) (vs : Array Value) :
    xs.zipIdx.foldl (fun cs (p : Value × Nat) => cs.setIfInBounds (off + p.2) p.1) vs = (xs.toList.zipIdx 0).foldl (fun cs (p : Value × Nat) => cs.setIfInBounds (off + p.2) p.1) vs := by
  rw [← Array.foldl_toList]; simp

/-- Setting a part of a row, on both sides. -/
theorem CR.set {cs cs' l : List AV} {vs xs : Array Value} {off : Nat} (h : CR c cs vs) (hl : CR c l xs) (hs : setCells cs off l = some cs') :
    CR c cs' (xs.zipIdx.foldl (fun cs (p : Value × Nat) => cs.setIfInBounds (off + p.2) p.1) vs) ∧ off + xs.size ≤ vs.size := by
  obtain ⟨h1, h2, h3⟩ := setCells_spec hs
  rw [zipIdx_foldl]
  obtain ⟨f1, f2⟩ := foldl_set xs.toList 0 off vs
  refine ⟨⟨by rw [f1, h.1, h1], fun i u hu => ?_⟩, by rw [hl.1, h.1]; exact h2⟩
  have hi : i < vs.size := by rw [h.1, ← h1]; exact (List.getElem?_eq_some_iff.1 hu).1
  rw [f2 i hi]
  rw [h3 i] at hu
  have e1 : xs.toList.length = l.length := by simpa using hl.1
  simp only [Nat.add_zero, e1]
  split at hu
  · rename_i hc
    rw [if_pos hc]
    have := hl.2 _ u hu
    simpa [Array.getD_eq_getD_getElem?, List.getD_eq_getElem?_getD] using this
  · rename_i hc
    rw [if_neg hc]
    exact h.2 i u hu

/-- Parts that are seen. -/
def SeesP (B : Base) (c : Cx) (s : St) : List (Nat × AV) → List (Nat × Value) → Prop
  | [], [] => True
  | (i, v) :: r, (j, x) :: q => i = j ∧ Sees B c s v x ∧ SeesP B c s r q
  | _, _ => False

theorem evalParts_sound (h : Rel B c s a) {ch : Chain} (hc : ChOk a ch) : ∀ {ps : List (Nat × Operand)} {l : List (Nat × AV)}, evalParts ⟨s, B.G, ch⟩ ps = some l → SeesP B c s l (ps.map fun p => (p.1, a.eval p.2))
  | [], l, he => by simp [evalParts] at he; subst he; trivial
  | (i, o) :: r, l, he => by
    simp only [evalParts] at he
    cases ho : evalO ⟨s, B.G, ch⟩ o with
    | none => simp [ho] at he
    | some v =>
      cases hr : evalParts ⟨s, B.G, ch⟩ r with
      | none => simp [ho, hr] at he
      | some vs =>
        simp [ho, hr] at he; subst he
        exact ⟨rfl, evalO_sound h hc ho, evalParts_sound h hc hr⟩

theorem zeroCells_inv {t : TypeId} {z : List AV} (h : zeroCells P t = some z) : ∃ i v, P.info? t = some i ∧ i.zero = some v ∧ ofCells v.cells.toList = some z := by
  unfold zeroCells at h
  cases hi : P.info? t with
  | none => simp [hi] at h
  | some i =>
    cases hz : i.zero with
    | none => simp [hi, hz] at h
    | some v => exact ⟨i, v, rfl, hz, by simpa [hi, hz] using h⟩
theorem zero_CR {z : List AV} {v : Value} (h : ofCells v.cells.toList = some z) : CR c z v.cells ∧ keysL z = [] := by
  obtain ⟨h1, h2, h3⟩ := ofCells_rep (c := c) h
  refine ⟨⟨by simpa using h1.symm, fun i u hu => ?_⟩, h2⟩
  have := h3 i u hu
  simpa [Array.getD_eq_getD_getElem?, List.getD_eq_getElem?_getD] using this

theorem keys_set {cs cs' l : List AV} {off : Nat} (h : setCells cs off l = some cs') : ∀ k ∈ keysL cs', k ∈ keysL cs ∨ k ∈ keysL l := by
  intro k hk
  obtain ⟨_, _, h3⟩ := setCells_spec h
  have mem_of : ∀ (m : List AV), k ∈ keysL m → ∃ (i : Nat) (u : AV), m[i]? = some u ∧ k ∈ u.keys := by
    intro m
    induction m with
    | nil => simp [keysL]
    | cons v r ih =>
      simp only [keysL, List.mem_append]
      rintro (hv | hr)
      · exact ⟨0, v, rfl, hv⟩
      · obtain ⟨i, u, h1, h2⟩ := ih hr; exact ⟨i + 1, u, by simpa using h1, h2⟩
  obtain ⟨i, u, h1, h2⟩ := mem_of cs' hk
  rw [h3 i] at h1
  split at h1
  · exact .inr (keys_mem_of h1 k h2)
  · exact .inl (keys_mem_of h1 k h2)

theorem buildFill_sound {fs : Array Field} {places : List (Nat × Nat)} (hp : fs.toList.mapM (fun f => (P.info? f.type).map fun i => (f.offset, i.size)) = some places) :
    ∀ {parts : List (Nat × AV)} {xs : List (Nat × Value)} {cs cs' : List AV} {vs : Array Value}, SeesP B c s parts xs → CR c cs vs → buildFill P fs cs parts = some cs' →
      (∀ k ∈ keysL cs, live s.objs k) → ∃ vs', Instr.fill (places.toArray[·]?) vs xs = some vs' ∧ CR c cs' vs' ∧ ∀ k ∈ keysL cs', live s.objs k
  | [], xs, cs, cs', vs, hs, hc, he, hk => by
    cases xs with
    | cons => simp [SeesP] at hs
    | nil => simp [buildFill] at he; subst he; exact ⟨vs, rfl, hc, hk⟩
  | (i, v) :: r, xs, cs, cs', vs, hs, hc, he, hk => by
    cases xs with
    | nil => simp [SeesP] at hs
    | cons p q =>
      obtain ⟨j, x⟩ := p
      obtain ⟨rfl, hv, hr⟩ := hs
      simp only [buildFill] at he
      cases hf : fs[i]? with
      | none => simp [hf] at he
      | some f =>
        simp only [hf, guardO] at he
        cases hb : (allOne v.cells && (sizeOf? P f.type == some v.cells.length)) with
        | false => simp [hb] at he
        | true =>
          simp only [hb, cond_true] at he
          simp only [Bool.and_eq_true, beq_iff_eq] at hb
          cases hst : setCells cs f.offset v.cells with
          | none => simp [hst] at he
          | some l =>
            simp only [hst, Option.bind_some] at he
            have hcv := cells_rel hv.rep hb.1
            obtain ⟨h1, h2⟩ := hc.set hcv hst
            have hkl : ∀ k ∈ keysL l, live s.objs k := by
              intro k hkk
              rcases keys_set hst k hkk with h | h
              · exact hk k h
              · rw [keys_cells hv.plain] at h; exact hv.live k h
            obtain ⟨vs', e1, e2, e3⟩ := buildFill_sound hp hr h1 he hkl
            refine ⟨vs', ?_, e2, e3⟩
            have hplace : places[i]? = some (f.offset, v.cells.length) := by
              have hsz := hb.2
              unfold sizeOf? at hsz
              cases hi : P.info? f.type with
              | none => simp [hi] at hsz
              | some inf =>
                simp [hi] at hsz
                have hmap : ∀ (l : List Field) (ps : List (Nat × Nat)), l.mapM (fun f => (P.info? f.type).map fun i => (f.offset, i.size)) = some ps → ∀ (i : Nat) (f : Field), l[i]? = some f → ps[i]? = (P.info? f.type).map fun q => (f.offset, q.size) := by
                  intro l
                  induction l with
                  | nil => intro ps _ i f hf; simp at hf
                  | cons f0 r0 ih =>
                    intro ps hps i f hf
                    simp only [List.mapM_cons, Option.bind_eq_bind, Option.pure_def] at hps
                    cases h0 : P.info? f0.type with
                    | none => simp [h0] at hps
                    | some i0 =>
                      cases h1 : r0.mapM (fun f => (P.info? f.type).map fun i => (f.offset, i.size)) with
                      | none => simp [h0, h1] at hps
                      | some rest =>
                        simp [h0, h1] at hps
                        subst hps
                        cases i with
                        | zero => simp at hf; subst hf; simp [h0]
                        | succ i => simpa using ih rest h1 i f (by simpa using hf)
                have := hmap fs.toList places hp i f (by simpa using hf)
                rw [this, hi, Option.map_some, hsz]
            simp only [Instr.fill]
            have hpl : (places.toArray[i]?) = some (f.offset, v.cells.length) := by simpa using hplace
            rw [hpl]
            simp only
            rw [if_neg (by have := hcv.1; simp [hcv.1]; omega)]
            exact e1

theorem buildA_sound (h : Rel B c s a) {t : TypeId} {parts : List (Nat × AV)} {xs : List (Nat × Value)} {v : AV} (hs : SeesP B c s parts xs) (he : buildA P t parts = some (true, v)) : Goes P B c s (Instr.build t xs.toArray) v := by
  unfold buildA at he
  split at he
  · rename_i fs hu
    cases hz : zeroCells P t with
    | none => simp [hz] at he
    | some z =>
      simp only [hz, Option.bind_some] at he
      cases hall : fs.toList.all fun f => (sizeOf? P f.type).isSome with
      | false => simp [hall] at he
      | true =>
        simp only [hall, cond_true] at he
        cases hb : buildFill P fs z parts with
        | none => simp [hb] at he
        | some l =>
          simp [hb, ok1] at he; subst he
          obtain ⟨i, zv, hi, hzv, hcz⟩ := zeroCells_inv hz
          obtain ⟨hcr, hkz⟩ := zero_CR (c := c) hcz
          have hpl : ∃ places, fs.toList.mapM (fun f => (P.info? f.type).map fun i => (f.offset, i.size)) = some places := by
            generalize fs.toList = L at hall
            induction L with
            | nil => exact ⟨[], rfl⟩
            | cons f r ih =>
              simp only [List.all_cons, Bool.and_eq_true] at hall
              obtain ⟨ps, hps⟩ := ih hall.2
              have h1 := hall.1
              unfold sizeOf? at h1
              cases hf : P.info? f.type with
              | none => simp [hf] at h1
              | some q => exact ⟨(f.offset, q.size) :: ps, by simp [List.mapM_cons, hf, hps]⟩
          obtain ⟨places, hp⟩ := hpl
          obtain ⟨vs', e1, e2, e3⟩ := buildFill_sound hp hs hcr hb (by rw [hkz]; simp)
          refine Goes.still h (x := .agg vs') ?_ ⟨.agg _ _ e2.1 (fun i u hu => (e2.2 i u hu).1) (fun i u hu => (e2.2 i u hu).2), by simpa [AV.keys] using e3, rfl⟩
          refine run_build c.w t xs.toArray vs' ?_
          unfold Program.built
          simp only [hi, hu, hzv, hp]
          exact e1
  · simp at he

/-! ### a slice's literal -/

/-- A flat row of n elements of sz cells. -/
def Flat (c : Cx) (n sz : Nat) (get : Nat → List AV) (vs : Array Value) : Prop :=
  vs.size = n * sz ∧ ∀ j, j < n → (get j).length = sz ∧ ∀ (i : Nat) (u : AV), (get j)[i]? = some u → u.one = true ∧ Rep c u (vs.getD (j * sz + i) undef)

theorem fill_flat {sz n : Nat} {z : List AV} : ∀ {parts : List (Nat × AV)} {xs : List (Nat × Value)} {vs : Array Value}, SeesP B c s parts xs →
    fillOk sz n parts = true → fillApart parts = true → vs.size = n * sz →
    ∃ vs', Instr.fill (fun i => some (i * sz, sz)) vs xs = some vs' ∧ vs'.size = n * sz ∧
      (∀ j, j < n → (∀ p ∈ parts, p.1 ≠ j) → ∀ i, i < sz → vs'.getD (j * sz + i) undef = vs.getD (j * sz + i) undef) ∧
      (∀ p ∈ parts, p.1 < n ∧ p.2.cells.length = sz ∧ ∀ (i : Nat) (u : AV), p.2.cells[i]? = some u → u.one = true ∧ Rep c u (vs'.getD (p.1 * sz + i) undef))
  | [], xs, vs, hs, _, _, hv => by
    cases xs with
    | cons => simp [SeesP] at hs
    | nil => exact ⟨vs, rfl, hv, fun _ _ _ _ _ => rfl, fun p hp => by simp at hp⟩
  | (i, v) :: r, xs, vs, hs, hok, hap, hv => by
    cases xs with
    | nil => simp [SeesP] at hs
    | cons p q =>
      obtain ⟨j, x⟩ := p
      obtain ⟨rfl, hsv, hr⟩ := hs
      simp only [fillOk, Bool.and_eq_true] at hok
      obtain ⟨o1, o2, o3, o4, o5⟩ := hok
      simp only [fillApart, Bool.and_eq_true, List.all_eq_true] at hap
      obtain ⟨a1, a2⟩ := hap
      have o3 := beqT o3
      have o4 : i < n := Nat.lt_of_succ_le (Nat.le_of_ble_eq_true o4)
      have hcv := cells_rel hsv.rep o1
      have hlt : i * sz + x.cells.size ≤ vs.size := by
        rw [hcv.1, o3, hv]
        have := Nat.mul_le_mul_right sz o4
        rw [Nat.succ_mul] at this; exact this
      obtain ⟨f1, f2⟩ := foldl_set x.cells.toList 0 (i * sz) vs
      rw [← zipIdx_foldl] at f1 f2
      obtain ⟨vs', e1, e2, e3, e4⟩ := fill_flat (z := z) hr o5 a2 (f1.trans hv)
      have hne : ∀ p ∈ r, p.1 ≠ i := fun p hp e => by
        have := a1 p hp
        simp [e] at this
      refine ⟨vs', ?_, e2, fun j hj hp k hk => ?_, fun p hp => ?_⟩
      · simp only [Instr.fill]
        rw [if_neg (by have := hcv.1; simp; omega)]
        exact e1
      · rw [e3 j hj (fun p hp' => hp p (List.mem_cons_of_mem _ hp')) k hk]
        have hij : i ≠ j := hp (i, v) List.mem_cons_self
        have hjk : j * sz + k < vs.size := by rw [hv]; exact row_off_lt hj hk
        rw [f2 _ hjk, if_neg]
        simp only [Nat.add_zero, Array.length_toList]
        rw [hcv.1, o3]
        rintro ⟨h1, h2⟩
        rcases Nat.lt_or_gt_of_ne hij with h | h
        · have := Nat.mul_le_mul_right sz h
          rw [Nat.succ_mul] at this; omega
        · have := Nat.mul_le_mul_right sz h
          rw [Nat.succ_mul] at this; omega
      · rcases List.mem_cons.1 hp with rfl | hp
        · refine ⟨o4, o3, fun k u hu => ?_⟩
          have hk : k < sz := by rw [← o3]; exact (List.getElem?_eq_some_iff.1 hu).1
          refine ⟨(hcv.2 k u hu).1, ?_⟩
          rw [e3 i o4 hne k hk]
          have hjk : i * sz + k < vs.size := by rw [hv]; exact row_off_lt o4 hk
          rw [f2 _ hjk, if_pos (by simp only [Nat.add_zero, Array.length_toList]; rw [hcv.1, o3]; omega)]
          have := (hcv.2 k u hu).2
          have e5 : i * sz + k - (i * sz + 0) = k := by omega
          rw [e5]
          simpa [Array.getD_eq_getD_getElem?, List.getD_eq_getElem?_getD] using this
        · exact e4 p hp

theorem fillGet_mem (z : List AV) : ∀ (parts : List (Nat × AV)) (j : Nat), (∃ p ∈ parts, p.1 = j ∧ fillGet z parts j = p.2.cells) ∨ ((∀ p ∈ parts, p.1 ≠ j) ∧ fillGet z parts j = z)
  | [], j => .inr ⟨by simp, rfl⟩
  | (i, v) :: r, j => by
    by_cases h : i = j
    · subst h; exact .inl ⟨(i, v), List.mem_cons_self, rfl, by simp [fillGet]⟩
    · rcases fillGet_mem z r j with ⟨p, hp, h1, h2⟩ | ⟨h1, h2⟩
      · exact .inl ⟨p, List.mem_cons_of_mem _ hp, h1, by simp [fillGet, beqF h, h2]⟩
      · refine .inr ⟨fun p hp => ?_, by simp [fillGet, beqF h, h2]⟩
        rcases List.mem_cons.1 hp with rfl | hp
        · exact h
        · exact h1 p hp

theorem madeCells_get (z : Array Value) (m : Nat) (i : Nat) (hi : i < m) (hz : 0 < z.size) : (madeCells z m).getD i undef = z.getD (i % z.size) undef := by
  have h1 : i % z.size < z.size := Nat.mod_lt _ hz
  simp [madeCells, Array.getD_eq_getD_getElem?, hi, h1]

theorem shedL_get : ∀ (l : List AV) (i : Nat), (shedL l)[i]? = l[i]?.map AV.shed
  | [], i => by simp [shedL]
  | v :: r, i => by cases i <;> simp [shedL, shedL_get r]
theorem shed_one (v : AV) : v.shed.one = v.one := by
  cases v with
  | sl o => cases o <;> rfl
  | _ => rfl
theorem shedL_length (l : List AV) : (shedL l).length = l.length := by induction l <;> simp [shedL, *]
theorem Rep.shed {v : AV} {x : Value} (h : Rep c v x) : Rep c v.shed x := by
  induction h with
  | slNil o sz get ho =>
    cases o with
    | key k => exact .slNil _ _ _ trivial
    | _ => exact .slNil _ _ _ ho
  | sl o sz n get a cap vals h1 h2 h3 h4 h5 h6 _ =>
    cases o with
    | key k => exact .sl _ _ _ _ a cap vals h1 h2 trivial h4 h5 h6
    | _ => exact .sl _ _ _ _ a cap vals h1 h2 h3 h4 h5 h6
  | agg cs vs h1 h2 h3 ih =>
    refine .agg _ _ (by rw [h1, shedL_length]) (fun i u hu => ?_) (fun i u hu => ?_)
    · rw [shedL_get] at hu
      cases hi : cs[i]? with
      | none => simp [hi] at hu
      | some u' => simp [hi] at hu; subst hu; rw [shed_one]; exact h2 i u' hi
    · rw [shedL_get] at hu
      cases hi : cs[i]? with
      | none => simp [hi] at hu
      | some u' => simp [hi] at hu; subst hu; exact ih i u' hi
  | tup us vs h1 h3 ih =>
    refine .tup _ _ (by rw [h1, shedL_length]) (fun i u hu => ?_)
    rw [shedL_get] at hu
    cases hi : us[i]? with
    | none => simp [hi] at hu
    | some u' => simp [hi] at hu; subst hu; exact ih i u' hi
  | bool b => exact .bool b
  | int k n => exact .int k n
  | str l => exact .str l
  | nilp => exact .nilp
  | nilf => exact .nilf
  | nilm => exact .nilm
  | nili => exact .nili
  | undef v => exact .undef v
  | arr sz n get vs h1 h2 h3 h4 _ => exact .arr sz n get vs h1 h2 h3 h4
  | ref k off => exact .ref k off
  | aref k sz i off => exact .aref k sz i off
  | elt cs off b o vals h1 h2 h3 _ => exact .elt cs off b o vals h1 h2 h3
  | msl k sz off len cap o h1 h2 => exact .msl k sz off len cap o h1 h2
  | fn f a b va vb h1 h2 h3 h4 _ _ => exact .fn f a b va vb h1 h2 h3 h4
mutual
theorem shed_keys : ∀ (v : AV), ∀ k ∈ v.shed.keys, k ∈ v.keys
  | .sl o sz n get => by cases o <;> simp [AV.shed, AV.keys]
  | .agg cs => by simp only [AV.shed, AV.keys]; exact shedL_keys cs
  | .tup vs => by simp only [AV.shed, AV.keys]; exact shedL_keys vs
  | .bool _ | .int .. | .str _ | .nilp | .nilf | .nilm | .nili | .undef | .arr .. | .ref .. | .aref .. | .elt .. | .msl .. | .fn .. | .grd .. => by simp [AV.shed]
theorem shedL_keys : ∀ (l : List AV), ∀ k ∈ keysL (shedL l), k ∈ keysL l
  | [] => by simp [shedL, keysL]
  | v :: r => by
    intro k hk
    simp only [shedL, keysL, List.mem_append] at hk ⊢
    exact hk.imp (shed_keys v k) (shedL_keys r k)
end
theorem Sees.shed {v : AV} {x : Value} (h : Sees B c s v x) : Sees B c s v.shed x := ⟨h.rep.shed, fun k hk => h.live k (shed_keys v k hk), h.rep.shed.plain⟩
theorem SeesP.shed : ∀ {l : List (Nat × AV)} {xs : List (Nat × Value)}, SeesP B c s l xs → SeesP B c s (shedP l) xs
  | [], [], _ => trivial
  | (_, _) :: _, (_, _) :: _, h => ⟨h.1, h.2.1.shed, h.2.2.shed⟩
  | [], _ :: _, h => h.elim
  | _ :: _, [], h => h.elim

theorem buildSliceA_sound (h : Rel B c s a) {t : TypeId} {len : Nat} {parts : List (Nat × AV)} {xs : List (Nat × Value)} {v : AV} (hs : SeesP B c s parts xs) (he : buildSliceA P t len parts = some (true, v)) : Goes P B c s (Instr.buildSlice t len xs.toArray) v := by
  unfold buildSliceA at he
  split at he
  · rename_i e hu
    cases hz : zeroCells P e with
    | none => simp [hz] at he
    | some z =>
      simp only [hz, Option.bind_some, guardO] at he
      cases hb : (sizeOf? P e == some z.length && (Nat.blt 0 z.length && (fillOk z.length len (shedP parts) && (fillApart parts && Nat.ble (len * z.length) 16777216)))) with
      | false => simp [hb] at he
      | true =>
        simp [hb, ok1] at he; subst he
        simp only [Bool.and_eq_true, beq_iff_eq] at hb
        obtain ⟨b1, b2, b3, b4, b5⟩ := hb
        have b2 : 0 < z.length := Nat.lt_of_succ_le (Nat.le_of_ble_eq_true b2)
        have b5 := Nat.le_of_ble_eq_true b5
        obtain ⟨i, zv, hi, hzv, hcz⟩ := zeroCells_inv hz
        obtain ⟨hcr, hkz⟩ := zero_CR (c := c) hcz
        have hsz : i.size = z.length := by
          unfold sizeOf? at b1; simp [hi] at b1; exact b1
        have hzs : zv.cells.size = z.length := hcr.1
        have hap : fillApart (shedP parts) = true := by
          have e1 : ∀ (l : List (Nat × AV)), (shedP l).map (·.1) = l.map (·.1) := by
            intro l; induction l with
            | nil => rfl
            | cons p r ih => obtain ⟨q, w⟩ := p; simp [shedP, ih]
          have e2 : ∀ (l : List (Nat × AV)) (q : Nat), (shedP l).all (fun p => !(Nat.beq p.1 q)) = l.all (fun p => !(Nat.beq p.1 q)) := by
            intro l q; induction l with
            | nil => rfl
            | cons p r ih => obtain ⟨q', w⟩ := p; simp [shedP, ih]
          have e3 : ∀ (l : List (Nat × AV)), fillApart (shedP l) = fillApart l := by
            intro l; induction l with
            | nil => rfl
            | cons p r ih => obtain ⟨q, w⟩ := p; simp [shedP, fillApart, ih, e2]
          rw [e3]; exact b4
        -- the row of zeros
        obtain ⟨vs', f1, f2, f3, f4⟩ := fill_flat (z := z) hs.shed b3 hap (vs := madeCells zv.cells (len * z.length)) (size_madeCells _ _)
        have hreps : ∀ j, j < len → (fillGet z (shedP parts) j).length = z.length ∧ keysL (fillGet z (shedP parts) j) = [] ∧ ∀ (q : Nat) (u : AV), (fillGet z (shedP parts) j)[q]? = some u → u.one = true ∧ Rep c u (vs'.getD (j * z.length + q) undef) := by
          intro j hj
          rcases fillGet_mem z (shedP parts) j with ⟨p, hp, rfl, e2⟩ | ⟨e1, e2⟩
          · obtain ⟨g1, g2, g3⟩ := f4 p hp
            rw [e2]
            refine ⟨g2, ?_, g3⟩
            have hkk : ∀ (l : List (Nat × AV)), fillOk z.length len l = true → ∀ p ∈ l, keysL p.2.cells = [] := by
              intro l
              induction l with
              | nil => intro _ p hp; simp at hp
              | cons q r ih =>
                obtain ⟨qi, qv⟩ := q
                intro ho p hp
                simp only [fillOk, Bool.and_eq_true] at ho
                rcases List.mem_cons.1 hp with rfl | hp
                · have := ho.2.1
                  cases hk : keysL qv.cells with
                  | nil => rfl
                  | cons => simp [hk, isNil] at this
                · exact ih ho.2.2.2.2 p hp
            exact hkk _ b3 p hp
          · rw [e2]
            refine ⟨rfl, hkz, fun q u hu => ?_⟩
            have hq : q < z.length := (List.getElem?_eq_some_iff.1 hu).1
            refine ⟨(hcr.2 q u hu).1, ?_⟩
            rw [f3 j hj e1 q hq, madeCells_get _ _ _ (row_off_lt hj hq) (by omega)]
            have e5 : (j * z.length + q) % zv.cells.size = q := by rw [hzs, Nat.add_comm, Nat.add_mul_mod_self_right, Nat.mod_eq_of_lt hq]
            rw [e5]; exact (hcr.2 q u hu).2
        by_cases hl : len = 0
        · subst hl
          refine ⟨.slice (some ⟨c.w.heap.size, 0, none⟩) 0 0, c.row #[] e (0, 0) 0, ?_, Cx.row_keeps h.good h.objs _ _ _ _, Cx.row_grow h.good h.frame _ _ _ _ (Nat.le_refl _), ⟨?_, by simp [AV.keys], rfl⟩⟩
          · have hxs : xs = [] := by
              cases xs with
              | nil => rfl
              | cons p q =>
                cases parts with
                | nil => simp [SeesP] at hs
                | cons p' q' =>
                  obtain ⟨pi, pv⟩ := p'
                  simp only [shedP, fillOk, Bool.and_eq_true] at b3
                  have := Nat.le_of_ble_eq_true b3.2.2.2.1
                  omega
            subst hxs
            simp [Instr.buildSlice, run_underlying hu, sizeOf, typeInfo, hi, Instr.fill, newRow, Array.range_zero', Cx.row]
          · exact .sl _ _ _ _ _ _ (fun _ _ => undef) rfl (Nat.le_refl _) (by simp [OwnRep]) (fun j hj => by omega) (fun j i u hj => by omega) (fun j i u hj => by omega)
        · have hrun := run_buildSlice (P := P) c.w t e len xs.toArray vs' i zv hu hi hzv (by rw [hsz]; omega) (by rw [hsz]; exact Nat.mul_ne_zero hl (by omega)) (by rw [hsz]; exact f1)
          have hk := Cx.row_keeps h.good h.objs vs' e (0, 0) (len * z.length)
          refine ⟨_, c.row vs' e (0, 0) (len * z.length), hrun, hk, Cx.row_grow h.good h.frame _ _ _ _ (by omega), ⟨?_, by simp [AV.keys], rfl⟩⟩
          refine .sl _ _ _ _ ⟨c.w.heap.size, 0, none⟩ len (fun j q => vs'.getD (j * z.length + q) undef) rfl (Nat.le_refl _) (by simp [OwnRep]) (fun j hj => ⟨(hreps j hj).1, (hreps j hj).2.1⟩) (fun j q u hj hu => ?_) (fun j q u hj hu => ?_)
          · have hq : q < z.length := by rw [← (hreps j hj).1]; exact (List.getElem?_eq_some_iff.1 hu).1
            have hlt := row_off_lt hj hq
            refine ⟨((hreps j hj).2.2 q u hu).1, ?_, .inr ⟨rfl, by simpa using hlt⟩⟩
            show (c.w.alloc _).cell? ⟨c.w.heap.size, 0 + (j * z.length + q), none⟩ = _
            rw [cell?_cells (heap_alloc_eq c.w _)]
            have : 0 + (j * z.length + q) < vs'.size := by omega
            simp [Array.getD_eq_getD_getElem?, show j * z.length + q < vs'.size by omega]
          · refine ((hreps j hj).2.2 q u hu).2.ext (ks := live s.objs) hk.ext fun k hk' => ?_
            rw [keys_nil_of (hreps j hj).2.1 hu] at hk'; simp at hk'
  · simp at he
end Go.Ab
