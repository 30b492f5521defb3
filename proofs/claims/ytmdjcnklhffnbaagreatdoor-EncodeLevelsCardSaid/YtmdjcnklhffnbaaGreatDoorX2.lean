/- Soundness of what is built: structs, slices' literals; new variables; stores. Soundness of the operations that make and write memory: new variables, stores, make, append; and of all pure operations together. Soundness of new variables, stores, make and append. Soundness of make and append. Soundness of append. Soundness of an append whose slice may be stored into. A call, seen from the caller: what the callee's contract says, under other keys. A call, seen from the caller: the callee's context and the way back. -/
import Derived.Test.YtmdjcnklhffnbaaGreatDoorX1
import Derived.Great.BuildSlice
import Derived.Laws.MakeOwn
import Derived.Laws.CopyRow
import Derived.Laws.AppendOwn
import Derived.Lib.AppendStr
namespace Go.Ab
open Go Go.RowKit
variable {P : Program} {B : Base} {c : Cx} {s : St} {a : Act}

theorem rep_oneCell {u : AV} {y : Value} (h : Rep c u y) (h1 : u.one = true) : y.oneCell' = true := by
  cases h <;> first | rfl | simp [AV.one] at h1

/-- A row of abstract cells and a row of the model's. -/
def CR (c : Cx) (cs : List AV) (vs : Array Value) : Prop := vs.size = cs.length ∧ ∀ (i : Nat) (u : AV), cs[i]? = some u → u.one = true ∧ Rep c u (vs.getD i undef)

theorem allOne_get : ∀ {l : List AV}, allOne l = true → ∀ (i : Nat) (u : AV), l[i]? = some u → u.one = true
  | [], _, i, u, h => by simp at h
  | v :: r, ho, i, u, h => by
    simp only [allOne, Bool.and_eq_true] at ho
    cases i with
    | zero => simp at h; subst h; exact ho.1
    | succ i => exact allOne_get ho.2 i u (by simpa using h)

theorem cells_rel {v : AV} {x : Value} (hx : Rep c v x) (ho : allOne v.cells = true) : CR c v.cells x.cells := by
  have one1 : v.one = true → v.cells = [v] → x.cells = #[x] → CR c v.cells x.cells := by
    intro h1 h2 h3
    rw [h2, h3]
    refine ⟨rfl, fun i u hu => ?_⟩
    cases i with
    | zero => simp at hu; subst hu; exact ⟨h1, hx⟩
    | succ i => simp at hu
  cases hx with
  | agg cs vs hs h1 hr => exact ⟨hs, fun i u hu => ⟨h1 i u hu, hr i u hu⟩⟩
  | arr => simp [AV.cells, allOne, AV.one] at ho
  | tup => simp [AV.cells, allOne, AV.one] at ho
  | undef => simp [AV.cells, allOne, AV.one] at ho
  | _ => exact one1 rfl rfl rfl

theorem keys_cells {v : AV} (h : v.isGrd = false) : keysL v.cells = v.keys := by
  cases v <;> simp_all [AV.cells, AV.keys, keysL, AV.isGrd]

theorem setCells_spec : ∀ {cs : List AV} {off : Nat} {l cs' : List AV}, setCells cs off l = some cs' →
    cs'.length = cs.length ∧ off + l.length ≤ cs.length ∧ ∀ (i : Nat), cs'[i]? = if off ≤ i ∧ i < off + l.length then l[i - off]? else cs[i]?
  | cs, 0, [], cs', h => by simp [setCells] at h; subst h; simp
  | [], 0, v :: l, cs', h => by simp [setCells] at h
  | [], off + 1, l, cs', h => by cases l <;> simp [setCells] at h
  | q :: cs, 0, v :: l, cs', h => by
    simp only [setCells] at h
    cases hr : setCells cs 0 l with
    | none => simp [hr] at h
    | some r =>
      simp [hr] at h; subst h
      obtain ⟨h1, h2, h3⟩ := setCells_spec hr
      refine ⟨by simp [h1], by simp at h2 ⊢; omega, fun i => ?_⟩
      cases i with
      | zero => simp
      | succ i =>
        have := h3 i
        simp only [List.getElem?_cons_succ, this, Nat.zero_le, true_and, Nat.zero_add, Nat.sub_zero, List.length_cons, Nat.add_lt_add_iff_right]
  | q :: cs, off + 1, l, cs', h => by
    have e : setCells (q :: cs) (off + 1) l = (setCells cs off l).map fun r => q :: r := by cases l <;> simp [setCells]
    rw [e] at h
    cases hr : setCells cs off l with
    | none => simp [hr] at h
    | some r =>
      simp [hr] at h; subst h
      obtain ⟨h1, h2, h3⟩ := setCells_spec hr
      refine ⟨by simp [h1], by simp; omega, fun i => ?_⟩
      cases i with
      | zero => simp
      | succ i =>
        have := h3 i
        simp only [List.getElem?_cons_succ, this]
        by_cases hc : off ≤ i ∧ i < off + l.length
        · rw [if_pos hc, if_pos (by omega)]; congr 1; omega
        · rw [if_neg hc, if_neg (by omega)]

theorem foldl_set : ∀ (xs : List Value) (k off : Nat) (vs : Array Value), ((xs.zipIdx k).foldl (fun cs (p : Value × Nat) => cs.setIfInBounds (off + p.2) p.1) vs).size = vs.size ∧
    ∀ i, i < vs.size → ((xs.zipIdx k).foldl (fun cs (p : Value × Nat) => cs.setIfInBounds (off + p.2) p.1) vs).getD i undef = if off + k ≤ i ∧ i < off + k + xs.length then xs.getD (i - (off + k)) undef else vs.getD i undef
  | [], k, off, vs => by simp; intro i _ h1 h2; omega
  | x :: r, k, off, vs => by
    have ih := foldl_set r (k + 1) off (vs.setIfInBounds (off + k) x)
    simp only [List.zipIdx_cons, List.foldl_cons]
    refine ⟨by simpa using ih.1, fun i hi => ?_⟩
    rw [ih.2 i (by simpa using hi)]
    by_cases h1 : off + (k + 1) ≤ i ∧ i < off + (k + 1) + r.length
    · rw [if_pos h1, if_pos (by simp; omega)]
      have : i - (off + k) = (i - (off + (k + 1))) + 1 := by omega
      rw [this]; simp
    · rw [if_neg h1]
      by_cases h2 : off + k = i
      · subst h2; rw [getD_set hi, if_pos rfl, if_pos (by simp)]; simp
      · have : (vs.setIfInBounds (off + k) x).getD i undef = vs.getD i undef := by
          simp only [Array.getD_eq_getD_getElem?, Array.getElem?_setIfInBounds]; simp [h2]
        rw [this, if_neg (by simp; omega)]

theorem zipIdx_foldl (xs : Array Value) (off : Nat) (vs : Array Value) :
    xs.zipIdx.foldl (fun cs (p : Value × Nat) => cs.setIfInBounds (off + p.2) p.1) vs = (xs.toList.zipIdx 0).foldl (fun cs (p : Value × Nat) => cs.setIfInBounds (off + p.2) p.1) vs := by
  rw [← Array.foldl_toList]; simp

/-- Setting a part of a row, on both sides. -/
theorem CR.set {cs cs' l : List AV} {vs xs : Array Value} {off : Nat} (h : CR c cs vs) (hl : CR c l xs) (hs : setCells cs off l = some cs') :
    CR c cs' (xs.zipIdx.foldl (fun cs (p : Value × Nat) => cs.setIfInBounds (off + p.2) p.1) vs) ∧ off + xs.size ≤ vs.size := by
  obtain ⟨h1, h2, h3⟩ := setCells_spec hs
  rw [zipIdx_foldl]
  obtain ⟨f1, f2⟩ := foldl_set xs.toList 0 off vs
  refine ⟨⟨by rw [f1, h.1, h1], fun i u hu => ?_⟩, by rw [hl.1, h.1]; exact h2⟩
  have hi : i < vs.size := by rw [h.1, ← h1]; exact (List.getElem?_eq_some_iff.1 hu).1
  rw [f2 i hi]
  rw [h3 i] at hu
  have e1 : xs.toList.length = l.length := by simpa using hl.1
  simp only [Nat.add_zero, e1]
  split at hu
  · rename_i hc
    rw [if_pos hc]
    have := hl.2 _ u hu
    simpa [Array.getD_eq_getD_getElem?, List.getD_eq_getElem?_getD] using this
  · rename_i hc
    rw [if_neg hc]
    exact h.2 i u hu

/-- Parts that are seen. -/
def SeesP (B : Base) (c : Cx) (s : St) : List (Nat × AV) → List (Nat × Value) → Prop
  | [], [] => True
  | (i, v) :: r, (j, x) :: q => i = j ∧ Sees B c s v x ∧ SeesP B c s r q
  | _, _ => False

theorem evalParts_sound (h : Rel B c s a) {ch : Chain} (hc : ChOk a ch) : ∀ {ps : List (Nat × Operand)} {l : List (Nat × AV)}, evalParts ⟨s, B.G, ch⟩ ps = some l → SeesP B c s l (ps.map fun p => (p.1, a.eval p.2))
  | [], l, he => by simp [evalParts] at he; subst he; trivial
  | (i, o) :: r, l, he => by
    simp only [evalParts] at he
    cases ho : evalO ⟨s, B.G, ch⟩ o with
    | none => simp [ho] at he
    | some v =>
      cases hr : evalParts ⟨s, B.G, ch⟩ r with
      | none => simp [ho, hr] at he
      | some vs =>
        simp [ho, hr] at he; subst he
        exact ⟨rfl, evalO_sound h hc ho, evalParts_sound h hc hr⟩

theorem zeroCells_inv {t : TypeId} {z : List AV} (h : zeroCells P t = some z) : ∃ i v, P.info? t = some i ∧ i.zero = some v ∧ ofCells v.cells.toList = some z := by
  unfold zeroCells at h
  cases hi : P.info? t with
  | none => simp [hi] at h
  | some i =>
    cases hz : i.zero with
    | none => simp [hi, hz] at h
    | some v => exact ⟨i, v, rfl, hz, by simpa [hi, hz] using h⟩
theorem zero_CR {z : List AV} {v : Value} (h : ofCells v.cells.toList = some z) : CR c z v.cells ∧ keysL z = [] := by
  obtain ⟨h1, h2, h3⟩ := ofCells_rep (c := c) h
  refine ⟨⟨by simpa using h1.symm, fun i u hu => ?_⟩, h2⟩
  have := h3 i u hu
  simpa [Array.getD_eq_getD_getElem?, List.getD_eq_getElem?_getD] using this

theorem keys_set {cs cs' l : List AV} {off : Nat} (h : setCells cs off l = some cs') : ∀ k ∈ keysL cs', k ∈ keysL cs ∨ k ∈ keysL l := by
  intro k hk
  obtain ⟨_, _, h3⟩ := setCells_spec h
  have mem_of : ∀ (m : List AV), k ∈ keysL m → ∃ (i : Nat) (u : AV), m[i]? = some u ∧ k ∈ u.keys := by
    intro m
    induction m with
    | nil => simp [keysL]
    | cons v r ih =>
      simp only [keysL, List.mem_append]
      rintro (hv | hr)
      · exact ⟨0, v, rfl, hv⟩
      · obtain ⟨i, u, h1, h2⟩ := ih hr; exact ⟨i + 1, u, by simpa using h1, h2⟩
  obtain ⟨i, u, h1, h2⟩ := mem_of cs' hk
  rw [h3 i] at h1
  split at h1
  · exact .inr (keys_mem_of h1 k h2)
  · exact .inl (keys_mem_of h1 k h2)

theorem buildFill_sound {fs : Array Field} {places : List (Nat × Nat)} (hp : fs.toList.mapM (fun f => (P.info? f.type).map fun i => (f.offset, i.size)) = some places) :
    ∀ {parts : List (Nat × AV)} {xs : List (Nat × Value)} {cs cs' : List AV} {vs : Array Value}, SeesP B c s parts xs → CR c cs vs → buildFill P fs cs parts = some cs' →
      (∀ k ∈ keysL cs, live s.objs k) → ∃ vs', Instr.fill (places.toArray[·]?) vs xs = some vs' ∧ CR c cs' vs' ∧ ∀ k ∈ keysL cs', live s.objs k
  | [], xs, cs, cs', vs, hs, hc, he, hk => by
    cases xs with
    | cons => simp [SeesP] at hs
    | nil => simp [buildFill] at he; subst he; exact ⟨vs, rfl, hc, hk⟩
  | (i, v) :: r, xs, cs, cs', vs, hs, hc, he, hk => by
    cases xs with
    | nil => simp [SeesP] at hs
    | cons p q =>
      obtain ⟨j, x⟩ := p
      obtain ⟨rfl, hv, hr⟩ := hs
      simp only [buildFill] at he
      cases hf : fs[i]? with
      | none => simp [hf] at he
      | some f =>
        simp only [hf, guardO] at he
        cases hb : (allOne v.cells && (sizeOf? P f.type == some v.cells.length)) with
        | false => simp [hb] at he
        | true =>
          simp only [hb, cond_true] at he
          simp only [Bool.and_eq_true, beq_iff_eq] at hb
          cases hst : setCells cs f.offset v.cells with
          | none => simp [hst] at he
          | some l =>
            simp only [hst, Option.bind_some] at he
            have hcv := cells_rel hv.rep hb.1
            obtain ⟨h1, h2⟩ := hc.set hcv hst
            have hkl : ∀ k ∈ keysL l, live s.objs k := by
              intro k hkk
              rcases keys_set hst k hkk with h | h
              · exact hk k h
              · rw [keys_cells hv.plain] at h; exact hv.live k h
            obtain ⟨vs', e1, e2, e3⟩ := buildFill_sound hp hr h1 he hkl
            refine ⟨vs', ?_, e2, e3⟩
            have hplace : places[i]? = some (f.offset, v.cells.length) := by
              have hsz := hb.2
              unfold sizeOf? at hsz
              cases hi : P.info? f.type with
              | none => simp [hi] at hsz
              | some inf =>
                simp [hi] at hsz
                have hmap : ∀ (l : List Field) (ps : List (Nat × Nat)), l.mapM (fun f => (P.info? f.type).map fun i => (f.offset, i.size)) = some ps → ∀ (i : Nat) (f : Field), l[i]? = some f → ps[i]? = (P.info? f.type).map fun q => (f.offset, q.size) := by
                  intro l
                  induction l with
                  | nil => intro ps _ i f hf; simp at hf
                  | cons f0 r0 ih =>
                    intro ps hps i f hf
                    simp only [List.mapM_cons, Option.bind_eq_bind, Option.pure_def] at hps
                    cases h0 : P.info? f0.type with
                    | none => simp [h0] at hps
                    | some i0 =>
                      cases h1 : r0.mapM (fun f => (P.info? f.type).map fun i => (f.offset, i.size)) with
                      | none => simp [h0, h1] at hps
                      | some rest =>
                        simp [h0, h1] at hps
                        subst hps
                        cases i with
                        | zero => simp at hf; subst hf; simp [h0]
                        | succ i => simpa using ih rest h1 i f (by simpa using hf)
                have := hmap fs.toList places hp i f (by simpa using hf)
                rw [this, hi, Option.map_some, hsz]
            simp only [Instr.fill]
            have hpl : (places.toArray[i]?) = some (f.offset, v.cells.length) := by simpa using hplace
            rw [hpl]
            simp only
            rw [if_neg (by have := hcv.1; simp [hcv.1]; omega)]
            exact e1

theorem sameZ_rep {u v : AV} (h : sameZ u v = true) {x : Value} (hr : Rep c v x) : Rep c u x := by
  unfold sameZ at h
  split at h
  · have : _ = _ := beq_iff_eq.1 h; subst this; exact hr
  · simp only [Bool.and_eq_true, decide_eq_true_eq, beq_iff_eq] at h
    obtain ⟨rfl, rfl⟩ := h; exact hr
  · have : _ = _ := beq_iff_eq.1 h; subst this; exact hr
  · exact hr
  · exact hr
  · exact hr
  · exact hr
  · cases hr with
    | slNil _ _ _ ho => exact .slNil _ _ _ ho
    | sl _ _ _ _ ad cap vals h1 h2 h3 h4 h5 h6 => exact .sl _ _ _ _ ad cap vals h1 h2 h3 (fun j hj => by omega) (fun j i u hj => by omega) (fun j i u hj => by omega)
  · simp at h
theorem eatZ_spec : ∀ {z r r' : List AV}, eatZ z r = some r' → r.length = z.length + r'.length ∧ (∀ (i : Nat) (u : AV), z[i]? = some u → ∃ v, r[i]? = some v ∧ sameZ u v = true) ∧ ∀ i, r'[i]? = r[z.length + i]?
  | [], r, r', h => by simp [eatZ] at h; subst h; simp
  | u :: z, [], r', h => by simp [eatZ] at h
  | u :: z, v :: r, r', h => by
    simp only [eatZ] at h
    cases hs : sameZ u v with
    | false => simp [hs] at h
    | true =>
      simp only [hs, cond_true] at h
      obtain ⟨h1, h2, h3⟩ := eatZ_spec h
      refine ⟨by simp [h1]; omega, fun i w hw => ?_, fun i => ?_⟩
      · cases i with
        | zero => simp at hw; subst hw; exact ⟨v, rfl, hs⟩
        | succ i => simpa using h2 i w (by simpa using hw)
      · rw [h3 i]; simp only [List.length_cons]; rw [show z.length + 1 + i = (z.length + i) + 1 by omega]; simp
theorem zeroRow_spec {z : List AV} : ∀ {n : Nat} {r : List AV}, zeroRow z n r = true → r.length = n * z.length ∧ ∀ j, j < n → ∀ (i : Nat) (u : AV), z[i]? = some u → ∃ v, r[j * z.length + i]? = some v ∧ sameZ u v = true
  | 0, r, h => by
    cases r with
    | nil => simp
    | cons => simp [zeroRow, isNil] at h
  | n + 1, r, h => by
    simp only [zeroRow] at h
    cases he : eatZ z r with
    | none => simp [he] at h
    | some r' =>
      simp only [he] at h
      obtain ⟨h1, h2, h3⟩ := eatZ_spec he
      obtain ⟨h4, h5⟩ := zeroRow_spec h
      refine ⟨by rw [h1, h4, Nat.succ_mul]; omega, fun j hj i u hu => ?_⟩
      cases j with
      | zero => simpa using h2 i u hu
      | succ j =>
        obtain ⟨v, hv, hs⟩ := h5 j (by omega) i u hu
        refine ⟨v, ?_, hs⟩
        rw [h3] at hv
        rw [← hv]; congr 1; rw [Nat.succ_mul]; omega

/-! ### a slice's literal -/

/-- A flat row of n elements of sz cells. -/
def Flat (c : Cx) (n sz : Nat) (get : Nat → List AV) (vs : Array Value) : Prop :=
  vs.size = n * sz ∧ ∀ j, j < n → (get j).length = sz ∧ ∀ (i : Nat) (u : AV), (get j)[i]? = some u → u.one = true ∧ Rep c u (vs.getD (j * sz + i) undef)

theorem fill_flat {sz n : Nat} {z : List AV} : ∀ {parts : List (Nat × AV)} {xs : List (Nat × Value)} {vs : Array Value}, SeesP B c s parts xs →
    fillOk sz n parts = true → fillApart parts = true → vs.size = n * sz →
    ∃ vs', Instr.fill (fun i => some (i * sz, sz)) vs xs = some vs' ∧ vs'.size = n * sz ∧
      (∀ j, j < n → (∀ p ∈ parts, p.1 ≠ j) → ∀ i, i < sz → vs'.getD (j * sz + i) undef = vs.getD (j * sz + i) undef) ∧
      (∀ p ∈ parts, p.1 < n ∧ p.2.cells.length = sz ∧ ∀ (i : Nat) (u : AV), p.2.cells[i]? = some u → u.one = true ∧ Rep c u (vs'.getD (p.1 * sz + i) undef))
  | [], xs, vs, hs, _, _, hv => by
    cases xs with
    | cons => simp [SeesP] at hs
    | nil => exact ⟨vs, rfl, hv, fun _ _ _ _ _ => rfl, fun p hp => by simp at hp⟩
  | (i, v) :: r, xs, vs, hs, hok, hap, hv => by
    cases xs with
    | nil => simp [SeesP] at hs
    | cons p q =>
      obtain ⟨j, x⟩ := p
      obtain ⟨rfl, hsv, hr⟩ := hs
      simp only [fillOk, Bool.and_eq_true] at hok
      obtain ⟨o1, o2, o3, o4, o5⟩ := hok
      simp only [fillApart, Bool.and_eq_true, List.all_eq_true] at hap
      obtain ⟨a1, a2⟩ := hap
      have o3 := beqT o3
      have o4 : i < n := Nat.lt_of_succ_le (Nat.le_of_ble_eq_true o4)
      have hcv := cells_rel hsv.rep o1
      have hlt : i * sz + x.cells.size ≤ vs.size := by
        rw [hcv.1, o3, hv]
        have := Nat.mul_le_mul_right sz o4
        rw [Nat.succ_mul] at this; exact this
      obtain ⟨f1, f2⟩ := foldl_set x.cells.toList 0 (i * sz) vs
      rw [← zipIdx_foldl] at f1 f2
      obtain ⟨vs', e1, e2, e3, e4⟩ := fill_flat (z := z) hr o5 a2 (f1.trans hv)
      have hne : ∀ p ∈ r, p.1 ≠ i := fun p hp e => by
        have := a1 p hp
        simp [e] at this
      refine ⟨vs', ?_, e2, fun j hj hp k hk => ?_, fun p hp => ?_⟩
      · simp only [Instr.fill]
        rw [if_neg (by have := hcv.1; simp; omega)]
        exact e1
      · rw [e3 j hj (fun p hp' => hp p (List.mem_cons_of_mem _ hp')) k hk]
        have hij : i ≠ j := hp (i, v) List.mem_cons_self
        have hjk : j * sz + k < vs.size := by rw [hv]; exact row_off_lt hj hk
        rw [f2 _ hjk, if_neg]
        simp only [Nat.add_zero, Array.length_toList]
        rw [hcv.1, o3]
        rintro ⟨h1, h2⟩
        rcases Nat.lt_or_gt_of_ne hij with h | h
        · have := Nat.mul_le_mul_right sz h
          rw [Nat.succ_mul] at this; omega
        · have := Nat.mul_le_mul_right sz h
          rw [Nat.succ_mul] at this; omega
      · rcases List.mem_cons.1 hp with rfl | hp
        · refine ⟨o4, o3, fun k u hu => ?_⟩
          have hk : k < sz := by rw [← o3]; exact (List.getElem?_eq_some_iff.1 hu).1
          refine ⟨(hcv.2 k u hu).1, ?_⟩
          rw [e3 i o4 hne k hk]
          have hjk : i * sz + k < vs.size := by rw [hv]; exact row_off_lt o4 hk
          rw [f2 _ hjk, if_pos (by simp only [Nat.add_zero, Array.length_toList]; rw [hcv.1, o3]; omega)]
          have := (hcv.2 k u hu).2
          have e5 : i * sz + k - (i * sz + 0) = k := by omega
          rw [e5]
          simpa [Array.getD_eq_getD_getElem?, List.getD_eq_getElem?_getD] using this
        · exact e4 p hp

theorem fillGet_mem (z : List AV) : ∀ (parts : List (Nat × AV)) (j : Nat), (∃ p ∈ parts, p.1 = j ∧ fillGet z parts j = p.2.cells) ∨ ((∀ p ∈ parts, p.1 ≠ j) ∧ fillGet z parts j = z)
  | [], j => .inr ⟨by simp, rfl⟩
  | (i, v) :: r, j => by
    by_cases h : i = j
    · subst h; exact .inl ⟨(i, v), List.mem_cons_self, rfl, by simp [fillGet]⟩
    · rcases fillGet_mem z r j with ⟨p, hp, h1, h2⟩ | ⟨h1, h2⟩
      · exact .inl ⟨p, List.mem_cons_of_mem _ hp, h1, by simp [fillGet, beqF h, h2]⟩
      · refine .inr ⟨fun p hp => ?_, by simp [fillGet, beqF h, h2]⟩
        rcases List.mem_cons.1 hp with rfl | hp
        · exact h
        · exact h1 p hp

theorem madeCells_get (z : Array Value) (m : Nat) (i : Nat) (hi : i < m) (hz : 0 < z.size) : (madeCells z m).getD i undef = z.getD (i % z.size) undef := by
  have h1 : i % z.size < z.size := Nat.mod_lt _ hz
  simp [madeCells, Array.getD_eq_getD_getElem?, hi, h1]

theorem shedL_get : ∀ (l : List AV) (i : Nat), (shedL l)[i]? = l[i]?.map AV.shed
  | [], i => by simp [shedL]
  | v :: r, i => by cases i <;> simp [shedL, shedL_get r]
theorem shed_one (v : AV) : v.shed.one = v.one := by
  cases v with
  | sl o => cases o <;> rfl
  | _ => rfl
theorem shedL_length (l : List AV) : (shedL l).length = l.length := by induction l <;> simp [shedL, *]
theorem Rep.shed {v : AV} {x : Value} (h : Rep c v x) : Rep c v.shed x := by
  induction h with
  | slNil o sz get ho =>
    cases o with
    | key k => exact .slNil _ _ _ trivial
    | _ => exact .slNil _ _ _ ho
  | sl o sz n get a cap vals h1 h2 h3 h4 h5 h6 _ =>
    cases o with
    | key k => exact .sl _ _ _ _ a cap vals h1 h2 trivial h4 h5 h6
    | _ => exact .sl _ _ _ _ a cap vals h1 h2 h3 h4 h5 h6
  | agg cs vs h1 h2 h3 ih =>
    refine .agg _ _ (by rw [h1, shedL_length]) (fun i u hu => ?_) (fun i u hu => ?_)
    · rw [shedL_get] at hu
      cases hi : cs[i]? with
      | none => simp [hi] at hu
      | some u' => simp [hi] at hu; subst hu; rw [shed_one]; exact h2 i u' hi
    · rw [shedL_get] at hu
      cases hi : cs[i]? with
      | none => simp [hi] at hu
      | some u' => simp [hi] at hu; subst hu; exact ih i u' hi
  | tup us vs h1 h3 ih =>
    refine .tup _ _ (by rw [h1, shedL_length]) (fun i u hu => ?_)
    rw [shedL_get] at hu
    cases hi : us[i]? with
    | none => simp [hi] at hu
    | some u' => simp [hi] at hu; subst hu; exact ih i u' hi
  | bool b => exact .bool b
  | int k n => exact .int k n
  | str l => exact .str l
  | nilp => exact .nilp
  | nilf => exact .nilf
  | nilm => exact .nilm
  | nili => exact .nili
  | nni t v => exact .nni t v
  | num k n => exact .num k n
  | undef v => exact .undef v
  | arr sz n get vs h1 h2 h3 h4 _ => exact .arr sz n get vs h1 h2 h3 h4
  | ref k off => exact .ref k off
  | aref k sz i off => exact .aref k sz i off
  | elt cs off b o vals h1 h2 h3 _ => exact .elt cs off b o vals h1 h2 h3
  | msl k sz off len cap o h1 h2 => exact .msl k sz off len cap o h1 h2
  | gslNil k sz h => exact .gslNil k sz h
  | gsl k sz n a cap h1 h2 => exact .gsl k sz n a cap h1 h2
  | gref k sz n i off b cap h => exact .gref k sz n i off b cap h
  | gsubNil k sz h => exact .gsubNil k sz h
  | gsub k sz n lo len a cap a' cap' h1 h2 h3 h4 h5 h6 => exact .gsub k sz n lo len a cap a' cap' h1 h2 h3 h4 h5 h6
  | mref k => exact .mref k
  | fn f a b va vb h1 h2 h3 h4 _ _ => exact .fn f a b va vb h1 h2 h3 h4
mutual
theorem shed_keys : ∀ (v : AV), ∀ k ∈ v.shed.keys, k ∈ v.keys
  | .sl o sz n get => by cases o <;> simp [AV.shed, AV.keys]
  | .agg cs => by simp only [AV.shed, AV.keys]; exact shedL_keys cs
  | .tup vs => by simp only [AV.shed, AV.keys]; exact shedL_keys vs
  | .bool _ | .int .. | .str _ | .nilp | .nilf | .nilm | .nili | .nni | .num _ | .undef | .arr .. | .ref .. | .aref .. | .elt .. | .msl .. | .gsl .. | .gref .. | .gsub .. | .mref .. | .fn .. | .grd .. => by simp [AV.shed]
theorem shedL_keys : ∀ (l : List AV), ∀ k ∈ keysL (shedL l), k ∈ keysL l
  | [] => by simp [shedL, keysL]
  | v :: r => by
    intro k hk
    simp only [shedL, keysL, List.mem_append] at hk ⊢
    exact hk.imp (shed_keys v k) (shedL_keys r k)
end
theorem Sees.shed {v : AV} {x : Value} (h : Sees B c s v x) : Sees B c s v.shed x := ⟨h.rep.shed, fun k hk => h.live k (shed_keys v k hk), h.rep.shed.plain⟩
theorem SeesP.shed : ∀ {l : List (Nat × AV)} {xs : List (Nat × Value)}, SeesP B c s l xs → SeesP B c s (shedP l) xs
  | [], [], _ => trivial
  | (_, _) :: _, (_, _) :: _, h => ⟨h.1, h.2.1.shed, h.2.2.shed⟩
  | [], _ :: _, h => h.elim
  | _ :: _, [], h => h.elim

theorem buildSliceA_sound (h : Rel B c s a) {t : TypeId} {len : Nat} {parts : List (Nat × AV)} {xs : List (Nat × Value)} {v : AV} (hs : SeesP B c s parts xs) (he : buildSliceA P t len parts = some (true, v)) : Goes P B c s (Instr.buildSlice t len xs.toArray) v := by
  unfold buildSliceA at he
  split at he
  · rename_i e hu
    cases hz : zeroCells P e with
    | none => simp [hz] at he
    | some z =>
      simp only [hz, Option.bind_some, guardO] at he
      cases hb : (sizeOf? P e == some z.length && (Nat.blt 0 z.length && (fillOk z.length len (shedP parts) && (fillApart parts && Nat.ble (len * z.length) 16777216)))) with
      | false => simp [hb] at he
      | true =>
        simp [hb, ok1] at he; subst he
        simp only [Bool.and_eq_true, beq_iff_eq] at hb
        obtain ⟨b1, b2, b3, b4, b5⟩ := hb
        have b2 : 0 < z.length := Nat.lt_of_succ_le (Nat.le_of_ble_eq_true b2)
        have b5 := Nat.le_of_ble_eq_true b5
        obtain ⟨i, zv, hi, hzv, hcz⟩ := zeroCells_inv hz
        obtain ⟨hcr, hkz⟩ := zero_CR (c := c) hcz
        have hsz : i.size = z.length := by
          unfold sizeOf? at b1; simp [hi] at b1; exact b1
        have hzs : zv.cells.size = z.length := hcr.1
        have hap : fillApart (shedP parts) = true := by
          have e1 : ∀ (l : List (Nat × AV)), (shedP l).map (·.1) = l.map (·.1) := by
            intro l; induction l with
            | nil => rfl
            | cons p r ih => obtain ⟨q, w⟩ := p; simp [shedP, ih]
          have e2 : ∀ (l : List (Nat × AV)) (q : Nat), (shedP l).all (fun p => !(Nat.beq p.1 q)) = l.all (fun p => !(Nat.beq p.1 q)) := by
            intro l q; induction l with
            | nil => rfl
            | cons p r ih => obtain ⟨q', w⟩ := p; simp [shedP, ih]
          have e3 : ∀ (l : List (Nat × AV)), fillApart (shedP l) = fillApart l := by
            intro l; induction l with
            | nil => rfl
            | cons p r ih => obtain ⟨q, w⟩ := p; simp [shedP, fillApart, ih, e2]
          rw [e3]; exact b4
        -- the row of zeros
        obtain ⟨vs', f1, f2, f3, f4⟩ := fill_flat (z := z) hs.shed b3 hap (vs := madeCells zv.cells (len * z.length)) (size_madeCells _ _)
        have hreps : ∀ j, j < len → (fillGet z (shedP parts) j).length = z.length ∧ keysL (fillGet z (shedP parts) j) = [] ∧ ∀ (q : Nat) (u : AV), (fillGet z (shedP parts) j)[q]? = some u → u.one = true ∧ Rep c u (vs'.getD (j * z.length + q) undef) := by
          intro j hj
          rcases fillGet_mem z (shedP parts) j with ⟨p, hp, rfl, e2⟩ | ⟨e1, e2⟩
          · obtain ⟨g1, g2, g3⟩ := f4 p hp
            rw [e2]
            refine ⟨g2, ?_, g3⟩
            have hkk : ∀ (l : List (Nat × AV)), fillOk z.length len l = true → ∀ p ∈ l, keysL p.2.cells = [] := by
              intro l
              induction l with
              | nil => intro _ p hp; simp at hp
              | cons q r ih =>
                obtain ⟨qi, qv⟩ := q
                intro ho p hp
                simp only [fillOk, Bool.and_eq_true] at ho
                rcases List.mem_cons.1 hp with rfl | hp
                · have := ho.2.1
                  cases hk : keysL qv.cells with
                  | nil => rfl
                  | cons => simp [hk, isNil] at this
                · exact ih ho.2.2.2.2 p hp
            exact hkk _ b3 p hp
          · rw [e2]
            refine ⟨rfl, hkz, fun q u hu => ?_⟩
            have hq : q < z.length := (List.getElem?_eq_some_iff.1 hu).1
            refine ⟨(hcr.2 q u hu).1, ?_⟩
            rw [f3 j hj e1 q hq, madeCells_get _ _ _ (row_off_lt hj hq) (by omega)]
            have e5 : (j * z.length + q) % zv.cells.size = q := by rw [hzs, Nat.add_comm, Nat.add_mul_mod_self_right, Nat.mod_eq_of_lt hq]
            rw [e5]; exact (hcr.2 q u hu).2
        by_cases hl : len = 0
        · subst hl
          refine ⟨.slice (some ⟨c.w.heap.size, 0, none⟩) 0 0, c.row #[] e (0, 0) 0, ?_, Cx.row_keeps h.good h.objs _ _ _ _, Cx.row_grow h.good h.frame _ _ _ _ (Nat.le_refl _), ⟨?_, by simp [AV.keys], rfl⟩⟩
          · have hxs : xs = [] := by
              cases xs with
              | nil => rfl
              | cons p q =>
                cases parts with
                | nil => simp [SeesP] at hs
                | cons p' q' =>
                  obtain ⟨pi, pv⟩ := p'
                  simp only [shedP, fillOk, Bool.and_eq_true] at b3
                  have := Nat.le_of_ble_eq_true b3.2.2.2.1
                  omega
            subst hxs
            simp [Instr.buildSlice, run_underlying hu, sizeOf, typeInfo, hi, Instr.fill, newRow, Array.range_zero', Cx.row]
          · exact .sl _ _ _ _ _ _ (fun _ _ => undef) (fun _ => rfl) (Nat.le_refl _) (by simp [OwnRep]) (fun j hj => by omega) (fun j i u hj => by omega) (fun j i u hj => by omega)
        · have hrun := run_buildSlice (P := P) c.w t e len xs.toArray vs' i zv hu hi hzv (by rw [hsz]; omega) (by rw [hsz]; exact Nat.mul_ne_zero hl (by omega)) (by rw [hsz]; exact f1)
          have hk := Cx.row_keeps h.good h.objs vs' e (0, 0) (len * z.length)
          refine ⟨_, c.row vs' e (0, 0) (len * z.length), hrun, hk, Cx.row_grow h.good h.frame _ _ _ _ (by omega), ⟨?_, by simp [AV.keys], rfl⟩⟩
          refine .sl _ _ _ _ ⟨c.w.heap.size, 0, none⟩ len (fun j q => vs'.getD (j * z.length + q) undef) (fun _ => rfl) (Nat.le_refl _) (by simp [OwnRep]) (fun j hj => ⟨(hreps j hj).1, (hreps j hj).2.1⟩) (fun j q u hj hu => ?_) (fun j q u hj hu => ?_)
          · have hq : q < z.length := by rw [← (hreps j hj).1]; exact (List.getElem?_eq_some_iff.1 hu).1
            have hlt := row_off_lt hj hq
            refine ⟨((hreps j hj).2.2 q u hu).1, ?_, .inr ⟨rfl, by simpa using hlt⟩⟩
            show (c.w.alloc _).cell? ⟨c.w.heap.size, 0 + (j * z.length + q), none⟩ = _
            rw [cell?_cells (heap_alloc_eq c.w _)]
            have : 0 + (j * z.length + q) < vs'.size := by omega
            simp [Array.getD_eq_getD_getElem?, show j * z.length + q < vs'.size by omega]
          · refine ((hreps j hj).2.2 q u hu).2.ext (ks := live s.objs) hk.ext fun k hk' => ?_
            rw [keys_nil_of (hreps j hj).2.1 hu] at hk'; simp at hk'
  · simp at he
theorem makePureA_sound (h : Rel B c s a) {t : TypeId} {x y v : AV} {X Y : Value} (hx : Rep c x X) (hy : Rep c y Y) (he : makePureA P t x y = some (true, v)) : Goes P B c s (Instr.makeSlice t X Y) v := by
  unfold makePureA at he
  split at he
  · rename_i e l m hu
    split at he
    · rename_i z inf hz hinf
      simp only [guardO] at he
      cases hb : (Nat.beq z.length inf.size && Nat.blt 0 inf.size) with
      | false => simp [hb] at he
      | true =>
        simp only [hb, cond_true, Option.some.injEq, Prod.mk.injEq, Bool.and_eq_true, decide_eq_true_eq] at he
        obtain ⟨⟨hlc, h0, hr, hle⟩, rfl⟩ := he
        simp only [Bool.and_eq_true] at hb
        have b1 := beqT hb.1
        have b2 : 0 < inf.size := Nat.lt_of_succ_le (Nat.le_of_ble_eq_true hb.2)
        obtain ⟨i, zv, hi, hzv, hcz⟩ := zeroCells_inv hz
        obtain ⟨hzc, hzk⟩ := zero_CR (c := c) hcz
        have : i = inf := by rw [hinf] at hi; exact (Option.some.inj hi).symm
        subst this
        cases hx; cases hy
        subst hlc
        have hr := Nat.le_of_ble_eq_true hr
        have hmade : (madeCells zv.cells (l.toNat * i.size)).size = l.toNat * z.length := by rw [size_madeCells, b1]
        have hrun := run_make (P := P) c.w t e i zv hu hinf hzv .i64 .i64 l l h0 (Int.le_refl _) (by
          have e1 : ((l.toNat * i.bytes : Nat) : Int) ≤ 140737488355328 := by omega
          have e2 : (l.toNat : Int) = l := Int.toNat_of_nonneg h0
          rw [Int.natCast_mul, e2] at e1
          rw [Int.mul_comm]; omega) (by omega)
        have hk := Cx.row_keeps h.good h.objs (madeCells zv.cells (l.toNat * i.size)) e (0, 0) (l.toNat * z.length)
        refine ⟨_, c.row (madeCells zv.cells (l.toNat * i.size)) e (0, 0) (l.toNat * z.length), hrun, hk, Cx.row_grow h.good h.frame _ _ _ _ (by omega), ⟨?_, by simp [AV.keys], rfl⟩⟩
        refine .sl _ _ _ _ ⟨c.w.heap.size, 0, none⟩ l.toNat (fun j q => (madeCells zv.cells (l.toNat * i.size)).getD (j * z.length + q) undef) (fun _ => rfl) (Nat.le_refl _) (by simp [OwnRep]) (fun j hj => ⟨rfl, hzk⟩) (fun j q u hj hu' => ?_) (fun j q u hj hu' => ?_)
        · have hq : q < z.length := (List.getElem?_eq_some_iff.1 hu').1
          have hlt := row_off_lt hj hq
          refine ⟨(hzc.2 q u hu').1, ?_, .inr ⟨rfl, by simpa using hlt⟩⟩
          show (c.w.alloc _).cell? ⟨c.w.heap.size, 0 + (j * z.length + q), none⟩ = _
          rw [cell?_cells (heap_alloc_eq c.w _)]
          have : 0 + (j * z.length + q) < (madeCells zv.cells (l.toNat * i.size)).size := by omega
          simp [Array.getD_eq_getD_getElem?, show j * z.length + q < (madeCells zv.cells (l.toNat * i.size)).size by omega]
        · have hq : q < z.length := (List.getElem?_eq_some_iff.1 hu').1
          have hzs : zv.cells.size = z.length := hzc.1
          rw [madeCells_get _ _ _ (by rw [← b1]; exact row_off_lt hj hq) (by omega)]
          have e5 : (j * z.length + q) % zv.cells.size = q := by rw [hzs, Nat.add_comm, Nat.add_mul_mod_self_right, Nat.mod_eq_of_lt hq]
          rw [e5]
          refine ((hzc.2 q u hu').2).ext (ks := live s.objs) hk.ext fun k hk' => ?_
          rw [keys_nil_of hzk hu'] at hk'; simp at hk'
    · simp at he
  · simp at he
theorem apart_shed : ∀ (l : List (Nat × AV)), fillApart (shedP l) = fillApart l := by
  have e2 : ∀ (l : List (Nat × AV)) (q : Nat), (shedP l).all (fun p => !(Nat.beq p.1 q)) = l.all (fun p => !(Nat.beq p.1 q)) := by
    intro l q; induction l with
    | nil => rfl
    | cons p r ih => obtain ⟨q', w⟩ := p; simp [shedP, ih]
  intro l; induction l with
  | nil => rfl
  | cons p r ih => obtain ⟨q, w⟩ := p; simp [shedP, fillApart, ih, e2]
theorem fillOk_keys {sz len : Nat} : ∀ {l : List (Nat × AV)}, fillOk sz len l = true → ∀ p ∈ l, keysL p.2.cells = [] := by
  intro l
  induction l with
  | nil => intro _ p hp; simp at hp
  | cons q r ih =>
    obtain ⟨qi, qv⟩ := q
    intro ho p hp
    simp only [fillOk, Bool.and_eq_true] at ho
    rcases List.mem_cons.1 hp with rfl | hp
    · have := ho.2.1
      cases hk : keysL qv.cells with
      | nil => rfl
      | cons => simp [hk, isNil] at this
    · exact ih ho.2.2.2.2 p hp
theorem buildA_sound (h : Rel B c s a) {t : TypeId} {parts : List (Nat × AV)} {xs : List (Nat × Value)} {v : AV} (hs : SeesP B c s parts xs) (he : buildA P t parts = some (true, v)) : Goes P B c s (Instr.build t xs.toArray) v := by
  unfold buildA at he
  split at he
  · rename_i fs hu
    cases hz : zeroCells P t with
    | none => simp [hz] at he
    | some z =>
      simp only [hz, Option.bind_some] at he
      cases hall : fs.toList.all fun f => (sizeOf? P f.type).isSome with
      | false => simp [hall] at he
      | true =>
        simp only [hall, cond_true] at he
        cases hb : buildFill P fs z parts with
        | none => simp [hb] at he
        | some l =>
          simp [hb, ok1] at he; subst he
          obtain ⟨i, zv, hi, hzv, hcz⟩ := zeroCells_inv hz
          obtain ⟨hcr, hkz⟩ := zero_CR (c := c) hcz
          have hpl : ∃ places, fs.toList.mapM (fun f => (P.info? f.type).map fun i => (f.offset, i.size)) = some places := by
            generalize fs.toList = L at hall
            induction L with
            | nil => exact ⟨[], rfl⟩
            | cons f r ih =>
              simp only [List.all_cons, Bool.and_eq_true] at hall
              obtain ⟨ps, hps⟩ := ih hall.2
              have h1 := hall.1
              unfold sizeOf? at h1
              cases hf : P.info? f.type with
              | none => simp [hf] at h1
              | some q => exact ⟨(f.offset, q.size) :: ps, by simp [List.mapM_cons, hf, hps]⟩
          obtain ⟨places, hp⟩ := hpl
          obtain ⟨vs', e1, e2, e3⟩ := buildFill_sound hp hs hcr hb (by rw [hkz]; simp)
          refine Goes.still h (x := .agg vs') ?_ ⟨.agg _ _ e2.1 (fun i u hu => (e2.2 i u hu).1) (fun i u hu => (e2.2 i u hu).2), by simpa [AV.keys] using e3, rfl⟩
          refine run_build c.w t xs.toArray vs' ?_
          unfold Program.built
          simp only [hi, hu, hzv, hp]
          exact e1
  · rename_i n e hu
    cases parts with
    | cons p ps =>
      dsimp only at he
      generalize p :: ps = parts at hs he
      cases hz : zeroCells P e with
      | none => simp [hz] at he
      | some z =>
        cases hr : zeroCells P t with
        | none => simp [hz, hr] at he
        | some r =>
          simp only [hz, hr, Option.bind_some, guardO] at he
          cases hb : (zeroRow z n r && (sizeOf? P e == some z.length && (fillOk z.length n (shedP parts) && fillApart parts))) with
          | false => simp [hb] at he
          | true =>
            simp [hb, ok1] at he; subst he
            simp only [Bool.and_eq_true, beq_iff_eq] at hb
            obtain ⟨b0, b1, b3, b4⟩ := hb
            obtain ⟨i, v, hi, hv, hc⟩ := zeroCells_inv hr
            obtain ⟨ie, _, hie, _, hcz⟩ := zeroCells_inv hz
            obtain ⟨hcr, _⟩ := zero_CR (c := c) hc
            obtain ⟨hzc, hzk⟩ := zero_CR (c := c) hcz
            obtain ⟨h1, h2⟩ := zeroRow_spec b0
            have hsz : ie.size = z.length := by
              unfold sizeOf? at b1; simp [hie] at b1; exact b1
            obtain ⟨vs', f1, f2, f3, f4⟩ := fill_flat (z := z) hs.shed b3 (by rw [apart_shed]; exact b4) (vs := v.cells) (by rw [hcr.1, h1])
            have hreps : ∀ j, j < n → (fillGet z (shedP parts) j).length = z.length ∧ keysL (fillGet z (shedP parts) j) = [] ∧ ∀ (q : Nat) (u : AV), (fillGet z (shedP parts) j)[q]? = some u → u.one = true ∧ Rep c u (vs'.getD (j * z.length + q) undef) := by
              intro j hj
              rcases fillGet_mem z (shedP parts) j with ⟨p, hp, rfl, e2⟩ | ⟨e1, e2⟩
              · obtain ⟨g1, g2, g3⟩ := f4 p hp
                rw [e2]
                exact ⟨g2, fillOk_keys b3 p hp, g3⟩
              · rw [e2]
                refine ⟨rfl, hzk, fun q u hu => ?_⟩
                have hq : q < z.length := (List.getElem?_eq_some_iff.1 hu).1
                refine ⟨(hzc.2 q u hu).1, ?_⟩
                rw [f3 j hj e1 q hq]
                obtain ⟨w, hw, hsame⟩ := h2 j hj q u hu
                exact sameZ_rep hsame (hcr.2 _ w hw).2
            refine Goes.still h (x := .agg vs') ?_ ⟨.arr _ _ _ _ f2 (fun j hj => ⟨(hreps j hj).1, (hreps j hj).2.1⟩) (fun j q u hj hu => ((hreps j hj).2.2 q u hu).1) (fun j q u hj hu => ((hreps j hj).2.2 q u hu).2), by simp [AV.keys], rfl⟩
            refine run_build c.w t xs.toArray vs' ?_
            unfold Program.built
            simp only [hi, hu, hv, hie, hsz]
            exact f1
    | nil =>
      cases xs with
      | cons => exact hs.elim
      | nil =>
        simp only at he
        cases hz : zeroCells P e with
        | none => simp [hz] at he
        | some z =>
          cases hr : zeroCells P t with
          | none => simp [hz, hr] at he
          | some r =>
            simp only [hz, hr, Option.bind_some, guardO] at he
            cases hb : zeroRow z n r with
            | false => simp [hb] at he
            | true =>
              simp [hb, ok1] at he; subst he
              obtain ⟨i, v, hi, hv, hc⟩ := zeroCells_inv hr
              obtain ⟨ie, _, hie, _, hcz⟩ := zeroCells_inv hz
              obtain ⟨hcr, _⟩ := zero_CR (c := c) hc
              obtain ⟨hzc, hzk⟩ := zero_CR (c := c) hcz
              obtain ⟨h1, h2⟩ := zeroRow_spec hb
              refine Goes.still h (x := .agg v.cells) ?_ ⟨.arr _ _ _ _ (by rw [hcr.1, h1]) (fun j hj => ⟨rfl, hzk⟩) (fun j q u hj hu => (hzc.2 q u hu).1) (fun j q u hj hu => ?_), by simp [AV.keys], rfl⟩
              · refine run_build c.w t #[] v.cells ?_
                unfold Program.built
                simp only [hi, hu, hv, hie]
                rfl
              · obtain ⟨w, hw, hsame⟩ := h2 j hj q u hu
                exact sameZ_rep hsame (hcr.2 _ w hw).2
  · simp at he
/-- What a slice's literal comes to in memory. -/
theorem buildSlice_facts {t : TypeId} {len : Nat} {parts : List (Nat × AV)} {xs : List (Nat × Value)} {sz m : Nat} {get : Nat → List AV} (hs : SeesP B c s parts xs) (he : buildSliceA P t len parts = some (true, .sl .fit sz m get)) :
    0 < sz ∧ ∃ (vs : Array Value) (e : TypeId), vs.size = m * sz ∧ (Instr.buildSlice t len xs.toArray).run P c.w = .ok (.slice (some ⟨c.w.heap.size, 0, none⟩) m m) (c.w.alloc (.cells vs e)) ∧
      ∀ j, j < m → (get j).length = sz ∧ keysL (get j) = [] ∧ ∀ (q : Nat) (u : AV), (get j)[q]? = some u → u.one = true ∧ Rep c u (vs.getD (j * sz + q) undef) := by
  unfold buildSliceA at he
  split at he
  · rename_i e hu
    cases hz : zeroCells P e with
    | none => simp [hz] at he
    | some z =>
      simp only [hz, Option.bind_some, guardO] at he
      cases hb : (sizeOf? P e == some z.length && (Nat.blt 0 z.length && (fillOk z.length len (shedP parts) && (fillApart parts && Nat.ble (len * z.length) 16777216)))) with
      | false => simp [hb] at he
      | true =>
        simp [hb, ok1] at he; obtain ⟨rfl, rfl, rfl⟩ := he
        simp only [Bool.and_eq_true, beq_iff_eq] at hb
        obtain ⟨b1, b2, b3, b4, b5⟩ := hb
        have b2 : 0 < z.length := Nat.lt_of_succ_le (Nat.le_of_ble_eq_true b2)
        have b5 := Nat.le_of_ble_eq_true b5
        obtain ⟨i, zv, hi, hzv, hcz⟩ := zeroCells_inv hz
        obtain ⟨hcr, hkz⟩ := zero_CR (c := c) hcz
        have hsz : i.size = z.length := by
          unfold sizeOf? at b1; simp [hi] at b1; exact b1
        have hzs : zv.cells.size = z.length := hcr.1
        have hap : fillApart (shedP parts) = true := by
          have e1 : ∀ (l : List (Nat × AV)), (shedP l).map (·.1) = l.map (·.1) := by
            intro l; induction l with
            | nil => rfl
            | cons p r ih => obtain ⟨q, w⟩ := p; simp [shedP, ih]
          have e2 : ∀ (l : List (Nat × AV)) (q : Nat), (shedP l).all (fun p => !(Nat.beq p.1 q)) = l.all (fun p => !(Nat.beq p.1 q)) := by
            intro l q; induction l with
            | nil => rfl
            | cons p r ih => obtain ⟨q', w⟩ := p; simp [shedP, ih]
          have e3 : ∀ (l : List (Nat × AV)), fillApart (shedP l) = fillApart l := by
            intro l; induction l with
            | nil => rfl
            | cons p r ih => obtain ⟨q, w⟩ := p; simp [shedP, fillApart, ih, e2]
          rw [e3]; exact b4
        -- the row of zeros
        obtain ⟨vs', f1, f2, f3, f4⟩ := fill_flat (z := z) hs.shed b3 hap (vs := madeCells zv.cells (len * z.length)) (size_madeCells _ _)
        have hreps : ∀ j, j < len → (fillGet z (shedP parts) j).length = z.length ∧ keysL (fillGet z (shedP parts) j) = [] ∧ ∀ (q : Nat) (u : AV), (fillGet z (shedP parts) j)[q]? = some u → u.one = true ∧ Rep c u (vs'.getD (j * z.length + q) undef) := by
          intro j hj
          rcases fillGet_mem z (shedP parts) j with ⟨p, hp, rfl, e2⟩ | ⟨e1, e2⟩
          · obtain ⟨g1, g2, g3⟩ := f4 p hp
            rw [e2]
            refine ⟨g2, ?_, g3⟩
            have hkk : ∀ (l : List (Nat × AV)), fillOk z.length len l = true → ∀ p ∈ l, keysL p.2.cells = [] := by
              intro l
              induction l with
              | nil => intro _ p hp; simp at hp
              | cons q r ih =>
                obtain ⟨qi, qv⟩ := q
                intro ho p hp
                simp only [fillOk, Bool.and_eq_true] at ho
                rcases List.mem_cons.1 hp with rfl | hp
                · have := ho.2.1
                  cases hk : keysL qv.cells with
                  | nil => rfl
                  | cons => simp [hk, isNil] at this
                · exact ih ho.2.2.2.2 p hp
            exact hkk _ b3 p hp
          · rw [e2]
            refine ⟨rfl, hkz, fun q u hu => ?_⟩
            have hq : q < z.length := (List.getElem?_eq_some_iff.1 hu).1
            refine ⟨(hcr.2 q u hu).1, ?_⟩
            rw [f3 j hj e1 q hq, madeCells_get _ _ _ (row_off_lt hj hq) (by omega)]
            have e5 : (j * z.length + q) % zv.cells.size = q := by rw [hzs, Nat.add_comm, Nat.add_mul_mod_self_right, Nat.mod_eq_of_lt hq]
            rw [e5]; exact (hcr.2 q u hu).2
        by_cases hl : len = 0
        · subst hl
          refine ⟨b2, #[], e, by simp, ?_, fun j hj => by omega⟩
          have hxs : xs = [] := by
            cases xs with
            | nil => rfl
            | cons p q =>
              cases parts with
              | nil => simp [SeesP] at hs
              | cons p' q' =>
                obtain ⟨pi, pv⟩ := p'
                simp only [shedP, fillOk, Bool.and_eq_true] at b3
                have := Nat.le_of_ble_eq_true b3.2.2.2.1
                omega
          subst hxs
          simp [Instr.buildSlice, run_underlying hu, sizeOf, typeInfo, hi, Instr.fill, newRow, Array.range_zero']
        · have hrun := run_buildSlice (P := P) c.w t e len xs.toArray vs' i zv hu hi hzv (by rw [hsz]; omega) (by rw [hsz]; exact Nat.mul_ne_zero hl (by omega)) (by rw [hsz]; exact f1)
          exact ⟨b2, vs', e, f2, hrun, hreps⟩
  · simp at he
end Go.Ab

namespace Go.Ab
open Go Go.RowKit
variable {P : Program} {B : Base} {c : Cx} {s : St} {a : Act}

/-- An operation of a frame that goes to a value. -/
def OpGoes (P : Program) (B : Base) (c : Cx) (s : St) (a : Act) (o : Oper) (v : AV) : Prop :=
  ∃ x c', (execOp a.eval o).run P c.w = .ok (.value x) c'.w ∧ Keeps c c' s.objs ∧ Grow B c c' ∧ Sees B c' s v x

theorem OpGoes.of {o : Oper} {m : Sem Value} {v : AV} (hm : execOp a.eval o = (do let x ← m; pure (Next.value x))) (hg : Goes P B c s m v) : OpGoes P B c s a o v := by
  obtain ⟨x, c', h1, h2, h3, h4⟩ := hg
  exact ⟨x, c', by rw [hm]; simp [h1], h2, h3, h4⟩
theorem OpGoes.now (h : Rel B c s a) {o : Oper} {v : AV} {x : Value} (hr : (execOp a.eval o).run P c.w = .ok (.value x) c.w) (hs : Sees B c s v x) : OpGoes P B c s a o v :=
  ⟨x, c, hr, Keeps.refl _ _, Grow.refl h.good, hs⟩

theorem evalM_sound (h : Rel B c s a) {ch : Chain} (hc : ChOk a ch) {x : Option Operand} {v : Option AV} (he : pureA.evalM ⟨s, B.G, ch⟩ x = some v) : OSees B c s v (x.map a.eval) := by
  cases x with
  | none => simp [pureA.evalM] at he; subst he; exact .none
  | some o =>
    simp only [pureA.evalM] at he
    cases ho : evalO ⟨s, B.G, ch⟩ o with
    | none => simp [ho] at he
    | some u => simp [ho] at he; subst he; exact .some (evalO_sound h hc ho)

theorem SeesL.fn {l : List AV} {xs : List Value} (h : SeesL B c s l xs) : xs.toArray.size = l.length ∧ (∀ (i : Nat) (u : AV), l[i]? = some u → Rep c u (xs.toArray.getD i undef)) ∧ ∀ k ∈ keysL l, live s.objs k := by
  refine ⟨by simpa using h.1, fun i u hu => ?_, ?_⟩
  · have := (h.2 i u hu).rep
    simpa [Array.getD_eq_getD_getElem?, List.getD_eq_getElem?_getD] using this
  · have aux : ∀ (l : List AV) (xs : List Value), SeesL B c s l xs → ∀ k ∈ keysL l, live s.objs k := by
      intro l
      induction l with
      | nil => intro xs _ k hk; simp [keysL] at hk
      | cons v r ih =>
        intro xs h k hk
        obtain ⟨x, q, rfl, h1, h2⟩ := h.cons_inv
        simp only [keysL, List.mem_append] at hk
        rcases hk with hk | hk
        · exact h1.live k hk
        · exact ih _ h2 k hk
    exact aux l xs h

theorem pureA_sound (h : Rel B c s a) {ch : Chain} (hc : ChOk a ch) {o : Oper} {v : AV} (he : pureA P ⟨s, B.G, ch⟩ o.op = some (true, v)) : OpGoes P B c s a o v := by
  cases ho : o.op with
  | move x =>
    simp only [ho, pureA, val1] at he
    cases hx : evalO ⟨s, B.G, ch⟩ x with
    | none => simp [hx] at he
    | some u => simp [hx] at he; subst he; exact OpGoes.now h (x := a.eval x) (by simp [execOp, ho]) (evalO_sound h hc hx)
  | assign x =>
    simp only [ho, pureA, val1] at he
    cases hx : evalO ⟨s, B.G, ch⟩ x with
    | none => simp [hx] at he
    | some u => simp [hx] at he; subst he; exact OpGoes.now h (x := a.eval x) (by simp [execOp, ho]) (evalO_sound h hc hx)
  | pick z x y =>
    simp only [ho, pureA] at he
    cases z with
    | tmp t =>
      obtain ⟨q, h1, h2⟩ := pickA_sound (P := P) h hc he ho
      exact OpGoes.now h h1 h2
    | _ => simp at he
  | build t ps =>
    simp only [ho, pureA] at he
    cases hp : evalParts ⟨s, B.G, ch⟩ ps.toList with
    | none => simp [hp] at he
    | some l =>
      simp [hp] at he
      refine OpGoes.of ?_ (buildA_sound h (evalParts_sound h hc hp) he)
      simp only [execOp, ho]
      congr 1
      congr 1
      apply Array.ext'
      simp
  | buildSlice t n ps =>
    simp only [ho, pureA] at he
    cases hp : evalParts ⟨s, B.G, ch⟩ ps.toList with
    | none => simp [hp] at he
    | some l =>
      simp [hp] at he
      refine OpGoes.of ?_ (buildSliceA_sound h (evalParts_sound h hc hp) he)
      simp only [execOp, ho]
      congr 1
      congr 1
      apply Array.ext'
      simp
  | load t x =>
    simp only [ho, pureA] at he
    cases hx : evalO ⟨s, B.G, ch⟩ x with
    | none => simp [hx] at he
    | some u => simp [hx] at he; exact OpGoes.of (by simp only [execOp, ho]) (loadA_sound h (evalO_sound h hc hx).rep he)
  | nilCheck x =>
    simp only [ho, pureA] at he
    cases hx : evalO ⟨s, B.G, ch⟩ x with
    | none => simp [hx] at he
    | some u => simp only [hx, Option.bind_some] at he; exact nilCheck_sound h (evalO_sound h hc hx) he ho rfl
  | binOp op t x y yt =>
    simp only [ho, pureA] at he
    cases hx : evalO ⟨s, B.G, ch⟩ x with
    | none => simp [hx] at he
    | some u =>
      cases hy : evalO ⟨s, B.G, ch⟩ y with
      | none => simp [hx, hy] at he
      | some w =>
        simp [hx, hy] at he
        exact OpGoes.of (by simp only [execOp, ho]) (binA_sound (xo := x) (yo := y) h (evalO_sound h hc hx).rep (evalO_sound h hc hy).rep he)
  | unOp op t x =>
    simp only [ho, pureA] at he
    cases hx : evalO ⟨s, B.G, ch⟩ x with
    | none => simp [hx] at he
    | some u => simp [hx] at he; exact OpGoes.of (by simp only [execOp, ho]) (unA_sound h (evalO_sound h hc hx).rep he)
  | makeSlice t x y =>
    simp only [ho, pureA] at he
    cases hx : evalO ⟨s, B.G, ch⟩ x with
    | none => simp [hx] at he
    | some u =>
      cases hy : evalO ⟨s, B.G, ch⟩ y with
      | none => simp [hx, hy] at he
      | some w => simp [hx, hy] at he; exact OpGoes.of (by simp only [execOp, ho]) (makePureA_sound h (evalO_sound h hc hx).rep (evalO_sound h hc hy).rep he)
  | convert t1 t2 x =>
    simp only [ho, pureA] at he
    cases hx : evalO ⟨s, B.G, ch⟩ x with
    | none => simp [hx] at he
    | some u => simp [hx] at he; exact OpGoes.of (by simp only [execOp, ho]) (convA_sound h (evalO_sound h hc hx) he)
  | makeFunc fn p q =>
    simp only [ho, pureA] at he
    cases fn with
    | func f =>
      simp only at he
      cases hx : evalL ⟨s, B.G, ch⟩ p.toList with
      | none => simp [hx] at he
      | some l1 =>
        cases hy : evalL ⟨s, B.G, ch⟩ q.toList with
        | none => simp [hx, hy] at he
        | some l2 =>
          simp [hx, hy, ok1] at he; subst he
          have s1 := (evalL_sound h hc hx).fn
          have s2 := (evalL_sound h hc hy).fn
          have e1 : (p.toList.map a.eval).toArray = p.map a.eval := by apply Array.ext'; simp
          have e2 : (q.toList.map a.eval).toArray = q.map a.eval := by apply Array.ext'; simp
          rw [e1] at s1
          rw [e2] at s2
          refine OpGoes.now h (x := .func (.func f) (p.map a.eval) (q.map a.eval)) (by simp [execOp, ho, Instr.makeFunc]) ⟨.fn f l1 l2 _ _ s1.1 s2.1 s1.2.1 s2.2.1, fun k hk => ?_, rfl⟩
          simp only [AV.keys, List.mem_append] at hk
          exact hk.elim (s1.2.2 k) (s2.2.2 k)
    | _ => simp at he
  | slice t x l hi m =>
    simp only [ho, pureA] at he
    cases hx : evalO ⟨s, B.G, ch⟩ x with
    | none => simp [hx] at he
    | some u =>
      cases hl : pureA.evalM ⟨s, B.G, ch⟩ l with
      | none => simp [hx, hl] at he
      | some l' =>
        cases hh : pureA.evalM ⟨s, B.G, ch⟩ hi with
        | none => simp [hx, hl, hh] at he
        | some hi' =>
          cases hm : pureA.evalM ⟨s, B.G, ch⟩ m with
          | none => simp [hx, hl, hh, hm] at he
          | some m' =>
            simp [hx, hl, hh, hm] at he
            exact OpGoes.of (by simp only [execOp, ho]) (sliceA_sound h (evalO_sound h hc hx) (evalM_sound h hc hl) (evalM_sound h hc hh) (evalM_sound h hc hm) he)
  | fieldAddr t x f =>
    simp only [ho, pureA] at he
    cases hx : evalO ⟨s, B.G, ch⟩ x with
    | none => simp [hx] at he
    | some u => simp [hx] at he; exact OpGoes.of (by simp only [execOp, ho]) (fieldAddrA_sound h (evalO_sound h hc hx) he)
  | field t x f =>
    simp only [ho, pureA] at he
    cases hx : evalO ⟨s, B.G, ch⟩ x with
    | none => simp [hx] at he
    | some u => simp [hx] at he; exact OpGoes.of (by simp only [execOp, ho]) (fieldA_sound h (evalO_sound h hc hx) he)
  | indexAddr t x y =>
    simp only [ho, pureA] at he
    cases hx : evalO ⟨s, B.G, ch⟩ x with
    | none => simp [hx] at he
    | some u =>
      cases hy : evalO ⟨s, B.G, ch⟩ y with
      | none => simp [hx, hy] at he
      | some w => simp [hx, hy] at he; exact OpGoes.of (by simp only [execOp, ho]) (indexAddrA_sound h (evalO_sound h hc hx) (evalO_sound h hc hy) he)
  | index t x y =>
    simp only [ho, pureA] at he
    cases hx : evalO ⟨s, B.G, ch⟩ x with
    | none => simp [hx] at he
    | some u =>
      cases hy : evalO ⟨s, B.G, ch⟩ y with
      | none => simp [hx, hy] at he
      | some w => simp [hx, hy] at he; exact OpGoes.of (by simp only [execOp, ho]) (indexA_sound h (evalO_sound h hc hx) (evalO_sound h hc hy) he)
  | extract x i =>
    simp only [ho, pureA] at he
    cases hx : evalO ⟨s, B.G, ch⟩ x with
    | none => simp [hx] at he
    | some u => simp [hx] at he; exact OpGoes.of (by simp only [execOp, ho]) (extractA_sound h (evalO_sound h hc hx) he)
  | call q =>
    obtain ⟨callee, args, argTypes⟩ := q
    cases callee with
    | builtin b =>
      have hexec : ∀ (m : Sem Value), (∀ consts, builtin b argTypes o.type consts (args.map a.eval) = (do let x ← m; pure (Next.value x))) → execOp a.eval o = (do let x ← m; pure (Next.value x)) := by
        intro m hm
        simp only [execOp, ho, resolve, pure_bind, invoke]
        exact hm _
      cases b with
      | len =>
        simp only [ho, pureA] at he
        cases hl : evalL ⟨s, B.G, ch⟩ args.toList with
        | none => simp [hl] at he
        | some l =>
          simp only [hl, Option.bind_some] at he
          split at he
          · rename_i x t ht
            have hs := evalL_sound h hc hl
            obtain ⟨X, R, hXR, hx, hr⟩ := hs.cons_inv
            have hR := hr.nil_inv
            subst hR
            have e1 : args.map a.eval = #[X] := by apply Array.ext'; simpa using hXR
            have e2 : argTypes = #[t] := by apply Array.ext'; simpa using ht
            exact OpGoes.of (hexec _ (fun _ => by rw [e1, e2]; rfl)) (lenA_sound (ty := o.type) h hx.rep he)
          · simp at he
      | max =>
        simp only [ho, pureA] at he
        cases hl : evalL ⟨s, B.G, ch⟩ args.toList with
        | none => simp [hl] at he
        | some l =>
          simp only [hl, Option.bind_some] at he
          have hs := evalL_sound h hc hl
          refine OpGoes.of (hexec _ (fun _ => ?_)) (max_sound (ts := argTypes) (ty := o.type) h hs he)
          have e1 : args.map a.eval = (args.toList.map a.eval).toArray := by apply Array.ext'; simp
          rw [e1]; rfl
      | min =>
        simp only [ho, pureA] at he
        cases hl : evalL ⟨s, B.G, ch⟩ args.toList with
        | none => simp [hl] at he
        | some l =>
          simp only [hl, Option.bind_some] at he
          have hs := evalL_sound h hc hl
          refine OpGoes.of (hexec _ (fun _ => ?_)) (min_sound (ts := argTypes) (ty := o.type) h hs he)
          have e1 : args.map a.eval = (args.toList.map a.eval).toArray := by apply Array.ext'; simp
          rw [e1]; rfl
      | _ => simp [ho, pureA] at he
    | _ => simp [ho, pureA] at he
  | _ => simp [ho, pureA] at he
end Go.Ab

namespace Go.Ab
open Go Go.RowKit
variable {P : Program} {B : Base} {c : Cx} {s : St} {a : Act}


/-- The object of a key that is not yet there, in a new block. -/
theorem Rel.newVar (h : Rel B c s a) {k : Nat} (hk : s.obj k = none) {vs : Array Value} {t : TypeId} {ob : AO}
    (ho : ObjRep (c.var k vs t) k ob) (hx : excl (c.var k vs t) k ob = some c.w.heap.size) (hkeys : ∀ r ∈ ob.keys, live s.objs r) : Rel B (c.var k vs t) (s.setObj k ob) a := by
  refine h.obj (Cx.var_keeps h.good h.objs hk vs t) (Cx.var_grow h.good h.frame k vs t) ho (fun q o' b hq hne hb => ?_) (fun r hr => .inr (hkeys r hr)) (fun b hb => ?_)
  · rw [hx]
    have := excl_lt (h.objs.rep q o' hq) hb
    intro e
    have := Option.some.inj e
    omega
  · rw [hx] at hb
    have := Option.some.inj hb
    have := h.frame.size
    left; omega

theorem var_heap (c : Cx) (k : Nat) (vs : Array Value) (t : TypeId) : (c.var k vs t).w.heap[(c.var k vs t).β k]? = some (.cells vs t (0, 0)) := by
  simp only [Cx.var, if_true]
  exact heap_alloc_eq c.w _
theorem var_notI (hg : Good B.G c) (k : Nat) (vs : Array Value) (t : TypeId) (o : Nat) : ¬ (c.var k vs t).I ((c.var k vs t).β k) o := by
  simp only [Cx.var, if_true]
  intro hi
  obtain ⟨v, hv⟩ := hg.there _ _ hi
  have := lt_of_cell hv
  omega
theorem var_ext (h : Rel B c s a) {k : Nat} (hk : s.obj k = none) (vs : Array Value) (t : TypeId) : Ext c (c.var k vs t) (live s.objs) := (Cx.var_keeps h.good h.objs hk vs t).ext

theorem newVar_cells (h : Rel B c s a) {k : Nat} (hk : s.obj k = none) {vs : Array Value} {t : TypeId} {cs : List AV} (hcr : CR c cs vs) (hl : ∀ q ∈ keysL cs, live s.objs q) :
    Rel B (c.var k vs t) (s.setObj k (.cells cs)) a := by
  refine h.newVar hk ⟨⟨⟨vs, t, var_heap c k vs t, hcr.1, fun i u hu => (hcr.2 i u hu).2.ext (var_ext h hk vs t) fun q hq => hl q (keys_mem_of hu q hq)⟩, fun i u hu => (hcr.2 i u hu).1⟩, var_notI h.good k vs t, by simp [Cx.var]⟩ (by simp [excl, Cx.var]) (by simpa [AO.keys] using hl)
theorem newVar_arr (h : Rel B c s a) {k : Nat} (hk : s.obj k = none) {vs : Array Value} {t : TypeId} {sz n : Nat} {get : Nat → List AV} (hs : vs.size = n * sz)
    (hl : ∀ j, j < n → (get j).length = sz ∧ keysL (get j) = []) (hr : ∀ (j i : Nat) (u : AV), j < n → (get j)[i]? = some u → u.one = true ∧ Rep c u (vs.getD (j * sz + i) undef)) :
    Rel B (c.var k vs t) (s.setObj k (.arr sz n get)) a := by
  refine h.newVar hk ⟨⟨⟨vs, t, var_heap c k vs t, hs, fun j i u hj hu => (hr j i u hj hu).2.ext (var_ext h hk vs t) fun q hq => ?_⟩, hl, fun j i u hj hu => (hr j i u hj hu).1⟩, var_notI h.good k vs t, by simp [Cx.var]⟩ (by simp [excl, Cx.var]) (by simp [AO.keys])
  rw [keys_nil_of (hl j hj).2 hu] at hq; simp at hq

theorem Sees.ref {k : Nat} {vs : Array Value} {t : TypeId} {ob : AO} : Sees B (c.var k vs t) (s.setObj k ob) (.ref k 0) (.pointer (some ⟨c.w.heap.size, 0, none⟩)) := by
  refine ⟨?_, fun q hq => ?_, rfl⟩
  · have := Rep.ref (c := c.var k vs t) k 0
    simpa [Cx.var] using this
  · simp [AV.keys] at hq; subst hq; exact live_aput_self

/-- 'var x T': the variable, and the pointer to it. -/
theorem alloc_sound (h : Rel B c s a) {k : Nat} (hk : s.obj k = none) {t : TypeId} {ob : AO} (he : newA P t = some ob) :
    ∃ x c', (Instr.alloc t true (.tuple #[])).run P c.w = .ok x c'.w ∧ Rel B c' (s.setObj k ob) a ∧ Sees B c' (s.setObj k ob) (.ref k 0) x := by
  have hrun : ∀ (i : TypeInfo) (v : Value), P.info? t = some i → i.zero = some v → (Instr.alloc t true (.tuple #[])).run P c.w = .ok (.pointer (some ⟨c.w.heap.size, 0, none⟩)) (c.w.alloc (.cells v.cells t)) := by
    intro i v hi hv
    simp [Instr.alloc, zeroValue, typeInfo, hi, hv, newVar, newRow]
  unfold newA at he
  split at he
  · rename_i n e hu
    cases hz : zeroCells P e with
    | none => simp [hz] at he
    | some z =>
      cases hr : zeroCells P t with
      | none => simp [hz, hr] at he
      | some r =>
        simp only [hz, hr, Option.bind_some, guardO] at he
        cases hb : zeroRow z n r with
        | false => simp [hb] at he
        | true =>
          simp [hb] at he; subst he
          obtain ⟨i, v, hi, hv, hc⟩ := zeroCells_inv hr
          obtain ⟨_, _, _, _, hcz⟩ := zeroCells_inv hz
          obtain ⟨hcr, _⟩ := zero_CR (c := c) hc
          obtain ⟨hzc, hzk⟩ := zero_CR (c := c) hcz
          obtain ⟨h1, h2⟩ := zeroRow_spec hb
          refine ⟨_, c.var k v.cells t, hrun i v hi hv, newVar_arr h hk (by rw [hcr.1, h1]) (fun j hj => ⟨rfl, hzk⟩) (fun j q u hj hu => ⟨(hzc.2 q u hu).1, ?_⟩), Sees.ref⟩
          obtain ⟨w, hw, hsame⟩ := h2 j hj q u hu
          exact sameZ_rep hsame (hcr.2 _ w hw).2
  · cases hr : zeroCells P t with
    | none => simp [hr] at he
    | some r =>
      simp [hr] at he; subst he
      obtain ⟨i, v, hi, hv, hc⟩ := zeroCells_inv hr
      obtain ⟨hcr, hkz⟩ := zero_CR (c := c) hc
      exact ⟨_, c.var k v.cells t, hrun i v hi hv, newVar_cells h hk hcr (by rw [hkz]; simp), Sees.ref⟩
  · simp at he

theorem box_cells_sound (h : Rel B c s a) {k : Nat} (hk : s.obj k = none) {t : TypeId} {v : AV} {x : Value} (hs : Sees B c s v x) (ho : allOne v.cells = true) :
    ∃ y c', (Instr.box t x).run P c.w = .ok y c'.w ∧ Rel B c' (s.setObj k (.cells v.cells)) a ∧ Sees B c' (s.setObj k (.cells v.cells)) (.ref k 0) y :=
  ⟨_, c.var k x.cells t, by simp [Instr.box, newVar, newRow, Cx.var], newVar_cells h hk (cells_rel hs.rep ho) (by rw [keys_cells hs.plain]; exact hs.live), Sees.ref⟩
theorem box_arr_sound (h : Rel B c s a) {k : Nat} (hk : s.obj k = none) {t : TypeId} {sz n : Nat} {get : Nat → List AV} {x : Value} (hs : Rep c (.arr sz n get) x) :
    ∃ y c', (Instr.box t x).run P c.w = .ok y c'.w ∧ Rel B c' (s.setObj k (.arr sz n get)) a ∧ Sees B c' (s.setObj k (.arr sz n get)) (.ref k 0) y := by
  cases hs with
  | arr _ _ _ vs h1 h2 h3 h4 =>
    exact ⟨_, c.var k vs t, by simp [Instr.box, newVar, newRow, Cx.var, Value.cells], newVar_arr h hk h1 h2 (fun j i u hj hu => ⟨h3 j i u hj hu, h4 j i u hj hu⟩), Sees.ref⟩

/-! ### stores -/

theorem getD_splice (cur : Array Value) (off : Nat) (news : List Value) (h : off + news.length ≤ cur.size) :
    (cur.toList.take off ++ news ++ cur.toList.drop (off + news.length)).toArray.size = cur.size ∧
    ∀ i, i < cur.size → (cur.toList.take off ++ news ++ cur.toList.drop (off + news.length)).toArray.getD i undef = if off ≤ i ∧ i < off + news.length then news.getD (i - off) undef else cur.getD i undef := by
  refine ⟨by simp; omega, fun i hi => ?_⟩
  have hlen : (cur.toList.take off).length = off := by simp; omega
  simp only [Array.getD_eq_getD_getElem?, List.getElem?_toArray]
  by_cases h1 : i < off
  · rw [if_neg (by omega), List.append_assoc, List.getElem?_append_left (by rw [hlen]; exact h1), List.getElem?_take, if_pos h1]; simp
  · by_cases h2 : i < off + news.length
    · rw [if_pos ⟨by omega, h2⟩, List.append_assoc, List.getElem?_append_right (by rw [hlen]; omega), hlen, List.getElem?_append_left (by omega), List.getD_eq_getElem?_getD]
    · rw [if_neg (by omega), List.getElem?_append_right (by simp; omega), List.getElem?_drop]
      simp only [List.length_append, hlen]
      have : off + news.length + (i - (off + news.length)) = i := by omega
      rw [this]; simp

theorem storeAt_run {t : TypeId} {b off : Nat} {x : Value} {cur : Array Value} {t' : TypeId} {n : Nat} (hsz : sizeOf? P t = some n) (hn : x.cells.size = n) {w : World} (hh : w.heap[b]? = some (.cells cur t' (0, 0)))
    (hfit : off + n ≤ cur.size) (h1 : ∀ u ∈ x.cells.toList, u.oneCell' = true) :
    (Instr.storeAt t (.pointer (some ⟨b, off, none⟩)) x).run P w = .ok () (w.setRow b (cur.toList.take off ++ x.cells.toList ++ cur.toList.drop (off + x.cells.toList.length)).toArray) := by
  have hst := run_storeCells_at P b off t' x.cells.toList 0 cur w hh (by simp; omega) h1
  simp only [Nat.add_zero] at hst
  simp only [Instr.storeAt, Instr.sureAddr, Sem.run_bind, Sem.run_pure, Result.andThen_ok, storeVar, run_sizeOf hsz]
  rw [if_neg (by simp [hn])]
  exact hst

theorem wrote_setRow {w : World} {b : Nat} {cs : Array Value} (hc : c.w = w) : Wrote c b (w.setRow b cs) := by
  subst hc
  exact ⟨rfl, rfl, rfl, by simp, fun b' hb => setRow_other _ _ _ _ hb⟩

theorem CR.oneCell {l : List AV} {xs : Array Value} (h : CR c l xs) : ∀ u ∈ xs.toList, u.oneCell' = true := by
  intro u hu
  obtain ⟨i, hi, rfl⟩ := List.mem_iff_getElem.1 hu
  have hi' : i < xs.size := by simpa using hi
  have hl : i < l.length := by rw [← h.1]; exact hi'
  have := h.2 i _ (List.getElem?_eq_getElem hl)
  have e : xs.getD i undef = xs.toList[i] := by simp [Array.getD_eq_getD_getElem?, hi']
  rw [e] at this
  exact rep_oneCell this.2 this.1

theorem CR.splice {cs cs' l : List AV} {vs xs : Array Value} {off : Nat} (h : CR c cs vs) (hl : CR c l xs) (hs : setCells cs off l = some cs') :
    CR c cs' (vs.toList.take off ++ xs.toList ++ vs.toList.drop (off + xs.toList.length)).toArray ∧ off + xs.size ≤ vs.size := by
  obtain ⟨h1, h2, h3⟩ := setCells_spec hs
  have hfit : off + xs.toList.length ≤ vs.size := by simp [hl.1, h.1]; exact h2
  obtain ⟨g1, g2⟩ := getD_splice vs off xs.toList hfit
  refine ⟨⟨by rw [g1, h.1, h1], fun i u hu => ?_⟩, by simpa using hfit⟩
  have hi : i < vs.size := by rw [h.1, ← h1]; exact (List.getElem?_eq_some_iff.1 hu).1
  rw [g2 i hi]
  rw [h3 i] at hu
  have e1 : xs.toList.length = l.length := by simpa using hl.1
  simp only [e1]
  split at hu
  · rename_i hc
    rw [if_pos hc]
    have := hl.2 _ u hu
    simpa [Array.getD_eq_getD_getElem?, List.getD_eq_getElem?_getD] using this
  · rename_i hc
    rw [if_neg hc]
    exact h.2 i u hu

theorem storeA_sound (h : Rel B c s a) {t : TypeId} {x v : AV} {X V : Value} {k : Nat} {ob : AO} (hx : Sees B c s x X) (hv : Sees B c s v V) (he : storeA P s t x v = some (true, k, ob)) :
    ∃ c', (Instr.storeAt t X V).run P c.w = .ok () c'.w ∧ Rel B c' (s.setObj k ob) a := by
  have hxr := hx.rep
  cases x with
  | ref q off =>
    cases hxr
    simp only [storeA] at he
    cases hob : s.obj q with
    | none => simp [hob] at he
    | some o =>
      have hor := h.objs.rep q o hob
      cases o with
      | cells cs =>
        simp only [hob, guardO] at he
        cases hb : (allOne v.cells && (sizeOf? P t == some v.cells.length)) with
        | false => simp [hb] at he
        | true =>
          simp only [hb, cond_true] at he
          cases hst : setCells cs off v.cells with
          | none => simp [hst] at he
          | some l =>
            simp [hst] at he
            obtain ⟨rfl, rfl⟩ := he
            simp only [Bool.and_eq_true, beq_iff_eq] at hb
            obtain ⟨⟨⟨vs, t', hh, hs, hr⟩, h1⟩, hI, hfr⟩ := hor
            have hcv := cells_rel hv.rep hb.1
            have hcr : CR c cs vs := ⟨hs, fun i u hu => ⟨h1 i u hu, hr i u hu⟩⟩
            obtain ⟨hcr', hfit⟩ := hcr.splice hcv hst
            have hw : Wrote c (c.β q) (c.w.setRow (c.β q) (vs.toList.take off ++ V.cells.toList ++ vs.toList.drop (off + V.cells.toList.length)).toArray) := wrote_setRow rfl
            have hkb := Cx.write_keeps h.objs hob (b := c.β q) rfl hI hw
            refine ⟨c.write _, storeAt_run hb.2 hcv.1 hh (by rw [← hcv.1]; exact hfit) hcv.oneCell, h.obj hkb (Cx.write_grow h.good hI hw (h.mine q _ _ hob rfl)) ⟨⟨⟨_, t', setRow_heap _ _ _ _ _ _ hh, hcr'.1, fun i u hu => (hcr'.2 i u hu).2.ext hkb.ext fun r hr => ?_⟩, fun i u hu => (hcr'.2 i u hu).1⟩, hI, hfr⟩ ?_ ?_ ?_⟩
            · rcases keys_set hst r (keys_mem_of hu r hr) with hm | hm
              · exact h.objs.closed q _ hob r (by simpa [AO.keys] using hm)
              · rw [keys_cells hv.plain] at hm; exact hv.live r hm
            · intro r o' b hr hne hb' e
              exact h.objs.apart r o' q _ b hr hob hne hb' e
            · intro r hr
              rcases keys_set hst r (by simpa [AO.keys] using hr) with hm | hm
              · exact .inr (h.objs.closed q _ hob r (by simpa [AO.keys] using hm))
              · rw [keys_cells hv.plain] at hm; exact .inr (hv.live r hm)
            · intro b hb'; exact h.mine q _ b hob hb'
      | arr sz n get =>
        simp only [hob] at he
        cases v with
        | arr sz' n' get' =>
          simp only [guardO] at he
          cases hb : (Nat.beq off 0 && (Nat.beq sz sz' && (Nat.beq n n' && sizeOf? P t == some (n * sz)))) with
          | false => simp [hb] at he
          | true =>
            simp [hb] at he
            obtain ⟨rfl, rfl⟩ := he
            simp only [Bool.and_eq_true, beq_iff_eq] at hb
            obtain ⟨b1, b2, b3, b4⟩ := hb
            have b1 := beqT b1; have b2 := beqT b2; have b3 := beqT b3
            subst b1; subst b2; subst b3
            obtain ⟨⟨⟨vs, t', hh, hs, hr⟩, hl, h1⟩, hI, hfr⟩ := hor
            have hvr := hv.rep
            cases hvr with
            | arr _ _ _ xs g1 g2 g3 g4 =>
              have hw : Wrote c (c.β q) (c.w.setRow (c.β q) (vs.toList.take 0 ++ (Value.agg xs).cells.toList ++ vs.toList.drop (0 + (Value.agg xs).cells.toList.length)).toArray) := wrote_setRow rfl
              have hkb := Cx.write_keeps h.objs hob (b := c.β q) rfl hI hw
              have hone : ∀ u ∈ (Value.agg xs).cells.toList, u.oneCell' = true := by
                intro u hu
                obtain ⟨i, hi, rfl⟩ := List.mem_iff_getElem.1 hu
                have hi' : i < n * sz := by
                  have : i < xs.size := by simpa [Value.cells] using hi
                  omega
                have hsz0 : 0 < sz := by
                  rcases Nat.eq_zero_or_pos sz with h0 | h0
                  · rw [h0] at hi'; omega
                  · exact h0
                have hj : i / sz < n := Nat.div_lt_of_lt_mul (by rw [Nat.mul_comm]; exact hi')
                have hm : i % sz < sz := Nat.mod_lt _ hsz0
                have hlen := (g2 _ hj).1
                have := g4 (i / sz) (i % sz) _ hj (List.getElem?_eq_getElem (by rw [hlen]; exact hm))
                have h1' := g3 (i / sz) (i % sz) _ hj (List.getElem?_eq_getElem (by rw [hlen]; exact hm))
                have e : i / sz * sz + i % sz = i := by rw [Nat.mul_comm]; exact Nat.div_add_mod i sz
                rw [e] at this
                have e2 : xs.getD i undef = (Value.agg xs).cells.toList[i] := by simp [Value.cells, Array.getD_eq_getD_getElem?, show i < xs.size by omega]
                rw [e2] at this
                exact rep_oneCell this h1'
              have hnew : (vs.toList.take 0 ++ (Value.agg xs).cells.toList ++ vs.toList.drop (0 + (Value.agg xs).cells.toList.length)).toArray = xs := by
                apply Array.ext'
                simp [Value.cells, g1, hs]
              refine ⟨c.write _, storeAt_run b4 (by simpa [Value.cells] using g1) hh (by omega) hone, h.obj hkb (Cx.write_grow h.good hI hw (h.mine q _ _ hob rfl)) ⟨⟨⟨_, t', setRow_heap _ _ _ _ _ _ hh, by rw [hnew]; exact g1, fun j i u hj hu => ?_⟩, g2, g3⟩, hI, hfr⟩ ?_ (by simp [AO.keys]) ?_⟩
              · refine Eq.subst (motive := fun z => Rep _ u (Array.getD z (j * sz + i) undef)) hnew.symm ?_
                refine (g4 j i u hj hu).ext hkb.ext fun r hr => ?_
                rw [keys_nil_of (g2 j hj).2 hu] at hr; simp at hr
              · intro r o' b hr hne hb' e
                exact h.objs.apart r o' q _ b hr hob hne hb' e
              · intro b hb'; exact h.mine q _ b hob hb'
        | _ => simp at he
      | _ => simp [hob] at he
  | aref q sz' i off =>
    cases hxr
    simp only [storeA] at he
    cases hob : s.obj q with
    | none => simp [hob] at he
    | some o =>
      have hor := h.objs.rep q o hob
      cases o with
      | arr sz n get =>
        simp only [hob, guardO] at he
        cases hb : (Nat.beq sz sz' && (allOne v.shed.cells && (sizeOf? P t == some v.shed.cells.length && isNil (keysL v.shed.cells)))) with
        | false => simp [hb] at he
        | true =>
          simp only [hb, cond_true] at he
          cases hst : setCells (get i) off v.shed.cells with
          | none => simp [hst] at he
          | some l =>
            simp [hst] at he
            obtain ⟨hi, rfl, rfl⟩ := he
            have hi : i < n := by simpa [Nat.blt] using hi
            simp only [Bool.and_eq_true, beq_iff_eq] at hb
            obtain ⟨b0, b1, b2, b3⟩ := hb
            have b0 := beqT b0
            subst b0
            have b3 : keysL v.shed.cells = [] := by
              cases hk : keysL v.shed.cells with
              | nil => rfl
              | cons => simp [hk, isNil] at b3
            obtain ⟨⟨⟨vs, t', hh, hs, hr⟩, hl, h1⟩, hI, hfr⟩ := hor
            have hcv := cells_rel hv.shed.rep b1
            obtain ⟨s1, s2, s3⟩ := setCells_spec hst
            have hlen := (hl i hi).1
            have hfit : i * sz + off + V.cells.size ≤ vs.size := by
              rw [hcv.1, hs]
              have := Nat.mul_le_mul_right sz hi
              rw [Nat.succ_mul] at this; omega
            have hw : Wrote c (c.β q) (c.w.setRow (c.β q) (vs.toList.take (i * sz + off) ++ V.cells.toList ++ vs.toList.drop (i * sz + off + V.cells.toList.length)).toArray) := wrote_setRow rfl
            have hkb := Cx.write_keeps h.objs hob (b := c.β q) rfl hI hw
            obtain ⟨g1, g2⟩ := getD_splice vs (i * sz + off) V.cells.toList (by simpa using hfit)
            have hlk : keysL l = [] := by
              cases hk : keysL l with
              | nil => rfl
              | cons r rs =>
                rcases keys_set hst r (by simp [hk]) with hm | hm
                · simp [(hl i hi).2] at hm
                · simp [b3] at hm
            have hnl : ∀ j, j < n → (cond (Nat.beq j i) l (get j)).length = sz ∧ keysL (cond (Nat.beq j i) l (get j)) = [] := by
              intro j hj
              by_cases e : j = i
              · subst e; simp only [Nat.beq_refl, cond_true]; exact ⟨by rw [s1, hlen], hlk⟩
              · rw [beqF e]; exact hl j hj
            have hnr : ∀ (j q' : Nat) (u : AV), j < n → (cond (Nat.beq j i) l (get j))[q']? = some u → u.one = true ∧ Rep c u ((vs.toList.take (i * sz + off) ++ V.cells.toList ++ vs.toList.drop (i * sz + off + V.cells.toList.length)).toArray.getD (j * sz + q') undef) := by
              intro j q' u hj hu
              have hq' : q' < sz := by rw [← (hnl j hj).1]; exact (List.getElem?_eq_some_iff.1 hu).1
              have hlt := row_off_lt hj hq'
              rw [g2 _ (by omega)]
              simp only [Array.length_toList, hcv.1]
              by_cases e : j = i
              · subst e
                simp only [Nat.beq_refl, cond_true] at hu
                rw [s3 q'] at hu
                split at hu
                · rename_i hc
                  rw [if_pos (by omega)]
                  have := hcv.2 _ u hu
                  refine ⟨this.1, ?_⟩
                  have e5 : j * sz + q' - (j * sz + off) = q' - off := by omega
                  rw [e5]
                  simpa [Array.getD_eq_getD_getElem?, List.getD_eq_getElem?_getD] using this.2
                · rename_i hc
                  rw [if_neg (by omega)]
                  exact ⟨h1 j q' u hj hu, hr j q' u hj hu⟩
              · rw [beqF e] at hu
                rw [if_neg]
                · exact ⟨h1 j q' u hj hu, hr j q' u hj hu⟩
                · rintro ⟨c1, c2⟩
                  rcases Nat.lt_or_gt_of_ne e with hlt' | hgt
                  · have := Nat.mul_le_mul_right sz hlt'
                    rw [Nat.succ_mul] at this; omega
                  · have := Nat.mul_le_mul_right sz hgt
                    rw [Nat.succ_mul] at this; omega
            refine ⟨c.write _, storeAt_run b2 hcv.1 hh (by rw [← hcv.1]; exact hfit) hcv.oneCell, h.obj hkb (Cx.write_grow h.good hI hw (h.mine q _ _ hob rfl)) ⟨⟨⟨_, t', setRow_heap _ _ _ _ _ _ hh, by rw [g1]; exact hs, fun j q' u hj hu => ?_⟩, hnl, fun j q' u hj hu => (hnr j q' u hj hu).1⟩, hI, hfr⟩ ?_ (by simp [AO.keys]) ?_⟩
            · refine (hnr j q' u hj hu).2.ext hkb.ext fun r hr => ?_
              rw [keys_nil_of (hnl j hj).2 hu] at hr; simp at hr
            · intro r o' b hr hne hb' e
              exact h.objs.apart r o' q _ b hr hob hne hb' e
            · intro b hb'; exact h.mine q _ b hob hb'
      | _ => simp [hob] at he
  | gref q sz' m i off =>
    simp only [storeA] at he
    cases hob : s.obj q with
    | none => simp [hob] at he
    | some o =>
      have hor := h.objs.rep q o hob
      cases o with
      | grw sq sz n get =>
        simp only [hob, guardO] at he
        cases hb : (Nat.beq sz sz' && (allOne v.shed.cells && (sizeOf? P t == some v.shed.cells.length && isNil (keysL v.shed.cells)))) with
        | false => simp [hb] at he
        | true =>
          simp only [hb, cond_true] at he
          cases hst : setCells (get i) off v.shed.cells with
          | none => simp [hst] at he
          | some l =>
            simp only [hst, Option.map_some, Option.some.injEq, Prod.mk.injEq, Bool.and_eq_true] at he
            obtain ⟨⟨hq1, hi, bm⟩, rfl, rfl⟩ := he
            have hq1 : sq ≤ 1 := Nat.le_of_ble_eq_true hq1
            have hi : i < n := Nat.le_of_ble_eq_true hi
            simp only [Bool.and_eq_true, beq_iff_eq] at hb
            obtain ⟨b0, b1, b2, b3⟩ := hb
            have b0 := beqT b0
            subst b0
            have bm := beqT bm
            subst bm
            have b3 : keysL v.shed.cells = [] := by
              cases hk : keysL v.shed.cells with
              | nil => rfl
              | cons => simp [hk, isNil] at b3
            cases hxr with
            | gref _ _ _ _ _ bl cap hown =>
            obtain ⟨ad, cap', κ1, κ2, κ3, κ4⟩ := grw_at h hob hown rfl (by omega)
            simp only [Value.slice.injEq, Option.some.injEq, true_and] at κ2
            obtain ⟨κ2, κ5⟩ := κ2
            subst κ2 κ5
            obtain ⟨hsz, hfr, _⟩ := hor
            have hex : excl c q (.grw sq sz m get) = some bl := by simp only [excl, κ1]; rw [if_pos (by omega)]
            obtain ⟨⟨vs, t', hh, hs, hr⟩, had, hl, h1, hI'⟩ := κ4
            have hI : ∀ o, ¬ c.I bl o := fun o => hI' o (by rw [show sq - 1 = 0 by omega, Nat.zero_mul]; exact Nat.zero_le _)
            have hcap : m * sz ≤ cap * sz := Nat.mul_le_mul_right _ κ3
            simp only at hh hI
            have hcv := cells_rel hv.shed.rep b1
            obtain ⟨s1, s2, s3⟩ := setCells_spec hst
            have hlen := (hl i hi).1
            have hfit : i * sz + off + V.cells.size ≤ vs.size := by
              rw [hcv.1, hs]
              have := Nat.mul_le_mul_right sz hi
              rw [Nat.succ_mul] at this; omega
            have hw : Wrote c (bl) (c.w.setRow (bl) (vs.toList.take (i * sz + off) ++ V.cells.toList ++ vs.toList.drop (i * sz + off + V.cells.toList.length)).toArray) := wrote_setRow rfl
            have hkb := Cx.write_keeps h.objs hob (b := bl) hex hI hw
            obtain ⟨g1, g2⟩ := getD_splice vs (i * sz + off) V.cells.toList (by simpa using hfit)
            have hlk : keysL l = [] := by
              cases hk : keysL l with
              | nil => rfl
              | cons r rs =>
                rcases keys_set hst r (by simp [hk]) with hm | hm
                · simp [(hl i hi).2] at hm
                · simp [b3] at hm
            have hnl : ∀ j, j < m → (cond (Nat.beq j i) l (get j)).length = sz ∧ keysL (cond (Nat.beq j i) l (get j)) = [] := by
              intro j hj
              by_cases e : j = i
              · subst e; simp only [Nat.beq_refl, cond_true]; exact ⟨by rw [s1, hlen], hlk⟩
              · rw [beqF e]; exact hl j hj
            have hnr : ∀ (j q' : Nat) (u : AV), j < m → (cond (Nat.beq j i) l (get j))[q']? = some u → u.one = true ∧ Rep c u ((vs.toList.take (i * sz + off) ++ V.cells.toList ++ vs.toList.drop (i * sz + off + V.cells.toList.length)).toArray.getD (j * sz + q') undef) := by
              intro j q' u hj hu
              have hq' : q' < sz := by rw [← (hnl j hj).1]; exact (List.getElem?_eq_some_iff.1 hu).1
              have hlt := row_off_lt hj hq'
              rw [g2 _ (by omega)]
              simp only [Array.length_toList, hcv.1]
              by_cases e : j = i
              · subst e
                simp only [Nat.beq_refl, cond_true] at hu
                rw [s3 q'] at hu
                split at hu
                · rename_i hc
                  rw [if_pos (by omega)]
                  have := hcv.2 _ u hu
                  refine ⟨this.1, ?_⟩
                  have e5 : j * sz + q' - (j * sz + off) = q' - off := by omega
                  rw [e5]
                  simpa [Array.getD_eq_getD_getElem?, List.getD_eq_getElem?_getD] using this.2
                · rename_i hc
                  rw [if_neg (by omega)]
                  exact ⟨h1 j q' u hj hu, hr j q' u hj hu⟩
              · rw [beqF e] at hu
                rw [if_neg]
                · exact ⟨h1 j q' u hj hu, hr j q' u hj hu⟩
                · rintro ⟨c1, c2⟩
                  rcases Nat.lt_or_gt_of_ne e with hlt' | hgt
                  · have := Nat.mul_le_mul_right sz hlt'
                    rw [Nat.succ_mul] at this; omega
                  · have := Nat.mul_le_mul_right sz hgt
                    rw [Nat.succ_mul] at this; omega
            refine ⟨c.write _, storeAt_run b2 hcv.1 hh (by rw [← hcv.1]; exact hfit) hcv.oneCell, h.obj hkb (Cx.write_grow h.good hI hw (h.mine q _ _ hob hex)) ⟨hsz, hfr, ?_⟩ ?_ (by simp [AO.keys]) ?_⟩
            · show (match c.κ q with | none => m = 0 | some (a, cap) => m ≤ cap ∧ (0 < cap → GrwAt (c.write _) a sq sz m cap _))
              rw [κ1]
              refine ⟨κ3, fun _ => ⟨⟨_, t', setRow_heap _ _ _ _ _ _ hh, by rw [g1]; exact hs, fun j q' u hj hu => ?_⟩, had, hnl, fun j q' u hj hu => (hnr j q' u hj hu).1, hI'⟩⟩
              refine (hnr j q' u hj hu).2.ext hkb.ext fun r hr => ?_
              rw [keys_nil_of (hnl j hj).2 hu] at hr; simp at hr
            · intro r o' b hr hne hb' e
              exact h.objs.apart r o' q _ b hr hob hne hb' e
            · intro b hb'; exact h.mine q _ b hob hb'
      | _ => simp [hob] at he
  | _ => simp [storeA] at he
end Go.Ab

namespace Go.Ab
open Go Go.RowKit
variable {P : Program} {B : Base} {c : Cx} {s : St} {a : Act}

/-- A key that owns a slice, as it stands from here on. -/
def Cx.owns (c : Cx) (w' : World) (I' : Nat → Nat → Prop) (k : Nat) (K : Option (Addr × Nat)) (n : Nat) : Cx :=
  { w := w', I := I', β := c.β, κ := fun q => if q = k then K else c.κ q, fr := fun q => if q = k then some n else c.fr q }

theorem owns_keeps {w' : World} {I' : Nat → Nat → Prop} {k n : Nat} {K : Option (Addr × Nat)} {objs : List (Nat × AO)}
    (hI : ∀ b o, c.I b o → I' b o) (hc : ∀ b o v, c.I b o → c.w.cell? ⟨b, o, none⟩ = some v → w'.cell? ⟨b, o, none⟩ = some v)
    (hk : ∀ n' v, live objs k → OwnRep c (.key k) n' v → OwnRep (c.owns w' I' k K n) (.key k) n' v)
    (hh : ∀ q o b, alook objs q = some o → q ≠ k → excl c q o = some b → w'.heap[b]? = c.w.heap[b]? ∧ ∀ off, I' b off → c.I b off) : KeepsBut c (c.owns w' I' k K n) objs k := by
  refine ⟨⟨hc, hI, fun _ _ => rfl, fun q hq n' v hv => ?_⟩, fun _ _ _ => rfl, fun q _ hne => by simp [Cx.owns, hne], fun q _ hne => by simp [Cx.owns, hne], hh⟩
  by_cases e : q = k
  · subst e; exact hk n' v hq hv
  · simpa [OwnRep, Cx.owns, e] using hv

theorem makeSliceA_sound (h : Rel B c s a) {d : Nat} {t : TypeId} {same : Bool} {x y v : AV} {X Y : Value} {k : Nat} {ob : AO} (hx : Rep c x X) (hy : Rep c y Y) (he : makeSliceA P s d t same x y = some (true, v, k, ob)) :
    ∃ z c', (Instr.makeSlice t X Y).run P c.w = .ok z c'.w ∧ Rel B c' (s.setObj k ob) a ∧ Sees B c' (s.setObj k ob) v z := by
  unfold makeSliceA at he
  split at he
  · rename_i e l m hu
    split at he
    · rename_i z inf hz hinf hd
      simp only [guardO] at he
      cases hb : (Nat.beq z.length inf.size && Nat.blt 0 inf.size) with
      | false => simp [hb] at he
      | true =>
        simp only [hb, cond_true] at he
        simp only [Bool.and_eq_true] at hb
        have b1 := beqT hb.1
        have b2 : 0 < inf.size := Nat.lt_of_succ_le (Nat.le_of_ble_eq_true hb.2)
        obtain ⟨i, zv, hi, hzv, hcz⟩ := zeroCells_inv hz
        obtain ⟨hzc, hzk⟩ := zero_CR (c := c) hcz
        have : i = inf := by rw [hinf] at hi; exact (Option.some.inj hi).symm
        subst this
        cases hx; cases hy
        have hmade : (madeCells zv.cells (m.toNat * i.size)).size = m.toNat * z.length := by rw [size_madeCells, b1]
        cases same with
        | true =>
          simp only [cond_true, Option.some.injEq, Prod.mk.injEq, Bool.and_eq_true, decide_eq_true_eq] at he
          obtain ⟨⟨hlc, h0, hr, hle⟩, rfl, rfl, rfl⟩ := he
          subst hlc
          have hr := Nat.le_of_ble_eq_true hr
          have hrun := run_make (P := P) c.w t e i zv hu hinf hzv .i64 .i64 l l h0 (Int.le_refl _) (by
            have e1 : ((l.toNat * i.bytes : Nat) : Int) ≤ 140737488355328 := by omega
            have e2 : (l.toNat : Int) = l := Int.toNat_of_nonneg h0
            rw [Int.natCast_mul, e2] at e1
            rw [Int.mul_comm]; omega) (by omega)
          refine ⟨_, c.var d (madeCells zv.cells (l.toNat * i.size)) e, hrun, newVar_arr h hd hmade (fun j hj => ⟨rfl, hzk⟩) (fun j q u hj hu' => ⟨(hzc.2 q u hu').1, ?_⟩), ⟨?_, fun q hq => ?_, rfl⟩⟩
          · have hq : q < z.length := (List.getElem?_eq_some_iff.1 hu').1
            have hzs : zv.cells.size = z.length := hzc.1
            rw [madeCells_get _ _ _ (by rw [← b1]; exact row_off_lt hj hq) (by omega)]
            have e5 : (j * z.length + q) % zv.cells.size = q := by rw [hzs, Nat.add_comm, Nat.add_mul_mod_self_right, Nat.mod_eq_of_lt hq]
            rw [e5]; exact (hzc.2 q u hu').2
          · have := Rep.msl (c := c.var d (madeCells zv.cells (l.toNat * i.size)) e) d z.length 0 l.toNat l.toNat 0 (Nat.le_refl _) (by simp)
            simpa [Cx.var] using this
          · simp [AV.keys] at hq; subst hq; exact live_aput_self
        | false =>
          simp only [cond_false, Option.some.injEq, Prod.mk.injEq, Bool.and_eq_true, decide_eq_true_eq] at he
          obtain ⟨⟨hl0, h0, hr, hle⟩, rfl, rfl, rfl⟩ := he
          subst hl0
          have hr := Nat.le_of_ble_eq_true hr
          have hrun := run_make (P := P) c.w t e i zv hu hinf hzv .i64 .i64 0 m (Int.le_refl _) h0 (by
            have e1 : ((m.toNat * i.bytes : Nat) : Int) ≤ 140737488355328 := by omega
            have e2 : (m.toNat : Int) = m := Int.toNat_of_nonneg h0
            rw [Int.natCast_mul, e2] at e1
            rw [Int.mul_comm]; omega) (by omega)
          have hkb : KeepsBut c (c.owns (c.w.alloc (.cells (madeCells zv.cells (m.toNat * i.size)) e)) c.I d (some (⟨c.w.heap.size, 0, none⟩, m.toNat)) 0) s.objs d := by
            refine owns_keeps (fun _ _ hi => hi) (fun b o v' hi hv => ?_) (fun n' v' hl _ => absurd rfl (live_ne hd hl)) (fun q o b hq hne hb => ⟨heap_alloc_lt _ _ _ (excl_lt (h.objs.rep q o hq) hb), fun _ hi => hi⟩)
            rw [World.cell?_block (heap_alloc_lt c.w _ b (lt_of_cell hv))]; exact hv
          have hgr : Grow B c (c.owns (c.w.alloc (.cells (madeCells zv.cells (m.toNat * i.size)) e)) c.I d (some (⟨c.w.heap.size, 0, none⟩, m.toNat)) 0) := by
            refine ⟨rfl, rfl, rfl, by simp [Cx.owns], fun b hb _ => heap_alloc_lt _ _ _ (Nat.lt_of_lt_of_le hb h.frame.size), fun b o hb _ hi => hi, fun b o hi => ?_⟩
            obtain ⟨v', hv⟩ := h.good.there b o hi
            exact ⟨v', hkb.ext.cell b o v' hi hv⟩
          simp only [Int.toNat_zero] at hrun
          refine ⟨.slice (some ⟨c.w.heap.size, 0, none⟩) 0 m.toNat, c.owns (c.w.alloc (.cells (madeCells zv.cells (m.toNat * i.size)) e)) c.I d (some (⟨c.w.heap.size, 0, none⟩, m.toNat)) 0, hrun, h.obj hkb hgr ⟨by omega, by simp [Cx.owns], ?_⟩ ?_ (by simp [AO.keys]) ?_, ⟨?_, fun q hq => ?_, rfl⟩⟩
          · simp only [Cx.owns, if_true]
            refine ⟨(fun _ => trivial), Nat.zero_le _, fun _ => ⟨⟨_, e, heap_alloc_eq c.w _, hmade⟩, rfl, fun o _ hi => ?_⟩⟩
            obtain ⟨v', hv⟩ := h.good.there _ _ hi
            have := lt_of_cell hv
            simp at this
          · intro q o' b hq hne hb
            have := excl_lt (h.objs.rep q o' hq) hb
            simp only [excl, Cx.owns, if_true]
            intro e'
            split at e'
            · have h9 : c.w.heap.size = b := Option.some.inj e'
              omega
            · simp at e'
          · intro b hb
            simp only [excl, Cx.owns, if_true] at hb
            have := h.frame.size
            split at hb
            · have h9 : c.w.heap.size = b := Option.some.inj hb
              left; omega
            · simp at hb
          · refine .sl _ _ _ _ ⟨c.w.heap.size, 0, none⟩ m.toNat (fun _ _ => undef) (fun _ => rfl) (Nat.zero_le _) ⟨0, by simp [Cx.owns], Nat.le_refl _, fun _ => by simp [Cx.owns, slOf]⟩ (fun j hj => by omega) (fun j i u hj => by omega) (fun j i u hj => by omega)
          · simp [AV.keys] at hq; subst hq; exact live_aput_self
    · simp at he
  · simp at he

/-- What a slice reads as: a row of cells. -/
structure RowSees (c : Cx) (b o n sz : Nat) (get : Nat → List AV) : Prop where
  len : ∀ j, j < n → (get j).length = sz ∧ keysL (get j) = []
  cell : ∀ (j i : Nat) (u : AV), j < n → (get j)[i]? = some u → u.one = true ∧ ∃ y, c.w.cell? ⟨b, o + (j * sz + i), none⟩ = some y ∧ Rep c u y

def rd (w : World) (b o : Nat) (q : Nat) : Value := (w.cell? ⟨b, o + q, none⟩).getD undef
def rdL (w : World) (b o len : Nat) : List Value := (List.range len).map (rd w b o)

theorem split_idx {n sz q : Nat} (h : q < n * sz) : q / sz < n ∧ q % sz < sz ∧ q / sz * sz + q % sz = q := by
  have hsz : 0 < sz := by
    rcases Nat.eq_zero_or_pos sz with h0 | h0
    · rw [h0] at h; omega
    · exact h0
  exact ⟨Nat.div_lt_of_lt_mul (by rw [Nat.mul_comm]; exact h), Nat.mod_lt _ hsz, by rw [Nat.mul_comm]; exact Nat.div_add_mod q sz⟩

theorem RowSees.at {b o n sz : Nat} {get : Nat → List AV} (h : RowSees c b o n sz get) {q : Nat} (hq : q < n * sz) : c.w.cell? ⟨b, o + q, none⟩ = some (rd c.w b o q) ∧ (rd c.w b o q).oneCell' = true := by
  obtain ⟨h1, h2, h3⟩ := split_idx hq
  obtain ⟨g1, y, g2, g3⟩ := h.cell (q / sz) (q % sz) _ h1 (List.getElem?_eq_getElem (by rw [(h.len _ h1).1]; exact h2))
  rw [h3] at g2
  simp only [rd, g2, Option.getD_some]
  exact ⟨trivial, rep_oneCell g3 g1⟩
theorem RowSees.rep {b o n sz : Nat} {get : Nat → List AV} (h : RowSees c b o n sz get) {j i : Nat} {u : AV} (hj : j < n) (hu : (get j)[i]? = some u) : Rep c u (rd c.w b o (j * sz + i)) := by
  obtain ⟨_, y, g2, g3⟩ := h.cell j i u hj hu
  simpa [rd, g2] using g3
theorem rdL_get {w : World} {b o len j : Nat} {v : Value} (h : (rdL w b o len)[j]? = some v) : j < len ∧ v = rd w b o j := by
  simp only [rdL, List.getElem?_map] at h
  rcases Nat.lt_or_ge j len with hj | hj
  · simp [hj] at h; exact ⟨hj, h.symm⟩
  · simp [hj] at h
theorem rdL_length (w : World) (b o len : Nat) : (rdL w b o len).length = len := by simp [rdL]
theorem RowSees.cells {b o n sz : Nat} {get : Nat → List AV} (h : RowSees c b o n sz get) : (∀ j v, (rdL c.w b o (n * sz))[j]? = some v → c.w.cell? ((⟨b, o, none⟩ : Addr).add j) = some v) ∧ ∀ u ∈ rdL c.w b o (n * sz), u.oneCell' = true := by
  refine ⟨fun j v hv => ?_, fun u hu => ?_⟩
  · obtain ⟨hj, rfl⟩ := rdL_get hv
    rw [Addr.add_lit]; exact (h.at hj).1
  · simp only [rdL, List.mem_map, List.mem_range] at hu
    obtain ⟨q, hq, rfl⟩ := hu
    exact (h.at hq).2

theorem slice_row {x : AV} {o : Own} {sz n : Nat} {get : Nat → List AV} {X : Value} (hx : Rep c x X) (e : x = .sl o sz n get) :
    (X = .slice none 0 0 ∧ n = 0 ∧ OwnRep c o 0 X) ∨ ∃ b of sp cap, (0 < cap → sp = none) ∧ X = .slice (some ⟨b, of, sp⟩) n cap ∧ n ≤ cap ∧ OwnRep c o n X ∧ RowSees c b of n sz get ∧ ∀ q, q < n * sz → c.I b (of + q) := by
  subst e
  cases hx with
  | slNil _ _ _ ho => exact .inl ⟨rfl, rfl, ho⟩
  | sl _ _ _ _ ad cap vals h1 h2 h3 h4 h5 h6 =>
    obtain ⟨b, of, sp⟩ := ad
    simp only at h1
    refine .inr ⟨b, of, sp, cap, h1, rfl, h2, h3, ⟨h4, fun j i u hj hu => ⟨(h5 j i u hj hu).1, _, (h5 j i u hj hu).2.1, h6 j i u hj hu⟩⟩, fun q hq => ?_⟩
    obtain ⟨g1, g2, g3⟩ := split_idx hq
    have := (h5 (q / sz) (q % sz) _ g1 (List.getElem?_eq_getElem (by rw [(h4 _ g1).1]; exact g2))).2.2
    rw [g3] at this; exact this

theorem append_none {t ty e : TypeId} {i : TypeInfo} (ht : P.underlying t = some (.slice e)) (hi : P.info? e = some i) {base : Option Addr} {n cap : Nat} (hn : n ≤ cap) {Y : Value} (hY : Y = .slice none 0 0 ∨ ∃ ad c, Y = .slice (some ad) 0 c) (w : World) :
    (Builtin.append_ #[t, t] ty #[.slice base n cap, Y]).run P w = .ok (.slice base n cap) w := by
  rcases hY with rfl | ⟨ad, cc, rfl⟩ <;> cases base <;> simp [Builtin.append_, run_underlying ht, sizeOf, typeInfo, hi, Builtin.lenOf, hn, Builtin.firstCells, loadCells, loadCellsFrom, storeCells]

theorem bltT {a b : Nat} (h : a < b) : Nat.blt a b = true := Nat.ble_eq_true_of_le h
theorem ltB {a b : Nat} (h : Nat.blt a b = true) : a < b := Nat.le_of_ble_eq_true h
theorem appGet_lt {n m : Nat} {get get2 : Nat → List AV} {j : Nat} (h : j < n) : appGet n m get get2 j = get j := by
  have : Nat.blt j n = true := bltT h
  simp [appGet, this]
theorem appGet_ge {n m : Nat} {get get2 : Nat → List AV} {j : Nat} (h1 : n ≤ j) (h2 : j < n + m) : appGet n m get get2 j = get2 (j - n) := by
  have e1 : Nat.blt j n = false := by
    cases hb : Nat.blt j n with
    | false => rfl
    | true => have := ltB hb
              omega
  have e2 : Nat.blt j (n + m) = true := bltT h2
  simp only [appGet, e1, e2, cond_false, cond_true]

theorem rdL_at (w : World) (b o len q : Nat) (h : q < len) : (rdL w b o len)[q]? = some (rd w b o q) := by simp [rdL, h]
/-- Cells that are appended. -/
structure SrcL (c : Cx) (new : List Value) (m sz : Nat) (get : Nat → List AV) : Prop where
  size : new.length = m * sz
  len : ∀ j, j < m → (get j).length = sz ∧ keysL (get j) = []
  cell : ∀ (j i : Nat) (u : AV), j < m → (get j)[i]? = some u → u.one = true ∧ ∃ y, new[j * sz + i]? = some y ∧ Rep c u y
theorem RowSees.src {b o m sz : Nat} {get : Nat → List AV} (h : RowSees c b o m sz get) : SrcL c (rdL c.w b o (m * sz)) m sz get :=
  ⟨rdL_length _ _ _ _, h.len, fun j i u hj hu => ⟨(h.cell j i u hj hu).1, _, rdL_at _ _ _ _ _ (row_off_lt hj (by rw [← (h.len j hj).1]; exact (List.getElem?_eq_some_iff.1 hu).1)), h.rep hj hu⟩⟩
/-- The appended row, where its cells stand in a block. -/
theorem append_row {c' : Cx} {b1 o1 n m sz g : Nat} {new : List Value} {get get2 : Nat → List AV} {vs : Array Value} {t' : TypeId} {ks : Nat → Prop} (h1 : RowSees c b1 o1 n sz get) (h2 : SrcL c new m sz get2)
    (he : Ext c c' ks) (hg : c'.w.heap[g]? = some (.cells vs t' (0, 0))) (hv1 : ∀ q, q < n * sz → vs[q]? = some (rd c.w b1 o1 q)) (hv2 : ∀ q, q < m * sz → vs[n * sz + q]? = new[q]?)
    (hI : ∀ q, q < (n + m) * sz → c'.I g q) {K : Nat} {cap : Nat} (hcap : n + m ≤ cap) (ho : OwnRep c' (.key K) (n + m) (.slice (some ⟨g, 0, none⟩) (n + m) cap)) :
    Rep c' (.sl (.key K) sz (n + m) (appGet n m get get2)) (.slice (some ⟨g, 0, none⟩) (n + m) cap) := by
  have hlen : ∀ j, j < n + m → (appGet n m get get2 j).length = sz ∧ keysL (appGet n m get get2 j) = [] := by
    intro j hj
    by_cases hjn : j < n
    · rw [appGet_lt hjn]; exact h1.len j hjn
    · rw [appGet_ge (by omega) hj]; exact h2.len _ (by omega)
  have key : ∀ (j i : Nat) (u : AV), j < n + m → (appGet n m get get2 j)[i]? = some u → u.one = true ∧ ∃ y, vs[j * sz + i]? = some y ∧ Rep c u y := by
    intro j i u hj hu
    have hi : i < sz := by rw [← (hlen j hj).1]; exact (List.getElem?_eq_some_iff.1 hu).1
    by_cases hjn : j < n
    · rw [appGet_lt hjn] at hu
      exact ⟨(h1.cell j i u hjn hu).1, _, hv1 _ (row_off_lt hjn hi), h1.rep hjn hu⟩
    · rw [appGet_ge (by omega) hj] at hu
      have hj' : j - n < m := by omega
      obtain ⟨r1, y, r2, r3⟩ := h2.cell _ i u hj' hu
      refine ⟨r1, y, ?_, r3⟩
      have e : j * sz + i = n * sz + ((j - n) * sz + i) := by
        have : j = n + (j - n) := by omega
        conv => lhs; rw [this, Nat.add_mul]
        omega
      rw [e, hv2 _ (row_off_lt hj' hi)]; exact r2
  refine .sl _ _ _ _ ⟨g, 0, none⟩ cap (fun j i => vs.getD (j * sz + i) undef) (fun _ => rfl) hcap ho hlen (fun j i u hj hu => ?_) (fun j i u hj hu => ?_)
  · have hi : i < sz := by rw [← (hlen j hj).1]; exact (List.getElem?_eq_some_iff.1 hu).1
    obtain ⟨k1, y, k2, k3⟩ := key j i u hj hu
    refine ⟨k1, ?_, by simpa using hI _ (row_off_lt hj hi)⟩
    simp only [Nat.zero_add]
    rw [cell?_cells hg, k2]
    simp [Array.getD_eq_getD_getElem?, k2]
  · obtain ⟨k1, y, k2, k3⟩ := key j i u hj hu
    have : vs.getD (j * sz + i) undef = y := by simp [Array.getD_eq_getD_getElem?, k2]
    rw [this]
    refine k3.ext he fun k hk => ?_
    rw [keys_nil_of (hlen j hj).2 hu] at hk; simp at hk

/-- What an append needs to know of its first operand's owner: K the key from here on. -/
structure Owner (c : Cx) (s : St) (o : Own) (sz n K : Nat) (X : Value) : Prop where
  cases : (o = .fit ∧ s.obj K = none) ∨ (o = .key K ∧ s.obj K = some (.own sz n))
  own : OwnRep c o n X

/-- The append that makes a new row. -/
theorem append_new (h : Rel B c s a) {o : Own} {sz n m K : Nat} {X : Value} (hO : Owner c s o sz n K X) (hm : 0 < m) (hsz : 0 < sz) {vs : Array Value} {e : TypeId} {cap : Nat} (hcap : n + m ≤ cap) (hvs : vs.size = cap * sz)
    {b1 o1 : Nat} {new : List Value} {get get2 : Nat → List AV} (h1 : RowSees c b1 o1 n sz get) (h2 : SrcL c new m sz get2)
    (hv1 : ∀ q, q < n * sz → vs[q]? = some (rd c.w b1 o1 q)) (hv2 : ∀ q, q < m * sz → vs[n * sz + q]? = new[q]?) :
    ∃ c', c'.w = c.w.drew.alloc (.cells vs e) ∧ Rel B c' (s.setObj K (.own sz (n + m))) a ∧
      Sees B c' (s.setObj K (.own sz (n + m))) (.sl (.key K) sz (n + m) (appGet n m get get2)) (.slice (some ⟨c.w.heap.size, 0, none⟩) (n + m) cap) := by
  let c' := c.owns (c.w.drew.alloc (.cells vs e)) (fun b q => c.I b q ∨ (b = c.w.heap.size ∧ q < (n + m) * sz)) K (some (⟨c.w.heap.size, 0, none⟩, cap)) (n + m)
  have hkb : KeepsBut c c' s.objs K := by
    refine owns_keeps (fun _ _ hi => .inl hi) (fun b q v hi hv => ?_) (fun n' v hl hv => ?_) (fun q o' b hq hne hb => ⟨heap_alloc_lt c.w.drew _ _ (excl_lt (h.objs.rep q o' hq) hb), fun off hi => ?_⟩)
    · rw [World.cell?_block (heap_alloc_lt c.w.drew _ b (lt_of_cell hv))]; exact hv
    · obtain ⟨m', f1, f2, _⟩ := hv
      rcases hO.cases with ⟨_, hk⟩ | ⟨_, hk⟩
      · exact absurd rfl (live_ne hk hl)
      · have := (h.objs.rep K _ hk).2.1
        rw [this] at f1
        have := Option.some.inj f1
        exact ⟨n + m, by simp [Cx.owns], by omega, fun e' => by omega⟩
    · rcases hi with hi | ⟨rfl, _⟩
      · exact hi
      · have := excl_lt (h.objs.rep q o' hq) hb; omega
  have hgr : Grow B c c' := by
    refine ⟨rfl, rfl, rfl, by simp [c', Cx.owns], fun b hb _ => heap_alloc_lt c.w.drew _ _ (Nat.lt_of_lt_of_le hb h.frame.size), fun b q hb _ hi => ?_, fun b q hi => ?_⟩
    · rcases hi with hi | ⟨rfl, _⟩
      · exact hi
      · have := h.frame.size; omega
    · rcases hi with hi | ⟨rfl, hq⟩
      · obtain ⟨v', hv⟩ := h.good.there b q hi
        exact ⟨v', hkb.ext.cell b q v' hi hv⟩
      · have hlt : q < vs.size := by rw [hvs]; exact Nat.lt_of_lt_of_le hq (Nat.mul_le_mul_right _ hcap)
        exact ⟨vs[q], by show (c.w.drew.alloc _).cell? ⟨c.w.drew.heap.size, q, none⟩ = _; rw [cell?_cells (heap_alloc_eq c.w.drew _)]; simp⟩
  have hown : OwnRep c' (.key K) (n + m) (.slice (some ⟨c.w.heap.size, 0, none⟩) (n + m) cap) := ⟨n + m, by simp [c', Cx.owns], Nat.le_refl _, fun _ => by simp [c', Cx.owns, slOf]⟩
  refine ⟨c', rfl, h.obj hkb hgr ⟨hsz, by simp [c', Cx.owns], ?_⟩ ?_ (by simp [AO.keys]) ?_, ⟨?_, fun q hq => ?_, rfl⟩⟩
  · simp only [c', Cx.owns, if_true]
    refine ⟨(fun _ => trivial), hcap, fun _ => ⟨⟨vs, e, heap_alloc_eq c.w.drew _, hvs⟩, rfl, fun q hq hi => ?_⟩⟩
    rcases hi with hi | ⟨_, hq'⟩
    · obtain ⟨v', hv⟩ := h.good.there _ _ hi
      have := lt_of_cell hv
      simp at this
    · omega
  · intro q o' b hq hne hb
    have := excl_lt (h.objs.rep q o' hq) hb
    simp only [excl, c', Cx.owns, if_true]
    intro e'
    split at e'
    · have h9 : c.w.heap.size = b := Option.some.inj e'
      omega
    · simp at e'
  · intro b hb
    simp only [excl, c', Cx.owns, if_true] at hb
    have := h.frame.size
    split at hb
    · have h9 : c.w.heap.size = b := Option.some.inj hb
      left; omega
    · simp at hb
  · exact append_row h1 h2 hkb.ext (heap_alloc_eq c.w.drew _) hv1 hv2 (fun q hq => .inr ⟨rfl, hq⟩) hcap hown
  · simp [AV.keys] at hq; subst hq; exact live_aput_self

/-- The append into the room that is there. -/
theorem append_in (h : Rel B c s a) {sz n m K : Nat} (hk : s.obj K = some (.own sz n)) (hm : 0 < m) {g cap : Nat} (hκ : c.κ K = some (⟨g, 0, none⟩, cap)) (hcap : n + m ≤ cap) {cur : Array Value} {e : TypeId} (hh : c.w.heap[g]? = some (.cells cur e (0, 0)))
    (hcs : cur.size = cap * sz) (hfree : ∀ q, n * sz ≤ q → ¬ c.I g q) {new : List Value} {get get2 : Nat → List AV} (h1 : RowSees c g 0 n sz get) (hI1 : ∀ q, q < n * sz → c.I g (0 + q)) (h2 : SrcL c new m sz get2) :
    ∃ c', c'.w = c.w.setRow g (cur.toList.take (n * sz) ++ new ++ cur.toList.drop (n * sz + new.length)).toArray ∧ Rel B c' (s.setObj K (.own sz (n + m))) a ∧
      Sees B c' (s.setObj K (.own sz (n + m))) (.sl (.key K) sz (n + m) (appGet n m get get2)) (.slice (some ⟨g, 0, none⟩) (n + m) cap) := by
  have hrepK := h.objs.rep K _ hk
  have hsz : 0 < sz := hrepK.1
  have hexcl : excl c K (.own sz n) = some g := by simp [excl, hκ]; omega
  have hfit : n * sz + new.length ≤ cur.size := by rw [h2.size, hcs, ← Nat.add_mul]; exact Nat.mul_le_mul_right _ hcap
  obtain ⟨g1, g2⟩ := getD_splice cur (n * sz) new hfit
  generalize hvs : (cur.toList.take (n * sz) ++ new ++ cur.toList.drop (n * sz + new.length)).toArray = vs at g1 g2
  have hW : Wrote c g (c.w.setRow g vs) := wrote_setRow rfl
  have hg' : (c.w.setRow g vs).heap[g]? = some (.cells vs e (0, 0)) := setRow_heap _ _ _ _ _ _ hh
  have get1 : ∀ q, q < cur.size → vs[q]? = some (if n * sz ≤ q ∧ q < n * sz + new.length then new.getD (q - n * sz) undef else cur.getD q undef) := by
    intro q hq
    have hq' : q < vs.size := by omega
    have := g2 q hq
    rw [← this]
    simp [Array.getD_eq_getD_getElem?, hq']
  let c' := c.owns (c.w.setRow g vs) (fun b q => c.I b q ∨ (b = g ∧ n * sz ≤ q ∧ q < (n + m) * sz)) K (some (⟨g, 0, none⟩, cap)) (n + m)
  have hkb : KeepsBut c c' s.objs K := by
    refine owns_keeps (fun _ _ hi => .inl hi) (fun b q v hi hv => ?_) (fun n' v hl hv => ?_) (fun q o' b hq hne hb => ?_)
    · by_cases e' : b = g
      · subst e'
        have hq : q < n * sz := by
          rcases Nat.lt_or_ge q (n * sz) with h' | h'
          · exact h'
          · exact absurd hi (hfree q h')
        rw [cell?_cells hg', get1 q (by omega), if_neg (by omega)]
        rw [cell?_cells hh] at hv
        simp [Array.getD_eq_getD_getElem?, hv]
      · rw [World.cell?_block (hW.other b e')]; exact hv
    · obtain ⟨m', f1, f2, _⟩ := hv
      rw [hrepK.2.1] at f1
      have := Option.some.inj f1
      exact ⟨n + m, by simp [Cx.owns], by omega, fun e' => by omega⟩
    · have hne' : b ≠ g := by
        rintro rfl
        exact h.objs.apart q o' K _ b hq hk hne hb hexcl
      refine ⟨hW.other b hne', fun off hi => ?_⟩
      rcases hi with hi | ⟨e', _⟩
      · exact hi
      · exact absurd e' hne'
  have hgr : Grow B c c' := by
    refine ⟨rfl, rfl, rfl, by simp [c', Cx.owns], fun b hb hd => hW.other b ?_, fun b q hb hd hi => ?_, fun b q hi => ?_⟩
    · rintro rfl
      rcases h.mine K _ b hk hexcl with h' | h'
      · omega
      · exact hd h'
    · rcases hi with hi | ⟨rfl, _⟩
      · exact hi
      · rcases h.mine K _ b hk hexcl with h' | h'
        · omega
        · exact absurd h' hd
    · rcases hi with hi | ⟨rfl, _, hq⟩
      · obtain ⟨v', hv⟩ := h.good.there b q hi
        exact ⟨v', hkb.ext.cell b q v' hi hv⟩
      · have hlt : q < vs.size := by rw [g1, hcs]; exact Nat.lt_of_lt_of_le hq (Nat.mul_le_mul_right _ hcap)
        exact ⟨vs[q], by show (c.w.setRow b vs).cell? _ = _; rw [cell?_cells hg']; simp⟩
  have hown : OwnRep c' (.key K) (n + m) (.slice (some ⟨g, 0, none⟩) (n + m) cap) := ⟨n + m, by simp [c', Cx.owns], Nat.le_refl _, fun _ => by simp [c', Cx.owns, slOf]⟩
  have hexcl' : ∀ b, excl c' K (.own sz (n + m)) = some b → b = g := by
    intro b hb
    simp only [excl, c', Cx.owns, if_true] at hb
    split at hb
    · exact (Option.some.inj hb).symm
    · simp at hb
  refine ⟨c', by simp [c', Cx.owns], h.obj hkb hgr ⟨hsz, by simp [c', Cx.owns], ?_⟩ ?_ (by simp [AO.keys]) ?_, ⟨?_, fun q hq => ?_, rfl⟩⟩
  · simp only [c', Cx.owns, if_true]
    refine ⟨(fun _ => trivial), hcap, fun _ => ⟨⟨vs, e, hg', by rw [g1, hcs]⟩, rfl, fun q hq hi => ?_⟩⟩
    rcases hi with hi | ⟨_, _, hq'⟩
    · exact hfree q (by rw [Nat.add_mul] at hq; omega) hi
    · omega
  · intro q o' b hq hne hb e'
    have := hexcl' b e'
    subst this
    exact h.objs.apart q o' K _ b hq hk hne hb hexcl
  · intro b hb
    rw [hexcl' b hb]; exact h.mine K _ g hk hexcl
  · refine append_row h1 h2 hkb.ext hg' (fun q hq => ?_) (fun q hq => ?_) (fun q hq => ?_) hcap hown
    · have hlt : q < cur.size := by omega
      rw [get1 q hlt, if_neg (by omega)]
      have := (h1.at hq).1
      simp only [Nat.zero_add] at this
      rw [cell?_cells hh] at this
      simp [Array.getD_eq_getD_getElem?, this]
    · rw [h2.size] at hfit
      rw [get1 _ (by omega), if_pos (by rw [h2.size]; omega)]
      have e5 : n * sz + q - n * sz = q := by omega
      have hq' : q < new.length := by rw [h2.size]; exact hq
      rw [e5, List.getD_eq_getElem?_getD, List.getElem?_eq_getElem hq']; rfl
    · by_cases hlt : q < n * sz
      · left
        have := hI1 q hlt
        simpa using this
      · exact .inr ⟨rfl, by omega, hq⟩
  · simp [AV.keys] at hq; subst hq; exact live_aput_self
end Go.Ab

namespace Go.Ab
open Go Go.RowKit
variable {P : Program} {B : Base} {c : Cx} {s : St} {a : Act}

theorem Rep.reown {o o' : Own} {sz sz' n : Nat} {get get' : Nat → List AV} {X : Value} (h : Rep c (.sl o sz n get) X) (hs : n = 0 ∨ sz = sz') (hg : ∀ j, j < n → get' j = get j) (ho : OwnRep c o' n X) : Rep c (.sl o' sz' n get') X := by
  cases h with
  | slNil => exact .slNil _ _ _ ho
  | sl _ _ _ _ ad cap vals h1 h2 h3 h4 h5 h6 =>
    rcases hs with rfl | rfl
    · exact .sl _ _ _ _ ad cap vals h1 h2 ho (fun j hj => by omega) (fun j i u hj => by omega) (fun j i u hj => by omega)
    · exact .sl _ _ _ _ ad cap vals h1 h2 ho (fun j hj => by rw [hg j hj]; exact h4 j hj) (fun j i u hj hu => h5 j i u hj (by rwa [hg j hj] at hu)) (fun j i u hj hu => h6 j i u hj (by rwa [hg j hj] at hu))

/-- Nothing is appended: the slice has an owner, and stands as it stood. -/
theorem append_zero' (h : Rel B c s a) {o : Own} {sz sz0 n K : Nat} {get get' : Nat → List AV} {X : Value} (hsz : 0 < sz) (hx : Rep c (.sl o sz0 n get) X) (hO : Owner c s o sz n K X) (hs : n = 0 ∨ sz0 = sz) (hg : ∀ j, j < n → get' j = get j) :
    ∃ c', c'.β = c.β ∧ c'.w = c.w ∧ Rel B c' (s.setObj K (.own sz n)) a ∧ Sees B c' (s.setObj K (.own sz n)) (.sl (.key K) sz n get') X := by
  -- the place of the slice
  obtain ⟨κ', e1, e2⟩ : ∃ κ', X = slOf κ' n ∧ (match κ' with
      | none => n = 0
      | some (ad, cap) => (0 < cap → ad.spot = none) ∧ n ≤ cap ∧ (n < cap → RoomAt c ad sz n cap ∧ (s.obj K = some (.own sz n) ∧ c.κ K = some (ad, cap)))) := by
    rcases hO.cases with ⟨rfl, _⟩ | ⟨rfl, hk⟩
    · have ho := hO.own
      cases hx with
      | slNil => exact ⟨none, rfl, rfl⟩
      | sl _ _ _ _ ad cap vals h1 h2 h3 h4 h5 h6 =>
        have : cap = n := ho
        subst this
        exact ⟨some (ad, cap), rfl, h1, Nat.le_refl _, fun hlt => by omega⟩
    · obtain ⟨m', f1, f2, f3⟩ := hO.own
      have hr := h.objs.rep K _ hk
      rw [hr.2.1] at f1
      have := Option.some.inj f1
      subst this
      refine ⟨c.κ K, f3 rfl, ?_⟩
      have := hr.2.2
      cases hκ : c.κ K with
      | none => simpa [hκ] using this
      | some p =>
        obtain ⟨ad, cap⟩ := p
        simp only [hκ] at this
        exact ⟨this.1, this.2.1, fun hlt => ⟨this.2.2 hlt, hk, rfl⟩⟩
  let c' := c.owns c.w c.I K κ' n
  have hkb : KeepsBut c c' s.objs K := by
    refine owns_keeps (fun _ _ hi => hi) (fun _ _ _ _ hv => hv) (fun n' v hl hv => ?_) (fun _ _ _ _ _ _ => ⟨rfl, fun _ hi => hi⟩)
    rcases hO.cases with ⟨_, hk⟩ | ⟨rfl, hk⟩
    · exact absurd rfl (live_ne hk hl)
    · obtain ⟨m', f1, f2, f3⟩ := hv
      have hr := h.objs.rep K _ hk
      rw [hr.2.1] at f1
      have := Option.some.inj f1
      subst this
      refine ⟨n, by simp [Cx.owns], f2, fun e => ?_⟩
      subst e
      obtain ⟨m'', g1, g2, g3⟩ := hO.own
      rw [hr.2.1] at g1
      have := Option.some.inj g1
      rw [f3 rfl, ← g3 this, e1]
      simp [Cx.owns]
  have hgr : Grow B c c' := ⟨rfl, rfl, rfl, Nat.le_refl _, fun _ _ _ => rfl, fun _ _ _ _ hi => hi, h.good.there⟩
  have hexcl : ∀ b, excl c' K (.own sz n) = some b → s.obj K = some (.own sz n) ∧ excl c K (.own sz n) = some b := by
    intro b hb
    simp only [excl, c', Cx.owns, if_true] at hb
    cases κ' with
    | none => simp at hb
    | some p =>
      obtain ⟨ad, cap⟩ := p
      simp only at hb e2
      split at hb
      · rename_i hlt
        obtain ⟨_, hk, hκ⟩ := e2.2.2 hlt
        exact ⟨hk, by simp [excl, hκ, hlt]; exact Option.some.inj hb⟩
      · simp at hb
  refine ⟨c', rfl, rfl, h.obj hkb hgr ⟨hsz, by simp [c', Cx.owns], ?_⟩ (fun q o' b hq hne hb e => ?_) (by simp [AO.keys]) (fun b hb => ?_), ⟨?_, fun q hq => ?_, rfl⟩⟩
  · simp only [c', Cx.owns, if_true]
    cases κ' with
    | none => exact e2
    | some p =>
      obtain ⟨ad, cap⟩ := p
      refine ⟨e2.1, e2.2.1, fun hlt => ?_⟩
      obtain ⟨⟨r1, r2, r3⟩, _⟩ := e2.2.2 hlt
      exact ⟨r1, r2, r3⟩
  · obtain ⟨hk, hb'⟩ := hexcl b e
    exact h.objs.apart q o' K _ b hq hk hne hb hb'
  · obtain ⟨hk, hb'⟩ := hexcl b hb
    exact h.mine K _ b hk hb'
  · have hx' : Rep c' (.sl .no sz0 n get) X := by
      have hx0 : Rep c (.sl .no sz0 n get) X := hx.reown (.inr rfl) (fun _ _ => rfl) trivial
      exact hx0.ext (ks := live s.objs) hkb.ext (by simp [AV.keys])
    exact hx'.reown hs hg ⟨n, by simp [c', Cx.owns], Nat.le_refl _, fun _ => by rw [e1]; simp [c', Cx.owns]⟩
  · simp [AV.keys] at hq; subst hq; exact live_aput_self
theorem append_zero (h : Rel B c s a) {o : Own} {sz sz0 n K : Nat} {get get' : Nat → List AV} {X : Value} (hsz : 0 < sz) (hx : Rep c (.sl o sz0 n get) X) (hO : Owner c s o sz n K X) (hs : n = 0 ∨ sz0 = sz) (hg : ∀ j, j < n → get' j = get j) :
    ∃ c', c'.w = c.w ∧ Rel B c' (s.setObj K (.own sz n)) a ∧ Sees B c' (s.setObj K (.own sz n)) (.sl (.key K) sz n get') X := by
  obtain ⟨c', _, h'⟩ := append_zero' (get' := get') h hsz hx hO hs hg
  exact ⟨c', h'⟩

theorem append_room_run {t ty e : TypeId} {i : TypeInfo} {sz : Nat} (ht : P.underlying t = some (.slice e)) (hi : P.info? e = some i) (hs : i.size = sz) {w : World}
    {g sLen sCap : Nat} {cur : Array Value} {e' : TypeId} (hg : w.heap[g]? = some (.cells cur e' (0, 0)))
    {ad : Addr} {m cc : Nat} {news : List Value} (hl : news.length = m * sz) (hnews : ∀ j u, news[j]? = some u → w.cell? (ad.add j) = some u) (h1 : ∀ u ∈ news, u.oneCell' = true)
    (hroom : sLen + m ≤ sCap) (hfit : sLen * sz + news.length ≤ cur.size) :
    (Builtin.append_ #[t, t] ty #[.slice (some ⟨g, 0, none⟩) sLen sCap, .slice (some ad) m cc]).run P w =
      .ok (.slice (some ⟨g, 0, none⟩) (sLen + m) sCap) (w.setRow g (cur.toList.take (sLen * sz) ++ news ++ cur.toList.drop (sLen * sz + news.length)).toArray) := by
  subst hs
  have hf := run_firstCells_some (P := P) w i.size m ad m cc news hl hnews
  have hst := run_storeCells_at P g (sLen * i.size) e' news 0 cur w hg (by simpa using hfit) h1
  simp only [Nat.add_zero] at hst
  simp [Builtin.append_, run_underlying ht, sizeOf, typeInfo, hi, Builtin.lenOf, hroom, hf, Addr.add_lit, hst]

theorem append_room_str {t u ty e : TypeId} {i : TypeInfo} (ht : P.underlying t = some (.slice e)) (hu : P.underlying u = some .string) (hi : P.info? e = some i) (hs1 : i.size = 1) {w : World}
    {g sLen sCap : Nat} {cur : Array Value} {e' : TypeId} (hg : w.heap[g]? = some (.cells cur e' (0, 0))) {b : List UInt8}
    (hroom : sLen + b.length ≤ sCap) (hfit : sLen + b.length ≤ cur.size) :
    (Builtin.append_ #[t, u] ty #[.slice (some ⟨g, 0, none⟩) sLen sCap, .string ⟨b.toArray⟩]).run P w =
      .ok (.slice (some ⟨g, 0, none⟩) (sLen + b.length) sCap) (w.setRow g (cur.toList.take sLen ++ Lib.strCells ⟨b.toArray⟩ ++ cur.toList.drop (sLen + b.length)).toArray) := by
  have hbs : (⟨b.toArray⟩ : ByteArray).size = b.length := by simp [ByteArray.size]
  have hl : (Lib.strCells ⟨b.toArray⟩).length = b.length := by simp [Lib.strCells]
  have hf := Lib.run_firstCells_string (P := P) w 1 ⟨b.toArray⟩
  have hst := run_storeCells_at P g sLen e' (Lib.strCells ⟨b.toArray⟩) 0 cur w hg (by simpa [hl] using hfit) (Lib.strCells_oneCell _)
  simp only [Nat.add_zero, hl] at hst
  rw [hbs] at hf
  simp [Builtin.append_, run_underlying ht, run_underlying hu, sizeOf, typeInfo, hi, hs1, Builtin.lenOf, hbs, hroom, hf, Addr.add_lit, hst]
theorem appendA_core (h : Rel B c s a) {t ty e : TypeId} {o : Own} {sz sz0 n sz2 m K : Nat} {get get2 : Nat → List AV} {X Y : Value} {y : AV} {i : TypeInfo} {z : List AV} (hu : P.underlying t = some (.slice e))
    (hi : P.info? e = some i) (hsz : sizeOf? P e = some sz) (hz : zeroCells P e = some z) (hzl : z.length = sz) (h0 : 0 < sz) (hb : 0 < i.bytes) (hx : Rep c (.sl o sz0 n get) X) (hy : Rep c y Y) (hsrc : srcA s y = some (sz2, m, get2))
    (hO : Owner c s o sz n K X) (hs1 : n = 0 ∨ sz0 = sz) (hs2 : m = 0 ∨ sz2 = sz) (hroom : (n + m) * i.bytes ≤ 140737488355328) :
    ∃ V c', (Builtin.append_ #[t, t] ty #[X, Y]).run P c.w = .ok V c'.w ∧ Rel B c' (s.setObj K (.own sz (n + m))) a ∧ Sees B c' (s.setObj K (.own sz (n + m))) (.sl (.key K) sz (n + m) (appGet n m get get2)) V := by
  obtain ⟨i', zv, hi', hzv, hcz⟩ := zeroCells_inv hz
  have : i' = i := by rw [hi] at hi'; exact (Option.some.inj hi').symm
  subst this
  have hisz : i'.size = sz := by unfold sizeOf? at hsz; simp [hi] at hsz; exact hsz
  obtain ⟨hzc, _⟩ := zero_CR (c := c) hcz
  have hzs : zv.cells.size = sz := by rw [hzc.1, hzl]
  have hnm : n + m ≤ 140737488355328 := Nat.le_trans (Nat.le_mul_of_pos_right _ hb) hroom
  have hmem : n ≤ n + m := Nat.le_add_right _ _
  -- the row as it is read, in the stride of the element's type
  have hx' : Rep c (.sl o sz n get) X := hx.reown hs1 (fun _ _ => rfl) (by
    cases hx with
    | slNil _ _ _ ho => exact ho
    | sl _ _ _ _ ad cap vals h1 h2 h3 h4 h5 h6 => exact h3)
  by_cases hm : m = 0
  · subst hm
    have hY : Y = .slice none 0 0 ∨ ∃ ad cc, Y = .slice (some ad) 0 cc := by
      rcases srcA_sound h hy hsrc with ⟨rfl, _⟩ | ⟨b, of, sp, cap, _, rfl, _⟩
      · exact .inl rfl
      · exact .inr ⟨_, _, rfl⟩
    obtain ⟨c', e1, e2, e3⟩ := append_zero h (get' := appGet n 0 get get2) h0 hx hO hs1 (fun j hj => appGet_lt hj)
    refine ⟨X, c', ?_, e2, e3⟩
    rw [e1]
    rcases slice_row hx rfl with ⟨rfl, rfl, _⟩ | ⟨b, of, sp, cap, _, rfl, hle, _⟩
    · exact append_none hu hi (Nat.le_refl _) hY c.w
    · exact append_none hu hi hle hY c.w
  · have hm0 : 0 < m := Nat.pos_of_ne_zero hm
    have hs2 : sz2 = sz := hs2.resolve_left hm
    subst hs2
    rcases srcA_sound h hy hsrc with ⟨_, e⟩ | ⟨b2, o2, sp2, cap2, hsp2, rfl, _, hlen2, hcell2⟩
    · omega
    obtain rfl := hsp2 hm0
    have h2 : RowSees c b2 o2 m sz2 get2 := ⟨hlen2, hcell2⟩
    have hc2 := h2.cells
    have hzsz : ∀ k, (Builtin.zeroCells zv.cells k).size = k * sz2 := fun k => by rw [size_zeroCells, hzs]
    rcases slice_row hx' rfl with ⟨rfl, rfl, _⟩ | ⟨b1, o1, sp1, cap, hsp1, rfl, hle, _, h1, hI1⟩
    · have hrun := run_append_nil (P := P) (w := c.w) t ty e i' zv hu hi hzv ⟨b2, o2, none⟩ m cap2 (rdL c.w b2 o2 (m * sz2)) (by rw [rdL_length, hisz]) hc2.1 hm0 (by omega) (by simp only [Nat.zero_add] at hroom; omega)
      have hge := grownCap_ge c.w m 0 e
      generalize grownCap c.w m 0 e = nc at hrun hge
      obtain ⟨c', e1, e2, e3⟩ := append_new h (vs := (rdL c.w b2 o2 (m * sz2)).toArray ++ Builtin.zeroCells zv.cells (nc - m)) (e := e) (cap := nc) hO hm0 h0 (by omega) (by
        simp only [Array.size_append, List.size_toArray, rdL_length, hzsz, ← Nat.add_mul]; congr 1; omega)
        (b1 := 0) (o1 := 0) (get := get) ⟨fun j hj => by omega, fun j i u hj => by omega⟩ h2.src (fun q hq => by omega) (fun q hq => by
          simp only [Nat.zero_mul, Nat.zero_add, Array.getElem?_append]
          rw [if_pos (by simpa [rdL_length] using hq)]
          simp)
      simp only [Nat.zero_add] at e2 e3 ⊢
      exact ⟨_, c', by rw [e1]; exact hrun, e2, e3⟩
    · by_cases hroom' : n + m ≤ cap
      · -- into the room
        obtain rfl := hsp1 (by omega)
        rcases hO.cases with ⟨rfl, _⟩ | ⟨rfl, hk⟩
        · have : cap = n := hO.own
          omega
        · obtain ⟨m', f1, f2, f3⟩ := hO.own
          have hr := h.objs.rep K _ hk
          rw [hr.2.1] at f1
          have := Option.some.inj f1
          subst this
          have hX := f3 rfl
          have hr2 := hr.2.2
          cases hκ : c.κ K with
          | none => rw [hκ] at hX; simp [slOf] at hX
          | some p =>
            obtain ⟨ad, cap'⟩ := p
            rw [hκ] at hX
            simp [slOf] at hX
            obtain ⟨rfl, rfl⟩ := hX
            simp only [hκ] at hr2
            obtain ⟨⟨cur, e', hh, hcs⟩, hoff, hfree⟩ := hr2.2.2 (by omega)
            simp only at hoff hh hfree
            subst hoff
            have hrun := append_room_run (P := P) (ty := ty) (w := c.w) (ad := ⟨b2, o2, none⟩) (m := m) (cc := cap2) (sLen := n) (sCap := cap) hu hi hisz hh (rdL_length c.w b2 o2 (m * sz2)) hc2.1 hc2.2 hroom' (by rw [rdL_length, hcs, ← Nat.add_mul]; exact Nat.mul_le_mul_right _ hroom')
            obtain ⟨c', e1, e2, e3⟩ := append_in h hk hm0 hκ hroom' hh hcs hfree h1 hI1 h2.src
            exact ⟨_, c', by rw [e1]; exact hrun, e2, e3⟩
      · have hload : ∀ (j : Nat) (v : Value), (rdL c.w b1 o1 (n * sz2))[j]? = some v → c.w.cell? ((⟨b1, o1, sp1⟩ : Addr).add j) = some v := by
          by_cases hc0 : 0 < cap
          · obtain rfl := hsp1 hc0
            exact h1.cells.1
          · obtain rfl : n = 0 := by omega
            intro j v hj
            rw [List.getElem?_eq_none (by rw [rdL_length]; omega)] at hj
            cases hj
        have hrun := run_append_grow (P := P) (w := c.w) t ty e i' zv hu hi hzv ⟨b1, o1, sp1⟩ n cap (rdL c.w b1 o1 (n * sz2)) (by rw [rdL_length, hisz]) hload ⟨b2, o2, none⟩ m cap2 (rdL c.w b2 o2 (m * sz2)) (by rw [rdL_length, hisz]) hc2.1 (by omega) (by omega) (growslice_fits (by omega) hroom)
        have hge := grownCap_ge c.w (n + m) cap e
        generalize grownCap c.w (n + m) cap e = nc at hrun hge
        obtain ⟨c', e1, e2, e3⟩ := append_new h (vs := (rdL c.w b1 o1 (n * sz2)).toArray ++ (rdL c.w b2 o2 (m * sz2)).toArray ++ Builtin.zeroCells zv.cells (nc - (n + m))) (e := e) (cap := nc) hO hm0 h0 hge (by
          simp only [Array.size_append, List.size_toArray, rdL_length, hzsz, ← Nat.add_mul]; congr 1; omega)
          h1 h2.src (fun q hq => by
            rw [Array.append_assoc, Array.getElem?_append, if_pos (by simpa [rdL_length] using hq)]
            simpa using rdL_at _ _ _ _ _ hq) (fun q hq => by
            rw [Array.getElem?_append, if_pos (by simp [rdL_length]; omega), Array.getElem?_append, if_neg (by simp [rdL_length])]
            simp only [List.size_toArray, rdL_length]
            have e5 : n * sz2 + q - n * sz2 = q := by omega
            rw [e5]
            simp)
        exact ⟨_, c', by rw [e1]; exact hrun, e2, e3⟩

/-- A string's bytes, as cells that are appended. -/
theorem strCells_src (b : List UInt8) : SrcL c (Lib.strCells ⟨b.toArray⟩) b.length 1 (rowOf b) := by
  have hl : (Lib.strCells ⟨b.toArray⟩).length = b.length := by simp [Lib.strCells]
  refine ⟨by rw [hl, Nat.mul_one], fun j hj => ⟨rfl, rfl⟩, fun j i u hj hu => ?_⟩
  have hi : i = 0 := by
    cases i with
    | zero => rfl
    | succ i => simp [rowOf] at hu
  subst hi
  simp only [rowOf, List.getElem?_cons_zero, Option.some.injEq] at hu
  subst hu
  refine ⟨rfl, .int .u8 (b.getD j 0).toNat, ?_, .int _ _⟩
  simp only [Lib.strCells, Nat.mul_one, Nat.add_zero, List.getElem?_map, List.getD_eq_getElem?_getD, List.getElem?_eq_getElem hj]
  simp [hj]
theorem appendS_core (h : Rel B c s a) {t u ty e : TypeId} {o : Own} {sz0 n K : Nat} {get : Nat → List AV} {X : Value} {b : List UInt8} {i : TypeInfo} {z : List AV} (hu : P.underlying t = some (.slice e)) (hus : P.underlying u = some .string)
    (hi : P.info? e = some i) (hsz : sizeOf? P e = some 1) (hz : zeroCells P e = some z) (hzl : z.length = 1) (hb : 0 < i.bytes) (hx : Rep c (.sl o sz0 n get) X)
    (hO : Owner c s o 1 n K X) (hs1 : n = 0 ∨ sz0 = 1) (hroom : (n + b.length) * i.bytes ≤ 140737488355328) :
    ∃ V c', (Builtin.append_ #[t, u] ty #[X, .string ⟨b.toArray⟩]).run P c.w = .ok V c'.w ∧ Rel B c' (s.setObj K (.own 1 (n + b.length))) a ∧ Sees B c' (s.setObj K (.own 1 (n + b.length))) (.sl (.key K) 1 (n + b.length) (appGet n b.length get (rowOf b))) V := by
  obtain ⟨i', zv, hi', hzv, hcz⟩ := zeroCells_inv hz
  have : i' = i := by rw [hi] at hi'; exact (Option.some.inj hi').symm
  subst this
  have hisz : i'.size = 1 := by unfold sizeOf? at hsz; simp [hi] at hsz; exact hsz
  obtain ⟨hzc, _⟩ := zero_CR (c := c) hcz
  have hzs : zv.cells.size = 1 := by rw [hzc.1, hzl]
  have hnm : n + b.length ≤ 140737488355328 := Nat.le_trans (Nat.le_mul_of_pos_right _ hb) hroom
  have hbs : (⟨b.toArray⟩ : ByteArray).size = b.length := by simp [ByteArray.size]
  have h2 := strCells_src (c := c) b
  have hl : (Lib.strCells ⟨b.toArray⟩).length = b.length := by rw [h2.size, Nat.mul_one]
  have hx' : Rep c (.sl o 1 n get) X := hx.reown hs1 (fun _ _ => rfl) (by
    cases hx with
    | slNil _ _ _ ho => exact ho
    | sl _ _ _ _ ad cap vals h1 h2 h3 h4 h5 h6 => exact h3)
  by_cases hm : b.length = 0
  · have hb0 : b = [] := List.length_eq_zero_iff.1 hm
    subst hb0
    obtain ⟨c', e1, e2, e3⟩ := append_zero h (get' := appGet n 0 get (rowOf [])) (Nat.succ_pos 0) hx hO hs1 (fun j hj => appGet_lt hj)
    refine ⟨X, c', ?_, e2, e3⟩
    rw [e1]
    rcases slice_row hx rfl with ⟨rfl, rfl, _⟩ | ⟨b, of, sp, cap, _, rfl, hle, _⟩ <;>
      simp [Builtin.append_, run_underlying hu, run_underlying hus, sizeOf, typeInfo, hi, Builtin.lenOf, Builtin.firstCells, storeCells, ByteArray.size, *]
  · have hm0 : 0 < b.length := Nat.pos_of_ne_zero hm
    have hzsz : ∀ k, (Builtin.zeroCells zv.cells k).size = k * 1 := fun k => by rw [size_zeroCells, hzs]
    rcases slice_row hx' rfl with ⟨rfl, rfl, _⟩ | ⟨b1, o1, sp1, cap, hsp1, rfl, hle, _, h1, hI1⟩
    · have hrun := run_append_nil_string (P := P) (w := c.w) t u ty e i' zv hu hus hi hzv ⟨b.toArray⟩ (by rw [hbs]; exact hm0) (by rw [hbs]; omega) (by rw [hbs]; simp only [Nat.zero_add] at hroom; omega)
      rw [hbs] at hrun
      have hge := grownCap_ge c.w b.length 0 e
      generalize grownCap c.w b.length 0 e = nc at hrun hge
      have hcells : (⟨b.toArray⟩ : ByteArray).data.map (fun b => Value.int .u8 b.toNat) = (Lib.strCells ⟨b.toArray⟩).toArray := by simp [Lib.strCells]
      rw [hcells] at hrun
      obtain ⟨c', e1, e2, e3⟩ := append_new h (vs := (Lib.strCells ⟨b.toArray⟩).toArray ++ Builtin.zeroCells zv.cells (nc - b.length)) (e := e) (cap := nc) hO hm0 (Nat.succ_pos 0) (by omega) (by
        simp only [Array.size_append, List.size_toArray, hl, hzsz]; omega)
        (b1 := 0) (o1 := 0) (get := get) ⟨fun j hj => by omega, fun j i u hj => by omega⟩ h2 (fun q hq => by omega) (fun q hq => by
          simp only [Nat.zero_mul, Nat.zero_add, Array.getElem?_append]
          rw [if_pos (by simp only [List.size_toArray, hl]; omega)]
          simp)
      simp only [Nat.zero_add] at e2 e3 ⊢
      exact ⟨_, c', by rw [e1]; exact hrun, e2, e3⟩
    · by_cases hroom' : n + b.length ≤ cap
      · obtain rfl := hsp1 (by omega)
        rcases hO.cases with ⟨rfl, _⟩ | ⟨rfl, hk⟩
        · have : cap = n := hO.own
          omega
        · obtain ⟨m', f1, f2, f3⟩ := hO.own
          have hr := h.objs.rep K _ hk
          rw [hr.2.1] at f1
          have := Option.some.inj f1
          subst this
          have hX := f3 rfl
          have hr2 := hr.2.2
          cases hκ : c.κ K with
          | none => rw [hκ] at hX; simp [slOf] at hX
          | some p =>
            obtain ⟨ad, cap'⟩ := p
            rw [hκ] at hX
            simp [slOf] at hX
            obtain ⟨rfl, rfl⟩ := hX
            simp only [hκ] at hr2
            obtain ⟨⟨cur, e', hh, hcs⟩, hoff, hfree⟩ := hr2.2.2 (by omega)
            simp only at hoff hh hfree
            subst hoff
            have hrun := append_room_str (P := P) (ty := ty) (w := c.w) (b := b) (sLen := n) (sCap := cap) hu hus hi hisz hh hroom' (by rw [hcs]; omega)
            obtain ⟨c', e1, e2, e3⟩ := append_in h hk hm0 hκ hroom' hh hcs hfree h1 hI1 h2
            simp only [Nat.mul_one, hl] at e1
            exact ⟨_, c', by rw [e1]; exact hrun, e2, e3⟩
      · have hload : ∀ (j : Nat) (v : Value), (rdL c.w b1 o1 (n * 1))[j]? = some v → c.w.cell? ((⟨b1, o1, sp1⟩ : Addr).add j) = some v := by
          by_cases hc0 : 0 < cap
          · obtain rfl := hsp1 hc0
            exact h1.cells.1
          · obtain rfl : n = 0 := by omega
            intro j v hj
            rw [List.getElem?_eq_none (by rw [rdL_length]; omega)] at hj
            cases hj
        have hrun := Lib.run_append_grow_string (P := P) (w := c.w) t u ty e i' zv hu hus hi hzv ⟨b1, o1, sp1⟩ n cap (rdL c.w b1 o1 (n * 1)) (by rw [rdL_length, hisz]) hload ⟨b.toArray⟩ (by rw [hbs]; omega) (by rw [hbs]; omega) (by rw [hbs]; exact growslice_fits (by omega) hroom)
        rw [hbs] at hrun
        have hge := grownCap_ge c.w (n + b.length) cap e
        generalize grownCap c.w (n + b.length) cap e = nc at hrun hge
        obtain ⟨c', e1, e2, e3⟩ := append_new h (vs := (rdL c.w b1 o1 (n * 1)).toArray ++ (Lib.strCells ⟨b.toArray⟩).toArray ++ Builtin.zeroCells zv.cells (nc - (n + b.length))) (e := e) (cap := nc) hO hm0 (Nat.succ_pos 0) hge (by
          simp only [Array.size_append, List.size_toArray, rdL_length, hl, hzsz]; omega)
          h1 h2 (fun q hq => by
            rw [Array.append_assoc, Array.getElem?_append, if_pos (by simpa [rdL_length] using hq)]
            simpa using rdL_at _ _ _ _ _ hq) (fun q hq => by
            rw [Array.getElem?_append, if_pos (by simp only [Array.size_append, List.size_toArray, rdL_length, hl]; omega), Array.getElem?_append, if_neg (by simp only [List.size_toArray, rdL_length]; omega)]
            simp only [List.size_toArray, rdL_length]
            have e5 : n * 1 + q - n * 1 = q := by omega
            rw [e5]
            simp)
        exact ⟨_, c', by rw [e1]; exact hrun, e2, e3⟩
theorem appendS_sound (h : Rel B c s a) {d : Nat} {t u ty : TypeId} {x v : AV} {X : Value} {b : List UInt8} {k : Nat} {ob : AO} (hus : P.underlying u = some .string) (hx : Rep c x X) (he : appendS P s d t x b = some (true, v, k, ob)) :
    ∃ V c', (Builtin.append_ #[t, u] ty #[X, .string ⟨b.toArray⟩]).run P c.w = .ok V c'.w ∧ Rel B c' (s.setObj k ob) a ∧ Sees B c' (s.setObj k ob) v V := by
  unfold appendS at he
  split at he
  · rename_i e hu
    split at he
    · rename_i sz z inf o sz0 n get hsz hz hi hue
      simp only [guardO] at he
      cases hb : (Nat.beq sz 1 && (Nat.blt 0 inf.bytes && (Nat.beq z.length sz && (Nat.beq sz0 sz || Nat.beq n 0)))) with
      | false => simp [hb] at he
      | true =>
        simp only [hb, cond_true] at he
        simp only [Bool.and_eq_true, Bool.or_eq_true] at hb
        obtain ⟨b1, b2, b3, b4⟩ := hb
        have b1 := beqT b1
        subst b1
        have b2 := ltB b2
        have b3 := beqT b3
        have b4 : n = 0 ∨ sz0 = 1 := (b4.imp beqT beqT).symm
        have hown : OwnRep c o n X := by
          cases hx with
          | slNil _ _ _ ho => exact ho
          | sl _ _ _ _ ad cap vals h1 h2 h3 h4 h5 h6 => exact h3
        cases o with
        | no => simp at he
        | fit =>
          simp only at he
          split at he
          · rename_i hd
            simp only [Option.some.injEq, Prod.mk.injEq] at he
            obtain ⟨hr, rfl, rfl, rfl⟩ := he
            exact appendS_core h hu hus hi hsz hz b3 b2 hx ⟨.inl ⟨rfl, hd⟩, hown⟩ b4 (Nat.le_of_ble_eq_true hr)
          · simp at he
        | key q =>
          simp only at he
          split at he
          · rename_i sz1 f hq
            cases hb1 : Nat.beq sz1 1 with
            | false => simp [hb1] at he
            | true =>
              simp only [hb1, cond_true, Option.some.injEq, Prod.mk.injEq, Bool.and_eq_true] at he
              obtain ⟨⟨hr, hf⟩, rfl, rfl, rfl⟩ := he
              have hb1 := beqT hb1
              have hf := beqT hf
              subst hb1; subst hf
              exact appendS_core h hu hus hi hsz hz b3 b2 hx ⟨.inr ⟨rfl, hq⟩, hown⟩ b4 (Nat.le_of_ble_eq_true hr)
          · simp at he
    · simp at he
  · simp at he
theorem appendA_sound (h : Rel B c s a) {d : Nat} {t ty : TypeId} {x y v : AV} {X Y : Value} {k : Nat} {ob : AO} (hx : Rep c x X) (hy : Rep c y Y) (he : appendA P s d t x y = some (true, v, k, ob)) :
    ∃ V c', (Builtin.append_ #[t, t] ty #[X, Y]).run P c.w = .ok V c'.w ∧ Rel B c' (s.setObj k ob) a ∧ Sees B c' (s.setObj k ob) v V := by
  unfold appendA at he
  split at he
  · rename_i e hu
    split at he
    · rename_i sz z inf o sz0 n get sz2 m get2 hsz hz hi hsrc
      simp only [guardO] at he
      cases hb : (Nat.blt 0 sz && (Nat.blt 0 inf.bytes && (Nat.beq z.length sz && ((Nat.beq sz0 sz || Nat.beq n 0) && (Nat.beq sz2 sz || Nat.beq m 0))))) with
      | false => simp [hb] at he
      | true =>
        simp only [hb, cond_true] at he
        simp only [Bool.and_eq_true, Bool.or_eq_true] at hb
        obtain ⟨b1, b2, b3, b4, b5⟩ := hb
        have b1 := ltB b1
        have b2 := ltB b2
        have b3 := beqT b3
        have b4 : n = 0 ∨ sz0 = sz := (b4.imp beqT beqT).symm
        have b5 : m = 0 ∨ sz2 = sz := (b5.imp beqT beqT).symm
        have hown : OwnRep c o n X := by
          cases hx with
          | slNil _ _ _ ho => exact ho
          | sl _ _ _ _ ad cap vals h1 h2 h3 h4 h5 h6 => exact h3
        cases o with
        | no => simp at he
        | fit =>
          simp only at he
          split at he
          · rename_i hd
            simp only [Option.some.injEq, Prod.mk.injEq] at he
            obtain ⟨hr, rfl, rfl, rfl⟩ := he
            exact appendA_core h hu hi hsz hz b3 b1 b2 hx hy hsrc ⟨.inl ⟨rfl, hd⟩, hown⟩ b4 b5 (Nat.le_of_ble_eq_true hr)
          · simp at he
        | key q =>
          simp only at he
          split at he
          · rename_i sz1 f hq
            cases hb1 : Nat.beq sz1 sz with
            | false => simp [hb1] at he
            | true =>
              simp only [hb1, cond_true, Option.some.injEq, Prod.mk.injEq, Bool.and_eq_true] at he
              obtain ⟨⟨hr, hf⟩, rfl, rfl, rfl⟩ := he
              have hb1 := beqT hb1
              have hf := beqT hf
              subst hb1; subst hf
              exact appendA_core h hu hi hsz hz b3 b1 b2 hx hy hsrc ⟨.inr ⟨rfl, hq⟩, hown⟩ b4 b5 (Nat.le_of_ble_eq_true hr)
          · simp at he
    · simp at he
  · simp at he
end Go.Ab

namespace Go.Ab
open Go Go.RowKit
variable {P : Program} {B : Base} {c : Cx} {s : St} {a : Act}

/-- The cells of an appended row, where they stand in a block. -/
theorem grow_cells {c' : Cx} {b1 o1 b2 o2 n m sz : Nat} {get get2 : Nat → List AV} {vs : Array Value} {ks : Nat → Prop} (h1 : RowSees c b1 o1 n sz get) (h2 : RowSees c b2 o2 m sz get2)
    (he : Ext c c' ks) (hv1 : ∀ q, q < n * sz → vs[q]? = some (rd c.w b1 o1 q)) (hv2 : ∀ q, q < m * sz → vs[n * sz + q]? = some (rd c.w b2 o2 q)) :
    (∀ j, j < n + m → (appGet n m get get2 j).length = sz ∧ keysL (appGet n m get get2 j) = []) ∧
    ∀ (j i : Nat) (u : AV), j < n + m → (appGet n m get get2 j)[i]? = some u → u.one = true ∧ Rep c' u (vs.getD (j * sz + i) undef) := by
  have hlen : ∀ j, j < n + m → (appGet n m get get2 j).length = sz ∧ keysL (appGet n m get get2 j) = [] := by
    intro j hj
    by_cases hjn : j < n
    · rw [appGet_lt hjn]; exact h1.len j hjn
    · rw [appGet_ge (by omega) hj]; exact h2.len _ (by omega)
  have key : ∀ (j i : Nat) (u : AV), j < n + m → (appGet n m get get2 j)[i]? = some u → u.one = true ∧ ∃ y, vs[j * sz + i]? = some y ∧ Rep c u y := by
    intro j i u hj hu
    have hi : i < sz := by rw [← (hlen j hj).1]; exact (List.getElem?_eq_some_iff.1 hu).1
    by_cases hjn : j < n
    · rw [appGet_lt hjn] at hu
      exact ⟨(h1.cell j i u hjn hu).1, _, hv1 _ (row_off_lt hjn hi), h1.rep hjn hu⟩
    · rw [appGet_ge (by omega) hj] at hu
      have hj' : j - n < m := by omega
      refine ⟨(h2.cell _ i u hj' hu).1, _, ?_, h2.rep hj' hu⟩
      have e : j * sz + i = n * sz + ((j - n) * sz + i) := by
        have : j = n + (j - n) := by omega
        conv => lhs; rw [this, Nat.add_mul]
        omega
      rw [e]; exact hv2 _ (row_off_lt hj' hi)
  refine ⟨hlen, fun j i u hj hu => ?_⟩
  obtain ⟨k1, y, k2, k3⟩ := key j i u hj hu
  have : vs.getD (j * sz + i) undef = y := by simp [Array.getD_eq_getD_getElem?, k2]
  rw [this]
  refine ⟨k1, k3.ext he fun k hk => ?_⟩
  rw [keys_nil_of (hlen j hj).2 hu] at hk; simp at hk

/-- The operand's owner: K the key from here on. -/
structure GOwner (c : Cx) (s : St) (sq n sz K : Nat) (get : Nat → List AV) (X : Value) : Prop where
  le : sq - 1 ≤ n
  cases : (s.obj K = none ∧ ((X = .slice none 0 0 ∧ n = 0) ∨ ∃ ad, X = .slice (some ad) n n)) ∨ (s.obj K = some (.grw sq sz n get) ∧ OwnRep c (.key K) n X)

theorem gown_keeps (h : Rel B c s a) {sq n m sz K : Nat} {get : Nat → List AV} {X : Value} (hO : GOwner c s sq n sz K get X) (hm : 0 < m) {w' : World} {I' : Nat → Nat → Prop} {κ' : Option (Addr × Nat)}
    : ∀ n' v, live s.objs K → OwnRep c (.key K) n' v → OwnRep (c.owns w' I' K κ' (n + m)) (.key K) n' v := by
  intro n' v hl hv
  obtain ⟨m', f1, f2, _⟩ := hv
  rcases hO.cases with ⟨hk, _⟩ | ⟨hk, _⟩
  · exact absurd rfl (live_ne hk hl)
  · have := (h.objs.rep K _ hk).2.1
    rw [this] at f1
    have := Option.some.inj f1
    exact ⟨n + m, by simp [Cx.owns], by omega, fun e' => by omega⟩

/-- The append that makes a new row. -/
theorem grow_new (h : Rel B c s a) {sq sz n m K : Nat} {get0 : Nat → List AV} {X : Value} (hO : GOwner c s sq n sz K get0 X) (hm : 0 < m) (hsz : 0 < sz) {vs : Array Value} {e : TypeId} {cap : Nat} (hcap : n + m ≤ cap) (hvs : vs.size = cap * sz)
    {b1 o1 b2 o2 : Nat} {get get2 : Nat → List AV} (h1 : RowSees c b1 o1 n sz get) (h2 : RowSees c b2 o2 m sz get2)
    (hv1 : ∀ q, q < n * sz → vs[q]? = some (rd c.w b1 o1 q)) (hv2 : ∀ q, q < m * sz → vs[n * sz + q]? = some (rd c.w b2 o2 q)) :
    ∃ c', c'.w = c.w.drew.alloc (.cells vs e) ∧ Rel B c' (s.setObj K (.grw sq sz (n + m) (appGet n m get get2))) a ∧
      Sees B c' (s.setObj K (.grw sq sz (n + m) (appGet n m get get2))) (.gsl K sz (n + m)) (.slice (some ⟨c.w.heap.size, 0, none⟩) (n + m) cap) := by
  let c' := c.owns (c.w.drew.alloc (.cells vs e)) c.I K (some (⟨c.w.heap.size, 0, none⟩, cap)) (n + m)
  have hkb : KeepsBut c c' s.objs K := by
    refine owns_keeps (fun _ _ hi => hi) (fun b q v hi hv => ?_) (gown_keeps h hO hm) (fun q o' b hq hne hb => ⟨heap_alloc_lt c.w.drew _ _ (excl_lt (h.objs.rep q o' hq) hb), fun off hi => hi⟩)
    rw [World.cell?_block (heap_alloc_lt c.w.drew _ b (lt_of_cell hv))]; exact hv
  have hgr : Grow B c c' := by
    refine ⟨rfl, rfl, rfl, by simp [c', Cx.owns], fun b hb _ => heap_alloc_lt c.w.drew _ _ (Nat.lt_of_lt_of_le hb h.frame.size), fun b q hb _ hi => hi, fun b q hi => ?_⟩
    obtain ⟨v', hv⟩ := h.good.there b q hi
    exact ⟨v', hkb.ext.cell b q v' hi hv⟩
  have hown : OwnRep c' (.key K) (n + m) (.slice (some ⟨c.w.heap.size, 0, none⟩) (n + m) cap) := ⟨n + m, by simp [c', Cx.owns], Nat.le_refl _, fun _ => by simp [c', Cx.owns, slOf]⟩
  obtain ⟨g1, g2⟩ := grow_cells h1 h2 hkb.ext hv1 hv2
  refine ⟨c', rfl, h.obj hkb hgr ⟨⟨hsz, by have := hO.le; omega⟩, by simp [c', Cx.owns], ?_⟩ ?_ (by simp [AO.keys]) ?_, ⟨.gsl _ _ _ _ _ hcap hown, fun q hq => ?_, rfl⟩⟩
  · simp only [c', Cx.owns, if_true]
    refine ⟨hcap, fun _ => ⟨⟨vs, e, heap_alloc_eq c.w.drew _, hvs, fun j i u hj hu => (g2 j i u hj hu).2⟩, ⟨rfl, rfl⟩, g1, fun j i u hj hu => (g2 j i u hj hu).1, fun q _ hi => ?_⟩⟩
    obtain ⟨v', hv⟩ := h.good.there _ _ hi
    have := lt_of_cell hv
    simp at this
  · intro q o' b hq hne hb
    have := excl_lt (h.objs.rep q o' hq) hb
    simp only [excl, c', Cx.owns, if_true]
    intro e'
    split at e'
    · have h9 : c.w.heap.size = b := Option.some.inj e'
      omega
    · simp at e'
  · intro b hb
    simp only [excl, c', Cx.owns, if_true] at hb
    have := h.frame.size
    split at hb
    · have h9 : c.w.heap.size = b := Option.some.inj hb
      left; omega
    · simp at hb
  · simp [AV.keys] at hq; subst hq; exact live_aput_self

/-- The append into the room that is there. -/
theorem grow_in (h : Rel B c s a) {sq sz n m K : Nat} {get get2 : Nat → List AV} (hk : s.obj K = some (.grw sq sz n get)) (hm : 0 < m) {ad : Addr} {cap : Nat} (hκ : c.κ K = some (ad, cap)) (hcap : n + m ≤ cap) {b2 o2 : Nat} (h2 : RowSees c b2 o2 m sz get2)
    {cur : Array Value} {e : TypeId} (hh : c.w.heap[ad.block]? = some (.cells cur e (0, 0))) (hcs : cur.size = cap * sz) :
    ∃ c', c'.w = c.w.setRow ad.block (cur.toList.take (n * sz) ++ rdL c.w b2 o2 (m * sz) ++ cur.toList.drop (n * sz + (rdL c.w b2 o2 (m * sz)).length)).toArray ∧ Rel B c' (s.setObj K (.grw sq sz (n + m) (appGet n m get get2))) a ∧
      Sees B c' (s.setObj K (.grw sq sz (n + m) (appGet n m get get2))) (.gsl K sz (n + m)) (.slice (some ad) (n + m) cap) := by
  have hrepK := h.objs.rep K _ hk
  have hsz : 0 < sz := hrepK.1.1
  have hse : sq - 1 ≤ n := hrepK.1.2
  have hG := hrepK.2.2
  simp only [hκ] at hG
  have hG := hG.2 (by omega)
  have hexcl : excl c K (.grw sq sz n get) = some ad.block := by simp only [excl, hκ]; rw [if_pos (by omega)]
  have hfit : n * sz + (rdL c.w b2 o2 (m * sz)).length ≤ cur.size := by rw [rdL_length, hcs, ← Nat.add_mul]; exact Nat.mul_le_mul_right _ hcap
  obtain ⟨g1, g2⟩ := getD_splice cur (n * sz) (rdL c.w b2 o2 (m * sz)) hfit
  generalize hvs : (cur.toList.take (n * sz) ++ rdL c.w b2 o2 (m * sz) ++ cur.toList.drop (n * sz + (rdL c.w b2 o2 (m * sz)).length)).toArray = vs at g1 g2
  have hW : Wrote c ad.block (c.w.setRow ad.block vs) := wrote_setRow rfl
  have hg' : (c.w.setRow ad.block vs).heap[ad.block]? = some (.cells vs e (0, 0)) := setRow_heap _ _ _ _ _ _ hh
  have get1 : ∀ q, q < cur.size → vs[q]? = some (if n * sz ≤ q ∧ q < n * sz + (rdL c.w b2 o2 (m * sz)).length then (rdL c.w b2 o2 (m * sz)).getD (q - n * sz) undef else cur.getD q undef) := by
    intro q hq
    have hq' : q < vs.size := by omega
    have := g2 q hq
    rw [← this]
    simp [Array.getD_eq_getD_getElem?, hq']
  have hO : GOwner c s sq n sz K get (.slice (some ad) n cap) := ⟨hse, .inr ⟨hk, ⟨n, hrepK.2.1, Nat.le_refl _, fun _ => by rw [hκ]; rfl⟩⟩⟩
  let c' := c.owns (c.w.setRow ad.block vs) c.I K (some (ad, cap)) (n + m)
  have hkb : KeepsBut c c' s.objs K := by
    refine owns_keeps (fun _ _ hi => hi) (fun b q v hi hv => ?_) (gown_keeps h hO hm) (fun q o' b hq hne hb => ?_)
    · by_cases e' : b = ad.block
      · subst e'
        by_cases hq : (sq - 1) * sz ≤ q
        · exact absurd hi (hG.free q hq)
        · have := Nat.mul_le_mul_right sz hse
          have hql : q < cur.size := by omega
          rw [cell?_cells hh] at hv
          show (c.w.setRow ad.block vs).cell? _ = _
          rw [cell?_cells hg', get1 q hql, if_neg (by omega), ← hv]
          simp [Array.getD_eq_getD_getElem?, hql]
      · rw [World.cell?_block (hW.other b e')]; exact hv
    · have hne' : b ≠ ad.block := by
        rintro rfl
        exact h.objs.apart q o' K _ _ hq hk hne hb hexcl
      exact ⟨hW.other b hne', fun off hi => hi⟩
  have hgr : Grow B c c' := by
    refine ⟨rfl, rfl, rfl, by simp [c', Cx.owns], fun b hb hd => hW.other b ?_, fun b q hb hd hi => hi, fun b q hi => ?_⟩
    · rintro rfl
      rcases h.mine K _ _ hk hexcl with h' | h'
      · omega
      · exact hd h'
    · obtain ⟨v', hv⟩ := h.good.there b q hi
      exact ⟨v', hkb.ext.cell b q v' hi hv⟩
  have hown : OwnRep c' (.key K) (n + m) (.slice (some ad) (n + m) cap) := ⟨n + m, by simp [c', Cx.owns], Nat.le_refl _, fun _ => by simp [c', Cx.owns, slOf]⟩
  have hexcl' : ∀ b, excl c' K (.grw sq sz (n + m) (appGet n m get get2)) = some b → b = ad.block := by
    intro b hb
    simp only [excl, c', Cx.owns, if_true] at hb
    split at hb
    · exact (Option.some.inj hb).symm
    · simp at hb
  have h1 : RowSees c ad.block 0 n sz get := ⟨hG.len, fun j i u hj hu => by
    obtain ⟨k1, y, k2, k3⟩ := hG.cellsAt (by omega) hj i u hu
    exact ⟨k1, y, by rw [← k2]; congr 2; omega, k3⟩⟩
  obtain ⟨r1, r2⟩ := grow_cells (c' := c') (vs := vs) h1 h2 hkb.ext (fun q hq => by
    have hlt : q < cur.size := by omega
    rw [get1 q hlt, if_neg (by omega)]
    have := (h1.at hq).1
    simp only [Nat.zero_add] at this
    rw [cell?_cells hh] at this
    simp [Array.getD_eq_getD_getElem?, this]) (fun q hq => by
    rw [rdL_length] at hfit
    rw [get1 _ (by omega), if_pos (by rw [rdL_length]; omega)]
    have e5 : n * sz + q - n * sz = q := by omega
    rw [e5, List.getD_eq_getElem?_getD, rdL_at _ _ _ _ _ hq]; rfl)
  refine ⟨c', by simp [c', Cx.owns], h.obj hkb hgr ⟨⟨hsz, by have := hO.le; omega⟩, by simp [c', Cx.owns], ?_⟩ ?_ (by simp [AO.keys]) ?_, ⟨.gsl _ _ _ _ _ hcap hown, fun q hq => ?_, rfl⟩⟩
  · simp only [c', Cx.owns, if_true]
    exact ⟨hcap, fun _ => ⟨⟨vs, e, hg', by rw [g1, hcs], fun j i u hj hu => (r2 j i u hj hu).2⟩, hG.addr, r1, fun j i u hj hu => (r2 j i u hj hu).1, hG.free⟩⟩
  · intro q o' b hq hne hb e'
    have := hexcl' b e'
    subst this
    exact h.objs.apart q o' K _ _ hq hk hne hb hexcl
  · intro b hb
    rw [hexcl' b hb]; exact h.mine K _ _ hk hexcl
  · simp [AV.keys] at hq; subst hq; exact live_aput_self

/-- Nothing is appended to nothing. -/
theorem grow_zero (h : Rel B c s a) {sz K : Nat} (hsz : 0 < sz) (hk : s.obj K = none) {X : Value} (hX : X = .slice none 0 0 ∨ ∃ ad, X = .slice (some ad) 0 0) (get : Nat → List AV) :
    ∃ c', c'.w = c.w ∧ Rel B c' (s.setObj K (.grw 0 sz 0 get)) a ∧ Sees B c' (s.setObj K (.grw 0 sz 0 get)) (.gsl K sz 0) X := by
  obtain ⟨κ', e1, e2⟩ : ∃ κ' : Option (Addr × Nat), X = slOf κ' 0 ∧ ∀ p, κ' = some p → p.2 = 0 := by
    rcases hX with rfl | ⟨ad, rfl⟩
    · exact ⟨none, rfl, by simp⟩
    · exact ⟨some (ad, 0), rfl, fun p hp => by cases hp; rfl⟩
  let c' := c.owns c.w c.I K κ' 0
  have hkb : KeepsBut c c' s.objs K := owns_keeps (fun _ _ hi => hi) (fun _ _ _ _ hv => hv) (fun n' v hl _ => absurd rfl (live_ne hk hl)) (fun _ _ _ _ _ _ => ⟨rfl, fun _ hi => hi⟩)
  have hgr : Grow B c c' := ⟨rfl, rfl, rfl, Nat.le_refl _, fun _ _ _ => rfl, fun _ _ _ _ hi => hi, h.good.there⟩
  have hex : excl c' K (.grw 0 sz 0 get) = none := by
    simp only [excl, c', Cx.owns, if_true]
    cases κ' with
    | none => rfl
    | some p => obtain ⟨ad, cap⟩ := p; have := e2 _ rfl; simp only at this; subst this; rfl
  have hown : OwnRep c' (.key K) 0 X := ⟨0, by simp [c', Cx.owns], Nat.le_refl _, fun _ => by simp [c', Cx.owns, e1]⟩
  refine ⟨c', rfl, h.obj hkb hgr ⟨⟨hsz, Nat.zero_le _⟩, by simp [c', Cx.owns], ?_⟩ (fun q o' b hq hne hb e => by rw [hex] at e; cases e) (by simp [AO.keys]) (fun b hb => by rw [hex] at hb; cases hb), ⟨?_, fun q hq => ?_, rfl⟩⟩
  · simp only [c', Cx.owns, if_true]
    cases κ' with
    | none => trivial
    | some p => obtain ⟨ad, cap⟩ := p; have := e2 _ rfl; simp only at this; subst this; exact ⟨Nat.le_refl _, fun h0 => absurd h0 (by omega)⟩
  · rcases hX with rfl | ⟨ad, rfl⟩
    · exact .gslNil _ _ hown
    · exact .gsl _ _ _ _ _ (Nat.le_refl _) hown
  · simp [AV.keys] at hq; subst hq; exact live_aput_self

theorem appendM_row (h : Rel B c s a) {t ty e : TypeId} {sq n sz2 m K : Nat} {get get2 : Nat → List AV} {X : Value} {i : TypeInfo} {z : List AV} (hu : P.underlying t = some (.slice e))
    (hi : P.info? e = some i) (hsz : sizeOf? P e = some sz2) (hz : zeroCells P e = some z) (hzl : z.length = sz2) (h0 : 0 < sz2) (hb : 0 < i.bytes) {b2 o2 cap2 : Nat} (h2 : RowSees c b2 o2 m sz2 get2)
    (hX : (X = .slice none 0 0 ∧ n = 0) ∨ ∃ b1 o1 sp cap, (0 < n → sp = none) ∧ X = .slice (some ⟨b1, o1, sp⟩) n cap ∧ n ≤ cap ∧ RowSees c b1 o1 n sz2 get)
    (hO : GOwner c s sq n sz2 K get X) (hm0 : 0 < m) (hroom : (n + m) * i.bytes ≤ 140737488355328) :
    ∃ V c', (Builtin.append_ #[t, t] ty #[X, .slice (some ⟨b2, o2, none⟩) m cap2]).run P c.w = .ok V c'.w ∧ Rel B c' (s.setObj K (.grw sq sz2 (n + m) (appGet n m get get2))) a ∧ Sees B c' (s.setObj K (.grw sq sz2 (n + m) (appGet n m get get2))) (.gsl K sz2 (n + m)) V := by
  obtain ⟨i', zv, hi', hzv, hcz⟩ := zeroCells_inv hz
  have : i' = i := by rw [hi] at hi'; exact (Option.some.inj hi').symm
  subst this
  have hisz : i'.size = sz2 := by unfold sizeOf? at hsz; simp [hi] at hsz; exact hsz
  obtain ⟨hzc, _⟩ := zero_CR (c := c) hcz
  have hzs : zv.cells.size = sz2 := by rw [hzc.1, hzl]
  have hnm : n + m ≤ 140737488355328 := Nat.le_trans (Nat.le_mul_of_pos_right _ hb) hroom
  have hmem : n ≤ n + m := Nat.le_add_right _ _
  have hc2 := h2.cells
  have hzsz : ∀ k, (Builtin.zeroCells zv.cells k).size = k * sz2 := fun k => by rw [size_zeroCells, hzs]
  rcases hX with ⟨rfl, rfl⟩ | ⟨b1, o1, sp1, cap, hsp1, rfl, hle, h1⟩
  · have hrun := run_append_nil (P := P) (w := c.w) t ty e i' zv hu hi hzv ⟨b2, o2, none⟩ m cap2 (rdL c.w b2 o2 (m * sz2)) (by rw [rdL_length, hisz]) hc2.1 hm0 (by omega) (by simp only [Nat.zero_add] at hroom; omega)
    have hge := grownCap_ge c.w m 0 e
    generalize grownCap c.w m 0 e = nc at hrun hge
    obtain ⟨c', e1, e2, e3⟩ := grow_new h (vs := (rdL c.w b2 o2 (m * sz2)).toArray ++ Builtin.zeroCells zv.cells (nc - m)) (e := e) (cap := nc) hO hm0 h0 (by omega) (by
      simp only [Array.size_append, List.size_toArray, rdL_length, hzsz, ← Nat.add_mul]; congr 1; omega)
      (b1 := 0) (o1 := 0) (get := get) ⟨fun j hj => by omega, fun j i u hj => by omega⟩ h2 (fun q hq => by omega) (fun q hq => by
        simp only [Nat.zero_mul, Nat.zero_add, Array.getElem?_append]
        rw [if_pos (by simpa [rdL_length] using hq)]
        simpa using rdL_at _ _ _ _ _ hq)
    simp only [Nat.zero_add] at e2 e3 ⊢
    exact ⟨_, c', by rw [e1]; exact hrun, e2, e3⟩
  · by_cases hroom' : n + m ≤ cap
    · -- into the room
      rcases hO.cases with ⟨_, hf⟩ | ⟨hk, hown⟩
      · rcases hf with ⟨hf, _⟩ | ⟨ad, hf⟩
        · cases hf
        · simp only [Value.slice.injEq, true_and] at hf
          omega
      · obtain ⟨m', f1, f2, f3⟩ := hown
        have hr := h.objs.rep K _ hk
        rw [hr.2.1] at f1
        have := Option.some.inj f1
        subst this
        have hX := f3 rfl
        have hr2 := hr.2.2
        cases hκ : c.κ K with
        | none => rw [hκ] at hX; simp [slOf] at hX
        | some p =>
          obtain ⟨ad, cap'⟩ := p
          rw [hκ] at hX
          simp [slOf] at hX
          obtain ⟨rfl, rfl⟩ := hX
          simp only [hκ] at hr2
          have hG := hr2.2 (by omega)
          obtain ⟨⟨cur, e', hh, hcs, _⟩, hoff, _⟩ := hG
          obtain ⟨q1, q2⟩ := hoff
          simp only at q1 q2 hh
          subst q1 q2
          have hrun := append_room_run (P := P) (ty := ty) (w := c.w) (ad := ⟨b2, o2, none⟩) (m := m) (cc := cap2) (sLen := n) (sCap := cap) hu hi hisz hh (rdL_length c.w b2 o2 (m * sz2)) hc2.1 hc2.2 hroom' (by rw [rdL_length, hcs, ← Nat.add_mul]; exact Nat.mul_le_mul_right _ hroom')
          obtain ⟨c', e1, e2, e3⟩ := grow_in h hk hm0 hκ hroom' h2 hh hcs
          exact ⟨_, c', by rw [e1]; exact hrun, e2, e3⟩
    · have hload : ∀ (j : Nat) (v : Value), (rdL c.w b1 o1 (n * sz2))[j]? = some v → c.w.cell? ((⟨b1, o1, sp1⟩ : Addr).add j) = some v := by
        by_cases hc0 : 0 < n
        · obtain rfl := hsp1 hc0
          exact h1.cells.1
        · obtain rfl : n = 0 := by omega
          intro j v hj
          rw [List.getElem?_eq_none (by rw [rdL_length]; omega)] at hj
          cases hj
      have hrun := run_append_grow (P := P) (w := c.w) t ty e i' zv hu hi hzv ⟨b1, o1, sp1⟩ n cap (rdL c.w b1 o1 (n * sz2)) (by rw [rdL_length, hisz]) hload ⟨b2, o2, none⟩ m cap2 (rdL c.w b2 o2 (m * sz2)) (by rw [rdL_length, hisz]) hc2.1 (by omega) (by omega) (growslice_fits (by omega) hroom)
      have hge := grownCap_ge c.w (n + m) cap e
      generalize grownCap c.w (n + m) cap e = nc at hrun hge
      obtain ⟨c', e1, e2, e3⟩ := grow_new h (vs := (rdL c.w b1 o1 (n * sz2)).toArray ++ (rdL c.w b2 o2 (m * sz2)).toArray ++ Builtin.zeroCells zv.cells (nc - (n + m))) (e := e) (cap := nc) hO hm0 h0 hge (by
        simp only [Array.size_append, List.size_toArray, rdL_length, hzsz, ← Nat.add_mul]; congr 1; omega)
        h1 h2 (fun q hq => by
          rw [Array.append_assoc, Array.getElem?_append, if_pos (by simpa [rdL_length] using hq)]
          simpa using rdL_at _ _ _ _ _ hq) (fun q hq => by
          rw [Array.getElem?_append, if_pos (by simp [rdL_length]; omega), Array.getElem?_append, if_neg (by simp [rdL_length])]
          simp only [List.size_toArray, rdL_length]
          have e5 : n * sz2 + q - n * sz2 = q := by omega
          rw [e5]
          simpa using rdL_at _ _ _ _ _ hq)
      exact ⟨_, c', by rw [e1]; exact hrun, e2, e3⟩

theorem appendM_core (h : Rel B c s a) {t ty e : TypeId} {sq sz n sz2 m K : Nat} {get get2 : Nat → List AV} {X Y : Value} {y : AV} {i : TypeInfo} {z : List AV} (hu : P.underlying t = some (.slice e))
    (hi : P.info? e = some i) (hsz : sizeOf? P e = some sz) (hz : zeroCells P e = some z) (hzl : z.length = sz) (h0 : 0 < sz) (hb : 0 < i.bytes) (hy : Rep c y Y) (hsrc : srcA s y = some (sz2, m, get2))
    (hX : (X = .slice none 0 0 ∧ n = 0) ∨ ∃ b1 o1 sp cap, (0 < n → sp = none) ∧ X = .slice (some ⟨b1, o1, sp⟩) n cap ∧ n ≤ cap ∧ RowSees c b1 o1 n sz get)
    (hO : GOwner c s sq n sz K get X) (hm0 : 0 < m) (hs2 : sz2 = sz) (hroom : (n + m) * i.bytes ≤ 140737488355328) :
    ∃ V c', (Builtin.append_ #[t, t] ty #[X, Y]).run P c.w = .ok V c'.w ∧ Rel B c' (s.setObj K (.grw sq sz (n + m) (appGet n m get get2))) a ∧ Sees B c' (s.setObj K (.grw sq sz (n + m) (appGet n m get get2))) (.gsl K sz (n + m)) V := by
  subst hs2
  rcases srcA_sound h hy hsrc with ⟨_, e⟩ | ⟨b2, o2, sp2, cap2, hsp2, rfl, _, hlen2, hcell2⟩
  · omega
  obtain rfl := hsp2 hm0
  exact appendM_row h hu hi hsz hz hzl h0 hb ⟨hlen2, hcell2⟩ hX hO hm0 hroom

theorem appendM_sound (h : Rel B c s a) {d : Nat} {t ty : TypeId} {x y v : AV} {X Y : Value} {k : Nat} {ob : AO} (hx : Rep c x X) (hy : Rep c y Y) (he : appendM P s d t x y = some (true, v, k, ob)) :
    ∃ V c', (Builtin.append_ #[t, t] ty #[X, Y]).run P c.w = .ok V c'.w ∧ Rel B c' (s.setObj k ob) a ∧ Sees B c' (s.setObj k ob) v V := by
  unfold appendM at he
  split at he
  · rename_i e hu
    split at he
    · rename_i sz z inf sz2 m get2 hsz hz hi hsrc
      simp only [guardO] at he
      cases hb : (Nat.blt 0 sz && (Nat.blt 0 inf.bytes && (Nat.beq z.length sz && (Nat.beq sz2 sz || Nat.beq m 0)))) with
      | false => simp [hb] at he
      | true =>
        simp only [hb, cond_true] at he
        simp only [Bool.and_eq_true, Bool.or_eq_true] at hb
        obtain ⟨b1, b2, b3, b5⟩ := hb
        have b1 := ltB b1
        have b2 := ltB b2
        have b3 := beqT b3
        have b5 : m = 0 ∨ sz2 = sz := (b5.imp beqT beqT).symm
        have hY0 : m = 0 → Y = .slice none 0 0 ∨ ∃ ad cc, Y = .slice (some ad) 0 cc := fun hm => by
          subst hm
          rcases srcA_sound h hy hsrc with ⟨rfl, _⟩ | ⟨b, of, sp, cap, _, rfl, _⟩
          · exact .inl rfl
          · exact .inr ⟨_, _, rfl⟩
        split at he
        · rename_i sz0 n get
          cases hb2 : ((Nat.beq sz0 sz || Nat.beq n 0) && (cond (Nat.beq n 0) true (Nat.blt 0 m))) with
          | false => rw [hb2] at he; cases he
          | true =>
            simp only [hb2, cond_true] at he
            split at he
            · rename_i hd
              simp only [Option.some.injEq, Prod.mk.injEq] at he
              obtain ⟨hr, rfl, rfl, rfl⟩ := he
              simp only [Bool.and_eq_true, Bool.or_eq_true] at hb2
              obtain ⟨b4, b6⟩ := hb2
              have b4 : n = 0 ∨ sz0 = sz := (b4.imp beqT beqT).symm
              have hx' : Rep c (.sl .fit sz n get) X := hx.reown b4 (fun _ _ => rfl) (by
                cases hx with
                | slNil _ _ _ ho => exact ho
                | sl _ _ _ _ ad cap vals h1 h2 h3 h4 h5 h6 => exact h3)
              have hX := slice_row hx' rfl
              by_cases hm : m = 0
              · subst hm
                have hn : n = 0 := by
                  cases hb : Nat.beq n 0 with
                  | true => exact beqT hb
                  | false => rw [hb] at b6; simp [Nat.blt] at b6
                subst hn
                have hX0 : X = .slice none 0 0 ∨ ∃ ad, X = .slice (some ad) 0 0 := by
                  rcases hX with ⟨rfl, _⟩ | ⟨b, of, sp, cap, _, rfl, _, ho, _⟩
                  · exact .inl rfl
                  · have : cap = 0 := ho
                    subst this; exact .inr ⟨_, rfl⟩
                obtain ⟨c', e1, e2, e3⟩ := grow_zero h b1 hd hX0 (appGet 0 0 get get2)
                refine ⟨X, c', ?_, e2, e3⟩
                rw [e1]
                rcases hX0 with rfl | ⟨ad, rfl⟩
                · exact append_none hu hi (Nat.le_refl _) (hY0 rfl) c.w
                · exact append_none hu hi (Nat.le_refl _) (hY0 rfl) c.w
              · refine appendM_core (get := get) h hu hi hsz hz b3 b1 b2 hy hsrc ?_ ⟨Nat.zero_le _, .inl ⟨hd, ?_⟩⟩ (Nat.pos_of_ne_zero hm) (b5.resolve_left hm) (Nat.le_of_ble_eq_true hr)
                · rcases hX with ⟨e1, e2, _⟩ | ⟨b, of, sp, cap, g1, g2, g3, g4, g5, _⟩
                  · exact .inl ⟨e1, e2⟩
                  · exact .inr ⟨b, of, sp, cap, fun h0 => g1 (by omega), g2, g3, g5⟩
                · rcases hX with ⟨e1, e2, _⟩ | ⟨b, of, sp, cap, g1, rfl, g3, g4, g5, _⟩
                  · exact .inl ⟨e1, e2⟩
                  · have : cap = n := g4
                    subst this; exact .inr ⟨_, rfl⟩
            · simp at he
        · rename_i q sz0 n
          cases hb2 : Nat.beq sz0 sz with
          | false => simp [hb2] at he
          | true =>
            simp only [hb2, cond_true] at he
            have hb2 := beqT hb2
            subst hb2
            split at he
            · rename_i sq sz1 fr get hq
              cases hb1 : Nat.beq sz1 sz0 with
              | false => simp [hb1] at he
              | true =>
                simp only [hb1, cond_true, Option.some.injEq, Prod.mk.injEq, Bool.and_eq_true] at he
                obtain ⟨⟨hr, hf⟩, rfl, rfl, rfl⟩ := he
                have hb1 := beqT hb1
                have hf := beqT hf
                subst hb1 hf
                have hX : (X = .slice none 0 0 ∧ fr = 0) ∨ ∃ b1 o1 sp cap, (0 < fr → sp = none) ∧ X = .slice (some ⟨b1, o1, sp⟩) fr cap ∧ fr ≤ cap ∧ RowSees c b1 o1 fr sz1 get := by
                  cases hx with
                  | gslNil => exact .inl ⟨rfl, rfl⟩
                  | gsl _ _ _ ad cap hn hown =>
                    obtain ⟨b, of, sp⟩ := ad
                    by_cases h0 : 0 < fr
                    · obtain ⟨ad', cap', g1, g2, g3, g4⟩ := grw_at h hq hown rfl h0
                      simp only [Value.slice.injEq, Option.some.injEq, true_and] at g2
                      obtain ⟨rfl, rfl⟩ := g2
                      refine .inr ⟨b, of, sp, cap, fun _ => g4.addr.2, rfl, hn, ⟨g4.len, fun j i u hj hu => ?_⟩⟩
                      obtain ⟨k1, y, k2, k3⟩ := g4.cellsAt g3 hj i u hu
                      have := g4.addr.1
                      simp only at this k2
                      exact ⟨k1, y, by rw [← k2]; congr 2; omega, k3⟩
                    · exact .inr ⟨b, of, sp, cap, fun h => absurd h h0, rfl, hn, ⟨fun j hj => by omega, fun j i u hj => by omega⟩⟩
                have hown : OwnRep c (.key q) fr X := by
                  cases hx with
                  | gslNil _ _ ho => exact ho
                  | gsl _ _ _ ad cap hn ho => exact ho
                by_cases hm : m = 0
                · subst hm
                  have hrun : (Builtin.append_ #[t, t] ty #[X, Y]).run P c.w = .ok X c.w := by
                    rcases hX with ⟨rfl, _⟩ | ⟨b, of, sp, cap, _, rfl, hle, _⟩
                    · exact append_none hu hi (Nat.le_refl _) (hY0 rfl) c.w
                    · exact append_none hu hi hle (hY0 rfl) c.w
                  have hsame : ∀ j, j < fr → appGet fr 0 get get2 j = get j := fun j hj => appGet_lt hj
                  have hkb : KeepsBut c c s.objs q := (Keeps.refl c s.objs).but q
                  refine ⟨X, c, hrun, h.obj hkb (Grow.refl h.good) ?_ (fun q' o' b hq' hne hb' e => ?_) (by simp [AO.keys]) (fun b hb' => ?_), ⟨hx, fun k hk => ?_, rfl⟩⟩
                  · have hr := h.objs.rep q _ hq
                    refine ⟨hr.1, hr.2.1, ?_⟩
                    have hr2 := hr.2.2
                    show (match c.κ q with | none => fr + 0 = 0 | some (a, cap) => fr + 0 ≤ cap ∧ (0 < cap → GrwAt c a sq sz1 (fr + 0) cap (appGet fr 0 get get2)))
                    cases hκ : c.κ q with
                    | none => simp only [hκ] at hr2; exact hr2
                    | some p =>
                      obtain ⟨ad, cap⟩ := p
                      simp only [hκ] at hr2
                      refine ⟨hr2.1, fun h0 => ?_⟩
                      obtain ⟨⟨vs, t', g1, g2, g3⟩, g4, g5, g6, g7⟩ := hr2.2 h0
                      exact ⟨⟨vs, t', g1, g2, fun j i u hj hu => g3 j i u hj (by rwa [hsame j hj] at hu)⟩, g4, fun j hj => by rw [hsame j hj]; exact g5 j hj, fun j i u hj hu => g6 j i u hj (by rwa [hsame j hj] at hu), g7⟩
                  · exact h.objs.apart q' o' q _ b hq' hq hne hb' e
                  · exact h.mine q _ b hq hb'
                  · simp [AV.keys] at hk; subst hk; exact live_aput_self
                · exact appendM_core h hu hi hsz hz b3 b1 b2 hy hsrc hX ⟨(h.objs.rep q _ hq).1.2, .inr ⟨hq, hown⟩⟩ (Nat.pos_of_ne_zero hm) (b5.resolve_left hm) (Nat.le_of_ble_eq_true hr)
            · simp at he
        · simp at he
    · simp at he
  · simp at he
theorem aput_aput {α : Type} (l : List (Nat × α)) (k : Nat) (x y : α) : aput (aput l k x) k y = aput l k y := by
  induction l with
  | nil => simp [aput]
  | cons p r ih =>
    obtain ⟨q, v⟩ := p
    simp only [aput]
    cases hq : Nat.beq q k with
    | true => simp [aput, hq]
    | false => simp [aput, hq, ih]
theorem RowSees.ext {c c' : Cx} {ks : Nat → Prop} {b o n sz : Nat} {get : Nat → List AV} (h : RowSees c b o n sz get) (hw : c'.w = c.w) (he : Ext c c' ks) : RowSees c' b o n sz get :=
  ⟨h.len, fun j i u hj hu => by
    obtain ⟨h1, y, h2, h3⟩ := h.cell j i u hj hu
    exact ⟨h1, y, by rw [hw]; exact h2, h3.ext he fun k hk => by rw [keys_nil_of (h.len j hj).2 hu] at hk; simp at hk⟩⟩
/-- The front of a slice that may be stored into, under a new key; of the old one nothing is known any more. -/
theorem rekey (h : Rel B c s a) {sq k K sz n m : Nat} {get : Nat → List AV} {X : Value} (hk : s.obj k = some (.grw sq sz n get)) (hK : s.obj K = none) (hX : Rep c (.gsub k sz n 0 m) X) (hm : m ≤ n) (hsm : sq - 1 ≤ m) :
    ∃ c1, c1.w = c.w ∧ Rel B c1 ((s.setObj k .gone).setObj K (.grw sq sz m get)) a ∧ Ext c c1 (live s.objs) ∧ OwnRep c1 (.key K) m X ∧
      ((X = .slice none 0 0 ∧ m = 0) ∨ ∃ b1 o1 sp cap, (0 < m → sp = none) ∧ X = .slice (some ⟨b1, o1, sp⟩) m cap ∧ m ≤ cap ∧ RowSees c1 b1 o1 m sz get) := by
  have hobj := h.objs.rep k _ hk
  obtain ⟨hsz, hfr, hrow⟩ := hobj
  have hne : k ≠ K := fun e => by rw [e, hK] at hk; cases hk
  -- the operand
  have hXk : X = slOf (c.κ k) m := by
    cases hX with
    | gsubNil _ _ ho =>
      obtain ⟨q, f1, f2, f3⟩ := ho
      rw [hfr] at f1
      exact f3 (Option.some.inj f1)
    | gsub _ _ _ _ _ ad cap a' cap' hn ho hle e1 e2 e3 =>
      obtain ⟨q, f1, f2, f3⟩ := ho
      rw [hfr] at f1
      have f3 := f3 (Option.some.inj f1)
      obtain rfl := e2 rfl
      cases hκ : c.κ k with
      | none => rw [hκ] at f3; simp [slOf] at f3
      | some p =>
        obtain ⟨ad, cap2⟩ := p
        rw [hκ] at f3
        simp only [slOf, Value.slice.injEq, Option.some.injEq, true_and] at f3
        obtain ⟨rfl, rfl⟩ := f3
        subst e1
        simp [slOf]
  have h1 : Rel B c (s.setObj k .gone) a := h.obj ((Keeps.refl c s.objs).but k) (Grow.refl h.good) trivial (fun q o' b _ _ _ e => by simp [excl] at e) (by simp [AO.keys]) (fun b hb => by simp [excl] at hb)
  have hK1 : (s.setObj k .gone).obj K = none := by rw [St.obj_setObj, if_neg hne]; exact hK
  let c1 := c.owns c.w c.I K (c.κ k) m
  have hκ1 : c1.κ K = c.κ k := by simp [c1, Cx.owns]
  have hfr1 : c1.fr K = some m := by simp [c1, Cx.owns]
  have hkb : KeepsBut c c1 (s.setObj k .gone).objs K := owns_keeps (fun _ _ hi => hi) (fun _ _ _ _ hv => hv) (fun n' v hl _ => absurd rfl (live_ne hK1 hl)) (fun _ _ _ _ _ _ => ⟨rfl, fun _ hi => hi⟩)
  have hgr : Grow B c c1 := ⟨rfl, rfl, rfl, Nat.le_refl _, fun _ _ _ => rfl, fun _ _ _ _ hi => hi, h.good.there⟩
  have hex : ∀ b, excl c1 K (.grw sq sz m get) = some b → excl c k (.grw sq sz n get) = some b := fun b hb => by simpa only [excl, hκ1] using hb
  have hext : Ext c c1 (live s.objs) := hkb.ext.sub fun q hq => live_aput hq
  have hobj1 : ObjRep c1 K (.grw sq sz m get) := by
    refine ⟨⟨hsz.1, hsm⟩, hfr1, ?_⟩
    rw [hκ1]
    cases hκ : c.κ k with
    | none => simp only [hκ] at hrow; simp only; omega
    | some p =>
      obtain ⟨ad, cap⟩ := p
      simp only [hκ] at hrow ⊢
      refine ⟨Nat.le_trans hm hrow.1, fun h0 => ?_⟩
      obtain ⟨⟨vs, t', g1, g2, g3⟩, g4, g5, g6, g7⟩ := hrow.2 h0
      exact ⟨⟨vs, t', g1, g2, fun j i u hj hu => (g3 j i u (by omega) hu).ext hext fun q hq => by rw [keys_nil_of (g5 j (by omega)).2 hu] at hq; simp at hq⟩, g4, fun j hj => g5 j (by omega), fun j i u hj hu => g6 j i u (by omega) hu, g7⟩
  refine ⟨c1, rfl, h1.obj hkb hgr hobj1 (fun q o' b hq hneq hb e => ?_) (by simp [AO.keys]) (fun b hb => h.mine k _ b hk (hex b hb)), hext, ⟨m, hfr1, Nat.le_refl _, fun _ => by rw [hκ1]; exact hXk⟩, ?_⟩
  · have hq' : (s.setObj k .gone).obj q = some o' := hq
    rw [St.obj_setObj] at hq'
    by_cases e1 : k = q
    · simp only [e1, if_true, Option.some.injEq] at hq'; subst hq'; simp [excl] at hb
    · rw [if_neg e1] at hq'
      exact h.objs.apart q o' k _ b hq' hk (fun e2 => e1 e2.symm) hb (hex b e)
  · cases hκ : c.κ k with
    | none =>
      rw [hκ] at hXk hrow
      simp only at hrow
      exact .inl ⟨by rw [hXk]; have : m = 0 := by omega
                     subst this; rfl, by omega⟩
    | some p =>
      obtain ⟨ad, cap⟩ := p
      rw [hκ] at hXk hrow
      simp only at hrow
      obtain ⟨b, of, sp⟩ := ad
      refine .inr ⟨b, of, sp, cap, fun h0 => (hrow.2 (by omega)).addr.2, hXk, by omega, ⟨fun j hj => (hrow.2 (by omega)).len j (by omega), fun j i u hj hu => ?_⟩⟩
      have hG := hrow.2 (by omega)
      obtain ⟨e1, y, e2, e3⟩ := hG.cellsAt hrow.1 (i := j) (by omega) i u hu
      have := hG.addr.1
      simp only at this e2
      refine ⟨e1, y, by show c.w.cell? _ = _; rw [← e2]; congr 2; omega, e3.ext hext fun q hq => ?_⟩
      rw [keys_nil_of (hG.len j (by omega)).2 hu] at hq; simp at hq
theorem freshK_none {objs : List (Nat × AO)} {d K : Nat} (h : freshK objs d = some K) : alook objs K = none := by
  unfold freshK at h
  split at h
  · rename_i h1; obtain rfl := Option.some.inj h; exact h1
  · split at h
    · rename_i h1; obtain rfl := Option.some.inj h; exact h1
    · cases h
theorem appGet_zero (n : Nat) (get get2 : Nat → List AV) : appGet n 0 get get2 = get := by
  funext j
  unfold appGet
  cases h : Nat.blt j n with
  | true => rfl
  | false => rfl
theorem sealOk_le : ∀ {q i : Nat}, sealOk q i = true → q - 1 ≤ i
  | 0, _, _ => Nat.zero_le _
  | q + 1, _, h => Nat.le_of_ble_eq_true h
theorem appendG_sound (h : Rel B c s a) {d : Nat} {t ty : TypeId} {x y v : AV} {X Y : Value} {objs' : List (Nat × AO)} (hx : Rep c x X) (hy : Rep c y Y) (he : appendG P s d t x y = some (true, v, objs')) :
    ∃ V c', (Builtin.append_ #[t, t] ty #[X, Y]).run P c.w = .ok V c'.w ∧ Rel B c' ({ env := s.env, objs := putU s.objs objs' } : St) a ∧ Sees B c' ({ env := s.env, objs := putU s.objs objs' } : St) v V := by
  unfold appendG at he
  split at he
  · rename_i e k sz0 n m1 hu
    split at he
    · rename_i sz z inf sz2 m get2 sq sz1 n1 get K hsz hz hi hsrc hk hK
      obtain ⟨hb, he⟩ : _ ∧ _ := by
        simp only [guardO] at he
        cases hb : (Nat.blt 0 sz && (Nat.blt 0 inf.bytes && (Nat.beq z.length sz && ((Nat.beq sz2 sz || Nat.beq m 0) && (Nat.beq sz0 sz && Nat.beq sz1 sz))))) with
        | false => rw [hb] at he; cases he
        | true => rw [hb] at he; exact ⟨hb, he⟩
      simp only [cond_true, Option.some.injEq, Prod.mk.injEq, Bool.and_eq_true] at he
      obtain ⟨⟨hsl, hroom, hn, hle⟩, rfl, rfl⟩ := he
      have hsm : sq - 1 ≤ m1 := sealOk_le hsl
      simp only [Bool.and_eq_true, Bool.or_eq_true] at hb
      obtain ⟨b1, b2, b3, b5, b6, b7⟩ := hb
      have b1 := ltB b1
      have b2 := ltB b2
      have b3 := beqT b3
      have b5 : m = 0 ∨ sz2 = sz := (b5.imp beqT beqT).symm
      have b6 := beqT b6
      have b7 := beqT b7
      have hn := beqT hn
      have hle := Nat.le_of_ble_eq_true hle
      subst b6 b7 hn
      have hK := freshK_none hK
      obtain ⟨c1, hw, hr, hext, hown, hX⟩ := rekey h hk hK hx hle hsm
      have hY0 : m = 0 → Y = .slice none 0 0 ∨ ∃ ad cc, Y = .slice (some ad) 0 cc := fun hm => by
        subst hm
        rcases srcA_sound h hy hsrc with ⟨rfl, _⟩ | ⟨b, of, sp, cap, _, rfl, _⟩
        · exact .inl rfl
        · exact .inr ⟨_, _, rfl⟩
      by_cases hm : m = 0
      · subst hm
        have hrun : (Builtin.append_ #[t, t] ty #[X, Y]).run P c.w = .ok X c.w := by
          rcases hX with ⟨rfl, _⟩ | ⟨b, of, sp, cap, _, rfl, hle, _⟩
          · exact append_none hu hi (Nat.le_refl _) (hY0 rfl) c.w
          · exact append_none hu hi hle (hY0 rfl) c.w
        refine ⟨X, c1, by rw [hw]; exact hrun, ?_, ?_, fun q hq => ?_, rfl⟩
        · rw [appGet_zero]; exact hr
        · rcases hX with ⟨rfl, rfl⟩ | ⟨b, of, sp, cap, _, rfl, hle', _⟩
          · exact .gslNil _ _ hown
          · exact .gsl _ _ _ _ _ hle' hown
        · simp [AV.keys] at hq; subst hq; exact live_aput_self
      · have hm0 : 0 < m := Nat.pos_of_ne_zero hm
        obtain rfl := b5.resolve_left hm
        rcases srcA_sound h hy hsrc with ⟨_, e⟩ | ⟨b2', o2, sp2, cap2, hsp2, rfl, _, hlen2, hcell2⟩
        · omega
        obtain rfl := hsp2 hm0
        have h2 : RowSees c1 b2' o2 m sz2 get2 := RowSees.ext ⟨hlen2, hcell2⟩ hw hext
        obtain ⟨V, c', g1, g2, g3⟩ := appendM_row (ty := ty) (cap2 := cap2) hr hu hi hsz hz b3 b1 b2 h2 hX ⟨hsm, .inr ⟨by rw [St.obj_setObj, if_pos rfl], hown⟩⟩ hm0 (Nat.le_of_ble_eq_true hroom)
        have e : ((s.setObj k .gone).setObj K (.grw sq sz2 m1 get)).setObj K (.grw sq sz2 (m1 + m) (appGet m1 m get get2)) = ({ env := s.env, objs := aput (aput s.objs k .gone) K (.grw sq sz2 (m1 + m) (appGet m1 m get get2)) } : St) := by
          show St.mk _ _ = St.mk _ _
          congr 1
          exact aput_aput _ _ _ _
        rw [e] at g2 g3
        rw [hw] at g1
        exact ⟨V, c', g1, g2, g3⟩
    · cases he
  · cases he
/-- A slice's literal that may be stored into. -/
theorem buildG_sound (h : Rel B c s a) {d : Nat} {t : TypeId} {len sz m : Nat} {get : Nat → List AV} {parts : List (Nat × AV)} {xs : List (Nat × Value)} (hd : s.obj d = none) (hs : SeesP B c s parts xs) (he : buildSliceA P t len parts = some (true, .sl .fit sz m get)) :
    ∃ V c', (Instr.buildSlice t len xs.toArray).run P c.w = .ok V c'.w ∧ Rel B c' (s.setObj d (.grw 0 sz m get)) a ∧ Sees B c' (s.setObj d (.grw 0 sz m get)) (.gsl d sz m) V := by
  obtain ⟨hsz, vs, e, hvs, hrun, hreps⟩ := buildSlice_facts hs he
  let c' := c.owns (c.w.alloc (.cells vs e)) c.I d (some (⟨c.w.heap.size, 0, none⟩, m)) m
  have hkb : KeepsBut c c' s.objs d := by
    refine owns_keeps (fun _ _ hi => hi) (fun b q v hi hv => ?_) (fun n' v hl _ => absurd rfl (live_ne hd hl)) (fun q o' b hq hne hb => ⟨heap_alloc_lt c.w _ _ (excl_lt (h.objs.rep q o' hq) hb), fun off hi => hi⟩)
    rw [World.cell?_block (heap_alloc_lt c.w _ b (lt_of_cell hv))]; exact hv
  have hgr : Grow B c c' := by
    refine ⟨rfl, rfl, rfl, by simp [c', Cx.owns], fun b hb _ => heap_alloc_lt c.w _ _ (Nat.lt_of_lt_of_le hb h.frame.size), fun b q hb _ hi => hi, fun b q hi => ?_⟩
    obtain ⟨v', hv⟩ := h.good.there b q hi
    exact ⟨v', hkb.ext.cell b q v' hi hv⟩
  have hown : OwnRep c' (.key d) m (.slice (some ⟨c.w.heap.size, 0, none⟩) m m) := ⟨m, by simp [c', Cx.owns], Nat.le_refl _, fun _ => by simp [c', Cx.owns, slOf]⟩
  refine ⟨_, c', hrun, h.obj hkb hgr ⟨⟨hsz, Nat.zero_le _⟩, by simp [c', Cx.owns], ?_⟩ ?_ (by simp [AO.keys]) ?_, ⟨.gsl _ _ _ _ _ (Nat.le_refl _) hown, fun q hq => ?_, rfl⟩⟩
  · simp only [c', Cx.owns, if_true]
    refine ⟨Nat.le_refl _, fun _ => ⟨⟨vs, e, heap_alloc_eq c.w _, hvs, fun j i u hj hu => ((hreps j hj).2.2 i u hu).2.ext hkb.ext fun q hq => by rw [keys_nil_of (hreps j hj).2.1 hu] at hq; simp at hq⟩, ⟨rfl, rfl⟩, fun j hj => ⟨(hreps j hj).1, (hreps j hj).2.1⟩, fun j i u hj hu => ((hreps j hj).2.2 i u hu).1, fun q _ hi => ?_⟩⟩
    obtain ⟨v', hv⟩ := h.good.there _ _ hi
    have := lt_of_cell hv
    simp at this
  · intro q o' b hq hne hb
    have := excl_lt (h.objs.rep q o' hq) hb
    simp only [excl, c', Cx.owns, if_true]
    intro e'
    split at e'
    · have h9 : c.w.heap.size = b := Option.some.inj e'
      omega
    · simp at e'
  · intro b hb
    simp only [excl, c', Cx.owns, if_true] at hb
    have := h.frame.size
    split at hb
    · have h9 : c.w.heap.size = b := Option.some.inj hb
      left; omega
    · simp at hb
  · simp [AV.keys] at hq; subst hq; exact live_aput_self
end Go.Ab

namespace Go.Ab
open Go Go.RowKit
variable {P : Program} {B : Base} {c : Cx} {s : St} {a : Act}

theorem alook_enter : ∀ (os : List AO) (b k : Nat), alook (enterObjs os b) k = if b ≤ k then os[k - b]? else none
  | [], b, k => by simp [enterObjs, alook]
  | o :: r, b, k => by
    simp only [enterObjs, alook]
    by_cases h : b = k
    · subst h; simp
    · rw [beqF h, cond_false, alook_enter r (b + 1) k]
      by_cases h1 : b + 1 ≤ k
      · rw [if_pos h1, if_pos (by omega)]
        have : k - b = (k - (b + 1)) + 1 := by omega
        rw [this]; simp
      · rw [if_neg h1, if_neg (by omega)]

/-- The blocks that a row of objects has for itself. -/
def held (c : Cx) (objs : List (Nat × AO)) (b : Nat) : Prop := ∃ k o, alook objs k = some o ∧ excl c k o = some b

/-- The contract of a call. -/
def CallOk (P : Program) (G : Nat → Option (List AV)) (f : FuncId) (args : List AV) (os : List AO) (r : AV) (os' : List AO) : Prop :=
  ∀ (c0 : Cx) (vs : Array Value), Good G c0 → Objs c0 (enterObjs os keyBase) → vs.size = args.length →
    (∀ (i : Nat) (u : AV), args[i]? = some u → Rep c0 u (vs.getD i undef)) → (∀ k ∈ keysL args, live (enterObjs os keyBase) k) →
    Calls P f vs c0.w fun e w' => ∃ c' x, e = .returned x ∧ c'.w = w' ∧ Good G c' ∧
      Frame { c0 := c0, D := held c0 (enterObjs os keyBase), K := live (enterObjs os keyBase), G := G, N := 0 } c' ∧
      Objs c' (enterObjs os' keyBase) ∧ Rep c' r x ∧ (∀ k ∈ r.keys, live (enterObjs os' keyBase) k) ∧
      ∀ k o b, alook (enterObjs os' keyBase) k = some o → excl c' k o = some b → c0.w.heap.size ≤ b ∨ held c0 (enterObjs os keyBase) b

theorem renL_get (m : Nat → Nat) : ∀ (l : List AV) (i : Nat), (renL m l)[i]? = l[i]?.map (AV.ren m)
  | [], i => by simp [renL]
  | v :: r, i => by cases i <;> simp [renL, renL_get m r]
theorem renL_length (m : Nat → Nat) (l : List AV) : (renL m l).length = l.length := by induction l <;> simp [renL, *]
theorem ren_one (m : Nat → Nat) (v : AV) : (v.ren m).one = v.one := by
  cases v with
  | sl o => cases o <;> rfl
  | _ => rfl
mutual
theorem ren_keys (m : Nat → Nat) : ∀ (v : AV), ∀ k ∈ (v.ren m).keys, ∃ q ∈ v.keys, k = m q
  | .sl o sz n get => by cases o <;> simp [AV.ren, AV.keys]
  | .agg cs => by simp only [AV.ren, AV.keys]; exact renL_keys m cs
  | .tup vs => by simp only [AV.ren, AV.keys]; exact renL_keys m vs
  | .ref .. | .aref .. | .msl .. | .gsl .. | .gref .. | .gsub .. | .mref .. => by simp [AV.ren, AV.keys]
  | .fn f p q => by
    simp only [AV.ren, AV.keys, List.mem_append]
    rintro k (hk | hk)
    · obtain ⟨x, h1, h2⟩ := renL_keys m p k hk; exact ⟨x, .inl h1, h2⟩
    · obtain ⟨x, h1, h2⟩ := renL_keys m q k hk; exact ⟨x, .inr h1, h2⟩
  | .bool _ | .int .. | .str _ | .nilp | .nilf | .nilm | .nili | .nni | .num _ | .undef | .arr .. | .elt .. => by simp [AV.ren, AV.keys]
  | .grd t w v => by simp only [AV.ren, AV.keys]; exact ren_keys m v
theorem renL_keys (m : Nat → Nat) : ∀ (l : List AV), ∀ k ∈ keysL (renL m l), ∃ q ∈ keysL l, k = m q
  | [] => by simp [renL, keysL]
  | v :: r => by
    intro k hk
    simp only [renL, keysL, List.mem_append] at hk
    rcases hk with hk | hk
    · obtain ⟨x, h1, h2⟩ := ren_keys m v k hk
      exact ⟨x, by simp [keysL, h1], h2⟩
    · obtain ⟨x, h1, h2⟩ := renL_keys m r k hk
      exact ⟨x, by simp [keysL, h1], h2⟩
end

theorem Rep.ren {c c' : Cx} {m : Nat → Nat} (hc : ∀ b o v, c.I b o → c.w.cell? ⟨b, o, none⟩ = some v → c'.w.cell? ⟨b, o, none⟩ = some v) (hI : ∀ b o, c.I b o → c'.I b o) {v : AV} {x : Value} (h : Rep c v x) :
    (∀ k ∈ v.keys, c'.β (m k) = c.β k ∧ ∀ n y, OwnRep c (.key k) n y → OwnRep c' (.key (m k)) n y) → Rep c' (v.ren m) x := by
  have he : Ext c c' (fun _ => False) := ⟨hc, hI, fun _ h => h.elim, fun _ h => h.elim⟩
  induction h with
  | slNil o sz get ho =>
    intro hk
    cases o with
    | key k => exact .slNil _ _ _ ((hk k (by simp [AV.keys])).2 _ _ ho)
    | _ => exact .slNil _ _ _ ho
  | sl o sz n get ad cap vals h1 h2 h3 h4 h5 h6 _ =>
    intro hk
    have hown : ∀ o', OwnRep c' o' n (.slice (some ad) n cap) → Rep c' (.sl o' sz n get) (.slice (some ad) n cap) := fun o' ho =>
      .sl _ _ _ _ ad cap vals h1 h2 ho h4 (fun j i u hj hu => ⟨(h5 j i u hj hu).1, hc _ _ _ (h5 j i u hj hu).2.2 (h5 j i u hj hu).2.1, hI _ _ (h5 j i u hj hu).2.2⟩)
        (fun j i u hj hu => (h6 j i u hj hu).ext he fun k hk' => by rw [keys_nil_of (h4 j hj).2 hu] at hk'; simp at hk')
    cases o with
    | key k => exact hown _ ((hk k (by simp [AV.keys])).2 _ _ h3)
    | _ => exact hown _ h3
  | agg cs vs h1 h2 h3 ih =>
    intro hk
    refine .agg _ _ (by rw [h1, renL_length]) (fun i u hu => ?_) (fun i u hu => ?_)
    · rw [renL_get] at hu
      cases hi : cs[i]? with
      | none => simp [hi] at hu
      | some u' => simp [hi] at hu; subst hu; rw [ren_one]; exact h2 i u' hi
    · rw [renL_get] at hu
      cases hi : cs[i]? with
      | none => simp [hi] at hu
      | some u' => simp [hi] at hu; subst hu; exact ih i u' hi fun k hk' => hk k (by simpa [AV.keys] using keys_mem_of hi k hk')
  | tup us vs h1 h3 ih =>
    intro hk
    refine .tup _ _ (by rw [h1, renL_length]) (fun i u hu => ?_)
    rw [renL_get] at hu
    cases hi : us[i]? with
    | none => simp [hi] at hu
    | some u' => simp [hi] at hu; subst hu; exact ih i u' hi fun k hk' => hk k (by simpa [AV.keys] using keys_mem_of hi k hk')
  | bool b => intro _; exact .bool b
  | int k n => intro _; exact .int k n
  | str l => intro _; exact .str l
  | nilp => intro _; exact .nilp
  | nilf => intro _; exact .nilf
  | nilm => intro _; exact .nilm
  | nili => intro _; exact .nili
  | nni t v => intro _; exact .nni t v
  | num k n => intro _; exact .num k n
  | undef v => intro _; exact .undef v
  | arr sz n get vs h1 h2 h3 h4 _ =>
    intro _
    exact .arr sz n get vs h1 h2 h3 fun j i u hj hu => (h4 j i u hj hu).ext he fun k hk' => by rw [keys_nil_of (h2 j hj).2 hu] at hk'; simp at hk'
  | ref k off => intro hk; rw [← (hk k (by simp [AV.keys])).1]; exact .ref _ _
  | aref k sz i off => intro hk; rw [← (hk k (by simp [AV.keys])).1]; exact .aref _ _ _ _
  | elt cs off b o vals h1 h2 h3 _ =>
    intro _
    exact .elt cs off b o vals h1 (fun i u hu => ⟨(h2 i u hu).1, hc _ _ _ (h2 i u hu).2.2 (h2 i u hu).2.1, hI _ _ (h2 i u hu).2.2⟩) fun i u hu => (h3 i u hu).ext he fun k hk' => by rw [keys_nil_of h1 hu] at hk'; simp at hk'
  | msl k sz off len cap o h1 h2 => intro hk; rw [← (hk k (by simp [AV.keys])).1]; exact .msl _ _ _ _ _ _ h1 h2
  | gslNil k sz ho => intro hk; exact .gslNil _ _ ((hk k (by simp [AV.keys])).2 _ _ ho)
  | gsl k sz n a cap h1 ho => intro hk; exact .gsl _ _ _ _ _ h1 ((hk k (by simp [AV.keys])).2 _ _ ho)
  | gref k sz n i off b cap ho => intro hk; exact .gref _ _ _ _ _ _ _ ((hk k (by simp [AV.keys])).2 _ _ ho)
  | gsubNil k sz ho => intro hk; exact .gsubNil _ _ ((hk k (by simp [AV.keys])).2 _ _ ho)
  | gsub k sz n lo len a cap a' cap' h1 ho h2 h3 h4 h5 => intro hk; exact .gsub _ _ _ _ _ a cap a' cap' h1 ((hk k (by simp [AV.keys])).2 _ _ ho) h2 h3 h4 h5
  | mref k => intro hk; rw [← (hk k (by simp [AV.keys])).1]; exact .mref _
  | fn f p q vp vq h1 h2 h3 h4 ih1 ih2 =>
    intro hk
    refine .fn _ _ _ _ _ (by rw [h1, renL_length]) (by rw [h2, renL_length]) (fun i u hu => ?_) (fun i u hu => ?_)
    · rw [renL_get] at hu
      cases hi : p[i]? with
      | none => simp [hi] at hu
      | some u' => simp [hi] at hu; subst hu; exact ih1 i u' hi fun k hk' => hk k (by simpa [AV.keys] using .inl (keys_mem_of hi k hk'))
    · rw [renL_get] at hu
      cases hi : q[i]? with
      | none => simp [hi] at hu
      | some u' => simp [hi] at hu; subst hu; exact ih2 i u' hi fun k hk' => hk k (by simpa [AV.keys] using .inr (keys_mem_of hi k hk'))

/-! ### freezing -/

/-- The cells of a row, never written again from here on. -/
def Cx.froze (c : Cx) (b n : Nat) : Cx := { c with I := fun b' o => c.I b' o ∨ (b' = b ∧ o < n) }

theorem frzO_rep {c : Cx} {k sz n : Nat} {get : Nat → List AV} (sq : Nat) (h0 : 0 < sz) (hfr : c.fr k = some n) (hm : match c.κ k with | none => n = 0 | some (a, cap) => n ≤ cap ∧ (0 < cap → GrwAt c a (n + 1) sz n cap get)) : ObjRep c k (frzO sq sz n get) := by
  cases sq with
  | succ q => exact ⟨⟨h0, by omega⟩, hfr, hm⟩
  | zero =>
    refine ⟨h0, hfr, ?_⟩
    cases hκ : c.κ k with
    | none => rw [hκ] at hm; exact hm
    | some p =>
      obtain ⟨a, cap⟩ := p
      rw [hκ] at hm
      obtain ⟨hle, hG⟩ := hm
      refine ⟨fun hc => (hG hc).addr.2, hle, fun hc => ?_⟩
      have hG := hG (by omega)
      obtain ⟨vs, t, g1, g2, _⟩ := hG.row
      exact ⟨⟨vs, t, g1, g2⟩, hG.addr.1, fun o ho => hG.free o (by rw [Nat.add_sub_cancel]; exact ho)⟩
theorem frzO_excl {c : Cx} {k sq sz n : Nat} {get : Nat → List AV} {b : Nat} (h : excl c k (frzO sq sz n get) = some b) : excl c k (.grw sq sz n get) = some b := by
  cases sq with
  | succ q => exact h
  | zero =>
    simp only [frzO, excl] at h ⊢
    cases hκ : c.κ k with
    | none => rw [hκ] at h; simp at h
    | some p =>
      obtain ⟨ad, cap⟩ := p
      rw [hκ] at h
      simp only at h ⊢
      split at h
      · rw [if_pos (by omega)]; exact h
      · simp at h
theorem frzO_keys (sq sz n : Nat) (get : Nat → List AV) : (frzO sq sz n get).keys = [] := by cases sq <;> rfl
theorem freezeA_sound (h : Rel B c s a) {v v' : AV} {x : Value} {objs' : List (Nat × AO)} (hs : Sees B c s v x) (he : freezeA s.objs v = some (v', objs')) :
    ∃ c', c'.w = c.w ∧ Rel B c' { s with objs := objs' } a ∧ Sees B c' { s with objs := objs' } v' x ∧ (∀ k, live s.objs k → live objs' k) ∧ Ext c c' (live s.objs) := by
  cases v with
  | msl k sz off n =>
    simp only [freezeA] at he
    have hrep := hs.rep
    -- what the frozen slice reads as
    have key : ∀ (c' : Cx) (sz' m : Nat) (get : Nat → List AV), c'.w = c.w → c'.β k = c.β k → ArrAt c' (c'.β k) sz' m get → (∀ o, o < m * sz' → c'.I (c'.β k) o) → sz = sz' → off + n ≤ m → Rep c' (.sl .no sz n fun j => get (off + j)) x := by
      intro c' sz' m get hw hβ ha hI e hle
      subst e
      cases hrep with
      | msl _ _ _ _ cap o h1 h2 =>
        by_cases hn : n = 0
        · subst hn
          exact .sl _ _ _ _ _ _ (fun _ _ => undef) (fun _ => rfl) (Nat.zero_le _) trivial (fun j hj => by omega) (fun j i u hj => by omega) (fun j i u hj => by omega)
        · have ho := h2 (by omega)
          subst ho
          have hcell : ∀ (j i : Nat) (u : AV), j < n → (get (off + j))[i]? = some u → u.one = true ∧ ∃ y, c'.w.cell? ⟨c.β k, off * sz + (j * sz + i), none⟩ = some y ∧ Rep c' u y := by
            intro j i u hj hu
            obtain ⟨e1, y, e2, e3⟩ := ha.cellsAt (i := off + j) (by omega) i u hu
            refine ⟨e1, y, ?_, e3⟩
            rw [← e2, hβ]; congr 2; rw [Nat.add_mul]; omega
          refine .sl _ _ _ _ ⟨c.β k, off * sz, none⟩ cap (fun j i => (c'.w.cell? ⟨c.β k, off * sz + (j * sz + i), none⟩).getD undef) (fun _ => rfl) h1 trivial (fun j hj => ha.len _ (by omega)) (fun j i u hj hu => ?_) (fun j i u hj hu => ?_)
          · obtain ⟨e1, y, e2, e3⟩ := hcell j i u hj hu
            have hi : i < sz := by rw [← (ha.len (off + j) (by omega)).1]; exact (List.getElem?_eq_some_iff.1 hu).1
            refine ⟨e1, by simp [e2], ?_⟩
            have := hI ((off + j) * sz + i) (row_off_lt (by omega) hi)
            rw [hβ] at this
            have e5 : (off + j) * sz + i = off * sz + (j * sz + i) := by rw [Nat.add_mul]; omega
            rw [← e5]; exact this
          · obtain ⟨e1, y, e2, e3⟩ := hcell j i u hj hu
            simp only [e2, Option.getD_some]; exact e3
    cases ho : alook s.objs k with
    | none => simp [ho] at he
    | some ob =>
      have hob := h.objs.rep k ob ho
      cases ob with
      | arr sz' m get =>
        simp only [ho, guardO] at he
        cases hb : (Nat.beq sz sz' && Nat.ble (off + n) m) with
        | false => simp [hb] at he
        | true =>
          simp [hb] at he
          obtain ⟨rfl, rfl⟩ := he
          simp only [Bool.and_eq_true] at hb
          have hb1 := beqT hb.1
          have hb2 := Nat.le_of_ble_eq_true hb.2
          let c' := c.froze (c.β k) (m * sz')
          have hext : Ext c c' (live s.objs) := ⟨fun _ _ _ _ hv => hv, fun _ _ hi => .inl hi, fun _ _ => rfl, fun _ _ _ _ hv => hv⟩
          have hkb : KeepsBut c c' s.objs k := ⟨hext, fun _ _ _ => rfl, fun _ _ _ => rfl, fun _ _ _ => rfl, fun q o' b hq hne hb' => ⟨rfl, fun off' hi => by
            rcases hi with hi | ⟨rfl, _⟩
            · exact hi
            · exact (h.objs.apart q o' k _ _ hq ho hne hb' rfl).elim⟩⟩
          obtain ⟨⟨⟨vs, t', hh, hsz, hr⟩, hl, h1⟩, hI, hfr⟩ := hob
          have hgr : Grow B c c' := ⟨rfl, rfl, rfl, Nat.le_refl _, fun _ _ _ => rfl, fun b o hb' hd hi => by
            rcases hi with hi | ⟨rfl, _⟩
            · exact hi
            · rcases h.mine k _ _ ho rfl with h' | h'
              · omega
              · exact absurd h' hd, fun b o hi => by
            rcases hi with hi | ⟨rfl, hlt⟩
            · exact h.good.there b o hi
            · exact ⟨vs[o]'(by omega), by show c.w.cell? _ = _; rw [cell?_cells hh]; simp⟩⟩
          have harr : ArrAt c' (c'.β k) sz' m get := ⟨⟨vs, t', hh, hsz, fun j i u hj hu => (hr j i u hj hu).ext hext fun q hq => by rw [keys_nil_of (hl j hj).2 hu] at hq; simp at hq⟩, hl, h1⟩
          have hrel := h.obj (k := k) (o := .frz sz' m get) hkb hgr ⟨harr, fun o ho' => .inr ⟨rfl, ho'⟩, hfr⟩ (fun q o' b hq hne hb' e => h.objs.apart q o' k _ b hq ho hne hb' e) (by simp [AO.keys]) (fun b hb' => h.mine k _ b ho hb')
          exact ⟨c', rfl, hrel, ⟨key c' sz' m get rfl rfl harr (fun o ho' => .inr ⟨rfl, ho'⟩) hb1 hb2, by simp [AV.keys], rfl⟩, fun q hq => live_aput hq, hext⟩
      | frz sz' m get =>
        simp only [ho, guardO] at he
        cases hb : (Nat.beq sz sz' && Nat.ble (off + n) m) with
        | false => simp [hb] at he
        | true =>
          simp [hb] at he
          obtain ⟨rfl, rfl⟩ := he
          simp only [Bool.and_eq_true] at hb
          have hb1 := beqT hb.1
          have hb2 := Nat.le_of_ble_eq_true hb.2
          exact ⟨c, rfl, h, ⟨key c sz' m get rfl rfl hob.1 hob.2.1 hb1 hb2, by simp [AV.keys], rfl⟩, fun q hq => hq, Ext.refl _ _⟩
      | _ => simp [ho] at he
  | gsl k sz n =>
    simp only [freezeA] at he
    have hrep := hs.rep
    cases ho : alook s.objs k with
    | none => simp [ho] at he
    | some ob =>
      have hob := h.objs.rep k ob ho
      cases ob with
      | grw sq sz' m get =>
        simp only [ho, guardO] at he
        cases hb : (Nat.beq sz sz' && Nat.beq n m) with
        | false => simp [hb] at he
        | true =>
          simp only [hb, cond_true, Option.some.injEq, Prod.mk.injEq] at he
          obtain ⟨rfl, rfl⟩ := he
          simp only [Bool.and_eq_true] at hb
          have hb1 := beqT hb.1
          have hb2 := beqT hb.2
          subst hb1 hb2
          obtain ⟨hsz0, hfr, hm⟩ := hob
          have hX : x = slOf (c.κ k) n := by
            have hown : OwnRep c (.key k) n x := by
              cases hrep with
              | gslNil _ _ hq => exact hq
              | gsl _ _ _ ad cap hn hq => exact hq
            obtain ⟨q, f1, f2, f3⟩ := hown
            rw [hfr] at f1
            exact f3 (Option.some.inj f1)
          -- the owner's room
          have hex0 : ∀ b, excl c k (frzO sq sz n get) = some b → excl c k (.grw sq sz n get) = some b := fun b hb' => frzO_excl hb'
          have fin : ∀ c' : Cx, c'.w = c.w → c'.β = c.β → c'.κ = c.κ → c'.fr = c.fr → KeepsBut c c' s.objs k → Grow B c c' → ObjRep c' k (frzO sq sz n get) → Rep c' (.sl .no sz n get) x →
              ∃ c', c'.w = c.w ∧ Rel B c' { s with objs := aput s.objs k (frzO sq sz n get) } a ∧ Sees B c' { s with objs := aput s.objs k (frzO sq sz n get) } (.sl .no sz n get) x ∧ (∀ q, live s.objs q → live (aput s.objs k (frzO sq sz n get)) q) ∧ Ext c c' (live s.objs) := by
            intro c' hw hβ hκ hf hkb hgr hor hrx
            have hsame : excl c' k (frzO sq sz n get) = excl c k (frzO sq sz n get) := excl_same (by rw [hβ]) (by rw [hκ])
            refine ⟨c', hw, h.obj (k := k) (o := frzO sq sz n get) hkb hgr hor (fun q o' b hq hne hb' e => ?_) (by rw [frzO_keys]; simp) (fun b hb' => ?_), ⟨hrx, by simp [AV.keys], rfl⟩, fun q hq => live_aput hq, hkb.ext⟩
            · rw [hsame] at e
              exact h.objs.apart q o' k _ b hq ho hne hb' (hex0 b e)
            · rw [hsame] at hb'
              exact h.mine k _ b ho (hex0 b hb')
          cases hκ : c.κ k with
          | none =>
            simp only [hκ] at hm
            subst hm
            rw [hκ] at hX
            have hX : x = .slice none 0 0 := hX
            subst hX
            refine fin c rfl rfl rfl rfl ((Keeps.refl c s.objs).but k) (Grow.refl h.good) (frzO_rep sq hsz0.1 hfr (by rw [hκ])) (.slNil _ _ _ trivial)
          | some p =>
            obtain ⟨ad, cap⟩ := p
            simp only [hκ] at hm
            obtain ⟨hle, hG⟩ := hm
            rw [hκ] at hX
            have hX : x = .slice (some ad) n cap := hX
            subst hX
            by_cases hc0 : 0 < cap
            · obtain ⟨⟨vs, t', hh, hvs, hr⟩, had, hl, h1, hI⟩ := hG hc0
              have hexg : excl c k (.grw sq sz n get) = some ad.block := by simp only [excl, hκ]; rw [if_pos hc0]
              have hext : Ext c (c.froze ad.block (n * sz)) (live s.objs) := ⟨fun _ _ _ _ hv => hv, fun _ _ hi => .inl hi, fun _ _ => rfl, fun _ _ _ _ hv => hv⟩
              have hkb : KeepsBut c (c.froze ad.block (n * sz)) s.objs k := ⟨hext, fun _ _ _ => rfl, fun _ _ _ => rfl, fun _ _ _ => rfl, fun q o' b hq hne hb' => ⟨rfl, fun off' hi => by
                rcases hi with hi | ⟨rfl, _⟩
                · exact hi
                · exact (h.objs.apart q o' k _ _ hq ho hne hb' hexg).elim⟩⟩
              have hnle : n * sz ≤ vs.size := by rw [hvs]; exact Nat.mul_le_mul_right _ hle
              have hgr : Grow B c (c.froze ad.block (n * sz)) := ⟨rfl, rfl, rfl, Nat.le_refl _, fun _ _ _ => rfl, fun b o hb' hd hi => by
                rcases hi with hi | ⟨rfl, _⟩
                · exact hi
                · rcases h.mine k _ _ ho hexg with h' | h'
                  · omega
                  · exact absurd h' hd, fun b o hi => by
                rcases hi with hi | ⟨rfl, hlt⟩
                · exact h.good.there b o hi
                · exact ⟨vs[o]'(by omega), by show c.w.cell? _ = _; rw [cell?_cells hh]; simp⟩⟩
              refine fin (c.froze ad.block (n * sz)) rfl rfl rfl rfl hkb hgr (frzO_rep sq hsz0.1 hfr ?_) ?_
              · show (match c.κ k with | none => n = 0 | some (a, cap) => n ≤ cap ∧ (0 < cap → GrwAt (c.froze ad.block (n * sz)) a (n + 1) sz n cap get))
                rw [hκ]
                refine ⟨hle, fun _ => ⟨⟨vs, t', hh, hvs, fun j i u hj hu => (hr j i u hj hu).ext hext fun q hq => by rw [keys_nil_of (hl j hj).2 hu] at hq; simp at hq⟩, had, hl, h1, fun o ho' hi => ?_⟩⟩
                rw [Nat.add_sub_cancel] at ho'
                rcases hi with hi | ⟨_, hlt⟩
                · exact hI o (Nat.le_trans (Nat.mul_le_mul_right sz hsz0.2) ho') hi
                · omega
              · refine .sl _ _ _ _ ad cap (fun j i => vs.getD (j * sz + i) undef) (fun _ => had.2) hle trivial hl (fun j i u hj hu => ?_) (fun j i u hj hu => (hr j i u hj hu).ext hext fun q hq => by rw [keys_nil_of (hl j hj).2 hu] at hq; simp at hq)
                have hi : i < sz := by rw [← (hl j hj).1]; exact (List.getElem?_eq_some_iff.1 hu).1
                have hlt := row_off_lt hj hi
                have hoff := had.1
                refine ⟨h1 j i u hj hu, ?_, .inr ⟨rfl, by omega⟩⟩
                show c.w.cell? _ = _
                rw [hoff, Nat.zero_add, cell?_cells hh]
                have : j * sz + i < vs.size := by omega
                simp [Array.getD_eq_getD_getElem?, this]
            · have hn0 : n = 0 := by omega
              subst hn0
              have hcz : cap = 0 := by omega
              subst hcz
              refine fin c rfl rfl rfl rfl ((Keeps.refl c s.objs).but k) (Grow.refl h.good) (frzO_rep sq hsz0.1 hfr (by rw [hκ]; exact ⟨Nat.le_refl _, fun h0 => absurd h0 (by omega)⟩)) (.sl _ _ _ _ ad 0 (fun _ _ => undef) (fun h0 => absurd h0 (by omega)) (Nat.le_refl _) trivial (fun j hj => by omega) (fun j i u hj => by omega) (fun j i u hj => by omega))
      | _ => simp [ho] at he
  | _ => simp [freezeA] at he; obtain ⟨rfl, rfl⟩ := he; exact ⟨c, rfl, h, hs, fun _ h => h, Ext.refl _ _⟩

theorem Sees.move {c c' : Cx} {s s' : St} {v : AV} {x : Value} (h : Sees B c s v x) (hl : ∀ k, Go.Ab.live s.objs k → Go.Ab.live s'.objs k) (he : Ext c c' (Go.Ab.live s.objs)) : Sees B c' s' v x :=
  ⟨h.rep.ext he h.live, fun k hk => hl k (h.live k hk), h.plain⟩

/-- The state with other objects. -/
abbrev St.with (s : St) (objs : List (Nat × AO)) : St := { s with objs := objs }

theorem freezeL_sound : ∀ {l l' : List AV} {xs : List Value} {c : Cx} {s : St} {objs' : List (Nat × AO)}, Rel B c s a → SeesL B c s l xs → freezeL s.objs l = some (l', objs') →
    ∃ c', c'.w = c.w ∧ Rel B c' (s.with objs') a ∧ SeesL B c' (s.with objs') l' xs ∧ (∀ k, live s.objs k → live objs' k) ∧ Ext c c' (live s.objs)
  | [], l', xs, c, s, objs', h, hs, he => by
    simp [freezeL] at he; obtain ⟨rfl, rfl⟩ := he
    exact ⟨c, rfl, h, hs, fun _ h => h, Ext.refl _ _⟩
  | v :: r, l', xs, c, s, objs', h, hs, he => by
    simp only [freezeL] at he
    cases h1 : freezeA s.objs v with
    | none => simp [h1] at he
    | some p =>
      obtain ⟨v', o1⟩ := p
      cases h2 : freezeL o1 r with
      | none => simp [h1, h2] at he
      | some q =>
        obtain ⟨r', o2⟩ := q
        simp [h1, h2] at he
        obtain ⟨rfl, rfl⟩ := he
        obtain ⟨x, rs, rfl, hx, hr⟩ := hs.cons_inv
        obtain ⟨c1, e1, e2, e3, e4, e5⟩ := freezeA_sound h hx h1
        have hr1 : SeesL B c1 (s.with o1) r rs := ⟨hr.1, fun i u hu => (hr.2 i u hu).move e4 e5⟩
        obtain ⟨c2, f1, f2, f3, f4, f5⟩ := freezeL_sound e2 hr1 h2
        refine ⟨c2, f1.trans e1, f2, ⟨by simp [f3.1], fun i u hu => ?_⟩, fun k hk => f4 k (e4 k hk), e5.trans (f5.sub e4)⟩
        cases i with
        | zero => simp at hu; subst hu; simpa using e3.move f4 f5
        | succ i => simpa using f3.2 i u (by simpa using hu)

theorem freezeA_one {objs objs' : List (Nat × AO)} {v v' : AV} (h : freezeA objs v = some (v', objs')) : v'.one = v.one := by
  cases v with
  | msl k sz off n =>
    simp only [freezeA] at h
    cases ho : alook objs k with
    | none => simp [ho] at h
    | some ob =>
      cases ob with
      | arr sz' m get =>
        cases hb : (Nat.beq sz sz' && Nat.ble (off + n) m) with
        | false => simp [ho, hb, guardO] at h
        | true => simp [ho, hb, guardO] at h; rw [← h.1]; rfl
      | frz sz' m get =>
        cases hb : (Nat.beq sz sz' && Nat.ble (off + n) m) with
        | false => simp [ho, hb, guardO] at h
        | true => simp [ho, hb, guardO] at h; rw [← h.1]; rfl
      | _ => simp [ho] at h
  | gsl k sz n =>
    simp only [freezeA] at h
    cases ho : alook objs k with
    | none => simp [ho] at h
    | some ob =>
      cases ob with
      | grw sq sz' m get =>
        cases hb : (Nat.beq sz sz' && Nat.beq n m) with
        | false => simp [ho, hb, guardO] at h
        | true => simp [ho, hb, guardO] at h; rw [← h.1]; rfl
      | _ => simp [ho] at h
  | _ => simp [freezeA] at h; rw [← h.1]
theorem freezeL_ones : ∀ {l l' : List AV} {objs objs' : List (Nat × AO)}, freezeL objs l = some (l', objs') → ∀ (i : Nat) (u' : AV), l'[i]? = some u' → ∃ u, l[i]? = some u ∧ u'.one = u.one
  | [], l', objs, objs', h, i, u', hu => by simp [freezeL] at h; obtain ⟨rfl, _⟩ := h; simp at hu
  | v :: r, l', objs, objs', h, i, u', hu => by
    simp only [freezeL] at h
    cases h1 : freezeA objs v with
    | none => simp [h1] at h
    | some p =>
      obtain ⟨v', o1⟩ := p
      cases h2 : freezeL o1 r with
      | none => simp [h1, h2] at h
      | some q =>
        obtain ⟨r', o2⟩ := q
        simp [h1, h2] at h
        obtain ⟨rfl, rfl⟩ := h
        cases i with
        | zero => simp at hu; subst hu; exact ⟨v, rfl, freezeA_one h1⟩
        | succ i => simpa using freezeL_ones h2 i u' (by simpa using hu)

theorem freezeV_sound (h : Rel B c s a) {v v' : AV} {x : Value} {objs' : List (Nat × AO)} (hs : Sees B c s v x) (he : freezeV s.objs v = some (v', objs')) :
    ∃ c', c'.w = c.w ∧ Rel B c' (s.with objs') a ∧ Sees B c' (s.with objs') v' x ∧ (∀ k, live s.objs k → live objs' k) ∧ Ext c c' (live s.objs) := by
  cases v with
  | agg cs =>
    simp only [freezeV] at he
    cases h1 : freezeL s.objs cs with
    | none => simp [h1] at he
    | some p =>
      obtain ⟨cs', o1⟩ := p
      simp [h1] at he
      obtain ⟨rfl, rfl⟩ := he
      obtain ⟨hr, hl, hp⟩ := hs
      cases hr with
      | agg _ vs e1 e2 e3 =>
        have hL : SeesL B c s cs vs.toList := ⟨by simpa using e1, fun i u hu => ⟨by
          have := e3 i u hu
          simpa [Array.getD_eq_getD_getElem?, List.getD_eq_getElem?_getD] using this, fun k hk => hl k (by simpa [AV.keys] using keys_mem_of hu k hk), (e3 i u hu).plain⟩⟩
        obtain ⟨c', f1, f2, f3, f4, f5⟩ := freezeL_sound h hL h1
        have hfn := f3.fn
        refine ⟨c', f1, f2, ⟨.agg _ _ (by simpa using hfn.1) (fun i u hu => ?_) (fun i u hu => by simpa using hfn.2.1 i u hu), by simpa [AV.keys] using hfn.2.2, rfl⟩, f4, f5⟩
        obtain ⟨u0, g1, g2⟩ := freezeL_ones h1 i u hu
        rw [g2]; exact e2 i u0 g1
  | _ => exact freezeA_sound h hs he

theorem freezeVs_sound : ∀ {l l' : List AV} {xs : List Value} {c : Cx} {s : St} {objs' : List (Nat × AO)}, Rel B c s a → SeesL B c s l xs → freezeVs s.objs l = some (l', objs') →
    ∃ c', c'.w = c.w ∧ Rel B c' (s.with objs') a ∧ SeesL B c' (s.with objs') l' xs ∧ (∀ k, live s.objs k → live objs' k) ∧ Ext c c' (live s.objs)
  | [], l', xs, c, s, objs', h, hs, he => by
    simp [freezeVs] at he; obtain ⟨rfl, rfl⟩ := he
    exact ⟨c, rfl, h, hs, fun _ h => h, Ext.refl _ _⟩
  | v :: r, l', xs, c, s, objs', h, hs, he => by
    simp only [freezeVs] at he
    cases h1 : freezeV s.objs v with
    | none => simp [h1] at he
    | some p =>
      obtain ⟨v', o1⟩ := p
      cases h2 : freezeVs o1 r with
      | none => simp [h1, h2] at he
      | some q =>
        obtain ⟨r', o2⟩ := q
        simp [h1, h2] at he
        obtain ⟨rfl, rfl⟩ := he
        obtain ⟨x, rs, rfl, hx, hr⟩ := hs.cons_inv
        obtain ⟨c1, e1, e2, e3, e4, e5⟩ := freezeV_sound h hx h1
        have hr1 : SeesL B c1 (s.with o1) r rs := ⟨hr.1, fun i u hu => (hr.2 i u hu).move e4 e5⟩
        obtain ⟨c2, f1, f2, f3, f4, f5⟩ := freezeVs_sound e2 hr1 h2
        refine ⟨c2, f1.trans e1, f2, ⟨by simp [f3.1], fun i u hu => ?_⟩, fun k hk => f4 k (e4 k hk), e5.trans (f5.sub e4)⟩
        cases i with
        | zero => simp at hu; subst hu; simpa using e3.move f4 f5
        | succ i => simpa using f3.2 i u (by simpa using hu)

theorem SeesL.shed : ∀ {l : List AV} {xs : List Value}, SeesL B c s l xs → SeesL B c s (shedL l) xs := by
  intro l xs h
  refine ⟨by rw [shedL_length]; exact h.1, fun i u hu => ?_⟩
  rw [shedL_get] at hu
  cases hi : l[i]? with
  | none => simp [hi] at hu
  | some u' => simp [hi] at hu; subst hu; exact (h.2 i u' hi).shed

/-! ### lists of keys -/

theorem any_beq {l : List Nat} {k : Nat} : l.any (Nat.beq k) = true ↔ k ∈ l := by
  rw [List.any_eq_true]
  exact ⟨fun ⟨x, h1, h2⟩ => beqT h2 ▸ h1, fun h => ⟨k, h, Nat.beq_refl k⟩⟩
theorem addKeys_spec : ∀ (l acc : List Nat), acc.Nodup → (addKeys acc l).Nodup ∧ ∀ k, k ∈ addKeys acc l ↔ k ∈ acc ∨ k ∈ l
  | [], acc, h => ⟨h, by simp [addKeys]⟩
  | k :: r, acc, h => by
    simp only [addKeys]
    cases hb : acc.any (Nat.beq k) with
    | true =>
      obtain ⟨h1, h2⟩ := addKeys_spec r acc h
      refine ⟨h1, fun q => ?_⟩
      have := any_beq.1 hb
      simp only [cond_true, h2 q, List.mem_cons]
      constructor
      · rintro (h | h)
        · exact .inl h
        · exact .inr (.inr h)
      · rintro (h | rfl | h)
        · exact .inl h
        · exact .inl this
        · exact .inr h
    | false =>
      have hk : k ∉ acc := fun hm => by rw [any_beq.2 hm] at hb; simp at hb
      obtain ⟨h1, h2⟩ := addKeys_spec r (acc ++ [k]) (by
        rw [List.nodup_append]
        exact ⟨h, by simp, fun x hx y hy => by simp at hy; subst hy; rintro rfl; exact hk hx⟩)
      refine ⟨h1, fun q => ?_⟩
      simp only [cond_false, h2 q, List.mem_append, List.mem_cons, List.not_mem_nil, or_false, or_assoc]
theorem reachK_spec (objs : List (Nat × AO)) (l : List Nat) : (reachK objs l).Nodup ∧ ∀ k ∈ l, k ∈ reachK objs l := by
  unfold reachK
  obtain ⟨a1, a2⟩ := addKeys_spec l [] List.nodup_nil
  obtain ⟨b1, b2⟩ := addKeys_spec (objKeys objs (addKeys [] l)) (addKeys [] l) a1
  obtain ⟨c1, c2⟩ := addKeys_spec (objKeys objs (addKeys (addKeys [] l) (objKeys objs (addKeys [] l)))) _ b1
  exact ⟨c1, fun k hk => (c2 k).2 (.inl ((b2 k).2 (.inl ((a2 k).2 (.inr hk)))))⟩
theorem subK_spec : ∀ {l m : List Nat}, subK l m = true → ∀ k ∈ l, k ∈ m
  | [], m, _ => by simp
  | k :: r, m, h => by
    simp only [subK, Bool.and_eq_true] at h
    intro q hq
    rcases List.mem_cons.1 hq with rfl | hq
    · exact any_beq.1 h.1
    · exact subK_spec h.2 q hq
theorem getObjs_spec : ∀ {objs : List (Nat × AO)} {ks : List Nat} {os : List AO}, getObjs objs ks = some os → os.length = ks.length ∧ ∀ (i : Nat) (k : Nat), ks[i]? = some k → alook objs k = os[i]? ∧ live objs k
  | objs, [], os, h => by simp [getObjs] at h; subst h; simp
  | objs, k :: r, os, h => by
    simp only [getObjs] at h
    cases ho : alook objs k with
    | none => simp [ho] at h
    | some o =>
      cases hr : getObjs objs r with
      | none => simp [ho, hr] at h
      | some l =>
        simp [ho, hr] at h; subst h
        obtain ⟨h1, h2⟩ := getObjs_spec hr
        refine ⟨by simp [h1], fun i q hq => ?_⟩
        cases i with
        | zero => simp at hq; subst hq; exact ⟨by simp [ho], o, ho⟩
        | succ i => simpa using h2 i q (by simpa using hq)
theorem objKeys_mem {objs : List (Nat × AO)} : ∀ {ks : List Nat} {k : Nat} {o : AO}, k ∈ ks → alook objs k = some o → ∀ q ∈ o.keys, q ∈ objKeys objs ks
  | [], k, o, hk, _ => by simp at hk
  | q :: r, k, o, hk, ho => by
    intro x hx
    simp only [objKeys, List.mem_append]
    rcases List.mem_cons.1 hk with rfl | hk
    · left; simp [ho, hx]
    · right; exact objKeys_mem hk ho x hx
theorem idxOf_spec : ∀ {ks : List Nat} {k : Nat} (d : Nat), k ∈ ks → ks[idxOf ks k d]? = some k
  | [], k, d, h => by simp at h
  | q :: r, k, d, h => by
    simp only [idxOf]
    by_cases e : q = k
    · subst e; simp
    · rw [beqF e, cond_false]
      simp only [List.getElem?_cons_succ]
      exact idxOf_spec d (by rcases List.mem_cons.1 h with rfl | h; exact absurd rfl e; exact h)
theorem nthD_spec : ∀ {ks : List Nat} {i k : Nat}, ks[i]? = some k → nthD ks i = k
  | [], i, k, h => by simp at h
  | q :: r, 0, k, h => by simp at h; subst h; rfl
  | q :: r, i + 1, k, h => by simpa [nthD] using nthD_spec (ks := r) (by simpa using h)
theorem alook_putObjs : ∀ {ks : List Nat} {l : List AO} {objs : List (Nat × AO)}, ks.Nodup → l.length = ks.length → ∀ k, alook (putObjs objs ks l) k = if k ∈ ks then l[idxOf ks k 0]? else alook objs k
  | [], l, objs, _, _, k => by
    cases l <;> simp [putObjs]
  | q :: r, [], objs, _, hl, k => by simp at hl
  | q :: r, o :: l, objs, hn, hl, k => by
    obtain ⟨hq, hn⟩ := List.nodup_cons.1 hn
    simp only [putObjs]
    rw [alook_putObjs hn (by simpa using hl) k, alook_aput]
    simp only [idxOf]
    by_cases e : q = k
    · subst e
      rw [if_neg hq]; simp
    · rw [beqF e]
      by_cases hk : k ∈ r
      · rw [if_pos hk, if_pos (List.mem_cons_of_mem _ hk)]; simp
      · rw [if_neg hk, if_neg e, if_neg (by simp [hk]; exact fun h => e h.symm)]
end Go.Ab

namespace Go.Ab
open Go Go.RowKit
variable {P : Program} {B : Base} {c : Cx} {s : St} {a : Act}

theorem AO.ren_keys (m : Nat → Nat) (o : AO) : ∀ k ∈ (o.ren m).keys, ∃ q ∈ o.keys, k = m q := by
  cases o with
  | cells cs => simp only [AO.ren, AO.keys]; exact renL_keys m cs
  | _ => simp [AO.ren, AO.keys]

theorem ObjRep.ren {c c' : Cx} {m : Nat → Nat} {k k' : Nat} {o : AO} (h : ObjRep c k o) (hw : c'.w = c.w) (hI : c'.I = c.I) (hβ : c'.β k' = c.β k) (hκ : c'.κ k' = c.κ k) (hf : c'.fr k' = c.fr k)
    (hk : ∀ q ∈ o.keys, c'.β (m q) = c.β q ∧ ∀ n y, OwnRep c (.key q) n y → OwnRep c' (.key (m q)) n y) : ObjRep c' k' (o.ren m) := by
  have hren : ∀ {v : AV} {x : Value}, Rep c v x → (∀ q ∈ v.keys, c'.β (m q) = c.β q ∧ ∀ n y, OwnRep c (.key q) n y → OwnRep c' (.key (m q)) n y) → Rep c' (v.ren m) x :=
    fun hr hk => hr.ren (fun b o v _ hv => by rw [hw]; exact hv) (fun b o hi => by rw [hI]; exact hi) hk
  have hext : Ext c c' (fun _ => False) := ⟨fun b o v _ hv => by rw [hw]; exact hv, fun b o hi => by rw [hI]; exact hi, fun _ h => h.elim, fun _ h => h.elim⟩
  have harr : ∀ {sz n : Nat} {get : Nat → List AV}, ArrAt c (c.β k) sz n get → ArrAt c' (c'.β k') sz n get := by
    rintro sz n get ⟨⟨vs, t, hh, hs, hv⟩, hl, h1⟩
    exact ⟨⟨vs, t, by rw [hw, hβ]; exact hh, hs, fun j i u hj hu => (hv j i u hj hu).ext hext fun q hq => by rw [keys_nil_of (hl j hj).2 hu] at hq; simp at hq⟩, hl, h1⟩
  cases o with
  | cells cs =>
    obtain ⟨⟨⟨vs, t, hh, hs, hv⟩, h1⟩, hI', hfr⟩ := h
    refine ⟨⟨⟨vs, t, by rw [hw, hβ]; exact hh, by rw [hs, renL_length], fun i u hu => ?_⟩, fun i u hu => ?_⟩, by rw [hI, hβ]; exact hI', hf.trans hfr⟩
    · rw [renL_get] at hu
      cases hi : cs[i]? with
      | none => simp [hi] at hu
      | some u' => simp [hi] at hu; subst hu; exact hren (hv i u' hi) fun q hq => hk q (by simpa [AO.keys] using keys_mem_of hi q hq)
    · rw [renL_get] at hu
      cases hi : cs[i]? with
      | none => simp [hi] at hu
      | some u' => simp [hi] at hu; subst hu; rw [ren_one]; exact h1 i u' hi
  | arr sz n get => exact ⟨harr h.1, by rw [hI, hβ]; exact h.2.1, hf.trans h.2.2⟩
  | frz sz n get => exact ⟨harr h.1, by rw [hI, hβ]; exact h.2.1, hf.trans h.2.2⟩
  | own sz n =>
    obtain ⟨h0, hfr, hm⟩ := h
    refine ⟨h0, hf.trans hfr, ?_⟩
    simp only [hκ]
    cases hc : c.κ k with
    | none => simpa [hc] using hm
    | some p =>
      obtain ⟨ad, cap⟩ := p
      simp only [hc] at hm ⊢
      obtain ⟨h1, h2, h3⟩ := hm
      refine ⟨h1, h2, fun hlt => ?_⟩
      obtain ⟨⟨vs, t, hh, hs⟩, hoff, hfree⟩ := h3 hlt
      exact ⟨⟨vs, t, by rw [hw]; exact hh, hs⟩, hoff, by rw [hI]; exact hfree⟩
  | grw sq sz n get =>
    obtain ⟨h0, hfr, hm⟩ := h
    refine ⟨h0, hf.trans hfr, ?_⟩
    simp only [hκ]
    cases hc : c.κ k with
    | none => simpa [hc] using hm
    | some p =>
      obtain ⟨ad, cap⟩ := p
      simp only [hc] at hm ⊢
      obtain ⟨h2, h3⟩ := hm
      refine ⟨h2, fun hlt => ?_⟩
      obtain ⟨⟨vs, t, hh, hs, hv⟩, had, hl, h1, hfree⟩ := h3 hlt
      exact ⟨⟨vs, t, by rw [hw]; exact hh, hs, fun j i u hj hu => (hv j i u hj hu).ext hext fun q hq => by rw [keys_nil_of (hl j hj).2 hu] at hq; simp at hq⟩, had, hl, h1, by rw [hI]; exact hfree⟩
  | iter l p => exact ⟨by rw [hw, hβ]; exact h.1, by rw [hI, hβ]; exact h.2.1, hf.trans h.2.2⟩
  | mp ka ks dom get =>
    obtain ⟨⟨⟨es, clock, ms, hh, h1, h2, h3, h4⟩, hp⟩, hI', hfr⟩ := h
    refine ⟨⟨⟨es, clock, ms, by rw [hw, hβ]; exact hh, h1, fun m hm => ?_, h3, h4⟩, hp⟩, by rw [hI, hβ]; exact hI', hf.trans hfr⟩
    obtain ⟨e1, e2, e3⟩ := h2 m hm
    exact ⟨e1, e2, e3.ext hext fun q hq => by rw [hp _ e1 e2] at hq; simp at hq⟩
  | gone => trivial

theorem excl_ren {c c' : Cx} {m : Nat → Nat} {k k' : Nat} {o : AO} (hβ : c'.β k' = c.β k) (hκ : c'.κ k' = c.κ k) : excl c' k' (o.ren m) = excl c k o := by
  cases o <;> simp [AO.ren, excl, hβ, hκ]

theorem Objs.rep_keep' {c c' : Cx} {objs : List (Nat × AO)} (h : Objs c objs) {q : Nat} {o : AO} (hext : Ext c c' (live objs)) (hq : alook objs q = some o)
    (hβ : c'.β q = c.β q) (hκ : c'.κ q = c.κ q) (hf : c'.fr q = c.fr q) (heap : ∀ b, excl c q o = some b → c'.w.heap[b]? = c.w.heap[b]? ∧ ∀ off, c'.I b off → c.I b off) : ObjRep c' q o := by
  have hr := h.rep q o hq
  cases o with
  | cells cs =>
    obtain ⟨⟨⟨vs, t, hh, hs, hv⟩, h1⟩, hI, hfr⟩ := hr
    have hh' := heap (c.β q) rfl
    refine ⟨⟨⟨vs, t, ?_, hs, fun i u hu => (hv i u hu).ext hext fun r hr => h.closed q _ hq r (by simpa [AO.keys] using keys_mem_of hu r hr)⟩, h1⟩, ?_, hf.trans hfr⟩
    · rw [hβ, hh'.1]; exact hh
    · intro o ho; rw [hβ] at ho; exact hI o (hh'.2 o ho)
  | arr sz n get =>
    obtain ⟨⟨⟨vs, t, hh, hs, hv⟩, hl', h1⟩, hI, hfr⟩ := hr
    have hh' := heap (c.β q) rfl
    refine ⟨⟨⟨vs, t, ?_, hs, fun j i u hj hu => (hv j i u hj hu).ext hext fun r hr => ?_⟩, hl', h1⟩, ?_, hf.trans hfr⟩
    · rw [hβ, hh'.1]; exact hh
    · rw [keys_nil_of (hl' j hj).2 hu] at hr; simp at hr
    · intro o ho; rw [hβ] at ho; exact hI o (hh'.2 o ho)
  | frz sz n get =>
    obtain ⟨⟨⟨vs, t, hh, hs, hv⟩, hl', h1⟩, hI, hfr⟩ := hr
    have hh' := heap (c.β q) rfl
    refine ⟨⟨⟨vs, t, ?_, hs, fun j i u hj hu => (hv j i u hj hu).ext hext fun r hr => ?_⟩, hl', h1⟩, ?_, hf.trans hfr⟩
    · rw [hβ, hh'.1]; exact hh
    · rw [keys_nil_of (hl' j hj).2 hu] at hr; simp at hr
    · intro o ho; rw [hβ]; exact hext.I _ _ (hI o ho)
  | own sz n =>
    obtain ⟨h0, hfr, hm⟩ := hr
    refine ⟨h0, hf.trans hfr, ?_⟩
    rw [hκ]
    cases hc : c.κ q with
    | none => simpa [hc] using hm
    | some p =>
      obtain ⟨ad, cap⟩ := p
      simp only [hc] at hm ⊢
      obtain ⟨h1, h2, h3⟩ := hm
      refine ⟨h1, h2, fun hlt => ?_⟩
      obtain ⟨⟨vs, t, hh, hs⟩, hoff, hfree⟩ := h3 hlt
      have hh' := heap ad.block (by simp [excl, hc, hlt])
      exact ⟨⟨vs, t, hh'.1.trans hh, hs⟩, hoff, fun o ho hi => hfree o ho (hh'.2 o hi)⟩
  | grw sq sz n get =>
    obtain ⟨h0, hfr, hm⟩ := hr
    refine ⟨h0, hf.trans hfr, ?_⟩
    rw [hκ]
    cases hc : c.κ q with
    | none => simpa [hc] using hm
    | some p =>
      obtain ⟨a, cap⟩ := p
      simp only [hc] at hm ⊢
      obtain ⟨h2, h3⟩ := hm
      refine ⟨h2, fun hlt => ?_⟩
      obtain ⟨⟨vs, t, hh, hs, hv⟩, had, hl', h1, hfree⟩ := h3 hlt
      have hh' := heap a.block (by simp [excl, hc, hlt])
      exact ⟨⟨vs, t, hh'.1.trans hh, hs, fun j i u hj hu => (hv j i u hj hu).ext hext fun r hr => by rw [keys_nil_of (hl' j hj).2 hu] at hr; simp at hr⟩, had, hl', h1, fun o ho hi => hfree o ho (hh'.2 o hi)⟩
  | iter s p =>
    obtain ⟨hh, hI, hfr⟩ := hr
    have hh' := heap (c.β q) rfl
    exact ⟨by rw [hβ, hh'.1]; exact hh, fun o ho => by rw [hβ] at ho; exact hI o (hh'.2 o ho), hf.trans hfr⟩
  | mp ka ks dom get =>
    obtain ⟨⟨⟨es, clock, ms, hh, h1, h2, h3, h4⟩, hp⟩, hI, hfr⟩ := hr
    have hh' := heap (c.β q) rfl
    refine ⟨⟨⟨es, clock, ms, by rw [hβ, hh'.1]; exact hh, h1, fun m hm => ?_, h3, h4⟩, hp⟩, fun o ho => by rw [hβ] at ho; exact hI o (hh'.2 o ho), hf.trans hfr⟩
    obtain ⟨e1, e2, e3⟩ := h2 m hm
    exact ⟨e1, e2, e3.ext hext fun r hr => by rw [hp _ e1 e2] at hr; simp at hr⟩
  | gone => trivial

theorem idx_eq {ks : List Nat} (hn : ks.Nodup) {i k : Nat} (h : ks[i]? = some k) (d : Nat) : idxOf ks k d = i := by
  have h2 := idxOf_spec (ks := ks) d (List.mem_of_getElem? h)
  have hi := (List.getElem?_eq_some_iff.1 h).1
  have hj := (List.getElem?_eq_some_iff.1 h2).1
  exact (List.getElem?_inj hj hn).1 (h2.trans h.symm)

/-- A call of which the callee's contract is known: what the caller sees. -/
theorem call_core (h : Rel B c s a) {f : FuncId} {ks : List Nat} (hn : ks.Nodup) {os os' : List AO} (hos : getObjs s.objs ks = some os) (hcl : ∀ q ∈ objKeys s.objs ks, q ∈ ks)
    {l : List AV} {xs : List Value} (hl : SeesL B c s l xs) (hlk : ∀ q ∈ keysL l, q ∈ ks) {r : AV}
    (hok : CallOk P B.G f (renL (fun k => keyBase + idxOf ks k 0) l) (os.map (AO.ren fun k => keyBase + idxOf ks k 0)) r os') (hlen : os'.length = ks.length) :
    Calls P f xs.toArray c.w fun e w' => ∃ c2 x, e = .returned x ∧ c2.w = w' ∧ Rel B c2 (s.with (putObjs s.objs ks (os'.map (AO.ren fun k => nthD ks (k - keyBase))))) a ∧
      Sees B c2 (s.with (putObjs s.objs ks (os'.map (AO.ren fun k => nthD ks (k - keyBase))))) (r.ren fun k => nthD ks (k - keyBase)) x := by
  obtain ⟨hol, hoo⟩ := getObjs_spec hos
  let fwd := fun k => keyBase + idxOf ks k 0
  let bwd := fun k => nthD ks (k - keyBase)
  have hfb : ∀ k ∈ ks, bwd (fwd k) = k := fun k hk => by
    show nthD ks (keyBase + idxOf ks k 0 - keyBase) = k
    rw [Nat.add_sub_cancel_left]; exact nthD_spec (idxOf_spec 0 hk)
  have hbf : ∀ i k, ks[i]? = some k → bwd (keyBase + i) = k ∧ fwd k = keyBase + i := fun i k hk =>
    ⟨by show nthD ks (keyBase + i - keyBase) = k; rw [Nat.add_sub_cancel_left]; exact nthD_spec hk, by show keyBase + idxOf ks k 0 = _; rw [idx_eq hn hk]⟩
  -- the callee's context
  let c0 : Cx := { w := c.w, I := c.I, β := fun q => c.β (bwd q), κ := fun q => c.κ (bwd q), fr := fun q => c.fr (bwd q) }
  have hβ0 : ∀ k ∈ ks, c0.β (fwd k) = c.β k := fun k hk => by show c.β (bwd (fwd k)) = _; rw [hfb k hk]
  have hκ0 : ∀ k ∈ ks, c0.κ (fwd k) = c.κ k := fun k hk => by show c.κ (bwd (fwd k)) = _; rw [hfb k hk]
  have hf0 : ∀ k ∈ ks, c0.fr (fwd k) = c.fr k := fun k hk => by show c.fr (bwd (fwd k)) = _; rw [hfb k hk]
  have hown0 : ∀ k ∈ ks, ∀ n y, OwnRep c (.key k) n y → OwnRep c0 (.key (fwd k)) n y := fun k hk n y => by simp only [OwnRep, hκ0 k hk, hf0 k hk]; exact id
  have hfwd : ∀ k ∈ ks, c0.β (fwd k) = c.β k ∧ ∀ n y, OwnRep c (.key k) n y → OwnRep c0 (.key (fwd k)) n y := fun k hk => ⟨hβ0 k hk, hown0 k hk⟩
  have hlook : ∀ q o, alook (enterObjs (os.map (AO.ren fwd)) keyBase) q = some o → ∃ k o0, k ∈ ks ∧ q = fwd k ∧ alook s.objs k = some o0 ∧ o = o0.ren fwd := by
    intro q o hq
    rw [alook_enter] at hq
    by_cases hb : keyBase ≤ q
    · rw [if_pos hb, List.getElem?_map] at hq
      cases hi : os[q - keyBase]? with
      | none => simp [hi] at hq
      | some o0 =>
        simp [hi] at hq; subst hq
        have hlt := (List.getElem?_eq_some_iff.1 hi).1
        have hk : ks[q - keyBase]? = some (ks[q - keyBase]'(by omega)) := List.getElem?_eq_getElem _
        refine ⟨_, o0, List.mem_of_getElem? hk, ?_, by rw [(hoo _ _ hk).1, hi], rfl⟩
        rw [(hbf _ _ hk).2]; omega
    · rw [if_neg hb] at hq; simp at hq
  have hlook' : ∀ k ∈ ks, ∃ o0, alook s.objs k = some o0 ∧ alook (enterObjs (os.map (AO.ren fwd)) keyBase) (fwd k) = some (o0.ren fwd) := by
    intro k hk
    have hi := idxOf_spec 0 hk
    obtain ⟨h1, o0, h2⟩ := hoo _ _ hi
    refine ⟨o0, h2, ?_⟩
    rw [alook_enter, if_pos (Nat.le_add_right _ _)]
    show (os.map (AO.ren fwd))[keyBase + idxOf ks k 0 - keyBase]? = _
    rw [Nat.add_sub_cancel_left, List.getElem?_map, ← h1, h2]; rfl
  have hO0 : Objs c0 (enterObjs (os.map (AO.ren fwd)) keyBase) := by
    refine ⟨fun q o hq => ?_, fun q o q' o' b hq hq' hne hb => ?_, fun q o hq r hr => ?_⟩
    · obtain ⟨k, o0, hk, rfl, h1, rfl⟩ := hlook q o hq
      exact (h.objs.rep k o0 h1).ren rfl rfl (hβ0 k hk) (hκ0 k hk) (hf0 k hk) fun q hq => hfwd q (hcl q (objKeys_mem hk h1 q hq))
    · obtain ⟨k, o0, hk, rfl, h1, rfl⟩ := hlook q o hq
      obtain ⟨k', o0', hk', rfl, h1', rfl⟩ := hlook q' o' hq'
      rw [excl_ren (hβ0 k hk) (hκ0 k hk)] at hb
      rw [excl_ren (hβ0 k' hk') (hκ0 k' hk')]
      exact h.objs.apart k o0 k' o0' b h1 h1' (fun e => hne (by rw [e])) hb
    · obtain ⟨k, o0, hk, rfl, h1, rfl⟩ := hlook q o hq
      obtain ⟨q', hq', rfl⟩ := AO.ren_keys _ _ r hr
      obtain ⟨_, _, e⟩ := hlook' q' (hcl q' (objKeys_mem hk h1 q' hq'))
      exact ⟨_, e⟩
  have hG0 : Good B.G c0 := ⟨h.good.there, fun g cs hg => (h.good.globs g cs hg).ext (ks := fun _ => False) ⟨fun _ _ _ _ hv => hv, fun _ _ hi => hi, fun _ hk => hk.elim, fun _ hk => hk.elim⟩ (by simp [AV.keys])⟩
  have hcall := hok
  have hfn := hl.fn
  refine (hcall c0 xs.toArray hG0 hO0 (by rw [renL_length]; exact hfn.1) (fun i u hu => ?_) (fun k hk => ?_)).mono ?_
  · rw [renL_get] at hu
    cases hi : l[i]? with
    | none => simp [hi] at hu
    | some u' => simp [hi] at hu; subst hu; exact Rep.ren (c := c) (c' := c0) (m := fwd) (fun _ _ _ _ hv => hv) (fun _ _ hi => hi) (hfn.2.1 i u' hi) fun q hq => hfwd q (hlk q (keys_mem_of hi q hq))
  · obtain ⟨q, hq, rfl⟩ := renL_keys _ _ k hk
    obtain ⟨_, _, e⟩ := hlook' q (hlk q hq)
    exact ⟨_, e⟩
  -- the way back
  rintro e w' ⟨c', x, he, hw', hG', hF', hO', hr', hrk, hmine⟩
  have hheld : ∀ b, held c0 (enterObjs (os.map (AO.ren fwd)) keyBase) b → ∃ k o, k ∈ ks ∧ alook s.objs k = some o ∧ excl c k o = some b := by
    rintro b ⟨q, o, hq, hb⟩
    obtain ⟨k, o0, hk, rfl, h1, rfl⟩ := hlook q o hq
    exact ⟨k, o0, hk, h1, by rw [← excl_ren (hβ0 k hk) (hκ0 k hk)]; exact hb⟩
  have hK : ∀ k ∈ ks, live (enterObjs (os.map (AO.ren fwd)) keyBase) (fwd k) := fun k hk => by obtain ⟨_, _, e⟩ := hlook' k hk; exact ⟨_, e⟩
  have hlow : ∀ b, b < B.c0.w.heap.size → ¬ B.D b → b < c0.w.heap.size ∧ ¬ held c0 (enterObjs (os.map (AO.ren fwd)) keyBase) b := by
    intro b hb hd
    refine ⟨Nat.lt_of_lt_of_le hb h.frame.size, fun hh => ?_⟩
    obtain ⟨k, o, _, h1, h2⟩ := hheld b hh
    rcases h.mine k o b h1 h2 with h3 | h3
    · omega
    · exact hd h3
  classical
  let c2 : Cx := { w := c'.w, I := c'.I, β := c.β, κ := fun q => if q ∈ ks then c'.κ (fwd q) else c.κ q, fr := fun q => if q ∈ ks then c'.fr (fwd q) else c.fr q }
  have hκ2 : ∀ k ∈ ks, c2.κ k = c'.κ (fwd k) := fun k hk => if_pos hk
  have hf2 : ∀ k ∈ ks, c2.fr k = c'.fr (fwd k) := fun k hk => if_pos hk
  have hκn : ∀ k, k ∉ ks → c2.κ k = c.κ k := fun k hk => if_neg hk
  have hfn2 : ∀ k, k ∉ ks → c2.fr k = c.fr k := fun k hk => if_neg hk
  have hβ2 : ∀ k ∈ ks, c2.β k = c'.β (fwd k) := fun k hk => by rw [hF'.ext.β (fwd k) (hK k hk)]; exact (hβ0 k hk).symm
  have hown2 : ∀ k ∈ ks, ∀ n y, OwnRep c' (.key (fwd k)) n y → OwnRep c2 (.key k) n y := fun k hk n y => by simp only [OwnRep, hκ2 k hk, hf2 k hk]; exact id
  have hext : ∀ ks' : Nat → Prop, Ext c c2 ks' := fun ks' => by
    refine ⟨hF'.ext.cell, hF'.ext.I, fun _ _ => rfl, fun k _ n y hy => ?_⟩
    by_cases hk : k ∈ ks
    · exact hown2 k hk n y (hF'.ext.own (fwd k) (hK k hk) n y (hown0 k hk n y hy))
    · simp only [OwnRep, hκn k hk, hfn2 k hk]; exact hy
  have hgrow : Grow B c c2 := ⟨hF'.os, hF'.output, hF'.tape, hF'.size, fun b hb hd => hF'.block b (hlow b hb hd).1 (hlow b hb hd).2,
    fun b o hb hd hi => hF'.new b o (hlow b hb hd).1 (hlow b hb hd).2 hi, hG'.there⟩
  -- lookups after the call
  have hput : ∀ k, alook (putObjs s.objs ks (os'.map (AO.ren bwd))) k = if k ∈ ks then (os'.map (AO.ren bwd))[idxOf ks k 0]? else alook s.objs k := alook_putObjs hn (by simp [hlen])
  have hin : ∀ k ∈ ks, ∃ o', alook (enterObjs os' keyBase) (fwd k) = some o' ∧ alook (putObjs s.objs ks (os'.map (AO.ren bwd))) k = some (o'.ren bwd) := by
    intro k hk
    have hi := idxOf_spec 0 hk
    have hlt := (List.getElem?_eq_some_iff.1 hi).1
    have ho : os'[idxOf ks k 0]? = some (os'[idxOf ks k 0]'(by omega)) := List.getElem?_eq_getElem _
    refine ⟨os'[idxOf ks k 0]'(by omega), ?_, ?_⟩
    · rw [alook_enter, if_pos (Nat.le_add_right _ _)]
      show os'[keyBase + idxOf ks k 0 - keyBase]? = _
      rw [Nat.add_sub_cancel_left]; exact ho
    · rw [hput, if_pos hk, List.getElem?_map, ho]; rfl
  have hback : ∀ q, live (enterObjs os' keyBase) q → bwd q ∈ ks ∧ fwd (bwd q) = q := by
    rintro q ⟨o, hq⟩
    rw [alook_enter] at hq
    by_cases hb : keyBase ≤ q
    · rw [if_pos hb] at hq
      have hlt := (List.getElem?_eq_some_iff.1 hq).1
      have hk : ks[q - keyBase]? = some (ks[q - keyBase]'(by omega)) := List.getElem?_eq_getElem _
      have := hbf _ _ hk
      rw [Nat.add_sub_cancel' hb] at this
      rw [this.1]
      exact ⟨List.mem_of_getElem? hk, this.2⟩
    · rw [if_neg hb] at hq; simp at hq
  have hbwd : ∀ q, live (enterObjs os' keyBase) q → c2.β (bwd q) = c'.β q ∧ ∀ n y, OwnRep c' (.key q) n y → OwnRep c2 (.key (bwd q)) n y := by
    intro q hq
    obtain ⟨h1, h2⟩ := hback q hq
    refine ⟨by rw [hβ2 _ h1, h2], fun n y hy => hown2 _ h1 n y (by rw [h2]; exact hy)⟩
  have hlive : ∀ k, live s.objs k → live (putObjs s.objs ks (os'.map (AO.ren bwd))) k := by
    rintro k ⟨o, ho⟩
    by_cases hk : k ∈ ks
    · obtain ⟨_, _, e⟩ := hin k hk; exact ⟨_, e⟩
    · exact ⟨o, by rw [hput, if_neg hk]; exact ho⟩
  have hcases : ∀ k o, alook (putObjs s.objs ks (os'.map (AO.ren bwd))) k = some o → (k ∈ ks ∧ ∃ o', alook (enterObjs os' keyBase) (fwd k) = some o' ∧ o = o'.ren bwd ∧ excl c2 k o = excl c' (fwd k) o') ∨ (k ∉ ks ∧ alook s.objs k = some o ∧ excl c2 k o = excl c k o) := by
    intro k o ho
    by_cases hk : k ∈ ks
    · obtain ⟨o', e1, e2⟩ := hin k hk
      rw [e2] at ho; cases ho
      exact .inl ⟨hk, o', e1, rfl, excl_ren (hβ2 k hk) (hκ2 k hk)⟩
    · rw [hput, if_neg hk] at ho
      exact .inr ⟨hk, ho, excl_same rfl (hκn k hk)⟩
  have hout : ∀ k k' o' o b, k ∈ ks → alook (enterObjs os' keyBase) (fwd k) = some o' → k' ∉ ks → alook s.objs k' = some o → excl c' (fwd k) o' = some b → excl c k' o ≠ some b := by
    intro k k' o' o b hk h1 hk' h2 hb hb'
    rcases hmine _ _ b h1 hb with h3 | h3
    · have := excl_lt (h.objs.rep k' o h2) hb'
      have : c0.w.heap.size = c.w.heap.size := rfl
      omega
    · obtain ⟨k'', o'', h4, h5, h6⟩ := hheld b h3
      exact h.objs.apart k'' o'' k' o b h5 h2 (fun e => hk' (e ▸ h4)) h6 hb'
  have hO2 : Objs c2 (putObjs s.objs ks (os'.map (AO.ren bwd))) := by
    refine ⟨fun k o ho => ?_, fun k o k' o' b ho ho' hne hb => ?_, fun k o ho q hq => ?_⟩
    · rcases hcases k o ho with ⟨hk, o', e1, rfl, _⟩ | ⟨hk, e1, _⟩
      · exact (hO'.rep _ o' e1).ren rfl rfl (hβ2 k hk) (hκ2 k hk) (hf2 k hk) fun q hq => hbwd q (hO'.closed _ o' e1 q hq)
      · refine h.objs.rep_keep' (hext _) e1 rfl (hκn k hk) (hfn2 k hk) fun b hb => ?_
        have hlt := excl_lt (h.objs.rep k o e1) hb
        have hnh : ¬ held c0 (enterObjs (os.map (AO.ren fwd)) keyBase) b := fun hh => by
          obtain ⟨k'', o'', h4, h5, h6⟩ := hheld b hh
          exact h.objs.apart k'' o'' k o b h5 e1 (fun e => hk (e ▸ h4)) h6 hb
        exact ⟨hF'.block b hlt hnh, fun off hi => hF'.new b off hlt hnh hi⟩
    · rcases hcases k o ho with ⟨hk, o1, e1, rfl, e2⟩ | ⟨hk, e1, e2⟩ <;> rcases hcases k' o' ho' with ⟨hk', o1', e1', rfl, e2'⟩ | ⟨hk', e1', e2'⟩
      · rw [e2'] ; rw [e2] at hb
        exact hO'.apart _ _ _ _ b e1 e1' (fun e => hne (by rw [← hfb k hk, e, hfb k' hk'])) hb
      · rw [e2']; rw [e2] at hb
        exact hout k k' o1 o' b hk e1 hk' e1' hb
      · rw [e2']; rw [e2] at hb
        exact fun hb' => hout k' k o1' o b hk' e1' hk e1 hb' hb
      · rw [e2']; rw [e2] at hb
        exact h.objs.apart k o k' o' b e1 e1' hne hb
    · rcases hcases k o ho with ⟨hk, o', e1, rfl, _⟩ | ⟨hk, e1, _⟩
      · obtain ⟨q', hq', rfl⟩ := AO.ren_keys _ _ q hq
        obtain ⟨_, _, e⟩ := hin _ (hback q' (hO'.closed _ o' e1 q' hq')).1
        exact ⟨_, e⟩
      · exact hlive q (h.objs.closed k o e1 q hq)
  refine ⟨c2, x, he, hw', ⟨h.good.grow (hext (live s.objs)) hgrow, h.frame.grow (hext (live s.objs)) hgrow h.kept, hO2, fun t v hv => (h.env t v hv).ext (hext (live s.objs)) (h.closed t v hv),
    fun t v hv k hk => hlive k (h.closed t v hv k hk), fun k o b ho hb => ?_, h.tmps, h.defers, fun k hk => hlive k (h.kept k hk)⟩, ⟨?_, ?_, ?_⟩⟩
  · rcases hcases k o ho with ⟨hk, o', e1, rfl, e2⟩ | ⟨hk, e1, e2⟩
    · rw [e2] at hb
      rcases hmine _ _ b e1 hb with h3 | h3
      · exact .inl (Nat.le_trans h.frame.size h3)
      · obtain ⟨k'', o'', h4, h5, h6⟩ := hheld b h3
        exact h.mine k'' o'' b h5 h6
    · rw [e2] at hb; exact h.mine k o b e1 hb
  · exact Rep.ren (c := c') (c' := c2) (m := bwd) (fun _ _ _ _ hv => hv) (fun _ _ hi => hi) hr' fun q hq => hbwd q (hrk q hq)
  · intro k hk
    obtain ⟨q, hq, rfl⟩ := ren_keys _ _ k hk
    obtain ⟨_, _, e⟩ := hin _ (hback q (hrk q hq)).1
    exact ⟨_, e⟩
  · cases hr' with
    | slNil o => cases o <;> rfl
    | sl o => cases o <;> rfl
    | _ => rfl
end Go.Ab
