/- Soundness of the pure operations, second part: memory that is read. -/
import Derived.Test.YtmiiklmfnagbbaaDoorAbsOps1
namespace Go.Ab
open Go Go.RowKit
variable {P : Program} {B : Base} {c : Cx} {s : St} {a : Act}

theorem run_isAgg {t : TypeId} {d : TypeDesc} (h : P.underlying t = some d) (w : World) : (isAgg t).run P w = .ok (isAggD d) w := by
  unfold isAgg
  rw [Sem.run_bind, run_underlying h]
  cases d <;> rfl
theorem run_sizeOf {t : TypeId} {n : Nat} (h : sizeOf? P t = some n) (w : World) : (sizeOf t).run P w = .ok n w := by
  unfold sizeOf? at h
  cases hi : P.info? t with
  | none => simp [hi] at h
  | some i => simp [hi] at h; simp [sizeOf, typeInfo, hi, h]

/-- What a row of cells in memory is: readable, each cell as its abstract one. -/
def CellsAt (c : Cx) (b o : Nat) (cs : List AV) : Prop :=
  ∀ (i : Nat) (u : AV), cs[i]? = some u → u.one = true ∧ ∃ x, c.w.cell? ⟨b, o + i, none⟩ = some x ∧ Rep c u x

theorem one_plain {u : AV} (h : u.one = true) : u.isGrd = false := by cases u <;> simp_all [AV.one, AV.isGrd]

theorem ofPart_load {b o : Nat} {cs : List AV} (hc : CellsAt c b o cs) {t : TypeId} {off : Nat} {v : AV} (he : ofPart P t cs off = some v) :
    ∃ x, (loadVar t ⟨b, o + off, none⟩).run P c.w = .ok x c.w ∧ Rep c v x ∧ (∀ k ∈ v.keys, k ∈ keysL cs) ∧ v.isGrd = false := by
  unfold ofPart at he
  split at he
  · rename_i d n hu hn
    cases hd : isAggD d with
    | true =>
      simp only [hd, cond_true] at he
      cases hb : Nat.ble (off + n) cs.length with
      | false => simp [hb] at he
      | true =>
        simp only [hb, cond_true, Option.some.injEq] at he
        have hle := Nat.le_of_ble_eq_true hb
        subst he
        let f : Nat → Value := fun j => (c.w.cell? ⟨b, o + off + j, none⟩).getD undef
        have hf : ∀ j (hj : j < n), c.w.cell? ⟨b, o + off + j, none⟩ = some (f j) ∧ Rep c (cs[off + j]'(by omega)) (f j) ∧ (cs[off + j]'(by omega)).one = true := by
          intro j hj
          obtain ⟨h1, x, hx, hr⟩ := hc (off + j) _ (List.getElem?_eq_getElem (by omega))
          have : o + (off + j) = o + off + j := by omega
          rw [this] at hx
          refine ⟨by simp [f, hx], ?_, h1⟩
          simp only [f, hx, Option.getD_some]; exact hr
        refine ⟨.agg ((List.range n).map f).toArray, ?_, ?_, ?_, rfl⟩
        · unfold loadVar
          rw [Sem.run_bind, run_isAgg hu]
          simp only [Result.andThen_ok, hd, if_true, Sem.run_bind, run_sizeOf hn]
          rw [run_loadCells c.w ⟨b, o + off, none⟩ n f (fun j hj => by rw [Addr.add_lit]; exact (hf j hj).1)]
          rfl
        · refine .agg _ _ (by simp; omega) (fun i u hu => ?_) (fun i u hu => ?_)
          · have hi : i < n := by
              rcases Nat.lt_or_ge i n with h | h
              · exact h
              · simp [List.getElem?_take, Nat.not_lt.2 h] at hu
            have : u = cs[off + i]'(by omega) := by
              simp [hi, List.getElem?_drop] at hu
              rw [List.getElem?_eq_getElem (by omega)] at hu; simpa using hu.symm
            rw [this]; exact (hf i hi).2.2
          · have hi : i < n := by
              rcases Nat.lt_or_ge i n with h | h
              · exact h
              · simp [List.getElem?_take, Nat.not_lt.2 h] at hu
            have : u = cs[off + i]'(by omega) := by
              simp [hi, List.getElem?_drop] at hu
              rw [List.getElem?_eq_getElem (by omega)] at hu; simpa using hu.symm
            rw [this]
            have := (hf i hi).2.1
            simpa [Array.getD_eq_getD_getElem?, hi] using this
        · intro k hk
          simp only [AV.keys] at hk
          have hsub : ∀ (l : List AV) (m : Nat), (∀ k ∈ keysL (l.drop m), k ∈ keysL l) ∧ (∀ k ∈ keysL (l.take m), k ∈ keysL l) := by
            intro l m
            have e := keysL_append (l.take m) (l.drop m)
            rw [List.take_append_drop] at e
            exact ⟨fun k hk => by rw [e]; simp [hk], fun k hk => by rw [e]; simp [hk]⟩
          exact (hsub cs off).1 k ((hsub (cs.drop off) n).2 k hk)
    | false =>
      simp only [hd, cond_false] at he
      cases hcs : cs.drop off with
      | nil => simp [hcs] at he
      | cons u r =>
        simp [hcs] at he; subst he
        have hu' : cs[off]? = some u := by
          have := congrArg (fun l => l[0]?) hcs
          simpa [List.getElem?_drop] using this
        obtain ⟨h1, x, hx, hr⟩ := hc off u hu'
        refine ⟨x, ?_, hr, fun k hk => keys_mem_of hu' k hk, one_plain h1⟩
        unfold loadVar
        rw [Sem.run_bind, run_isAgg hu]
        simp [hd, hx]
  · simp at he

theorem RowAt.cellsAt {b : Nat} {cs : List AV} (h : RowAt c b cs) : CellsAt c b 0 cs := by
  obtain ⟨⟨vs, t, hh, hs, hr⟩, h1⟩ := h
  intro i u hu
  have hi : i < vs.size := by rw [hs]; exact (List.getElem?_eq_some_iff.1 hu).1
  refine ⟨h1 i u hu, vs.getD i undef, ?_, hr i u hu⟩
  rw [cell?_cells hh]
  simp [Array.getD_eq_getD_getElem?, hi]

theorem row_off_lt {i sz n j : Nat} (hi : i < n) (hj : j < sz) : i * sz + j < n * sz := by
  have : (i + 1) * sz ≤ n * sz := Nat.mul_le_mul_right _ hi
  rw [Nat.succ_mul] at this; omega

theorem ArrAt.cellsAt {b sz n : Nat} {get : Nat → List AV} (h : ArrAt c b sz n get) {i : Nat} (hi : i < n) : CellsAt c b (i * sz) (get i) := by
  obtain ⟨⟨vs, t, hh, hs, hr⟩, hl, h1⟩ := h
  intro j u hu
  have hj : j < sz := by rw [← (hl i hi).1]; exact (List.getElem?_eq_some_iff.1 hu).1
  have hlt : i * sz + j < vs.size := by rw [hs]; exact row_off_lt hi hj
  refine ⟨h1 i j u hi hu, vs.getD (i * sz + j) undef, ?_, hr i j u hi hu⟩
  rw [cell?_cells hh]
  simp [Array.getD_eq_getD_getElem?, hlt]

theorem loadAt_addr (t : TypeId) (ad : Addr) (w : World) : (Instr.loadAt t (.pointer (some ad))).run P w = (loadVar t ad).run P w := by
  simp [Instr.loadAt, Instr.sureAddr]

theorem stillR {m : Sem Value} {v : AV} {x : Value} (hm : m.run P c.w = .ok x c.w) (hs : Sees B c s v x) : ∃ y, m.run P c.w = .ok y c.w ∧ Sees B c s v y := ⟨x, hm, hs⟩
theorem loadA_still (h : Rel B c s a) {t : TypeId} {x v : AV} {X : Value} (hx : Rep c x X) (he : loadA P s t x = some (true, v)) : ∃ y, (Instr.loadAt t X).run P c.w = .ok y c.w ∧ Sees B c s v y := by
  cases x with
  | elt cs off =>
    simp only [loadA, val1] at he
    cases hp : ofPart P t cs off with
    | none => simp [hp] at he
    | some u =>
      simp [hp] at he; subst he
      cases hx with
      | elt _ _ b o vals hk hc hr =>
        have hca : CellsAt c b o cs := fun i u hu => ⟨(hc i u hu).1, _, (hc i u hu).2.1, hr i u hu⟩
        obtain ⟨x, h1, h2, h3, h4⟩ := ofPart_load hca hp
        exact stillR (B := B) (s := s) (by rw [loadAt_addr]; exact h1) ⟨h2, fun k hk' => by have := h3 k hk'; simp [hk] at this, h4⟩
  | ref k off =>
    cases hx
    simp only [loadA] at he
    cases ho : s.obj k with
    | none => simp [ho] at he
    | some ob =>
      have hob := h.objs.rep k ob ho
      cases ob with
      | cells cs =>
        simp only [ho, val1] at he
        cases hp : ofPart P t cs off with
        | none => simp [hp] at he
        | some u =>
          simp [hp] at he; subst he
          obtain ⟨x, h1, h2, h3, h4⟩ := ofPart_load hob.1.cellsAt hp
          refine stillR (B := B) (s := s) (by rw [loadAt_addr]; simpa using h1) ⟨h2, fun q hq => ?_, h4⟩
          exact h.objs.closed k _ ho q (by simpa [AO.keys] using h3 q hq)
      | arr sz n get =>
        simp only [ho] at he
        split at he
        · rename_i m e hu
          simp only [guardO] at he
          cases hb : (Nat.beq off 0 && (Nat.beq m n && (sizeOf? P e == some sz && sizeOf? P t == some (n * sz)))) with
          | false => simp [hb] at he
          | true =>
            simp [hb, ok1] at he; subst he
            simp only [Bool.and_eq_true, beq_iff_eq] at hb
            obtain ⟨h0, _, _, hsz⟩ := hb
            have h0 := beqT h0
            subst h0
            obtain ⟨⟨vs, tt, hh, hs, hr⟩, hl, h1⟩ := hob.1
            refine stillR (B := B) (s := s) (x := .agg vs) ?_ ⟨.arr _ _ _ _ hs hl h1 hr, by simp [AV.keys], rfl⟩
            rw [loadAt_addr]
            have hfull := run_loadCells_list (P := P) c.w ⟨c.β k, 0, none⟩ vs.toList (fun j v hv => by
              rw [Addr.add_lit, cell?_cells hh]; simpa using hv)
            unfold loadVar
            rw [Sem.run_bind, run_isAgg hu]
            simp only [Result.andThen_ok, isAggD, if_true, Sem.run_bind, run_sizeOf hsz]
            have e1 : n * sz = vs.toList.length := by simpa using hs.symm
            rw [e1, hfull]
            rfl
        · simp at he
      | frz sz n get => simp [ho] at he
      | own sz n => simp [ho] at he
      | iter l p => simp [ho] at he
  | aref k sz i off =>
    cases hx
    simp only [loadA] at he
    cases ho : s.obj k with
    | none => simp [ho] at he
    | some ob =>
      have hob := h.objs.rep k ob ho
      have key : ∀ (sz' n : Nat) (get : Nat → List AV), ArrAt c (c.β k) sz' n get → guardO (Nat.beq sz sz') ((ofPart P t (get i) off).map fun v => (Nat.blt i n, v)) = some (true, v) → ∃ y, (Instr.loadAt t (.pointer (some ⟨c.β k, i * sz + off, none⟩))).run P c.w = .ok y c.w ∧ Sees B c s v y := by
        intro sz' n get ha he
        simp only [guardO] at he
        cases hb : Nat.beq sz sz' with
        | false => simp [hb] at he
        | true =>
          have := beqT hb
          subst this
          simp only [hb, cond_true] at he
          cases hp : ofPart P t (get i) off with
          | none => simp [hp] at he
          | some u =>
            simp [hp] at he
            obtain ⟨hi, rfl⟩ := he
            have hi : i < n := by simpa [Nat.blt] using hi
            obtain ⟨x, h1, h2, h3, h4⟩ := ofPart_load (ha.cellsAt hi) hp
            refine stillR (B := B) (s := s) (by rw [loadAt_addr]; exact h1) ⟨h2, fun q hq => ?_, h4⟩
            have := h3 q hq
            simp [(ha.len i hi).2] at this
      cases ob with
      | arr sz' n get => simp only [ho] at he; exact key sz' n get hob.1 he
      | frz sz' n get => simp only [ho] at he; exact key sz' n get hob.1 he
      | cells cs => simp [ho] at he
      | own sz n => simp [ho] at he
      | iter l p => simp [ho] at he
  | _ => simp [loadA] at he
theorem loadA_sound (h : Rel B c s a) {t : TypeId} {x v : AV} {X : Value} (hx : Rep c x X) (he : loadA P s t x = some (true, v)) : Goes P B c s (Instr.loadAt t X) v := by
  obtain ⟨y, h1, h2⟩ := loadA_still h hx he
  exact Goes.still h h1 h2

theorem solid_run {t : TypeId} (h : solid P t = true) (w : World) : ∃ n, (sizeOf t).run P w = .ok (n + 1) w := by
  unfold solid at h
  split at h
  · rename_i n hn; exact ⟨n, run_sizeOf hn w⟩
  · simp at h

theorem fieldAt_run {t : TypeId} {f : Nat} {fd : Field} (hf : fieldOf? P t f = some fd) (hs : solid P fd.type = true) (b o : Nat) (w : World) :
    (Instr.fieldAt t (.pointer (some ⟨b, o, none⟩)) f).run P w = .ok (.pointer (some ⟨b, o + fd.offset, none⟩)) w := by
  unfold fieldOf? at hf
  obtain ⟨n, hn⟩ := solid_run hs w
  split at hf
  · rename_i fs hu
    simp [Instr.fieldAt, run_underlying hu, hf, Instr.sureAddr, fieldPlace, hn, Addr.add_lit]
  · simp at hf

theorem fieldAddrA_sound (h : Rel B c s a) {t : TypeId} {f : Nat} {x v : AV} {X : Value} (hx : Sees B c s x X) (he : fieldAddrA P t f x = some (true, v)) : Goes P B c s (Instr.fieldAt t X f) v := by
  unfold fieldAddrA at he
  split at he
  · rename_i fd hf
    cases hs : solid P fd.type with
    | false => simp [hs] at he
    | true =>
      simp only [hs, cond_true] at he
      obtain ⟨hr, hl, hpl⟩ := hx
      clear hpl
      cases x with
      | ref k off =>
        cases hr
        simp [ok1] at he; subst he
        exact Goes.still h (fieldAt_run hf hs _ _ _) ⟨.ref _ _, by simpa [AV.keys] using hl, rfl⟩
      | aref k sz i off =>
        cases hr
        simp [ok1] at he; subst he
        refine Goes.still h (fieldAt_run hf hs _ _ _) ⟨?_, by simpa [AV.keys] using hl, rfl⟩
        rw [Nat.add_assoc]; exact .aref _ _ _ _
      | elt cs off =>
        simp [ok1] at he; subst he
        cases hr with
        | elt _ _ b o vals hk hc hr =>
          refine Goes.still h (fieldAt_run hf hs _ _ _) ⟨?_, by simp [AV.keys], rfl⟩
          rw [Nat.add_assoc]; exact .elt _ _ _ _ vals hk hc hr
      | _ => simp at he
  · simp at he

theorem run_part {t : TypeId} {cs : List AV} {vs : Array Value} (hs : vs.size = cs.length) (hr : ∀ (i : Nat) (u : AV), cs[i]? = some u → u.one = true ∧ Rep c u (vs.getD i undef)) {off : Nat} {v : AV} (he : ofPart P t cs off = some v) (w : World) :
    ∃ x, (part t vs off).run P w = .ok x w ∧ Rep c v x ∧ (∀ k ∈ v.keys, k ∈ keysL cs) ∧ v.isGrd = false := by
  unfold ofPart at he
  split at he
  · rename_i d n hu hn
    cases hd : isAggD d with
    | true =>
      simp only [hd, cond_true] at he
      cases hb : Nat.ble (off + n) cs.length with
      | false => simp [hb] at he
      | true =>
        simp only [hb, cond_true, Option.some.injEq] at he
        have hle := Nat.le_of_ble_eq_true hb
        subst he
        refine ⟨.agg (vs.extract off (off + n)), ?_, ?_, ?_, rfl⟩
        · unfold part
          rw [Sem.run_bind, run_isAgg hu]
          simp [hd, run_sizeOf hn]
        · refine .agg _ _ (by simp; omega) (fun i u hu => ?_) (fun i u hu => ?_)
          · have hi : i < n := by
              rcases Nat.lt_or_ge i n with h | h
              · exact h
              · simp [List.getElem?_take, Nat.not_lt.2 h] at hu
            simp [hi, List.getElem?_drop] at hu
            exact (hr _ u hu).1
          · have hi : i < n := by
              rcases Nat.lt_or_ge i n with h | h
              · exact h
              · simp [List.getElem?_take, Nat.not_lt.2 h] at hu
            simp [hi, List.getElem?_drop] at hu
            have := (hr _ u hu).2
            have hlt : off + i < vs.size := by omega
            simp only [Array.getD_eq_getD_getElem?] at this ⊢
            rw [Array.getElem?_extract]
            rw [if_pos (by omega)]
            exact this
        · intro k hk
          simp only [AV.keys] at hk
          have hsub : ∀ (l : List AV) (m : Nat), (∀ k ∈ keysL (l.drop m), k ∈ keysL l) ∧ (∀ k ∈ keysL (l.take m), k ∈ keysL l) := by
            intro l m
            have e := keysL_append (l.take m) (l.drop m)
            rw [List.take_append_drop] at e
            exact ⟨fun k hk => by rw [e]; simp [hk], fun k hk => by rw [e]; simp [hk]⟩
          exact (hsub cs off).1 k ((hsub (cs.drop off) n).2 k hk)
    | false =>
      simp only [hd, cond_false] at he
      cases hcs : cs.drop off with
      | nil => simp [hcs] at he
      | cons u r =>
        simp [hcs] at he; subst he
        have hu' : cs[off]? = some u := by
          have := congrArg (fun l => l[0]?) hcs
          simpa [List.getElem?_drop] using this
        obtain ⟨h1, hr⟩ := hr off u hu'
        have hlt : off < vs.size := by rw [hs]; exact (List.getElem?_eq_some_iff.1 hu').1
        refine ⟨vs.getD off undef, ?_, hr, fun k hk => keys_mem_of hu' k hk, one_plain h1⟩
        unfold part
        rw [Sem.run_bind, run_isAgg hu]
        simp [hd, hlt, Array.getD_eq_getD_getElem?]
  · simp at he

theorem fieldA_sound (h : Rel B c s a) {t : TypeId} {f : Nat} {x v : AV} {X : Value} (hx : Sees B c s x X) (he : fieldA P t f x = some (true, v)) : Goes P B c s (Instr.field t X f) v := by
  unfold fieldA at he
  split at he
  · rename_i fd cs hf
    simp only [val1] at he
    cases hp : ofPart P fd.type cs fd.offset with
    | none => simp [hp] at he
    | some u =>
      simp [hp] at he; subst he
      obtain ⟨hr, hl, hpl⟩ := hx
      clear hpl
      cases hr with
      | agg _ vs hs h1 hr =>
        obtain ⟨x, e1, e2, e3, e4⟩ := run_part hs (fun i u hu => ⟨h1 i u hu, hr i u hu⟩) hp c.w
        refine Goes.still h ?_ ⟨e2, fun k hk => hl k (by simpa [AV.keys] using e3 k hk), e4⟩
        unfold fieldOf? at hf
        split at hf
        · rename_i fs hu
          simp [Instr.field, run_underlying hu, hf, asAgg, e1]
        · simp at hf
  · simp at he

theorem within_iff {i : Int} {n : Nat} (h : within i n = true) : 0 ≤ i ∧ i < n := by simpa [within] using h

theorem indexAddrA_sound (h : Rel B c s a) {t : TypeId} {x y v : AV} {X Y : Value} (hx : Sees B c s x X) (hy : Sees B c s y Y) (he : indexAddrA P s t x y = some (true, v)) : Goes P B c s (Instr.indexAt t X Y) v := by
  obtain ⟨hr, hl, hpl⟩ := hx
  clear hpl
  cases y with
  | int k i =>
    have hyr := hy.rep
    cases hyr
    clear hy
    simp only [indexAddrA] at he
    split at he
    · rename_i e o sz n get hu
      simp only [guardO] at he
      cases hb : (sizeOf? P e == some sz) with
      | false => simp [hb] at he
      | true =>
        simp only [hb, cond_true, Option.some.injEq, Prod.mk.injEq] at he
        obtain ⟨hw, rfl⟩ := he
        have hw := within_iff hw
        have hsz := beq_iff_eq.1 hb
        cases hr with
        | slNil => omega
        | sl _ _ _ _ ad cap vals hsp hn ho hlen hc hrr =>
          have hi : i.toNat < n := by omega
          obtain ⟨b, of, sp⟩ := ad
          simp only at hsp
          subst hsp
          refine Goes.still h (x := .pointer (some ⟨b, of + i.toNat * sz, none⟩)) ?_ ⟨?_, by simp [AV.keys], rfl⟩
          · unfold Instr.indexAt
            simp [asIntOf, run_underlying hu, hw.1, hw.2, run_sizeOf hsz, Addr.add_lit]
          · have := Rep.elt (c := c) (get i.toNat) 0 b (of + i.toNat * sz) (fun q => vals i.toNat q) (hlen _ hi).2
              (fun q u hu => by rw [Nat.add_assoc]; exact hc _ _ _ hi hu) (fun q u hu => hrr _ _ _ hi hu)
            simpa using this
    · rename_i e k' sz off n hu
      simp only [guardO] at he
      cases hb : (sizeOf? P e == some sz) with
      | false => simp [hb] at he
      | true =>
        simp only [hb, cond_true, Option.some.injEq, Prod.mk.injEq] at he
        obtain ⟨hw, rfl⟩ := he
        have hw := within_iff hw
        have hsz := beq_iff_eq.1 hb
        cases hr with
        | msl _ _ _ _ cap o hcap ho =>
          have ho := ho (by omega)
          subst ho
          refine Goes.still h (x := .pointer (some ⟨c.β k', off * sz + i.toNat * sz, none⟩)) ?_ ⟨?_, by simpa [AV.keys] using hl, rfl⟩
          · unfold Instr.indexAt
            simp [asIntOf, run_underlying hu, hw.1, hw.2, run_sizeOf hsz, Addr.add_lit]
          · have e1 : off * sz + i.toNat * sz = (off + i.toNat) * sz + 0 := by rw [Nat.add_mul]; rfl
            rw [e1]; exact .aref _ _ _ _
    · rename_i m e k' hu
      split at he
      · rename_i sz n get ho
        simp only [guardO] at he
        cases hb : (Nat.beq m n && (sizeOf? P e == some sz && Nat.blt 1 n)) with
        | false => simp [hb] at he
        | true =>
          simp only [hb, cond_true, Option.some.injEq, Prod.mk.injEq] at he
          obtain ⟨hw, rfl⟩ := he
          have hw := within_iff hw
          simp only [Bool.and_eq_true, beq_iff_eq] at hb
          obtain ⟨hm, hsz, _⟩ := hb
          have hm := beqT hm
          subst hm
          cases hr
          refine Goes.still h (x := .pointer (some ⟨c.β k', 0 + i.toNat * sz, none⟩)) ?_ ⟨?_, by simpa [AV.keys] using hl, rfl⟩
          · unfold Instr.indexAt
            simp [asIntOf, run_underlying hu, hw.1, hw.2, run_sizeOf hsz, Addr.add_lit, Instr.sureAddr]
          · have e1 : 0 + i.toNat * sz = i.toNat * sz + 0 := by omega
            rw [e1]; exact .aref _ _ _ _
      · simp at he
    · simp at he
  | _ => simp [indexAddrA] at he

theorem indexA_sound (h : Rel B c s a) {t : TypeId} {x y v : AV} {X Y : Value} (hx : Sees B c s x X) (hy : Sees B c s y Y) (he : indexA P t x y = some (true, v)) : Goes P B c s (Instr.index t X Y) v := by
  obtain ⟨hr, hl, hpl⟩ := hx
  clear hpl
  cases y with
  | int k i =>
    have hyr := hy.rep
    cases hyr
    clear hy
    simp only [indexA] at he
    split at he
    · rename_i m e sz n get hu
      simp only [guardO] at he
      cases hb : (Nat.beq m n && (sizeOf? P e == some sz)) with
      | false => simp [hb] at he
      | true =>
        simp only [Bool.and_eq_true, beq_iff_eq] at hb
        obtain ⟨hm, hsz⟩ := hb
        have hm := beqT hm
        subst hm
        simp only [hsz, Nat.beq_refl, beq_self_eq_true, Bool.and_self, cond_true] at he
        cases hp : ofPart P e (get i.toNat) 0 with
        | none => simp [hp] at he
        | some u =>
          simp [hp] at he
          obtain ⟨hw, rfl⟩ := he
          have hw := within_iff hw
          have hi : i.toNat < m := by omega
          cases hr with
          | arr _ _ _ vs hs hlen h1 hrr =>
            have hsub : (vs.extract (i.toNat * sz) (i.toNat * sz + sz)).size = (get i.toNat).length := by
              have h2 : (i.toNat + 1) * sz ≤ m * sz := Nat.mul_le_mul_right _ hi
              rw [Nat.succ_mul] at h2
              simp [(hlen _ hi).1]; omega
            -- the element's cells, read out of the whole
            obtain ⟨x, e1, e2, e3, e4⟩ := run_part (P := P) (c := c) (t := e) hsub (fun q u hu => by
              refine ⟨h1 _ _ _ hi hu, ?_⟩
              have hq : q < sz := by rw [← (hlen _ hi).1]; exact (List.getElem?_eq_some_iff.1 hu).1
              have := hrr _ _ _ hi hu
              have hlt := row_off_lt hi hq
              simp only [Array.getD_eq_getD_getElem?] at this ⊢
              rw [Array.getElem?_extract, if_pos (by omega)]; exact this) hp c.w
            have hpart : (part e vs (i.toNat * sz)).run P c.w = .ok x c.w := by
              rw [← e1]
              have h2 : (i.toNat + 1) * sz ≤ m * sz := Nat.mul_le_mul_right _ hi
              rw [Nat.succ_mul] at h2
              unfold ofPart at hp
              split at hp
              · rename_i d nn hue hne
                have : nn = sz := by rw [hsz] at hne; simpa using hne.symm
                subst this
                unfold part
                simp only [Sem.run_bind, run_isAgg hue, Result.andThen_ok]
                cases hd : isAggD d with
                | true => simp [run_sizeOf hne, Array.extract_extract]
                | false =>
                  simp only [hd, cond_false] at hp
                  have hne0 : 0 < nn := by
                    rcases Nat.eq_zero_or_pos nn with h0 | h0
                    · have := (hlen _ hi).1; rw [h0] at this
                      have := List.length_eq_zero_iff.1 this
                      simp [this] at hp
                    · exact h0
                  simp only [Bool.false_eq_true, if_false]
                  rw [Array.getElem?_extract, if_pos (by omega)]
                  simp
              · simp at hp
            refine Goes.still h ?_ ⟨e2, fun k hk => by have := e3 k hk; simp [(hlen _ hi).2] at this, e4⟩
            unfold Instr.index
            simp [asIntOf, run_underlying hu, hw.1, hw.2, run_sizeOf hsz, hpart]
    · rename_i l hu
      simp only [Option.some.injEq, Prod.mk.injEq] at he
      obtain ⟨hw, rfl⟩ := he
      have hw := within_iff hw
      cases hr
      refine Goes.still h ?_ Sees.int
      unfold Instr.index
      have hi : i.toNat < l.length := by omega
      have e1 : (ByteArray.mk l.toArray)[i.toNat]? = some (l.getD i.toNat 0) := by
        rw [ByteArray.getElem?_lt' _ _ (by show _ < l.toArray.size; simpa using hi)]
        show some (l.toArray[i.toNat]) = _
        simp [List.getD_eq_getElem?_getD, List.getElem?_eq_getElem hi]
      simp only [Sem.run_bind, asIntOf, Sem.run_pure, Result.andThen_ok, run_underlying hu, if_pos hw.1, e1]
    · simp at he
  | _ => simp [indexA] at he
end Go.Ab
