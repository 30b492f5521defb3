/- Soundness of new variables, stores, make and append. -/
import Derived.Test.YtmiiklmfnagbbaaDoorAbsOps5
import Derived.Laws.CopyRow
import Derived.Laws.AppendOwn
namespace Go.Ab
open Go Go.RowKit
variable {P : Program} {B : Base} {c : Cx} {s : St} {a : Act}

theorem sameZ_rep {u v : AV} (h : sameZ u v = true) {x : Value} (hr : Rep c v x) : Rep c u x := by
  unfold sameZ at h
  split at h
  · have : _ = _ := beq_iff_eq.1 h; subst this; exact hr
  · simp only [Bool.and_eq_true, decide_eq_true_eq, beq_iff_eq] at h
    obtain ⟨rfl, rfl⟩ := h; exact hr
  · have : _ = _ := beq_iff_eq.1 h; subst this; exact hr
  · exact hr
  · exact hr
  · exact hr
  · exact hr
  · cases hr with
    | slNil _ _ _ ho => exact .slNil _ _ _ ho
    | sl _ _ _ _ ad cap vals h1 h2 h3 h4 h5 h6 => exact .sl _ _ _ _ ad cap vals h1 h2 h3 (fun j hj => by omega) (fun j i u hj => by omega) (fun j i u hj => by omega)
  · simp at h
theorem eatZ_spec : ∀ {z r r' : List AV}, eatZ z r = some r' → r.length = z.length + r'.length ∧ (∀ (i : Nat) (u : AV), z[i]? = some u → ∃ v, r[i]? = some v ∧ sameZ u v = true) ∧ ∀ i, r'[i]? = r[z.length + i]?
  | [], r, r', h => by simp [eatZ] at h; subst h; simp
  | u :: z, [], r', h => by simp [eatZ] at h
  | u :: z, v :: r, r', h => by
    simp only [eatZ] at h
    cases hs : sameZ u v with
    | false => simp [hs] at h
    | true =>
      simp only [hs, cond_true] at h
      obtain ⟨h1, h2, h3⟩ := eatZ_spec h
      refine ⟨by simp [h1]; omega, fun i w hw => ?_, fun i => ?_⟩
      · cases i with
        | zero => simp at hw; subst hw; exact ⟨v, rfl, hs⟩
        | succ i => simpa using h2 i w (by simpa using hw)
      · rw [h3 i]; simp only [List.length_cons]; rw [show z.length + 1 + i = (z.length + i) + 1 by omega]; simp
theorem zeroRow_spec {z : List AV} : ∀ {n : Nat} {r : List AV}, zeroRow z n r = true → r.length = n * z.length ∧ ∀ j, j < n → ∀ (i : Nat) (u : AV), z[i]? = some u → ∃ v, r[j * z.length + i]? = some v ∧ sameZ u v = true
  | 0, r, h => by
    cases r with
    | nil => simp
    | cons => simp [zeroRow, isNil] at h
  | n + 1, r, h => by
    simp only [zeroRow] at h
    cases he : eatZ z r with
    | none => simp [he] at h
    | some r' =>
      simp only [he] at h
      obtain ⟨h1, h2, h3⟩ := eatZ_spec he
      obtain ⟨h4, h5⟩ := zeroRow_spec h
      refine ⟨by rw [h1, h4, Nat.succ_mul]; omega, fun j hj i u hu => ?_⟩
      cases j with
      | zero => simpa using h2 i u hu
      | succ j =>
        obtain ⟨v, hv, hs⟩ := h5 j (by omega) i u hu
        refine ⟨v, ?_, hs⟩
        rw [h3] at hv
        rw [← hv]; congr 1; rw [Nat.succ_mul]; omega

/-- The object of a key that is not yet there, in a new block. -/
theorem Rel.newVar (h : Rel B c s a) {k : Nat} (hk : s.obj k = none) {vs : Array Value} {t : TypeId} {ob : AO}
    (ho : ObjRep (c.var k vs t) k ob) (hx : excl (c.var k vs t) k ob = some c.w.heap.size) (hkeys : ∀ r ∈ ob.keys, live s.objs r) : Rel B (c.var k vs t) (s.setObj k ob) a := by
  refine h.obj (Cx.var_keeps h.good h.objs hk vs t) (Cx.var_grow h.good h.frame k vs t) ho (fun q o' b hq hne hb => ?_) (fun r hr => .inr (hkeys r hr)) (fun b hb => ?_)
  · rw [hx]
    have := excl_lt (h.objs.rep q o' hq) hb
    intro e
    have := Option.some.inj e
    omega
  · rw [hx] at hb
    have := Option.some.inj hb
    have := h.frame.size
    left; omega

theorem var_heap (c : Cx) (k : Nat) (vs : Array Value) (t : TypeId) : (c.var k vs t).w.heap[(c.var k vs t).β k]? = some (.cells vs t (0, 0)) := by
  simp only [Cx.var, if_true]
  exact heap_alloc_eq c.w _
theorem var_notI (hg : Good B.G c) (k : Nat) (vs : Array Value) (t : TypeId) (o : Nat) : ¬ (c.var k vs t).I ((c.var k vs t).β k) o := by
  simp only [Cx.var, if_true]
  intro hi
  obtain ⟨v, hv⟩ := hg.there _ _ hi
  have := lt_of_cell hv
  omega
theorem var_ext (h : Rel B c s a) {k : Nat} (hk : s.obj k = none) (vs : Array Value) (t : TypeId) : Ext c (c.var k vs t) (live s.objs) := (Cx.var_keeps h.good h.objs hk vs t).ext

theorem newVar_cells (h : Rel B c s a) {k : Nat} (hk : s.obj k = none) {vs : Array Value} {t : TypeId} {cs : List AV} (hcr : CR c cs vs) (hl : ∀ q ∈ keysL cs, live s.objs q) :
    Rel B (c.var k vs t) (s.setObj k (.cells cs)) a := by
  refine h.newVar hk ⟨⟨⟨vs, t, var_heap c k vs t, hcr.1, fun i u hu => (hcr.2 i u hu).2.ext (var_ext h hk vs t) fun q hq => hl q (keys_mem_of hu q hq)⟩, fun i u hu => (hcr.2 i u hu).1⟩, var_notI h.good k vs t, by simp [Cx.var]⟩ (by simp [excl, Cx.var]) (by simpa [AO.keys] using hl)
theorem newVar_arr (h : Rel B c s a) {k : Nat} (hk : s.obj k = none) {vs : Array Value} {t : TypeId} {sz n : Nat} {get : Nat → List AV} (hs : vs.size = n * sz)
    (hl : ∀ j, j < n → (get j).length = sz ∧ keysL (get j) = []) (hr : ∀ (j i : Nat) (u : AV), j < n → (get j)[i]? = some u → u.one = true ∧ Rep c u (vs.getD (j * sz + i) undef)) :
    Rel B (c.var k vs t) (s.setObj k (.arr sz n get)) a := by
  refine h.newVar hk ⟨⟨⟨vs, t, var_heap c k vs t, hs, fun j i u hj hu => (hr j i u hj hu).2.ext (var_ext h hk vs t) fun q hq => ?_⟩, hl, fun j i u hj hu => (hr j i u hj hu).1⟩, var_notI h.good k vs t, by simp [Cx.var]⟩ (by simp [excl, Cx.var]) (by simp [AO.keys])
  rw [keys_nil_of (hl j hj).2 hu] at hq; simp at hq

theorem Sees.ref {k : Nat} {vs : Array Value} {t : TypeId} {ob : AO} : Sees B (c.var k vs t) (s.setObj k ob) (.ref k 0) (.pointer (some ⟨c.w.heap.size, 0, none⟩)) := by
  refine ⟨?_, fun q hq => ?_, rfl⟩
  · have := Rep.ref (c := c.var k vs t) k 0
    simpa [Cx.var] using this
  · simp [AV.keys] at hq; subst hq; exact live_aput_self

/-- 'var x T': the variable, and the pointer to it. -/
theorem alloc_sound (h : Rel B c s a) {k : Nat} (hk : s.obj k = none) {t : TypeId} {ob : AO} (he : newA P t = some ob) :
    ∃ x c', (Instr.alloc t true (.tuple #[])).run P c.w = .ok x c'.w ∧ Rel B c' (s.setObj k ob) a ∧ Sees B c' (s.setObj k ob) (.ref k 0) x := by
  have hrun : ∀ (i : TypeInfo) (v : Value), P.info? t = some i → i.zero = some v → (Instr.alloc t true (.tuple #[])).run P c.w = .ok (.pointer (some ⟨c.w.heap.size, 0, none⟩)) (c.w.alloc (.cells v.cells t)) := by
    intro i v hi hv
    simp [Instr.alloc, zeroValue, typeInfo, hi, hv, newVar, newRow]
  unfold newA at he
  split at he
  · rename_i n e hu
    cases hz : zeroCells P e with
    | none => simp [hz] at he
    | some z =>
      cases hr : zeroCells P t with
      | none => simp [hz, hr] at he
      | some r =>
        simp only [hz, hr, Option.bind_some, guardO] at he
        cases hb : zeroRow z n r with
        | false => simp [hb] at he
        | true =>
          simp [hb] at he; subst he
          obtain ⟨i, v, hi, hv, hc⟩ := zeroCells_inv hr
          obtain ⟨_, _, _, _, hcz⟩ := zeroCells_inv hz
          obtain ⟨hcr, _⟩ := zero_CR (c := c) hc
          obtain ⟨hzc, hzk⟩ := zero_CR (c := c) hcz
          obtain ⟨h1, h2⟩ := zeroRow_spec hb
          refine ⟨_, c.var k v.cells t, hrun i v hi hv, newVar_arr h hk (by rw [hcr.1, h1]) (fun j hj => ⟨rfl, hzk⟩) (fun j q u hj hu => ⟨(hzc.2 q u hu).1, ?_⟩), Sees.ref⟩
          obtain ⟨w, hw, hsame⟩ := h2 j hj q u hu
          exact sameZ_rep hsame (hcr.2 _ w hw).2
  · cases hr : zeroCells P t with
    | none => simp [hr] at he
    | some r =>
      simp [hr] at he; subst he
      obtain ⟨i, v, hi, hv, hc⟩ := zeroCells_inv hr
      obtain ⟨hcr, hkz⟩ := zero_CR (c := c) hc
      exact ⟨_, c.var k v.cells t, hrun i v hi hv, newVar_cells h hk hcr (by rw [hkz]; simp), Sees.ref⟩
  · simp at he

theorem box_cells_sound (h : Rel B c s a) {k : Nat} (hk : s.obj k = none) {t : TypeId} {v : AV} {x : Value} (hs : Sees B c s v x) (ho : allOne v.cells = true) :
    ∃ y c', (Instr.box t x).run P c.w = .ok y c'.w ∧ Rel B c' (s.setObj k (.cells v.cells)) a ∧ Sees B c' (s.setObj k (.cells v.cells)) (.ref k 0) y :=
  ⟨_, c.var k x.cells t, by simp [Instr.box, newVar, newRow, Cx.var], newVar_cells h hk (cells_rel hs.rep ho) (by rw [keys_cells hs.plain]; exact hs.live), Sees.ref⟩
theorem box_arr_sound (h : Rel B c s a) {k : Nat} (hk : s.obj k = none) {t : TypeId} {sz n : Nat} {get : Nat → List AV} {x : Value} (hs : Rep c (.arr sz n get) x) :
    ∃ y c', (Instr.box t x).run P c.w = .ok y c'.w ∧ Rel B c' (s.setObj k (.arr sz n get)) a ∧ Sees B c' (s.setObj k (.arr sz n get)) (.ref k 0) y := by
  cases hs with
  | arr _ _ _ vs h1 h2 h3 h4 =>
    exact ⟨_, c.var k vs t, by simp [Instr.box, newVar, newRow, Cx.var, Value.cells], newVar_arr h hk h1 h2 (fun j i u hj hu => ⟨h3 j i u hj hu, h4 j i u hj hu⟩), Sees.ref⟩

/-! ### stores -/

theorem getD_splice (cur : Array Value) (off : Nat) (news : List Value) (h : off + news.length ≤ cur.size) :
    (cur.toList.take off ++ news ++ cur.toList.drop (off + news.length)).toArray.size = cur.size ∧
    ∀ i, i < cur.size → (cur.toList.take off ++ news ++ cur.toList.drop (off + news.length)).toArray.getD i undef = if off ≤ i ∧ i < off + news.length then news.getD (i - off) undef else cur.getD i undef := by
  refine ⟨by simp; omega, fun i hi => ?_⟩
  have hlen : (cur.toList.take off).length = off := by simp; omega
  simp only [Array.getD_eq_getD_getElem?, List.getElem?_toArray]
  by_cases h1 : i < off
  · rw [if_neg (by omega), List.append_assoc, List.getElem?_append_left (by rw [hlen]; exact h1), List.getElem?_take, if_pos h1]; simp
  · by_cases h2 : i < off + news.length
    · rw [if_pos ⟨by omega, h2⟩, List.append_assoc, List.getElem?_append_right (by rw [hlen]; omega), hlen, List.getElem?_append_left (by omega), List.getD_eq_getElem?_getD]
    · rw [if_neg (by omega), List.getElem?_append_right (by simp; omega), List.getElem?_drop]
      simp only [List.length_append, hlen]
      have : off + news.length + (i - (off + news.length)) = i := by omega
      rw [this]; simp

theorem storeAt_run {t : TypeId} {b off : Nat} {x : Value} {cur : Array Value} {t' : TypeId} {n : Nat} (hsz : sizeOf? P t = some n) (hn : x.cells.size = n) {w : World} (hh : w.heap[b]? = some (.cells cur t' (0, 0)))
    (hfit : off + n ≤ cur.size) (h1 : ∀ u ∈ x.cells.toList, u.oneCell' = true) :
    (Instr.storeAt t (.pointer (some ⟨b, off, none⟩)) x).run P w = .ok () (w.setRow b (cur.toList.take off ++ x.cells.toList ++ cur.toList.drop (off + x.cells.toList.length)).toArray) := by
  have hst := run_storeCells_at P b off t' x.cells.toList 0 cur w hh (by simp; omega) h1
  simp only [Nat.add_zero] at hst
  simp only [Instr.storeAt, Instr.sureAddr, Sem.run_bind, Sem.run_pure, Result.andThen_ok, storeVar, run_sizeOf hsz]
  rw [if_neg (by simp [hn])]
  exact hst

theorem wrote_setRow {w : World} {b : Nat} {cs : Array Value} (hc : c.w = w) : Wrote c b (w.setRow b cs) := by
  subst hc
  exact ⟨rfl, rfl, rfl, by simp, fun b' hb => setRow_other _ _ _ _ hb⟩

theorem CR.oneCell {l : List AV} {xs : Array Value} (h : CR c l xs) : ∀ u ∈ xs.toList, u.oneCell' = true := by
  intro u hu
  obtain ⟨i, hi, rfl⟩ := List.mem_iff_getElem.1 hu
  have hi' : i < xs.size := by simpa using hi
  have hl : i < l.length := by rw [← h.1]; exact hi'
  have := h.2 i _ (List.getElem?_eq_getElem hl)
  have e : xs.getD i undef = xs.toList[i] := by simp [Array.getD_eq_getD_getElem?, hi']
  rw [e] at this
  exact rep_oneCell this.2 this.1

theorem CR.splice {cs cs' l : List AV} {vs xs : Array Value} {off : Nat} (h : CR c cs vs) (hl : CR c l xs) (hs : setCells cs off l = some cs') :
    CR c cs' (vs.toList.take off ++ xs.toList ++ vs.toList.drop (off + xs.toList.length)).toArray ∧ off + xs.size ≤ vs.size := by
  obtain ⟨h1, h2, h3⟩ := setCells_spec hs
  have hfit : off + xs.toList.length ≤ vs.size := by simp [hl.1, h.1]; exact h2
  obtain ⟨g1, g2⟩ := getD_splice vs off xs.toList hfit
  refine ⟨⟨by rw [g1, h.1, h1], fun i u hu => ?_⟩, by simpa using hfit⟩
  have hi : i < vs.size := by rw [h.1, ← h1]; exact (List.getElem?_eq_some_iff.1 hu).1
  rw [g2 i hi]
  rw [h3 i] at hu
  have e1 : xs.toList.length = l.length := by simpa using hl.1
  simp only [e1]
  split at hu
  · rename_i hc
    rw [if_pos hc]
    have := hl.2 _ u hu
    simpa [Array.getD_eq_getD_getElem?, List.getD_eq_getElem?_getD] using this
  · rename_i hc
    rw [if_neg hc]
    exact h.2 i u hu

theorem storeA_sound (h : Rel B c s a) {t : TypeId} {x v : AV} {X V : Value} {k : Nat} {ob : AO} (hx : Sees B c s x X) (hv : Sees B c s v V) (he : storeA P s t x v = some (true, k, ob)) :
    ∃ c', (Instr.storeAt t X V).run P c.w = .ok () c'.w ∧ Rel B c' (s.setObj k ob) a := by
  have hxr := hx.rep
  cases x with
  | ref q off =>
    cases hxr
    simp only [storeA] at he
    cases hob : s.obj q with
    | none => simp [hob] at he
    | some o =>
      have hor := h.objs.rep q o hob
      cases o with
      | cells cs =>
        simp only [hob, guardO] at he
        cases hb : (allOne v.cells && (sizeOf? P t == some v.cells.length)) with
        | false => simp [hb] at he
        | true =>
          simp only [hb, cond_true] at he
          cases hst : setCells cs off v.cells with
          | none => simp [hst] at he
          | some l =>
            simp [hst] at he
            obtain ⟨rfl, rfl⟩ := he
            simp only [Bool.and_eq_true, beq_iff_eq] at hb
            obtain ⟨⟨⟨vs, t', hh, hs, hr⟩, h1⟩, hI, hfr⟩ := hor
            have hcv := cells_rel hv.rep hb.1
            have hcr : CR c cs vs := ⟨hs, fun i u hu => ⟨h1 i u hu, hr i u hu⟩⟩
            obtain ⟨hcr', hfit⟩ := hcr.splice hcv hst
            have hw : Wrote c (c.β q) (c.w.setRow (c.β q) (vs.toList.take off ++ V.cells.toList ++ vs.toList.drop (off + V.cells.toList.length)).toArray) := wrote_setRow rfl
            have hkb := Cx.write_keeps h.objs hob (b := c.β q) rfl hI hw
            refine ⟨c.write _, storeAt_run hb.2 hcv.1 hh (by rw [← hcv.1]; exact hfit) hcv.oneCell, h.obj hkb (Cx.write_grow h.good hI hw (h.mine q _ _ hob rfl)) ⟨⟨⟨_, t', setRow_heap _ _ _ _ _ _ hh, hcr'.1, fun i u hu => (hcr'.2 i u hu).2.ext hkb.ext fun r hr => ?_⟩, fun i u hu => (hcr'.2 i u hu).1⟩, hI, hfr⟩ ?_ ?_ ?_⟩
            · rcases keys_set hst r (keys_mem_of hu r hr) with hm | hm
              · exact h.objs.closed q _ hob r (by simpa [AO.keys] using hm)
              · rw [keys_cells hv.plain] at hm; exact hv.live r hm
            · intro r o' b hr hne hb' e
              exact h.objs.apart r o' q _ b hr hob hne hb' e
            · intro r hr
              rcases keys_set hst r (by simpa [AO.keys] using hr) with hm | hm
              · exact .inr (h.objs.closed q _ hob r (by simpa [AO.keys] using hm))
              · rw [keys_cells hv.plain] at hm; exact .inr (hv.live r hm)
            · intro b hb'; exact h.mine q _ b hob hb'
      | arr sz n get =>
        simp only [hob] at he
        cases v with
        | arr sz' n' get' =>
          simp only [guardO] at he
          cases hb : (Nat.beq off 0 && (Nat.beq sz sz' && (Nat.beq n n' && sizeOf? P t == some (n * sz)))) with
          | false => simp [hb] at he
          | true =>
            simp [hb] at he
            obtain ⟨rfl, rfl⟩ := he
            simp only [Bool.and_eq_true, beq_iff_eq] at hb
            obtain ⟨b1, b2, b3, b4⟩ := hb
            have b1 := beqT b1; have b2 := beqT b2; have b3 := beqT b3
            subst b1; subst b2; subst b3
            obtain ⟨⟨⟨vs, t', hh, hs, hr⟩, hl, h1⟩, hI, hfr⟩ := hor
            have hvr := hv.rep
            cases hvr with
            | arr _ _ _ xs g1 g2 g3 g4 =>
              have hw : Wrote c (c.β q) (c.w.setRow (c.β q) (vs.toList.take 0 ++ (Value.agg xs).cells.toList ++ vs.toList.drop (0 + (Value.agg xs).cells.toList.length)).toArray) := wrote_setRow rfl
              have hkb := Cx.write_keeps h.objs hob (b := c.β q) rfl hI hw
              have hone : ∀ u ∈ (Value.agg xs).cells.toList, u.oneCell' = true := by
                intro u hu
                obtain ⟨i, hi, rfl⟩ := List.mem_iff_getElem.1 hu
                have hi' : i < n * sz := by
                  have : i < xs.size := by simpa [Value.cells] using hi
                  omega
                have hsz0 : 0 < sz := by
                  rcases Nat.eq_zero_or_pos sz with h0 | h0
                  · rw [h0] at hi'; omega
                  · exact h0
                have hj : i / sz < n := Nat.div_lt_of_lt_mul (by rw [Nat.mul_comm]; exact hi')
                have hm : i % sz < sz := Nat.mod_lt _ hsz0
                have hlen := (g2 _ hj).1
                have := g4 (i / sz) (i % sz) _ hj (List.getElem?_eq_getElem (by rw [hlen]; exact hm))
                have h1' := g3 (i / sz) (i % sz) _ hj (List.getElem?_eq_getElem (by rw [hlen]; exact hm))
                have e : i / sz * sz + i % sz = i := by rw [Nat.mul_comm]; exact Nat.div_add_mod i sz
                rw [e] at this
                have e2 : xs.getD i undef = (Value.agg xs).cells.toList[i] := by simp [Value.cells, Array.getD_eq_getD_getElem?, show i < xs.size by omega]
                rw [e2] at this
                exact rep_oneCell this h1'
              have hnew : (vs.toList.take 0 ++ (Value.agg xs).cells.toList ++ vs.toList.drop (0 + (Value.agg xs).cells.toList.length)).toArray = xs := by
                apply Array.ext'
                simp [Value.cells, g1, hs]
              refine ⟨c.write _, storeAt_run b4 (by simpa [Value.cells] using g1) hh (by omega) hone, h.obj hkb (Cx.write_grow h.good hI hw (h.mine q _ _ hob rfl)) ⟨⟨⟨_, t', setRow_heap _ _ _ _ _ _ hh, by rw [hnew]; exact g1, fun j i u hj hu => ?_⟩, g2, g3⟩, hI, hfr⟩ ?_ (by simp [AO.keys]) ?_⟩
              · refine Eq.subst (motive := fun z => Rep _ u (Array.getD z (j * sz + i) undef)) hnew.symm ?_
                refine (g4 j i u hj hu).ext hkb.ext fun r hr => ?_
                rw [keys_nil_of (g2 j hj).2 hu] at hr; simp at hr
              · intro r o' b hr hne hb' e
                exact h.objs.apart r o' q _ b hr hob hne hb' e
              · intro b hb'; exact h.mine q _ b hob hb'
        | _ => simp at he
      | _ => simp [hob] at he
  | aref q sz' i off =>
    cases hxr
    simp only [storeA] at he
    cases hob : s.obj q with
    | none => simp [hob] at he
    | some o =>
      have hor := h.objs.rep q o hob
      cases o with
      | arr sz n get =>
        simp only [hob, guardO] at he
        cases hb : (Nat.beq sz sz' && (allOne v.shed.cells && (sizeOf? P t == some v.shed.cells.length && isNil (keysL v.shed.cells)))) with
        | false => simp [hb] at he
        | true =>
          simp only [hb, cond_true] at he
          cases hst : setCells (get i) off v.shed.cells with
          | none => simp [hst] at he
          | some l =>
            simp [hst] at he
            obtain ⟨hi, rfl, rfl⟩ := he
            have hi : i < n := by simpa [Nat.blt] using hi
            simp only [Bool.and_eq_true, beq_iff_eq] at hb
            obtain ⟨b0, b1, b2, b3⟩ := hb
            have b0 := beqT b0
            subst b0
            have b3 : keysL v.shed.cells = [] := by
              cases hk : keysL v.shed.cells with
              | nil => rfl
              | cons => simp [hk, isNil] at b3
            obtain ⟨⟨⟨vs, t', hh, hs, hr⟩, hl, h1⟩, hI, hfr⟩ := hor
            have hcv := cells_rel hv.shed.rep b1
            obtain ⟨s1, s2, s3⟩ := setCells_spec hst
            have hlen := (hl i hi).1
            have hfit : i * sz + off + V.cells.size ≤ vs.size := by
              rw [hcv.1, hs]
              have := Nat.mul_le_mul_right sz hi
              rw [Nat.succ_mul] at this; omega
            have hw : Wrote c (c.β q) (c.w.setRow (c.β q) (vs.toList.take (i * sz + off) ++ V.cells.toList ++ vs.toList.drop (i * sz + off + V.cells.toList.length)).toArray) := wrote_setRow rfl
            have hkb := Cx.write_keeps h.objs hob (b := c.β q) rfl hI hw
            obtain ⟨g1, g2⟩ := getD_splice vs (i * sz + off) V.cells.toList (by simpa using hfit)
            have hlk : keysL l = [] := by
              cases hk : keysL l with
              | nil => rfl
              | cons r rs =>
                rcases keys_set hst r (by simp [hk]) with hm | hm
                · simp [(hl i hi).2] at hm
                · simp [b3] at hm
            have hnl : ∀ j, j < n → (cond (Nat.beq j i) l (get j)).length = sz ∧ keysL (cond (Nat.beq j i) l (get j)) = [] := by
              intro j hj
              by_cases e : j = i
              · subst e; simp only [Nat.beq_refl, cond_true]; exact ⟨by rw [s1, hlen], hlk⟩
              · rw [beqF e]; exact hl j hj
            have hnr : ∀ (j q' : Nat) (u : AV), j < n → (cond (Nat.beq j i) l (get j))[q']? = some u → u.one = true ∧ Rep c u ((vs.toList.take (i * sz + off) ++ V.cells.toList ++ vs.toList.drop (i * sz + off + V.cells.toList.length)).toArray.getD (j * sz + q') undef) := by
              intro j q' u hj hu
              have hq' : q' < sz := by rw [← (hnl j hj).1]; exact (List.getElem?_eq_some_iff.1 hu).1
              have hlt := row_off_lt hj hq'
              rw [g2 _ (by omega)]
              simp only [Array.length_toList, hcv.1]
              by_cases e : j = i
              · subst e
                simp only [Nat.beq_refl, cond_true] at hu
                rw [s3 q'] at hu
                split at hu
                · rename_i hc
                  rw [if_pos (by omega)]
                  have := hcv.2 _ u hu
                  refine ⟨this.1, ?_⟩
                  have e5 : j * sz + q' - (j * sz + off) = q' - off := by omega
                  rw [e5]
                  simpa [Array.getD_eq_getD_getElem?, List.getD_eq_getElem?_getD] using this.2
                · rename_i hc
                  rw [if_neg (by omega)]
                  exact ⟨h1 j q' u hj hu, hr j q' u hj hu⟩
              · rw [beqF e] at hu
                rw [if_neg]
                · exact ⟨h1 j q' u hj hu, hr j q' u hj hu⟩
                · rintro ⟨c1, c2⟩
                  rcases Nat.lt_or_gt_of_ne e with hlt' | hgt
                  · have := Nat.mul_le_mul_right sz hlt'
                    rw [Nat.succ_mul] at this; omega
                  · have := Nat.mul_le_mul_right sz hgt
                    rw [Nat.succ_mul] at this; omega
            refine ⟨c.write _, storeAt_run b2 hcv.1 hh (by rw [← hcv.1]; exact hfit) hcv.oneCell, h.obj hkb (Cx.write_grow h.good hI hw (h.mine q _ _ hob rfl)) ⟨⟨⟨_, t', setRow_heap _ _ _ _ _ _ hh, by rw [g1]; exact hs, fun j q' u hj hu => ?_⟩, hnl, fun j q' u hj hu => (hnr j q' u hj hu).1⟩, hI, hfr⟩ ?_ (by simp [AO.keys]) ?_⟩
            · refine (hnr j q' u hj hu).2.ext hkb.ext fun r hr => ?_
              rw [keys_nil_of (hnl j hj).2 hu] at hr; simp at hr
            · intro r o' b hr hne hb' e
              exact h.objs.apart r o' q _ b hr hob hne hb' e
            · intro b hb'; exact h.mine q _ b hob hb'
      | _ => simp [hob] at he
  | _ => simp [storeA] at he
end Go.Ab
