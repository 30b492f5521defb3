/- A region whose order is drawn: the order does not count. -/
import Derived.Test.YtmiiklmfnagbbaaDoorAbsDrawn3
namespace Go.Ab
open Go Go.RowKit
variable {P : Program} {B : Base} {c : Cx} {s : St} {a : Act}

theorem disjK_spec {l m : List Nat} (h : disjK l m = true) {k : Nat} (h1 : k ∈ l) (h2 : k ∈ m) : False := by
  have := List.all_eq_true.1 h k h1
  rw [any_beq.2 h2] at this; simp at this

theorem loud_call {op : Op} (h : isLoud op = true) : isCallV op = false := by
  cases op with
  | call q =>
    obtain ⟨callee, args, ts⟩ := q
    cases callee with
    | value f => simp [isLoud] at h
    | _ => rfl
  | _ => rfl

theorem obj_after (s : St) (d : Option Nat) (v : AV) (objs : List (Nat × AO)) (k : Nat) : (s.after d v objs).obj k = alook objs k := by simp only [St.obj, objs_after]

theorem Agree.refl (s : St) (l : List Nat) : Agree s s l := fun _ _ => rfl
theorem SameK.refl (s : St) (l : List Nat) : SameK s s l := fun _ _ => rfl

theorem One.obj {X : Cfg} {ops : Array Oper} {i : Nat} {o : Oper} {s s' : St} (h : One X ops o s s') (ha : (fpOf X s ops i o).all = false) {k : Nat} (hw : k ∉ (fpOf X s ops i o).wr) : s'.obj k = s.obj k := by
  cases h with
  | plain v objs' hg he =>
    rw [obj_after]
    simp only [fpOf, hg, Bool.and_eq_false_iff, Bool.not_eq_false'] at ha hw
    cases hl : isLoud o.op with
    | true =>
      rw [hl, cond_true] at hw
      obtain ⟨q, ob, h1, h2, _⟩ := effA_loud hl (Agree.refl s _) (SameK.refl s _) he
      rw [h2, alook_aput, if_neg]
      · rfl
      · rintro rfl; exact hw h1
    | false =>
      by_cases hc : isCallV o.op = true
      · rw [(effA_quiet hc (isNil_eq (ha.resolve_left (by simp [hc]))) (Agree.refl s _) he).1]; rfl
      · rw [effA_pure hl (by simpa using hc)] at he
        obtain ⟨r, _, he⟩ := opt_map he
        simp only [Prod.mk.injEq] at he
        rw [← he.2.2]; rfl
  | guarded j t d w v _ _ _ _ _ => simp

theorem One.move {X : Cfg} {ops : Array Oper} {i : Nat} {o : Oper} {s1 s2 s2' : St} (h : One X ops o s2 s2') (ht : Agree s1 s2 (fpOf X s2 ops i o).tmps)
    (ho : ∀ k, k ∈ (fpOf X s2 ops i o).rd ∨ k ∈ (fpOf X s2 ops i o).wr ∨ (fpOf X s2 ops i o).all = true → s1.obj k = s2.obj k) :
    ∃ s1', One X ops o s1 s1' ∧ (∀ d, o.dst = some d → s1'.get d = s2'.get d) ∧ (∀ k, k ∈ (fpOf X s2 ops i o).wr ∨ (fpOf X s2 ops i o).all = true → s1'.obj k = s2'.obj k) ∧
      (∀ k, (fpOf X s2 ops i o).all = false → k ∉ (fpOf X s2 ops i o).wr → s1'.obj k = s1.obj k) := by
  cases h with
  | plain v objs' hg he =>
    have htm : (fpOf X s2 ops i o).tmps = opTmps o.op.operands.toList := by simp only [fpOf, hg]
    have hwr : (fpOf X s2 ops i o).wr = cond (isLoud o.op) (o.dst.toList ++ opKeys ⟨s2, X.G, []⟩ o.op.operands.toList) [] := by simp only [fpOf, hg]
    have hrd : (fpOf X s2 ops i o).rd = cond (readsObj o.op) (opKeys ⟨s2, X.G, []⟩ o.op.operands.toList) [] := by simp only [fpOf, hg]
    have hall : (fpOf X s2 ops i o).all = (isCallV o.op && !isNil (opKeys ⟨s2, X.G, []⟩ o.op.operands.toList)) := by simp only [fpOf, hg]
    rw [htm] at ht
    rw [hwr, hrd, hall] at ho
    rw [hwr, hall]
    have hd : ∀ (O1 : List (Nat × AO)) (d : Nat), o.dst = some d → (s1.after o.dst v O1).get d = (s2.after o.dst v objs').get d := fun O1 d hd => by rw [get_after, get_after, if_pos hd, if_pos hd]
    cases hl : isLoud o.op with
    | true =>
      rw [hl] at ho
      simp only [cond_true] at ho ⊢
      obtain ⟨q, ob, h1, h2, h3⟩ := effA_loud hl ht (fun k hk => ho k (.inr (.inl hk))) he
      refine ⟨_, .plain v _ hg h3, hd _, fun k hk => ?_, fun k _ hk => ?_⟩
      · rw [obj_after, obj_after, h2, alook_aput, alook_aput]
        split
        · rfl
        · rcases hk with hk | hk
          · exact ho k (.inr (.inl hk))
          · rw [loud_call hl] at hk; simp at hk
      · rw [obj_after, alook_aput, if_neg]
        · rfl
        · rintro rfl; exact hk h1
    | false =>
      rw [hl] at ho
      simp only [cond_false] at ho ⊢
      cases hc : isCallV o.op with
      | true =>
        cases hn : isNil (opKeys ⟨s2, X.G, []⟩ o.op.operands.toList) with
        | true =>
          obtain ⟨e1, e2⟩ := effA_quiet hc (isNil_eq hn) ht he
          exact ⟨_, .plain v _ hg e2, hd _, fun k hk => by simp at hk, fun k _ _ => by rw [obj_after]; rfl⟩
        | false =>
          obtain ⟨O1, e1, e2⟩ := effA_call_same hc (fun k => ho k (.inr (.inr (by rw [hc, hn]; rfl)))) ht he
          exact ⟨_, .plain v _ hg e1, hd _, fun k _ => by rw [obj_after, obj_after]; exact e2 k, fun k hk => by simp at hk⟩
      | false =>
        have he' := he
        rw [effA_pure hl hc] at he'
        obtain ⟨⟨b', v'⟩, e1, e2⟩ := opt_map he'
        simp only [Prod.mk.injEq] at e2
        obtain ⟨rfl, rfl, rfl⟩ := e2
        have e3 : effA X s1 o = some (true, v', s1.objs) := by
          rw [effA_pure hl hc, pureA_congr X.P ht (fun k hk => ho k (.inl hk)), e1]; rfl
        exact ⟨_, .plain v' _ hg e3, hd _, fun k hk => by simp at hk, fun k _ _ => by rw [obj_after]; rfl⟩
  | guarded j t d w v hg hj hd hdt he =>
    have htm : (fpOf X s2 ops i o).tmps = (chainOf s2 4 t w).map (·.1) ++ opTmps o.op.operands.toList := by simp only [fpOf, hg, hj]
    have hwr : (fpOf X s2 ops i o).wr = [] := by simp only [fpOf, hg, hj]
    have hall : (fpOf X s2 ops i o).all = false := by simp only [fpOf, hg, hj]
    have hrd : (fpOf X s2 ops i o).rd = cond (readsObj o.op) (opKeys ⟨s2, X.G, chainOf s2 4 t w⟩ o.op.operands.toList) [] ++ v.keys := by simp only [fpOf, hg, hj, he]
    rw [htm] at ht
    have he1 : effG X s1 o t w = some (true, v) := effG_congr he ht fun k hk => ho k (.inl (by rw [hrd]; exact hk))
    refine ⟨_, .guarded j t d w v hg hj hd hdt he1, fun d' hd' => ?_, fun k hk => by rw [hwr, hall] at hk; simp at hk, fun k _ _ => by simp⟩
    rw [hd] at hd'; cases hd'
    rw [St.get_put, St.get_put, if_pos rfl, if_pos rfl]

/-- The plan of a drawn region. -/
structure Plan (X : Cfg) (ops : Array Oper) (st : Nat → St) : Prop where
  T : Trace X ops st
  plain : NoGrd (st 0)
  uniq : ∀ (i j : Nat) (o q : Oper) (d : Nat), ops[i]? = some o → ops[j]? = some q → o.dst = some d → q.dst = some d → i = j
  edge : ∀ (i : Nat) (o : Oper), ops[i]? = some o → ∀ e ∈ o.after, Region.binds .any e = true → e.on < i
  pair : ∀ (i j : Nat) (o q : Oper), i < j → ops[i]? = some o → ops[j]? = some q → ((befores ops.toList []).getD j 0).testBit i = true ∨ apartF (fpOf X (st i) ops i o) (fpOf X (st j) ops j q) = true

section
variable {X : Cfg} {ops : Array Oper} {st : Nat → St}

theorem get_op {ops : Array Oper} {i : Nat} (h : i < ops.size) : ∃ o, ops[i]? = some o := ⟨ops[i], Array.getElem?_eq_getElem h⟩

theorem Plan.get0 (p : Plan X ops st) : ∀ (i t : Nat), i ≤ ops.size → (∀ j o, j < i → ops[j]? = some o → o.dst ≠ some t) → (st i).get t = (st 0).get t
  | 0, _, _, _ => rfl
  | i + 1, t, hi, h => by
    obtain ⟨o, ho⟩ := get_op (show i < ops.size by omega)
    rw [(p.T.step i o ho).other (h i o (by omega) ho)]
    exact p.get0 i t (by omega) fun j o hj => h j o (by omega)
theorem Plan.get1 (p : Plan X ops st) {j t : Nat} {o : Oper} (hj : ops[j]? = some o) (ht : o.dst = some t) : ∀ (k : Nat), j + 1 + k ≤ ops.size → (st (j + 1 + k)).get t = (st (j + 1)).get t
  | 0, _ => rfl
  | k + 1, hk => by
    obtain ⟨q, hq⟩ := get_op (show j + 1 + k < ops.size by omega)
    rw [← Nat.add_assoc, (p.T.step _ q hq).other fun e => ?_]
    · exact p.get1 hj ht k (by omega)
    · have := p.uniq j _ o q t hj hq ht e; omega
theorem Plan.getF (p : Plan X ops st) {i j t : Nat} {o : Oper} (hj : ops[j]? = some o) (ht : o.dst = some t) (hij : j < i) (hi : i ≤ ops.size) : (st i).get t = (st ops.size).get t := by
  have h1 := p.get1 hj ht (i - (j + 1)) (by omega)
  have h2 := p.get1 hj ht (ops.size - (j + 1)) (by omega)
  rw [show j + 1 + (i - (j + 1)) = i by omega] at h1
  rw [show j + 1 + (ops.size - (j + 1)) = ops.size by omega] at h2
  rw [h1, h2]
/-- Operation j turns object k. -/
def Turns (X : Cfg) (ops : Array Oper) (st : Nat → St) (j : Nat) (o : Oper) (k : Nat) : Prop := k ∈ (fpOf X (st j) ops j o).wr ∨ (fpOf X (st j) ops j o).all = true

theorem Plan.objs (p : Plan X ops st) {i q : Nat} : ∀ (k : Nat), i + k ≤ ops.size → (∀ j o, i ≤ j → j < i + k → ops[j]? = some o → ¬ Turns X ops st j o q) → (st (i + k)).obj q = (st i).obj q
  | 0, _, _ => rfl
  | k + 1, hk, h => by
    obtain ⟨o, ho⟩ := get_op (show i + k < ops.size by omega)
    have hn := h _ o (by omega) (by omega) ho
    rw [← Nat.add_assoc, (p.T.step _ o ho).obj (i := i + k) (by simpa using fun e => hn (.inr e)) (fun e => hn (.inl e))]
    exact p.objs k (by omega) fun j o h1 h2 => h j o h1 (by omega)

/-- Where a run in some order stands: S has run. -/
structure Inv (X : Cfg) (ops : Array Oper) (st : Nat → St) (S : Nat → Prop) (s : St) : Prop where
  done : ∀ (t j : Nat) (o : Oper), S j → ops[j]? = some o → o.dst = some t → s.get t = (st ops.size).get t
  rest : ∀ t, (∀ (j : Nat) (o : Oper), S j → ops[j]? = some o → o.dst ≠ some t) → s.get t = (st 0).get t
  objs : ∀ k, ∃ m, m ≤ ops.size ∧ s.obj k = (st m).obj k ∧ ∀ (j : Nat) (o : Oper), ops[j]? = some o → Turns X ops st j o k → (S j ↔ j < m)
  down : ∀ (j : Nat) (o : Oper), S j → ops[j]? = some o → ∀ e ∈ o.after, Region.binds .any e = true → S e.on
  grd : ∀ (t tc : Nat) (w : Bool) (v : AV), s.get t = some (.grd tc w v) → ∃ (j : Nat) (o : Oper) (g : Nat), S j ∧ ops[j]? = some o ∧ o.dst = some t ∧ o.guard = some (g, w) ∧ (ops[g]?).bind (·.dst) = some tc

theorem Plan.bit (_ : Plan X ops st) {S : Nat → Prop} (hS : ∀ (j : Nat) (o : Oper), S j → ops[j]? = some o → ∀ e ∈ o.after, Region.binds .any e = true → S e.on) {i j : Nat} {o : Oper} (ho : ops[j]? = some o)
    (hr : ∀ e ∈ o.after, Region.binds .any e = true → S e.on) (h : ((befores ops.toList []).getD j 0).testBit i = true) : S i :=
  befores_spec hS ops.toList [] (fun j => by simp) (fun j o hj => by simp at hj) j o ho hr i h

/-- The next operation, in whatever order. -/
theorem Plan.next (p : Plan X ops st) (hX : CallsOk X) (hG : X.G = B.G) (hN : ∀ o ∈ ops.toList, ∀ d, o.dst = some d → d < B.N) {S : Nat → Prop} (hI : Inv X ops st S s) (h : Rel B c s a) {i : Nat} {o : Oper} (ho : ops[i]? = some o) (hni : ¬ S i)
    (hr : ∀ e ∈ o.after, Region.binds .any e = true → S e.on) : ∃ s', Inv X ops st (fun j => j = i ∨ S j) s' ∧ IStep X.P ops B c a i s' := by
  have hin : i < ops.size := (Array.getElem?_eq_some_iff.1 ho).1
  -- what stands before and after
  have hbefore : ∀ j q, j < i → ops[j]? = some q → S j ∨ apartF (fpOf X (st j) ops j q) (fpOf X (st i) ops i o) = true := fun j q hj hq =>
    (p.pair j i q o hj hq ho).imp (fun hb => p.bit hI.down ho hr hb) id
  have hafter : ∀ j q, i < j → ops[j]? = some q → S j → apartF (fpOf X (st i) ops i o) (fpOf X (st j) ops j q) = true := fun j q hj hq hSj =>
    (p.pair i j o q hj ho hq).resolve_left fun hb => hni (p.bit hI.down hq (hI.down j q hSj hq) hb)
  have hdstF : ∀ (k : Nat) (q : Oper) (st' : St) (t : Nat), ops[k]? = some q → q.dst = some t → t ∈ (fpOf X st' ops k q).dst ∨ (∃ j w, q.guard = some (j, w) ∧ (ops[j]?).bind (·.dst) = none) := by
    intro k q st' t hq ht
    cases hg : q.guard with
    | none => left; simp [fpOf, hg, ht]
    | some jw =>
      obtain ⟨j, w⟩ := jw
      cases hj : (ops[j]?).bind (·.dst) with
      | none => right; exact ⟨j, w, rfl, hj⟩
      | some t' => left; simp [fpOf, hg, hj, ht]
  have hdst : ∀ (k : Nat) (q : Oper) (t : Nat), ops[k]? = some q → q.dst = some t → t ∈ (fpOf X (st k) ops k q).dst := by
    intro k q t hq ht
    rcases hdstF k q (st k) t hq ht with h1 | ⟨j, w, h1, h2⟩
    · exact h1
    · have hs := p.T.step k q hq
      generalize st (k + 1) = s' at hs
      cases hs with
      | plain v objs' hg _ => rw [hg] at h1; cases h1
      | guarded j' t' d w' v hg hj _ _ _ => rw [hg] at h1; cases h1; rw [hj] at h2; cases h2
  -- the slots that it reads
  have hagree : Agree s (st i) (fpOf X (st i) ops i o).tmps := by
    intro t ht
    by_cases hex : ∃ (j : Nat) (q : Oper), ops[j]? = some q ∧ q.dst = some t
    · obtain ⟨j, q, hj, hq⟩ := hex
      have hjn : j < ops.size := (Array.getElem?_eq_some_iff.1 hj).1
      have hone : ∀ k q', S k → ops[k]? = some q' → q'.dst = some t → S j := fun k q' hk hk' hq' => by rw [p.uniq j k q q' t hj hk' hq hq']; exact hk
      rcases Nat.lt_trichotomy j i with hlt | rfl | hlt
      · rcases hbefore j q hlt hj with hS | hap
        · rw [hI.done t j q hS hj hq, p.getF hj hq hlt (by omega)]
        · simp only [apartF, Bool.and_eq_true] at hap
          exact (disjK_spec hap.1 (hdst j q t hj hq) ht).elim
      · rw [hI.rest t fun k q' hk hk' hq' => hni (hone k q' hk hk' hq'), p.get0 j t (by omega) fun k q' hk hk' hq' => by
          have := p.uniq j k q q' t hj hk' hq hq'; omega]
      · by_cases hS : S j
        · have hap := hafter j q hlt hj hS
          simp only [apartF, Bool.and_eq_true] at hap
          exact (disjK_spec hap.2.1 (hdst j q t hj hq) ht).elim
        · rw [hI.rest t fun k q' hk hk' hq' => hS (hone k q' hk hk' hq'), p.get0 i t (by omega) fun k q' hk hk' hq' => by
            have := p.uniq j k q q' t hj hk' hq hq'; omega]
    · have hno : ∀ (k : Nat) (q : Oper), ops[k]? = some q → q.dst ≠ some t := fun k q hk hq => hex ⟨k, q, hk, hq⟩
      rw [hI.rest t fun k q _ hk => hno k q hk, p.get0 i t (by omega) fun k q _ hk => hno k q hk]
  -- the objects
  have htouch : ∀ k, k ∈ (fpOf X (st i) ops i o).rd ∨ k ∈ (fpOf X (st i) ops i o).wr ∨ (fpOf X (st i) ops i o).all = true → (fpOf X (st i) ops i o).touches = true := by
    intro k hk
    simp only [Fp.touches, Bool.or_eq_true, Bool.not_eq_true']
    rcases hk with hk | hk | hk
    · right; left; cases hr : (fpOf X (st i) ops i o).rd with
      | nil => rw [hr] at hk; simp at hk
      | cons _ _ => rfl
    · right; right; cases hr : (fpOf X (st i) ops i o).wr with
      | nil => rw [hr] at hk; simp at hk
      | cons _ _ => rfl
    · exact .inl hk
  have htouch' : ∀ j q k, Turns X ops st j q k → (fpOf X (st j) ops j q).touches = true := by
    intro j q k hk
    simp only [Fp.touches, Bool.or_eq_true, Bool.not_eq_true']
    rcases hk with hk | hk
    · right; right; cases hr : (fpOf X (st j) ops j q).wr with
      | nil => rw [hr] at hk; simp at hk
      | cons _ _ => rfl
    · exact .inl hk
  have hbw : ∀ k, k ∈ (fpOf X (st i) ops i o).rd ∨ k ∈ (fpOf X (st i) ops i o).wr ∨ (fpOf X (st i) ops i o).all = true → (∀ j q, j < i → ops[j]? = some q → Turns X ops st j q k → S j) ∧ ∀ j q, i < j → ops[j]? = some q → Turns X ops st j q k → ¬ S j := by
    intro k hb
    refine ⟨fun j q hj hq hw => (hbefore j q hj hq).resolve_right fun hap => ?_, fun j q hj hq hw hS => ?_⟩
    · simp only [apartF, Bool.and_eq_true, Bool.not_eq_true', Bool.and_eq_false_iff] at hap
      obtain ⟨_, _, h3, h4, h5, h6, h7⟩ := hap
      rcases hb with hb | hb | hb
      · rcases hw with hw | hw
        · exact disjK_spec h6 hw hb
        · rcases h3 with h3 | h3
          · rw [hw] at h3; cases h3
          · rw [htouch k (.inl hb)] at h3; cases h3
      · rcases hw with hw | hw
        · exact disjK_spec h5 hw hb
        · rcases h3 with h3 | h3
          · rw [hw] at h3; cases h3
          · rw [htouch k (.inr (.inl hb))] at h3; cases h3
      · rcases h4 with h4 | h4
        · rw [hb] at h4; cases h4
        · rw [htouch' j q k hw] at h4; cases h4
    · have hap := hafter j q hj hq hS
      simp only [apartF, Bool.and_eq_true, Bool.not_eq_true', Bool.and_eq_false_iff] at hap
      obtain ⟨_, _, h3, h4, h5, h6, h7⟩ := hap
      rcases hb with hb | hb | hb
      · rcases hw with hw | hw
        · exact disjK_spec h7 hw hb
        · rcases h4 with h4 | h4
          · rw [hw] at h4; cases h4
          · rw [htouch k (.inl hb)] at h4; cases h4
      · rcases hw with hw | hw
        · exact disjK_spec h5 hb hw
        · rcases h4 with h4 | h4
          · rw [hw] at h4; cases h4
          · rw [htouch k (.inr (.inl hb))] at h4; cases h4
      · rcases h3 with h3 | h3
        · rw [hb] at h3; cases h3
        · rw [htouch' j q k hw] at h3; cases h3
  have hob : ∀ k, k ∈ (fpOf X (st i) ops i o).rd ∨ k ∈ (fpOf X (st i) ops i o).wr ∨ (fpOf X (st i) ops i o).all = true → s.obj k = (st i).obj k := by
    intro k hb
    obtain ⟨h1, h2⟩ := hbw k hb
    obtain ⟨m, hm, hobs, hwr⟩ := hI.objs k
    rw [hobs]
    rcases Nat.le_total m i with hle | hle
    · have := p.objs (i := m) (q := k) (i - m) (by omega) fun j q hj1 hj2 hq hw => by
        have := (hwr j q hq hw).1 (h1 j q (by omega) hq hw); omega
      rw [show m + (i - m) = i by omega] at this; exact this.symm
    · have := p.objs (i := i) (q := k) (m - i) (by omega) fun j q hj1 hj2 hq hw => by
        have hS := (hwr j q hq hw).2 (by omega)
        by_cases e : j = i
        · subst e; exact hni hS
        · exact h2 j q (by omega) hq hw hS
      rw [show i + (m - i) = m by omega] at this; exact this
  obtain ⟨s', hone, hget, hw1, hw0⟩ := (p.T.step i o ho).move (i := i) hagree hob
  -- what waits
  have hfree : ∀ d, o.dst = some d → d < B.N ∧ FreeOf s d := by
    intro d hd
    refine ⟨hN o (by simpa using Array.mem_of_getElem? ho) d hd, fun t tc w v hg e => ?_⟩
    subst e
    obtain ⟨j, q, g, hS, hj, hq, hqg, hqt⟩ := hI.grd t tc w v hg
    have htm : tc ∈ (fpOf X (st j) ops j q).tmps := by
      simp only [fpOf, hqg, hqt, List.mem_append]
      left; simp [chainOf]
    rcases Nat.lt_trichotomy j i with hlt | rfl | hlt
    · exact p.T.later j q g tc w hj hqg hqt i o hlt ho hd
    · exact hni hS
    · have hap := hafter j q hlt hj hS
      simp only [apartF, Bool.and_eq_true] at hap
      exact disjK_spec hap.1 (hdst i o tc ho hd) htm
  have hkeep : ∀ t, o.dst ≠ some t → s'.get t = s.get t := fun t ht => hone.other ht
  have hinv : (∀ (t tc : Nat) (w : Bool) (v : AV), o.dst = some t → s'.get t = some (.grd tc w v) → ∃ g, o.guard = some (g, w) ∧ (ops[g]?).bind (·.dst) = some tc) → Inv X ops st (fun j => j = i ∨ S j) s' := by
    intro hgr
    refine ⟨fun t j q hj hq hd => ?_, fun t hno => ?_, ?_, fun j q hj hq e he hb => ?_, fun t tc w v hg => ?_⟩
    · by_cases e : j = i
      · subst e
        rw [ho] at hq; cases hq
        rw [hget t hd]
        exact p.getF ho hd (Nat.lt_succ_self j) (by omega)
      · have hS := hj.resolve_left e
        rw [hkeep t fun hd' => e (p.uniq j i q o t hq ho hd hd')]
        exact hI.done t j q hS hq hd
    · rw [hkeep t (hno i o (.inl rfl) ho)]
      exact hI.rest t fun j q hj => hno j q (.inr hj)
    · intro k
      by_cases hw : Turns X ops st i o k
      · obtain ⟨h1, h2⟩ := hbw k (.inr hw)
        refine ⟨i + 1, by omega, hw1 k hw, fun j q hq hwj => ?_⟩
        rcases Nat.lt_trichotomy j i with hlt | rfl | hlt
        · exact ⟨fun _ => by omega, fun _ => .inr (h1 j q hlt hq hwj)⟩
        · exact ⟨fun _ => by omega, fun _ => .inl rfl⟩
        · exact ⟨fun hj => absurd (hj.resolve_left (by omega)) (h2 j q hlt hq hwj), fun hj => by omega⟩
      · obtain ⟨m, hm, hobs, hwr⟩ := hI.objs k
        refine ⟨m, hm, by rw [hw0 k (by simpa using fun e => hw (.inr e)) (fun e => hw (.inl e)), hobs], fun j q hq hwj => ?_⟩
        have e : j ≠ i := by rintro rfl; rw [ho] at hq; cases hq; exact hw hwj
        exact ⟨fun hj => (hwr j q hq hwj).1 (hj.resolve_left e), fun hj => .inr ((hwr j q hq hwj).2 hj)⟩
    · rcases hj with rfl | hj
      · rw [ho] at hq; cases hq; exact .inr (hr e he hb)
      · exact .inr (hI.down j q hj hq e he hb)
    · by_cases e : o.dst = some t
      · obtain ⟨g, h1, h2⟩ := hgr t tc w v e hg
        exact ⟨i, o, g, .inl rfl, ho, e, h1, h2⟩
      · rw [hkeep t e] at hg
        obtain ⟨j, q, g, h1, h2⟩ := hI.grd t tc w v hg
        exact ⟨j, q, g, .inr h1, h2⟩
  cases hone with
  | plain v objs' hg he =>
    obtain ⟨hstep, hv⟩ := effA_sound hX hG h hfree he
    refine ⟨_, hinv fun t tc w u ht hu => ?_, hstep.istep ho hg⟩
    rw [get_after, if_pos ht] at hu; cases hu; simp [AV.isGrd] at hv
  | guarded j t d w v hg hj hd hdt he =>
    refine ⟨_, hinv fun t' tc w' u ht' hu => ?_, effG_sound hX hG h ho hg hj hd (hfree d hd).1 (hfree d hd).2 hdt he⟩
    rw [hd] at ht'; cases ht'
    rw [St.get_put, if_pos rfl] at hu
    simp only [Option.some.injEq, AV.grd.injEq] at hu
    obtain ⟨rfl, rfl, _⟩ := hu
    exact ⟨j, hg, hj⟩
end
end Go.Ab
