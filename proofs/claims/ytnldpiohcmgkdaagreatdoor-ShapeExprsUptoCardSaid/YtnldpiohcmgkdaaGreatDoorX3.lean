/- A region whose order is drawn: the order does not count. A region whose order is drawn, sound. The head of a loop. Code, sound. The evaluator, sound: what E answers is what the model's call comes to. Contracts: a function's run with its calls and loops known beforehand. From the evaluator to a row of the kit: a call of which E says the answer. Loops that look at one place after another and stop at the first that says so. -/
import Derived.Test.YtnldpiohcmgkdaaGreatDoorX2
import Derived.Scope
namespace Go.Ab
open Go Go.RowKit
variable {P : Program} {B : Base} {c : Cx} {s : St} {a : Act}
theorem disjK_spec {l m : List Nat} (h : disjK l m = true) {k : Nat} (h1 : k ∈ l) (h2 : k ∈ m) : False := by
  have := List.all_eq_true.1 h k h1
  rw [any_beq.2 h2] at this; simp at this
theorem loud_call {op : Op} (h : isLoud op = true) : isCallV op = false := by
  cases op with
  | call q =>
    obtain ⟨callee, args, ts⟩ := q
    cases callee with
    | value f => simp [isLoud] at h
    | _ => rfl
  | _ => rfl
theorem obj_after (s : St) (d : Option Nat) (v : AV) (objs : List (Nat × AO)) (k : Nat) : (s.after d v objs).obj k = alook objs k := by simp only [St.obj, objs_after]
theorem Agree.refl (s : St) (l : List Nat) : Agree s s l := fun _ _ => rfl
theorem SameK.refl (s : St) (l : List Nat) : SameK s s l := fun _ _ => rfl
theorem One.obj {X : Cfg} {ops : Array Oper} {i : Nat} {o : Oper} {s s' : St} (h : One X ops o s s') (ha : (fpOf X s ops i o).all = false) {k : Nat} (hw : k ∉ (fpOf X s ops i o).wr) : s'.obj k = s.obj k := by
  cases h with
  | plain v objs' hg he =>
    rw [obj_after]
    simp only [fpOf, hg, Bool.and_eq_false_iff, Bool.not_eq_false'] at ha hw
    cases hl : isLoud o.op with
    | true =>
      rw [hl, cond_true] at hw
      obtain ⟨q, ob, h1, h2, _⟩ := effA_loud hl (Agree.refl s _) (SameK.refl s _) he
      rw [h2, alook_aput, if_neg]
      · rfl
      · rintro rfl; exact hw h1
    | false =>
      by_cases hc : isCallV o.op = true
      · have hfar : isNil (objKeys s.objs (opKeys ⟨s, X.G, []⟩ o.op.operands.toList)) = true := ha.resolve_left (by simp [hc])
        rw [hl, hc, hfar] at hw
        simp only [cond_false, Bool.and_self, cond_true] at hw
        obtain ⟨O1', _, _, _, g4⟩ := effA_local hc (Agree.refl s _) (isNil_eq hfar) (fun _ _ => rfl) he
        rw [g4 k hw]; rfl
      · rw [effA_pure hl (by simpa using hc)] at he
        obtain ⟨r, _, he⟩ := opt_map he
        simp only [Prod.mk.injEq] at he
        rw [← he.2.2]; rfl
  | guarded j t d w v _ _ _ _ _ => simp
theorem effG_keys {X : Cfg} {s : St} {o : Oper} {t : Nat} {w b : Bool} {v : AV} (hc : isCallV o.op = true) (he : effG X s o t w = some (b, v)) : v.keys = [] := by
  cases hop : o.op with
  | call q =>
    obtain ⟨callee, args, ts⟩ := q
    cases callee with
    | value f =>
      simp only [effG, hop] at he
      obtain ⟨q, _, he⟩ := opt_bind he
      obtain ⟨_, he⟩ := guardO_inv he
      obtain ⟨⟨r, os⟩, _, he⟩ := opt_bind he
      cases os with
      | nil =>
        dsimp only at he
        obtain ⟨hb, he⟩ := guardO_inv he
        simp only [Option.some.injEq, Prod.mk.injEq] at he
        obtain ⟨_, rfl⟩ := he
        simp only [Bool.and_eq_true] at hb
        exact isNil_eq hb.1
      | cons _ _ => simp at he
    | builtin b => simp [hop, isCallV] at hc
    | invoke r m => simp [hop, isCallV] at hc
  | _ => simp [hop, isCallV] at hc
theorem One.move {X : Cfg} {ops : Array Oper} {i : Nat} {o : Oper} {s1 s2 s2' : St} (h : One X ops o s2 s2') (ht : Agree s1 s2 (fpOf X s2 ops i o).tmps)
    (ho : ∀ k, k ∈ (fpOf X s2 ops i o).rd ∨ k ∈ (fpOf X s2 ops i o).wr ∨ (fpOf X s2 ops i o).all = true → s1.obj k = s2.obj k) :
    ∃ s1', One X ops o s1 s1' ∧ (∀ d, o.dst = some d → s1'.get d = s2'.get d) ∧ (∀ k, k ∈ (fpOf X s2 ops i o).wr ∨ (fpOf X s2 ops i o).all = true → s1'.obj k = s2'.obj k) ∧
      (∀ k, (fpOf X s2 ops i o).all = false → k ∉ (fpOf X s2 ops i o).wr → s1'.obj k = s1.obj k) := by
  cases h with
  | plain v objs' hg he =>
    have htm : (fpOf X s2 ops i o).tmps = opTmps o.op.operands.toList := by simp only [fpOf, hg]
    have hwr : (fpOf X s2 ops i o).wr = cond (isLoud o.op) (o.dst.toList ++ opKeys ⟨s2, X.G, []⟩ o.op.operands.toList) (cond (isCallV o.op && isNil (objKeys s2.objs (opKeys ⟨s2, X.G, []⟩ o.op.operands.toList))) (opKeys ⟨s2, X.G, []⟩ o.op.operands.toList) []) := by simp only [fpOf, hg]
    have hrd : (fpOf X s2 ops i o).rd = cond (readsObj o.op) (opKeys ⟨s2, X.G, []⟩ o.op.operands.toList) [] := by simp only [fpOf, hg]
    have hall : (fpOf X s2 ops i o).all = (isCallV o.op && !isNil (objKeys s2.objs (opKeys ⟨s2, X.G, []⟩ o.op.operands.toList))) := by simp only [fpOf, hg]
    rw [htm] at ht
    rw [hwr, hrd, hall] at ho
    rw [hwr, hall]
    have hd : ∀ (O1 : List (Nat × AO)) (d : Nat), o.dst = some d → (s1.after o.dst v O1).get d = (s2.after o.dst v objs').get d := fun O1 d hd => by rw [get_after, get_after, if_pos hd, if_pos hd]
    cases hl : isLoud o.op with
    | true =>
      rw [hl] at ho
      simp only [cond_true] at ho ⊢
      obtain ⟨q, ob, h1, h2, h3⟩ := effA_loud hl ht (fun k hk => ho k (.inr (.inl hk))) he
      refine ⟨_, .plain v _ hg h3, hd _, fun k hk => ?_, fun k _ hk => ?_⟩
      · rw [obj_after, obj_after, h2, alook_aput, alook_aput]
        split
        · rfl
        · rcases hk with hk | hk
          · exact ho k (.inr (.inl hk))
          · rw [loud_call hl] at hk; simp at hk
      · rw [obj_after, alook_aput, if_neg]
        · rfl
        · rintro rfl; exact hk h1
    | false =>
      rw [hl] at ho
      simp only [cond_false] at ho ⊢
      cases hc : isCallV o.op with
      | true =>
        cases hn : isNil (objKeys s2.objs (opKeys ⟨s2, X.G, []⟩ o.op.operands.toList)) with
        | true =>
          rw [hc, hn] at ho
          simp only [Bool.and_self, cond_true] at ho ⊢
          obtain ⟨O1, e1, e2, e3, e4⟩ := effA_local hc ht (isNil_eq hn) (fun k hk => ho k (.inr (.inl hk))) he
          refine ⟨_, .plain v _ hg e1, hd _, fun k hk => ?_, fun k _ hk => ?_⟩
          · rw [obj_after, obj_after]
            rcases hk with hk | hk
            · exact e2 k hk
            · simp at hk
          · rw [obj_after]; exact e3 k hk
        | false =>
          obtain ⟨O1, e1, e2⟩ := effA_call_same hc (fun k => ho k (.inr (.inr (by rw [hc, hn]; rfl)))) ht he
          exact ⟨_, .plain v _ hg e1, hd _, fun k _ => by rw [obj_after, obj_after]; exact e2 k, fun k hk => by simp at hk⟩
      | false =>
        have he' := he
        rw [effA_pure hl hc] at he'
        obtain ⟨⟨b', v'⟩, e1, e2⟩ := opt_map he'
        simp only [Prod.mk.injEq] at e2
        obtain ⟨rfl, rfl, rfl⟩ := e2
        have e3 : effA X s1 o = some (true, v', s1.objs) := by
          rw [effA_pure hl hc, pureA_congr X.P ht (fun k hk => ho k (.inl hk)), e1]; rfl
        exact ⟨_, .plain v' _ hg e3, hd _, fun k hk => by simp at hk, fun k _ _ => by rw [obj_after]; rfl⟩
  | guarded j t d w v hg hj hd hdt he =>
    have htm : (fpOf X s2 ops i o).tmps = (chainOf s2 4 t w).map (·.1) ++ opTmps o.op.operands.toList := by simp only [fpOf, hg, hj]
    have hwr : (fpOf X s2 ops i o).wr = [] := by simp only [fpOf, hg, hj]
    have hall : (fpOf X s2 ops i o).all = false := by simp only [fpOf, hg, hj]
    have hrd : (fpOf X s2 ops i o).rd = cond (readsObj o.op) (opKeys ⟨s2, X.G, chainOf s2 4 t w⟩ o.op.operands.toList) [] ++ v.keys := by
      simp only [fpOf, hg, hj, he]
      cases hc : isCallV o.op with
      | false => rfl
      | true => rw [effG_keys hc he]; rfl
    rw [htm] at ht
    have he1 : effG X s1 o t w = some (true, v) := effG_congr he ht fun k hk => ho k (.inl (by rw [hrd]; exact hk))
    refine ⟨_, .guarded j t d w v hg hj hd hdt he1, fun d' hd' => ?_, fun k hk => by rw [hwr, hall] at hk; simp at hk, fun k _ _ => by simp⟩
    rw [hd] at hd'; cases hd'
    rw [St.get_put, St.get_put, if_pos rfl, if_pos rfl]
structure Plan (X : Cfg) (ops : Array Oper) (st : Nat → St) : Prop where
  T : Trace X ops st
  plain : NoGrd (st 0)
  uniq : ∀ (i j : Nat) (o q : Oper) (d : Nat), ops[i]? = some o → ops[j]? = some q → o.dst = some d → q.dst = some d → i = j
  edge : ∀ (i : Nat) (o : Oper), ops[i]? = some o → ∀ e ∈ o.after, Region.binds .any e = true → e.on < i
  pair : ∀ (i j : Nat) (o q : Oper), i < j → ops[i]? = some o → ops[j]? = some q → ((befores ops.toList []).getD j 0).testBit i = true ∨ apartF (fpOf X (st i) ops i o) (fpOf X (st j) ops j q) = true
section
variable {X : Cfg} {ops : Array Oper} {st : Nat → St}
theorem get_op {ops : Array Oper} {i : Nat} (h : i < ops.size) : ∃ o, ops[i]? = some o := ⟨ops[i], Array.getElem?_eq_getElem h⟩
theorem Plan.get0 (p : Plan X ops st) : ∀ (i t : Nat), i ≤ ops.size → (∀ j o, j < i → ops[j]? = some o → o.dst ≠ some t) → (st i).get t = (st 0).get t
  | 0, _, _, _ => rfl
  | i + 1, t, hi, h => by
    obtain ⟨o, ho⟩ := get_op (show i < ops.size by omega)
    rw [(p.T.step i o ho).other (h i o (by omega) ho)]
    exact p.get0 i t (by omega) fun j o hj => h j o (by omega)
theorem Plan.get1 (p : Plan X ops st) {j t : Nat} {o : Oper} (hj : ops[j]? = some o) (ht : o.dst = some t) : ∀ (k : Nat), j + 1 + k ≤ ops.size → (st (j + 1 + k)).get t = (st (j + 1)).get t
  | 0, _ => rfl
  | k + 1, hk => by
    obtain ⟨q, hq⟩ := get_op (show j + 1 + k < ops.size by omega)
    rw [← Nat.add_assoc, (p.T.step _ q hq).other fun e => ?_]
    · exact p.get1 hj ht k (by omega)
    · have := p.uniq j _ o q t hj hq ht e; omega
theorem Plan.getF (p : Plan X ops st) {i j t : Nat} {o : Oper} (hj : ops[j]? = some o) (ht : o.dst = some t) (hij : j < i) (hi : i ≤ ops.size) : (st i).get t = (st ops.size).get t := by
  have h1 := p.get1 hj ht (i - (j + 1)) (by omega)
  have h2 := p.get1 hj ht (ops.size - (j + 1)) (by omega)
  rw [show j + 1 + (i - (j + 1)) = i by omega] at h1
  rw [show j + 1 + (ops.size - (j + 1)) = ops.size by omega] at h2
  rw [h1, h2]
def Turns (X : Cfg) (ops : Array Oper) (st : Nat → St) (j : Nat) (o : Oper) (k : Nat) : Prop := k ∈ (fpOf X (st j) ops j o).wr ∨ (fpOf X (st j) ops j o).all = true
theorem Plan.objs (p : Plan X ops st) {i q : Nat} : ∀ (k : Nat), i + k ≤ ops.size → (∀ j o, i ≤ j → j < i + k → ops[j]? = some o → ¬ Turns X ops st j o q) → (st (i + k)).obj q = (st i).obj q
  | 0, _, _ => rfl
  | k + 1, hk, h => by
    obtain ⟨o, ho⟩ := get_op (show i + k < ops.size by omega)
    have hn := h _ o (by omega) (by omega) ho
    rw [← Nat.add_assoc, (p.T.step _ o ho).obj (i := i + k) (by simpa using fun e => hn (.inr e)) (fun e => hn (.inl e))]
    exact p.objs k (by omega) fun j o h1 h2 => h j o h1 (by omega)
structure Inv (X : Cfg) (ops : Array Oper) (st : Nat → St) (S : Nat → Prop) (s : St) : Prop where
  done : ∀ (t j : Nat) (o : Oper), S j → ops[j]? = some o → o.dst = some t → s.get t = (st ops.size).get t
  rest : ∀ t, (∀ (j : Nat) (o : Oper), S j → ops[j]? = some o → o.dst ≠ some t) → s.get t = (st 0).get t
  objs : ∀ k, ∃ m, m ≤ ops.size ∧ s.obj k = (st m).obj k ∧ ∀ (j : Nat) (o : Oper), ops[j]? = some o → Turns X ops st j o k → (S j ↔ j < m)
  down : ∀ (j : Nat) (o : Oper), S j → ops[j]? = some o → ∀ e ∈ o.after, Region.binds .any e = true → S e.on
  grd : ∀ (t tc : Nat) (w : Bool) (v : AV), s.get t = some (.grd tc w v) → ∃ (j : Nat) (o : Oper) (g : Nat), S j ∧ ops[j]? = some o ∧ o.dst = some t ∧ o.guard = some (g, w) ∧ (ops[g]?).bind (·.dst) = some tc
theorem Plan.bit (_ : Plan X ops st) {S : Nat → Prop} (hS : ∀ (j : Nat) (o : Oper), S j → ops[j]? = some o → ∀ e ∈ o.after, Region.binds .any e = true → S e.on) {i j : Nat} {o : Oper} (ho : ops[j]? = some o)
    (hr : ∀ e ∈ o.after, Region.binds .any e = true → S e.on) (h : ((befores ops.toList []).getD j 0).testBit i = true) : S i :=
  befores_spec hS ops.toList [] (fun j => by simp) (fun j o hj => by simp at hj) j o ho hr i h
theorem Plan.next (p : Plan X ops st) (hX : CallsOk X) (hG : X.G = B.G) (hN : ∀ o ∈ ops.toList, ∀ d, o.dst = some d → d < B.N) {S : Nat → Prop} (hI : Inv X ops st S s) (h : Rel B c s a) {i : Nat} {o : Oper} (ho : ops[i]? = some o) (hni : ¬ S i)
    (hr : ∀ e ∈ o.after, Region.binds .any e = true → S e.on) : ∃ s', Inv X ops st (fun j => j = i ∨ S j) s' ∧ IStep X.P ops B c a i s' := by
  have hin : i < ops.size := (Array.getElem?_eq_some_iff.1 ho).1
  have hbefore : ∀ j q, j < i → ops[j]? = some q → S j ∨ apartF (fpOf X (st j) ops j q) (fpOf X (st i) ops i o) = true := fun j q hj hq =>
    (p.pair j i q o hj hq ho).imp (fun hb => p.bit hI.down ho hr hb) id
  have hafter : ∀ j q, i < j → ops[j]? = some q → S j → apartF (fpOf X (st i) ops i o) (fpOf X (st j) ops j q) = true := fun j q hj hq hSj =>
    (p.pair i j o q hj ho hq).resolve_left fun hb => hni (p.bit hI.down hq (hI.down j q hSj hq) hb)
  have hdstF : ∀ (k : Nat) (q : Oper) (st' : St) (t : Nat), ops[k]? = some q → q.dst = some t → t ∈ (fpOf X st' ops k q).dst ∨ (∃ j w, q.guard = some (j, w) ∧ (ops[j]?).bind (·.dst) = none) := by
    intro k q st' t hq ht
    cases hg : q.guard with
    | none => left; simp [fpOf, hg, ht]
    | some jw =>
      obtain ⟨j, w⟩ := jw
      cases hj : (ops[j]?).bind (·.dst) with
      | none => right; exact ⟨j, w, rfl, hj⟩
      | some t' => left; simp [fpOf, hg, hj, ht]
  have hdst : ∀ (k : Nat) (q : Oper) (t : Nat), ops[k]? = some q → q.dst = some t → t ∈ (fpOf X (st k) ops k q).dst := by
    intro k q t hq ht
    rcases hdstF k q (st k) t hq ht with h1 | ⟨j, w, h1, h2⟩
    · exact h1
    · have hs := p.T.step k q hq
      generalize st (k + 1) = s' at hs
      cases hs with
      | plain v objs' hg _ => rw [hg] at h1; cases h1
      | guarded j' t' d w' v hg hj _ _ _ => rw [hg] at h1; cases h1; rw [hj] at h2; cases h2
  have hagree : Agree s (st i) (fpOf X (st i) ops i o).tmps := by
    intro t ht
    by_cases hex : ∃ (j : Nat) (q : Oper), ops[j]? = some q ∧ q.dst = some t
    · obtain ⟨j, q, hj, hq⟩ := hex
      have hjn : j < ops.size := (Array.getElem?_eq_some_iff.1 hj).1
      have hone : ∀ k q', S k → ops[k]? = some q' → q'.dst = some t → S j := fun k q' hk hk' hq' => by rw [p.uniq j k q q' t hj hk' hq hq']; exact hk
      rcases Nat.lt_trichotomy j i with hlt | rfl | hlt
      · rcases hbefore j q hlt hj with hS | hap
        · rw [hI.done t j q hS hj hq, p.getF hj hq hlt (by omega)]
        · simp only [apartF, Bool.and_eq_true] at hap
          exact (disjK_spec hap.1 (hdst j q t hj hq) ht).elim
      · rw [hI.rest t fun k q' hk hk' hq' => hni (hone k q' hk hk' hq'), p.get0 j t (by omega) fun k q' hk hk' hq' => by
          have := p.uniq j k q q' t hj hk' hq hq'; omega]
      · by_cases hS : S j
        · have hap := hafter j q hlt hj hS
          simp only [apartF, Bool.and_eq_true] at hap
          exact (disjK_spec hap.2.1 (hdst j q t hj hq) ht).elim
        · rw [hI.rest t fun k q' hk hk' hq' => hS (hone k q' hk hk' hq'), p.get0 i t (by omega) fun k q' hk hk' hq' => by
            have := p.uniq j k q q' t hj hk' hq hq'; omega]
    · have hno : ∀ (k : Nat) (q : Oper), ops[k]? = some q → q.dst ≠ some t := fun k q hk hq => hex ⟨k, q, hk, hq⟩
      rw [hI.rest t fun k q _ hk => hno k q hk, p.get0 i t (by omega) fun k q _ hk => hno k q hk]
  have htouch : ∀ k, k ∈ (fpOf X (st i) ops i o).rd ∨ k ∈ (fpOf X (st i) ops i o).wr ∨ (fpOf X (st i) ops i o).all = true → (fpOf X (st i) ops i o).touches = true := by
    intro k hk
    simp only [Fp.touches, Bool.or_eq_true, Bool.not_eq_true']
    rcases hk with hk | hk | hk
    · right; left; cases hr : (fpOf X (st i) ops i o).rd with
      | nil => rw [hr] at hk; simp at hk
      | cons _ _ => rfl
    · right; right; cases hr : (fpOf X (st i) ops i o).wr with
      | nil => rw [hr] at hk; simp at hk
      | cons _ _ => rfl
    · exact .inl hk
  have htouch' : ∀ j q k, Turns X ops st j q k → (fpOf X (st j) ops j q).touches = true := by
    intro j q k hk
    simp only [Fp.touches, Bool.or_eq_true, Bool.not_eq_true']
    rcases hk with hk | hk
    · right; right; cases hr : (fpOf X (st j) ops j q).wr with
      | nil => rw [hr] at hk; simp at hk
      | cons _ _ => rfl
    · exact .inl hk
  have hbw : ∀ k, k ∈ (fpOf X (st i) ops i o).rd ∨ k ∈ (fpOf X (st i) ops i o).wr ∨ (fpOf X (st i) ops i o).all = true → (∀ j q, j < i → ops[j]? = some q → Turns X ops st j q k → S j) ∧ ∀ j q, i < j → ops[j]? = some q → Turns X ops st j q k → ¬ S j := by
    intro k hb
    refine ⟨fun j q hj hq hw => (hbefore j q hj hq).resolve_right fun hap => ?_, fun j q hj hq hw hS => ?_⟩
    · simp only [apartF, Bool.and_eq_true, Bool.not_eq_true', Bool.and_eq_false_iff] at hap
      obtain ⟨_, _, h3, h4, h5, h6, h7⟩ := hap
      rcases hb with hb | hb | hb
      · rcases hw with hw | hw
        · exact disjK_spec h6 hw hb
        · rcases h3 with h3 | h3
          · rw [hw] at h3; cases h3
          · rw [htouch k (.inl hb)] at h3; cases h3
      · rcases hw with hw | hw
        · exact disjK_spec h5 hw hb
        · rcases h3 with h3 | h3
          · rw [hw] at h3; cases h3
          · rw [htouch k (.inr (.inl hb))] at h3; cases h3
      · rcases h4 with h4 | h4
        · rw [hb] at h4; cases h4
        · rw [htouch' j q k hw] at h4; cases h4
    · have hap := hafter j q hj hq hS
      simp only [apartF, Bool.and_eq_true, Bool.not_eq_true', Bool.and_eq_false_iff] at hap
      obtain ⟨_, _, h3, h4, h5, h6, h7⟩ := hap
      rcases hb with hb | hb | hb
      · rcases hw with hw | hw
        · exact disjK_spec h7 hw hb
        · rcases h4 with h4 | h4
          · rw [hw] at h4; cases h4
          · rw [htouch k (.inl hb)] at h4; cases h4
      · rcases hw with hw | hw
        · exact disjK_spec h5 hb hw
        · rcases h4 with h4 | h4
          · rw [hw] at h4; cases h4
          · rw [htouch k (.inr (.inl hb))] at h4; cases h4
      · rcases h3 with h3 | h3
        · rw [hb] at h3; cases h3
        · rw [htouch' j q k hw] at h3; cases h3
  have hob : ∀ k, k ∈ (fpOf X (st i) ops i o).rd ∨ k ∈ (fpOf X (st i) ops i o).wr ∨ (fpOf X (st i) ops i o).all = true → s.obj k = (st i).obj k := by
    intro k hb
    obtain ⟨h1, h2⟩ := hbw k hb
    obtain ⟨m, hm, hobs, hwr⟩ := hI.objs k
    rw [hobs]
    rcases Nat.le_total m i with hle | hle
    · have := p.objs (i := m) (q := k) (i - m) (by omega) fun j q hj1 hj2 hq hw => by
        have := (hwr j q hq hw).1 (h1 j q (by omega) hq hw); omega
      rw [show m + (i - m) = i by omega] at this; exact this.symm
    · have := p.objs (i := i) (q := k) (m - i) (by omega) fun j q hj1 hj2 hq hw => by
        have hS := (hwr j q hq hw).2 (by omega)
        by_cases e : j = i
        · subst e; exact hni hS
        · exact h2 j q (by omega) hq hw hS
      rw [show i + (m - i) = m by omega] at this; exact this
  obtain ⟨s', hone, hget, hw1, hw0⟩ := (p.T.step i o ho).move (i := i) hagree hob
  have hfree : ∀ d, o.dst = some d → d < B.N ∧ FreeOf s d := by
    intro d hd
    refine ⟨hN o (by simpa using Array.mem_of_getElem? ho) d hd, fun t tc w v hg e => ?_⟩
    subst e
    obtain ⟨j, q, g, hS, hj, hq, hqg, hqt⟩ := hI.grd t tc w v hg
    have htm : tc ∈ (fpOf X (st j) ops j q).tmps := by
      simp only [fpOf, hqg, hqt, List.mem_append]
      left; simp [chainOf]
    rcases Nat.lt_trichotomy j i with hlt | rfl | hlt
    · exact p.T.later j q g tc w hj hqg hqt i o hlt ho hd
    · exact hni hS
    · have hap := hafter j q hlt hj hS
      simp only [apartF, Bool.and_eq_true] at hap
      exact disjK_spec hap.1 (hdst i o tc ho hd) htm
  have hkeep : ∀ t, o.dst ≠ some t → s'.get t = s.get t := fun t ht => hone.other ht
  have hinv : (∀ (t tc : Nat) (w : Bool) (v : AV), o.dst = some t → s'.get t = some (.grd tc w v) → ∃ g, o.guard = some (g, w) ∧ (ops[g]?).bind (·.dst) = some tc) → Inv X ops st (fun j => j = i ∨ S j) s' := by
    intro hgr
    refine ⟨fun t j q hj hq hd => ?_, fun t hno => ?_, ?_, fun j q hj hq e he hb => ?_, fun t tc w v hg => ?_⟩
    · by_cases e : j = i
      · subst e
        rw [ho] at hq; cases hq
        rw [hget t hd]
        exact p.getF ho hd (Nat.lt_succ_self j) (by omega)
      · have hS := hj.resolve_left e
        rw [hkeep t fun hd' => e (p.uniq j i q o t hq ho hd hd')]
        exact hI.done t j q hS hq hd
    · rw [hkeep t (hno i o (.inl rfl) ho)]
      exact hI.rest t fun j q hj => hno j q (.inr hj)
    · intro k
      by_cases hw : Turns X ops st i o k
      · obtain ⟨h1, h2⟩ := hbw k (.inr hw)
        refine ⟨i + 1, by omega, hw1 k hw, fun j q hq hwj => ?_⟩
        rcases Nat.lt_trichotomy j i with hlt | rfl | hlt
        · exact ⟨fun _ => by omega, fun _ => .inr (h1 j q hlt hq hwj)⟩
        · exact ⟨fun _ => by omega, fun _ => .inl rfl⟩
        · exact ⟨fun hj => absurd (hj.resolve_left (by omega)) (h2 j q hlt hq hwj), fun hj => by omega⟩
      · obtain ⟨m, hm, hobs, hwr⟩ := hI.objs k
        refine ⟨m, hm, by rw [hw0 k (by simpa using fun e => hw (.inr e)) (fun e => hw (.inl e)), hobs], fun j q hq hwj => ?_⟩
        have e : j ≠ i := by rintro rfl; rw [ho] at hq; cases hq; exact hw hwj
        exact ⟨fun hj => (hwr j q hq hwj).1 (hj.resolve_left e), fun hj => .inr ((hwr j q hq hwj).2 hj)⟩
    · rcases hj with rfl | hj
      · rw [ho] at hq; cases hq; exact .inr (hr e he hb)
      · exact .inr (hI.down j q hj hq e he hb)
    · by_cases e : o.dst = some t
      · obtain ⟨g, h1, h2⟩ := hgr t tc w v e hg
        exact ⟨i, o, g, .inl rfl, ho, e, h1, h2⟩
      · rw [hkeep t e] at hg
        obtain ⟨j, q, g, h1, h2⟩ := hI.grd t tc w v hg
        exact ⟨j, q, g, .inr h1, h2⟩
  cases hone with
  | plain v objs' hg he =>
    obtain ⟨hstep, hv⟩ := effA_sound hX hG h hfree he
    refine ⟨_, hinv fun t tc w u ht hu => ?_, hstep.istep ho hg⟩
    rw [get_after, if_pos ht] at hu; cases hu; simp [AV.isGrd] at hv
  | guarded j t d w v hg hj hd hdt he =>
    refine ⟨_, hinv fun t' tc w' u ht' hu => ?_, effG_sound hX hG h ho hg hj hd (hfree d hd).1 (hfree d hd).2 hdt he⟩
    rw [hd] at ht'; cases ht'
    rw [St.get_put, if_pos rfl] at hu
    simp only [Option.some.injEq, AV.grd.injEq] at hu
    obtain ⟨rfl, rfl, _⟩ := hu
    exact ⟨j, hg, hj⟩
end
end Go.Ab

namespace Go.Ab
open Go Go.RowKit
variable {B : Base} {c : Cx} {s : St} {a : Act} {X : Cfg} {ops : Array Oper} {st : Nat → St}
theorem Inv.end (p : Plan X ops st) {S : Nat → Prop} (hI : Inv X ops st S s) (hall : ∀ i, i < ops.size → S i) (h : Rel B c s a) : Rel B c (st ops.size) a := by
  have hget : ∀ t, (st ops.size).get t = s.get t := by
    intro t
    by_cases hex : ∃ (j : Nat) (q : Oper), ops[j]? = some q ∧ q.dst = some t
    · obtain ⟨j, q, hj, hq⟩ := hex
      exact (hI.done t j q (hall j (Array.getElem?_eq_some_iff.1 hj).1) hj hq).symm
    · have hno : ∀ (k : Nat) (q : Oper), ops[k]? = some q → q.dst ≠ some t := fun k q hk hq => hex ⟨k, q, hk, hq⟩
      rw [hI.rest t fun k q _ hk => hno k q hk, p.get0 _ t (Nat.le_refl _) fun k q _ hk => hno k q hk]
  have hobj : ∀ k, (st ops.size).obj k = s.obj k := by
    intro k
    obtain ⟨m, hm, hobs, hwr⟩ := hI.objs k
    rw [hobs]
    have := p.objs (i := m) (q := k) (ops.size - m) (by omega) fun j q hj1 hj2 hq hw => by
      have := (hwr j q hq hw).1 (hall j (Array.getElem?_eq_some_iff.1 hq).1); omega
    rw [show m + (ops.size - m) = ops.size by omega] at this; exact this
  have hlive : ∀ k, live s.objs k → live (st ops.size).objs k := fun k ⟨o, ho⟩ => ⟨o, by have := hobj k; simp only [St.obj] at this; rw [this]; exact ho⟩
  refine h.less (fun k hk => hlive k (h.kept k hk)) (fun t v hv => by rw [← hget t]; exact hv) (fun k o ho => by rw [← hobj k]; exact ho)
    (fun t v hv k hk => hlive k (h.closed t v (by rw [← hget t]; exact hv) k hk)) (fun k o ho q hq => hlive q (h.objs.closed k o (by have := hobj k; rw [ho] at this; exact this.symm) q hq))
theorem getD_of {listed : Array Bool} {i : Nat} (h : i < listed.size) (b b' : Bool) : listed.getD i b = listed.getD i b' := by
  simp [h]
theorem Plan.run (p : Plan X ops st) (hX : CallsOk X) (hG : X.G = B.G) (hN : ∀ o ∈ ops.toList, ∀ d, o.dst = some d → d < B.N) {Q : Exit → Act → World → Prop} (hQ : ∀ c' a', Rel B c' (st ops.size) a' → Q .normal a' c'.w) :
    ∀ (fuel : Nat) (listed : Array Bool) (s : St) (c : Cx) (a : Act), listed.size = ops.size → (∃ U : List Nat, U.length ≤ fuel ∧ ∀ i, i < ops.size → listed.getD i false = false → i ∈ U) →
      Inv X ops st (fun i => listed.getD i false = true) s → Rel B c s a → wpAny X.P .any ops Q fuel listed a c.w := by
  have hdone : ∀ (listed : Array Bool) (s : St) (c : Cx) (a : Act), listed.size = ops.size → Inv X ops st (fun i => listed.getD i false = true) s → Rel B c s a → Region.ready .any ops listed = [] → Q .normal a c.w := by
    intro listed s c a hsz hI h hr
    have hall : ∀ i, i < ops.size → listed.getD i false = true := by
      intro i
      induction i using Nat.strongRecOn with
      | _ i ih =>
        intro hi
        cases hl : listed.getD i false with
        | true => rfl
        | false =>
          obtain ⟨o, ho⟩ := get_op hi
          have : i ∈ Region.ready .any ops listed := mem_ready.2 ⟨by rw [getD_of (by omega) true false]; exact hl, o, ho, fun e he hb => ih e.on (p.edge i o ho e he hb) (by have := p.edge i o ho e he hb; omega)⟩
          rw [hr] at this; simp at this
    exact hQ c a (hI.end p hall h)
  intro fuel
  induction fuel with
  | zero =>
    intro listed s c a hsz hU hI h
    have hr : Region.ready .any ops listed = [] := by
      cases hr : Region.ready .any ops listed with
      | nil => rfl
      | cons i r =>
        have hi : i ∈ Region.ready .any ops listed := by rw [hr]; simp
        obtain ⟨h0, o, ho, _⟩ := mem_ready.1 hi
        have hin := (Array.getElem?_eq_some_iff.1 ho).1
        obtain ⟨U, h1, h2⟩ := hU
        have := h2 i hin (by rw [getD_of (by omega) false true]; exact h0)
        have hUn : U = [] := List.length_eq_zero_iff.1 (by omega)
        rw [hUn] at this; simp at this
    exact ⟨hr, hdone listed s c a hsz hI h hr⟩
  | succ fuel ih =>
    intro listed s c a hsz hU hI h
    refine ⟨hdone listed s c a hsz hI h, fun i hi => ?_⟩
    obtain ⟨h0, o, ho, hall⟩ := mem_ready.1 hi
    have hin := (Array.getElem?_eq_some_iff.1 ho).1
    have h0' : listed.getD i false = false := by rw [getD_of (by omega) false true]; exact h0
    obtain ⟨s', hI', hstep⟩ := p.next (B := B) (c := c) (a := a) hX hG hN hI h ho (by simp [h0']) (fun e he hb => hall e he hb)
    refine hstep Q _ fun a' c' hr => ?_
    have hset : ∀ j, (listed.setIfInBounds i true).getD j false = true ↔ (j = i ∨ listed.getD j false = true) := by
      intro j
      by_cases e : i = j
      · subst e
        have : i < listed.size := by omega
        simp [this]
      · rw [getD_set_ne false e]
        exact ⟨.inr, fun h => h.resolve_left (fun x => e x.symm)⟩
    refine ih _ s' c' a' (by simpa using hsz) ?_ ?_ hr
    · obtain ⟨U, h1, h2⟩ := hU
      have hiU := h2 i hin h0'
      refine ⟨U.erase i, ?_, fun j hj hjn => ?_⟩
      · rw [List.length_erase_of_mem hiU]; omega
      · have hne : j ≠ i := by rintro rfl; rw [(hset j).2 (.inl rfl)] at hjn; cases hjn
        refine (List.mem_erase_of_ne hne).2 (h2 j hj ?_)
        cases hl : listed.getD j false with
        | false => rfl
        | true => rw [(hset j).2 (.inr hl)] at hjn; cases hjn
    · have : (fun j => (listed.setIfInBounds i true).getD j false = true) = fun j => j = i ∨ listed.getD j false = true := by funext j; exact propext (hset j)
      rw [this]; exact hI'
theorem runDrawn_sound (hX : CallsOk X) (hG : X.G = B.G) (hm : X.P.follows .mixedOrders = true) {id : Nat} {k : St → Res} {r : AV × List AO} {Q : Exit → Act → World → Prop} (he : runDrawn X ops s k = some r) (h : Rel B c s a) (hn : NoGrd s)
    (hN : ∀ o ∈ ops.toList, ∀ d, o.dst = some d → d < B.N) (hk : ∀ s' c' a', k s' = some r → Rel B c' s' a' → NoGrd s' → Q .normal a' c'.w) : (Code.region id ops true).wp X.P Q a c.w := by
  apply wp_region_any hm
  unfold runDrawn at he
  obtain ⟨hb, he⟩ := cond_none he
  simp only [Bool.and_eq_true] at hb
  obtain ⟨st, h0, h1, h2, fps, h3, h4, h5⟩ := runOpsD_inv ops.toList 0 [] s (fun j => by simp) he
  obtain ⟨hfp, h3⟩ := cond_none h3
  simp only [List.nil_append, Nat.zero_add] at hfp h3
  have hlen : ops.toList.length = ops.size := by simp
  rw [hlen] at h3
  have p : Plan X ops st := by
    refine ⟨⟨fun i o ho => h1 i o (Nat.zero_le _) ho, fun i o j t w ho hg ht k q hk hq => h2 i o j t w (Nat.zero_le _) ho hg ht k q hk hq⟩, by rw [h0]; exact hn, fun i j o q d hi hj ho hq => (dstsApart_spec hb.1).2 i j o q d (by simpa using hi) (by simpa using hj) ho hq,
      fun i o ho e he hbe => by have := edgesOk_spec hb.2 i o (by simpa using ho) e he hbe; omega, fun i j o q hij hi hj => ?_⟩
    have := fpsOk_spec hfp i j _ _ hij (h5 i o (Nat.zero_le _) hi) (h5 j q (Nat.zero_le _) hj)
    have hfi : ∀ (k : Nat) (x : Oper) (s : St), (fpOf X s ops k x).i = k := by
      intro k x s
      simp only [fpOf]
      split
      · rfl
      · split <;> rfl
    rw [hfi, hfi] at this
    exact this
  have hrel : Rel B c.drew s a := h.keep (Cx.drew_keeps c s.objs) (Cx.drew_grow h.good)
  refine p.run (B := B) hX hG hN (fun c' a' hr => hk _ c' a' h3 hr.purge (NoGrd.purge _)) ops.size _ s c.drew a (by simp) ⟨List.range ops.size, by simp, fun i hi _ => by simpa using hi⟩ ?_ hrel
  have hf : ∀ i, (Array.replicate ops.size false).getD i false = true ↔ False := by
    intro i; simp [Array.getD_eq_getD_getElem?, Array.getElem?_replicate]; split <;> rfl
  refine ⟨fun t j o hj => ((hf j).1 hj).elim, fun t _ => by rw [h0], fun k => ⟨0, Nat.zero_le _, by rw [h0], fun j o _ _ => ⟨fun hj => ((hf j).1 hj).elim, fun hj => by omega⟩⟩, fun j o hj => ((hf j).1 hj).elim, fun t tc w v hg => ?_⟩
  have := hn t _ hg
  simp [AV.isGrd] at this
end Go.Ab

namespace Go.Ab
open Go Go.RowKit
variable {P : Program} {B : Base} {c : Cx} {s : St} {a : Act}
theorem alook_keepEnv {env : List (Nat × AV)} : ∀ {ks : List Nat} {t : Nat} {v : AV}, alook (keepEnv env ks) t = some v → alook env t = some v
  | [], t, v, h => by simp [keepEnv, alook] at h
  | k :: r, t, v, h => by
    simp only [keepEnv] at h
    cases hk : alook env k with
    | none => simp only [hk] at h; exact alook_keepEnv h
    | some u =>
      simp only [hk, alook] at h
      by_cases e : k = t
      · subst e; simp at h; rw [hk, h]
      · rw [beqF e, cond_false] at h; exact alook_keepEnv h
theorem alook_keepObjs {objs : List (Nat × AO)} : ∀ {ks : List Nat} {t : Nat} {v : AO}, alook (keepObjs objs ks) t = some v → alook objs t = some v
  | [], t, v, h => by simp [keepObjs, alook] at h
  | k :: r, t, v, h => by
    simp only [keepObjs] at h
    cases hk : alook objs k with
    | none => simp only [hk] at h; exact alook_keepObjs h
    | some u =>
      simp only [hk, alook] at h
      by_cases e : k = t
      · subst e; simp at h; rw [hk, h]
      · rw [beqF e, cond_false] at h; exact alook_keepObjs h
theorem live_keepObjs {objs : List (Nat × AO)} {k : Nat} (hl : live objs k) : ∀ {ks : List Nat}, k ∈ ks → live (keepObjs objs ks) k
  | [], h => by simp at h
  | q :: r, h => by
    simp only [keepObjs]
    by_cases e : q = k
    · subst e
      obtain ⟨o, ho⟩ := hl
      rw [ho]; exact ⟨o, by simp [alook]⟩
    · have hr := live_keepObjs hl (ks := r) (by rcases List.mem_cons.1 h with rfl | h; exact absurd rfl e; exact h)
      cases hq : alook objs q with
      | none => exact hr
      | some u => obtain ⟨o, ho⟩ := hr; exact ⟨o, by simp [alook, beqF e, ho]⟩
theorem mem_baseK {objs : List (Nat × AO)} {k : Nat} (hl : live objs k) (hb : keyBase ≤ k) : k ∈ baseK objs := by
  induction objs with
  | nil => obtain ⟨o, h⟩ := hl; simp [alook] at h
  | cons p r ih =>
    obtain ⟨q, o⟩ := p
    simp only [baseK]
    by_cases e : q = k
    · subst e; rw [Nat.ble_eq_true_of_le hb]; simp
    · obtain ⟨o', ho'⟩ := hl
      simp only [alook, beqF e, cond_false] at ho'
      have := ih ⟨o', ho'⟩
      cases Nat.ble keyBase q <;> simp [this]
theorem mem_envKeys {env : List (Nat × AV)} {t : Nat} {v : AV} (h : alook env t = some v) : ∀ k ∈ v.keys, k ∈ envKeys env := by
  induction env with
  | nil => simp [alook] at h
  | cons p r ih =>
    obtain ⟨q, u⟩ := p
    intro k hk
    simp only [envKeys, List.mem_append]
    simp only [alook] at h
    by_cases e : q = t
    · subst e; simp at h; subst h; exact .inl hk
    · rw [beqF e, cond_false] at h; exact .inr (ih h k hk)
theorem mem_allObjKeys {objs : List (Nat × AO)} {t : Nat} {v : AO} (h : alook objs t = some v) : ∀ k ∈ v.keys, k ∈ allObjKeys objs := by
  induction objs with
  | nil => simp [alook] at h
  | cons p r ih =>
    obtain ⟨q, u⟩ := p
    intro k hk
    simp only [allObjKeys, List.mem_append]
    simp only [alook] at h
    by_cases e : q = t
    · subst e; simp at h; subst h; exact .inl hk
    · rw [beqF e, cond_false] at h; exact .inr (ih h k hk)
theorem Rel.reslot (h : Rel B c s a) {t : Nat} {v : AV} (hs : Sees B c s v (a.tmps.getD t undef)) (_ : NoGrd s) : Rel B c (s.put (some t) v) a := by
  refine ⟨h.good, h.frame, by rw [St.objs_put]; exact h.objs, fun q u hu => ?_, fun q u hu k hk' => ?_, fun k o b ho => h.mine k o b (by simpa using ho), h.tmps, h.defers, by rw [St.objs_put]; exact h.kept⟩
  · rw [St.get_put] at hu
    by_cases e : t = q
    · subst e; simp at hu; subst hu; exact EnvRep.of_rep hs.plain hs.rep
    · rw [if_neg e] at hu; exact h.env q u hu
  · rw [St.objs_put]
    rw [St.get_put] at hu
    by_cases e : t = q
    · subst e; simp at hu; subst hu; exact hs.live k hk'
    · rw [if_neg e] at hu; exact h.closed q u hu k hk'
theorem NoGrd.put {s : St} (h : NoGrd s) {t : Nat} {v : AV} (hv : v.isGrd = false) : NoGrd (s.put (some t) v) := by
  intro q u hu
  rw [St.get_put] at hu
  by_cases e : t = q
  · subst e; simp at hu; subst hu; exact hv
  · rw [if_neg e] at hu; exact h q u hu
theorem ownAs_plain (key : Nat) (z : List AV) (sz n : Nat) (get : Nat → List AV) : (ownAs key z sz n get).isGrd = false ∧ (ownAs key z sz n get).keys = [key] ∧ (ownAs key z sz n get).one = true := by
  unfold ownAs; cases Nat.beq n 0 <;> exact ⟨rfl, rfl, rfl⟩
theorem promote_sound (h : Rel B c s a) {sz n : Nat} {get : Nat → List AV} {X : Value} (hx : Rep c (.sl .fit sz n get) X) {key : Nat} (hk : s.obj key = none) {z : List AV} (hz : 0 < ownSz z sz n) :
    ∃ c', c'.β = c.β ∧ c'.w = c.w ∧ Rel B c' (s.setObj key (.own (ownSz z sz n) n)) a ∧ Sees B c' (s.setObj key (.own (ownSz z sz n) n)) (ownAs key z sz n get) X := by
  have hown : OwnRep c .fit n X := by cases hx <;> assumption
  by_cases hn : n = 0
  · subst hn
    exact append_zero' (sz := z.length) (get' := fun _ => z) h hz hx ⟨.inl ⟨rfl, hk⟩, hown⟩ (.inl rfl) (fun j hj => by omega)
  · have e1 : ownSz z sz n = sz := by simp [ownSz, beqF hn]
    have e2 : ownAs key z sz n get = .sl (.key key) sz n get := by simp [ownAs, beqF hn]
    rw [e1, e2]
    rw [e1] at hz
    exact append_zero' (sz := sz) (get' := get) h hz hx ⟨.inl ⟨rfl, hk⟩, hown⟩ (.inr rfl) (fun j hj => rfl)
theorem promoteEnv_sound : ∀ {l : List (Nat × Nat × TypeId)} {s s' : St} {c : Cx}, Rel B c s a → NoGrd s → promoteEnv P s l = some s' → ∃ c', c'.w = c.w ∧ Rel B c' s' a ∧ NoGrd s'
  | [], s, s', c, h, hn, he => by simp [promoteEnv] at he; subst he; exact ⟨c, rfl, h, hn⟩
  | (t, key, e) :: r, s, s', c, h, hn, he => by
    simp only [promoteEnv] at he
    split at he
    · rename_i sz n get hg
      split at he
      · rename_i z hk hz
        obtain ⟨hb, he⟩ := guardO_inv he
        have hE : Rep c (.sl .fit sz n get) (a.tmps.getD t undef) := h.env t _ hg
        obtain ⟨c1, e0, e1, e2, e3⟩ := promote_sound h hE hk (ltB hb)
        have hn1 : NoGrd (s.setObj key (.own (ownSz z sz n) n)) := hn
        obtain ⟨c2, f1, f2, f3⟩ := promoteEnv_sound (e2.reslot e3 hn1) (hn1.put (ownAs_plain _ _ _ _ _).1) he
        exact ⟨c2, f1.trans e1, f2, f3⟩
      · simp at he
    · exact promoteEnv_sound h hn he
theorem keysL_set {cs : List AV} {i : Nat} {v : AV} : ∀ k ∈ keysL (cs.set i v), k ∈ v.keys ∨ k ∈ keysL cs := by
  induction cs generalizing i with
  | nil => intro k hk; simp [keysL] at hk
  | cons u r ih =>
    intro k hk
    cases i with
    | zero =>
      simp only [List.set_cons_zero, keysL, List.mem_append] at hk
      simp only [keysL, List.mem_append]
      rcases hk with hk | hk
      · exact .inl hk
      · exact .inr (.inr hk)
    | succ i =>
      simp only [List.set_cons_succ, keysL, List.mem_append] at hk
      simp only [keysL, List.mem_append]
      rcases hk with hk | hk
      · exact .inr (.inl hk)
      · rcases ih k hk with h | h
        · exact .inl h
        · exact .inr (.inr h)
theorem promoteCells_sound : ∀ {l : List (Nat × Nat × Nat × TypeId)} {s s' : St} {c : Cx}, Rel B c s a → NoGrd s → promoteCells P s l = some s' → ∃ c', c'.w = c.w ∧ Rel B c' s' a ∧ NoGrd s'
  | [], s, s', c, h, hn, he => by simp [promoteCells] at he; subst he; exact ⟨c, rfl, h, hn⟩
  | (ob, off, key, e) :: r, s, s', c, h, hn, he => by
    simp only [promoteCells] at he
    split at he
    · rename_i cs hob
      split at he
      · rename_i sz n get hg
        split at he
        · rename_i z hk hz
          obtain ⟨hb, he⟩ := guardO_inv he
          have hne : key ≠ ob := by rintro rfl; rw [hk] at hob; cases hob
          obtain ⟨⟨⟨vs, t, hh, hs, hv⟩, h1⟩, hI, hfr⟩ := h.objs.rep ob _ hob
          obtain ⟨c1, e0, e1, e2, e3⟩ := promote_sound h (hv off _ hg) hk (ltB hb)
          have hob1 : alook (aput s.objs key (.own (ownSz z sz n) n)) ob = some (.cells cs) := by rw [alook_aput, if_neg hne]; exact hob
          obtain ⟨⟨⟨vs1, t1, hh1, hs1, hv1⟩, h11⟩, hI1, hfr1⟩ := e2.objs.rep ob _ hob1
          rw [e0, e1, hh] at hh1
          simp only [Option.some.injEq, Obj.cells.injEq] at hh1
          obtain ⟨rfl, rfl, _⟩ := hh1
          let s1 : St := s.setObj key (.own (ownSz z sz n) n)
          have hoff : off < cs.length := (List.getElem?_eq_some_iff.1 hg).1
          have hget : ∀ (i : Nat) (u : AV), (cs.set off (ownAs key z sz n get))[i]? = some u → (i = off ∧ u = ownAs key z sz n get) ∨ cs[i]? = some u := by
            intro i u hu
            rw [List.getElem?_set] at hu
            by_cases e : off = i
            · subst e; simp [hoff] at hu; exact .inl ⟨rfl, hu.symm⟩
            · rw [if_neg e] at hu; exact .inr hu
          have hrel : Rel B c1 (s1.setObj ob (.cells (cs.set off (ownAs key z sz n get)))) a := by
            refine e2.obj (k := ob) ((Keeps.refl c1 s1.objs).but ob) (Grow.refl e2.good) ⟨⟨⟨vs, t, by rw [e0, e1]; exact hh, by rw [hs, List.length_set], fun i u hu => ?_⟩, fun i u hu => ?_⟩, hI1, hfr1⟩
              (fun q o' b hq hne' hb' e => e2.objs.apart q o' ob _ b hq hob1 hne' hb' e) (fun q hq => ?_) (fun b hb' => e2.mine ob _ b hob1 hb')
            · rcases hget i u hu with ⟨rfl, rfl⟩ | hu
              · exact e3.rep
              · exact hv1 i u hu
            · rcases hget i u hu with ⟨rfl, rfl⟩ | hu
              · exact (ownAs_plain _ _ _ _ _).2.2
              · exact h1 i u hu
            · simp only [AO.keys] at hq
              rcases keysL_set q hq with hq | hq
              · exact .inr (e3.live q hq)
              · exact .inr (e2.objs.closed ob _ hob1 q (by simpa [AO.keys] using hq))
          obtain ⟨c2, f1, f2, f3⟩ := promoteCells_sound hrel hn he
          exact ⟨c2, f1.trans e1, f2, f3⟩
        · simp at he
      · exact promoteCells_sound h hn he
    · exact promoteCells_sound h hn he
theorem atHead_sound (h : Rel B c s a) (hn : NoGrd s) (hK : ∀ k, B.K k → keyBase ≤ k) {hint : Hint} {s' : St} (he : atHead P hint s = some s') : ∃ c', c'.w = c.w ∧ Rel B c' s' a ∧ NoGrd s' := by
  unfold atHead at he
  dsimp only at he
  obtain ⟨hb, he⟩ := cond_none he
  simp only [Bool.and_eq_true] at hb
  obtain ⟨s2, h1, he⟩ := opt_bind he
  have hr : Rel B c { env := keepEnv s.env hint.keep, objs := keepObjs s.objs (hint.objs ++ baseK s.objs) } a := by
    refine h.less (fun k hk => live_keepObjs (h.kept k hk) (List.mem_append_right _ (mem_baseK (h.kept k hk) (hK k hk)))) (fun t v hv => alook_keepEnv hv) (fun k o ho => alook_keepObjs ho)
      (fun t v hv k hk => domK_live (subK_spec hb.1 k (mem_envKeys hv k hk))) (fun k o ho q hq => domK_live (subK_spec hb.2 q (mem_allObjKeys ho q hq)))
  have hn1 : NoGrd { env := keepEnv s.env hint.keep, objs := keepObjs s.objs (hint.objs ++ baseK s.objs) } := fun t v hv => hn t v (alook_keepEnv hv)
  obtain ⟨c1, e1, e2, e3⟩ := promoteEnv_sound hr hn1 h1
  obtain ⟨c2, f1, f2, f3⟩ := promoteCells_sound e2 e3 he
  exact ⟨c2, f1.trans e1, f2, f3⟩
end Go.Ab

namespace Go.Ab
open Go Go.RowKit
variable {B : Base} {c : Cx} {s : St} {a : Act} {X : Cfg}
def Ex.to : Ex → Exit
  | .nor => .normal
  | .exit id => .exit id
  | .ret => .ret
def LoopWp (P : Program) (c : Code) (Q : Exit → Act → World → Prop) (a : Act) (w : World) : Prop :=
  ∀ (b : Go.Frame) (k : List Item) (cs : List Go.Frame), ∃ e a' w', Q e a' w' ∧ Arrives P (lone (b.at a (.code c :: .inLoop c :: k)) cs w) b k cs e a' w'
theorem LoopWp.unroll {P : Program} {c : Code} {Q : Exit → Act → World → Prop} {a : Act} {w : World} (h : c.wp P (Exit.then (LoopWp P c Q) Q) a w) : LoopWp P c Q a w := by
  intro b k cs
  obtain ⟨e, a₁, w₁, hq, harr⟩ := h b (.inLoop c :: k) cs
  cases e with
  | normal =>
    obtain ⟨e₂, a₂, w₂, hq₂, harr₂⟩ := hq b k cs
    exact ⟨e₂, a₂, w₂, hq₂, .of_steps (Steps.trans harr (.one step_inLoop)) harr₂⟩
  | exit id => exact ⟨_, a₁, w₁, hq, .pass (x := .inLoop c) rfl (fun _ _ => .inl (by simp)) harr⟩
  | goto l => exact ⟨_, a₁, w₁, hq, .pass (x := .inLoop c) rfl (fun _ _ => .inl (by simp)) harr⟩
  | ret => exact ⟨_, a₁, w₁, hq, .pass (x := .inLoop c) rfl (fun _ _ => .inl (by simp)) harr⟩
  | panic ch => exact ⟨_, a₁, w₁, hq, .pass (x := .inLoop c) rfl (fun _ _ => .inl (by simp)) harr⟩
  | outgrown => exact ⟨_, a₁, w₁, hq, .pass (x := .inLoop c) rfl (fun _ _ => .inl (by simp)) harr⟩
theorem LoopWp.wp {P : Program} {c : Code} {Q : Exit → Act → World → Prop} {a : Act} {w : World} (h : LoopWp P c Q a w) : (Code.loop c).wp P Q a w := fun b k cs =>
  let ⟨e, a', w', q, r⟩ := h b k cs; ⟨e, a', w', q, .of_steps (.one step_loop) r⟩
def Sound (X : Cfg) (B : Base) (code : Code) (run : St → (Ex → St → Res) → Res) : Prop :=
  ∀ (s : St) (c : Cx) (a : Act) (k : Ex → St → Res) (r : AV × List AO) (Q : Exit → Act → World → Prop), run s k = some r → Rel B c s a → NoGrd s →
    (∀ ex s' c' a', k ex s' = some r → Rel B c' s' a' → NoGrd s' → Q ex.to a' c'.w) → code.wp X.P Q a c.w
theorem loopN_sound {body : Code} {run : St → (Ex → St → Res) → Res} (hb : Sound X B body run) (hK : ∀ k, B.K k → keyBase ≤ k) {h : Hint} : ∀ (n : Nat) (s : St) (c : Cx) (a : Act) (k : Ex → St → Res) (r : AV × List AO) (Q : Exit → Act → World → Prop),
    loopN X.P run h n s k = some r → Rel B c s a → NoGrd s → (∀ ex s' c' a', k ex s' = some r → Rel B c' s' a' → NoGrd s' → Q ex.to a' c'.w) → LoopWp X.P body Q a c.w
  | 0, s, c, a, k, r, Q, he, _, _, _ => by simp [loopN] at he
  | n + 1, s, c, a, k, r, Q, he, hr, hn, hk => by
    simp only [loopN] at he
    obtain ⟨s1, h1, he⟩ := opt_bind he
    obtain ⟨c1, e1, e2, e3⟩ := atHead_sound hr hn hK h1
    apply LoopWp.unroll
    rw [← e1]
    refine hb s1 c1 a _ r _ he e2 e3 fun ex s' c' a' hex hr' hn' => ?_
    cases ex with
    | nor => exact loopN_sound hb hK n s' c' a' k r Q hex hr' hn' hk
    | exit id => exact hk _ s' c' a' hex hr' hn'
    | ret => exact hk _ s' c' a' hex hr' hn'
theorem subC_append : ∀ (c : Code) (p : List Nat) (i : Nat), subC c (p ++ [i]) = subC (subC c p) [i]
  | c, [], i => by simp [subC]
  | .seq a b, 0 :: r, i => by simp only [List.cons_append, subC]; exact subC_append a r i
  | .seq a b, (j + 1) :: r, i => by simp only [List.cons_append, subC]; exact subC_append b r i
  | .cond q a b, 0 :: r, i => by simp only [List.cons_append, subC]; exact subC_append a r i
  | .cond q a b, (j + 1) :: r, i => by simp only [List.cons_append, subC]; exact subC_append b r i
  | .block id b, j :: r, i => by simp only [List.cons_append, subC]; exact subC_append b r i
  | .loop b, j :: r, i => by simp only [List.cons_append, subC]; exact subC_append b r i
  | .scope b, j :: r, i => by simp only [List.cons_append, subC]; exact subC_append b r i
  | .skip, _ :: _, i | .region .., _ :: _, i | .exit _, _ :: _, i | .ret, _ :: _, i | .goto _, _ :: _, i | .label _, _ :: _, i | .rangeFunc .., _ :: _, i | .refuse _, _ :: _, i => by simp [subC]
theorem trimS_sound {P : Program} (h : Rel B c s a) (hn : NoGrd s) (hK : ∀ k, B.K k → keyBase ≤ k) {hint : Option Hint} {s' : St} (he : trimS P hint s = some s') : ∃ c', c'.w = c.w ∧ Rel B c' s' a ∧ NoGrd s' := by
  cases hint with
  | none =>
    simp only [trimS, Option.some.injEq] at he
    subst he
    exact ⟨c, rfl, h, hn⟩
  | some _ => exact atHead_sound h hn hK he
def loopR (X : Cfg) (f : FuncId) (n m : Nat) (c : Code) (p : List Nat) (s : St) (k : Ex → St → Res) : Res :=
  match c with
  | .loop b => runC X f n b (p ++ [0]) s fun e s' => match e with
    | .nor => loopN X.P (runC X f n b (p ++ [0])) (X.hint f (tagOf b)) m s' k
    | e => k e s'
  | _ => none
structure OracOk (X : Cfg) (f : FuncId) : Prop where
  cut : ∀ p g, X.cutO f p = some g → ∀ s k r, g s k = some r → ∃ n, runC X f n (subC (bodyOf X.P f) p) p s k = some r
  view : ∀ p g, X.viewO f p = some g → ∀ s k r, g s k = some r → ∃ s', k s' = some r ∧ ∀ (B : Base) (c : Cx) (a : Act), Rel B c s a → NoGrd s → ∃ c', c'.w = c.w ∧ Rel B c' s' a ∧ NoGrd s'
  loop : ∀ p g, X.loopO f p = some g → ∀ s k r, g s k = some r → ∃ n m, loopR X f n m (subC (bodyOf X.P f) p) p s k = some r
theorem runC_sound (hX : CallsOk X) (hG : X.G = B.G) (hm : X.P.follows .mixedOrders = true) (hK : ∀ k, B.K k → keyBase ≤ k) (f : FuncId) (hO : OracOk X f) : ∀ (code : Code) (p : List Nat), subC (bodyOf X.P f) p = code → codeOk B.N code = true → ∀ n, Sound X B code (runC X f n code p)
  | .skip, _, _, _, n => fun s c a k r Q he hr hn hk => wp_skip (hk .nor s c a he hr hn)
  | .region id ops draw, p, _, hN, n => fun s c a k r Q he hr hn hk => by
    have hN' : ∀ o ∈ ops.toList, ∀ d, o.dst = some d → d < B.N := by
      intro o ho d hd
      simp only [codeOk] at hN
      have := List.all_eq_true.1 hN o ho
      simp only [hd] at this
      exact ltB this
    simp only [runC] at he
    cases draw with
    | true => exact runDrawn_sound hX hG hm he hr hn hN' fun s' c' a' e1 e2 e3 => hk .nor s' c' a' e1 e2 e3
    | false => exact runRegion_sound hX hG he hr hn hN' fun s' c' a' e1 e2 e3 => hk .nor s' c' a' e1 e2 e3
  | .seq x y, p, hp, hN, n => fun s c a k r Q he hr hn hk => by
    simp only [codeOk, Bool.and_eq_true] at hN
    simp only [runC] at he
    have hp1 : subC (bodyOf X.P f) (p ++ [0]) = x := by rw [subC_append, hp]; simp [subC]
    have hp2 : subC (bodyOf X.P f) (p ++ [1]) = y := by rw [subC_append, hp]; simp [subC]
    apply wp_seq
    refine runC_sound hX hG hm hK f hO x _ hp1 hN.1 n s c a _ r _ he hr hn fun ex s' c' a' hex hr' hn' => ?_
    cases ex with
    | nor =>
      obtain ⟨s1, h1, hex⟩ := opt_bind hex
      obtain ⟨c0, e01, e02, e03⟩ := trimS_sound hr' hn' hK h1
      have hv : ∃ s2 c2, (match X.cutO f (p ++ [1]) with | none => runC X f n y (p ++ [1]) s2 k | some g => g s2 k) = some r ∧ c2.w = c0.w ∧ Rel B c2 s2 a' ∧ NoGrd s2 := by
        cases hv : X.viewO f (p ++ [1]) with
        | none => simp only [viewS, hv] at hex; exact ⟨s1, c0, hex, rfl, e02, e03⟩
        | some g =>
          simp only [viewS, hv] at hex
          obtain ⟨s2, g1, g2⟩ := hO.view _ g hv _ _ _ hex
          obtain ⟨c2, g3, g4, g5⟩ := g2 B c0 a' e02 e03
          exact ⟨s2, c2, g1, g3, g4, g5⟩
      clear hex
      obtain ⟨s1, c1, hex, e1, e2, e3⟩ := hv
      rw [← e01, ← e1]
      cases hc : X.cutO f (p ++ [1]) with
      | none =>
        simp only [hc] at hex
        exact runC_sound hX hG hm hK f hO y _ hp2 hN.2 n s1 c1 a' k r Q hex e2 e3 hk
      | some g =>
        simp only [hc] at hex
        obtain ⟨n', hn'⟩ := hO.cut _ g hc s1 k r hex
        rw [hp2] at hn'
        exact runC_sound hX hG hm hK f hO y _ hp2 hN.2 n' s1 c1 a' k r Q hn' e2 e3 hk
    | exit id => exact hk _ s' c' a' hex hr' hn'
    | ret => exact hk _ s' c' a' hex hr' hn'
  | .cond q x y, p, hp, hN, n => fun s c a k r Q he hr hn hk => by
    simp only [codeOk, Bool.and_eq_true] at hN
    simp only [runC] at he
    have hp1 : subC (bodyOf X.P f) (p ++ [0]) = x := by rw [subC_append, hp]; simp [subC]
    have hp2 : subC (bodyOf X.P f) (p ++ [1]) = y := by rw [subC_append, hp]; simp [subC]
    split at he
    · rename_i t ht
      rw [hG] at ht
      have hs := (evalO_sound hr (ch := []) (fun t w hm => by simp at hm) ht).rep
      have hq : a.eval q = .bool t := by generalize a.eval q = V at hs; cases hs; rfl
      cases t with
      | true => exact wp_cond hq (runC_sound hX hG hm hK f hO x _ hp1 hN.1 n s c a k r Q he hr hn hk)
      | false => exact wp_cond hq (runC_sound hX hG hm hK f hO y _ hp2 hN.2 n s c a k r Q he hr hn hk)
    · simp at he
  | .block id b, p, hp, hN, n => fun s c a k r Q he hr hn hk => by
    simp only [codeOk] at hN
    simp only [runC] at he
    have hp1 : subC (bodyOf X.P f) (p ++ [0]) = b := by rw [subC_append, hp]; simp [subC]
    apply wp_block
    refine runC_sound hX hG hm hK f hO b _ hp1 hN n s c a _ r _ he hr hn fun ex s' c' a' hex hr' hn' => ?_
    cases ex with
    | nor => exact hk _ s' c' a' hex hr' hn'
    | exit id' =>
      simp only [Ex.to, Exit.inBlock]
      by_cases e : id' = id
      · subst e
        simp only [Nat.beq_refl, cond_true] at hex
        rw [if_pos rfl]; exact hk .nor s' c' a' hex hr' hn'
      · simp only [beqF e, cond_false] at hex
        rw [if_neg e]; exact hk (.exit id') s' c' a' hex hr' hn'
    | ret => exact hk _ s' c' a' hex hr' hn'
  | .loop b, p, hp, hN, n => fun s c a k r Q he hr hn hk => by
    simp only [codeOk] at hN
    simp only [runC] at he
    have hp1 : subC (bodyOf X.P f) (p ++ [0]) = b := by rw [subC_append, hp]; simp [subC]
    have hb := runC_sound hX hG hm hK f hO b _ hp1 hN
    cases hc : X.loopO f p with
    | none =>
      simp only [hc] at he
      exact (loopN_sound (hb n) hK n s c a k r Q he hr hn hk).wp
    | some g =>
      simp only [hc] at he
      obtain ⟨s1, h1, he⟩ := opt_bind he
      obtain ⟨n', m, he⟩ := hO.loop _ g hc s1 k r he
      rw [hp] at he
      simp only [loopR] at he
      obtain ⟨c1, e1, e2, e3⟩ := atHead_sound hr hn hK h1
      refine LoopWp.wp (LoopWp.unroll ?_)
      rw [← e1]
      refine hb n' s1 c1 a _ r _ he e2 e3 fun ex s' c' a' hex hr' hn' => ?_
      cases ex with
      | nor => exact loopN_sound (hb n') hK m s' c' a' k r Q hex hr' hn' hk
      | exit id => exact hk _ s' c' a' hex hr' hn'
      | ret => exact hk _ s' c' a' hex hr' hn'
  | .exit id, _, _, _, n => fun s c a k r Q he hr hn hk => by
    simp only [runC] at he
    obtain ⟨s1, h1, he⟩ := opt_bind he
    obtain ⟨c1, e1, e2, e3⟩ := trimS_sound hr hn hK h1
    rw [← e1]
    exact wp_exit (hk (.exit id) s1 c1 a he e2 e3)
  | .ret, _, _, _, n => fun s c a k r Q he hr hn hk => by
    simp only [runC] at he
    obtain ⟨s1, h1, he⟩ := opt_bind he
    obtain ⟨c1, e1, e2, e3⟩ := trimS_sound hr hn hK h1
    rw [← e1]
    exact wp_ret (hk .ret s1 c1 a he e2 e3)
  | .goto _, _, _, _, n => fun s c a k r Q he hr hn hk => by simp [runC] at he
  | .label _, _, _, _, n => fun s c a k r Q he hr hn hk => by
    simp only [runC] at he
    exact wp_label (hk .nor s c a he hr hn)
  | .scope b, p, hp, hN, n => fun s c a k r Q he hr hn hk => by
    simp only [codeOk] at hN
    simp only [runC] at he
    have hp1 : subC (bodyOf X.P f) (p ++ [0]) = b := by rw [subC_append, hp]; simp [subC]
    refine wp_scope_straight (runC_sound hX hG hm hK f hO b _ hp1 hN n s c a k r _ he hr hn fun ex s' c' a' hex hr' hn' => ?_)
    cases ex with
    | nor => exact hk .nor s' c' a' hex hr' hn'
    | exit id => exact hk (.exit id) s' c' a' hex hr' hn'
    | ret => exact hk .ret s' c' a' hex hr' hn'
  | .rangeFunc .., _, _, _, n => fun s c a k r Q he hr hn hk => by simp [runC] at he
  | .refuse _, _, _, _, n => fun s c a k r Q he hr hn hk => by simp [runC] at he
end Go.Ab

namespace Go.Ab
open Go Go.RowKit
theorem alook_enterEnv : ∀ (l : List AV) (b k : Nat), alook (enterEnv l b) k = if b ≤ k then l[k - b]? else none
  | [], b, k => by simp [enterEnv, alook]
  | o :: r, b, k => by
    simp only [enterEnv, alook]
    by_cases h : b = k
    · subst h; simp
    · rw [beqF h, cond_false, alook_enterEnv r (b + 1) k]
      by_cases h1 : b + 1 ≤ k
      · rw [if_pos h1, if_pos (by omega)]
        have : k - b = (k - (b + 1)) + 1 := by omega
        rw [this]; simp
      · rw [if_neg h1, if_neg (by omega)]
theorem live_enter {os : List AO} {b k : Nat} (h : live (enterObjs os b) k) : b ≤ k ∧ k - b < os.length := by
  obtain ⟨o, ho⟩ := h
  rw [alook_enter] at ho
  by_cases hb : b ≤ k
  · rw [if_pos hb] at ho; exact ⟨hb, (List.getElem?_eq_some_iff.1 ho).1⟩
  · rw [if_neg hb] at ho; cases ho
def resF (tmps : Array Value) : ResultVar → Sem Value
  | .tmp t => pure (tmps.getD t undef)
  | .cell q t => do loadVar t (← asAddr (tmps.getD q undef))
theorem results_eq (fn : Func) (tmps : Array Value) : results fn tmps = (fn.results.mapM (resF tmps) >>= fun vs => pure (if h : vs.size = 1 then vs[0] else .tuple vs)) := by
  unfold results
  congr 1
theorem resultL_sound {B : Base} {c : Cx} {s : St} {a : Act} (X : Cfg) (h : Rel B c s a) (hn : NoGrd s) : ∀ {l : List ResultVar} {vs : List AV}, resultL X s l = some vs →
    ∃ xs : List Value, SeesL B c s vs xs ∧ (l.mapM (m := Sem) (resF a.tmps)).run X.P c.w = .ok xs c.w
  | [], vs, he => by simp [resultL] at he; subst he; exact ⟨[], ⟨rfl, fun i u hu => by simp at hu⟩, rfl⟩
  | r :: l, vs, he => by
    simp only [resultL] at he
    obtain ⟨v, h1, he⟩ := opt_bind he
    obtain ⟨us, h2, he⟩ := opt_map he
    subst he
    obtain ⟨xs, h3, h4⟩ := resultL_sound X h hn h2
    cases r with
    | cell q t =>
      simp only [resultA] at h1
      split at h1
      · rename_i k off hq
        obtain ⟨⟨b, u0⟩, hl, h1⟩ := opt_bind h1
        obtain ⟨hb, h1'⟩ := guardO_inv h1
        dsimp only at hb h1'
        simp only [Option.some.injEq] at h1'
        subst hb h1'
        have hE : Rep c (.ref k off) (a.tmps.getD q undef) := h.env q _ hq
        obtain ⟨x, g1, g2⟩ := loadA_still h hE hl
        generalize hV : a.tmps.getD q undef = V at hE g1
        cases hE
        rw [loadAt_addr] at g1
        refine ⟨x :: xs, ⟨by simp [h3.1], fun i u hu => ?_⟩, ?_⟩
        · cases i with
          | zero => simp at hu; subst hu; exact g2
          | succ i => simpa using h3.2 i u (by simpa using hu)
        · rw [List.mapM_cons]
          simp only [resF, hV, asAddr, pure_bind, Sem.run_bind, g1, h4, Result.andThen_ok, Sem.run_pure]
      · cases h1
    | tmp t =>
      simp only [resultA] at h1
      have hE := h.env t v h1
      have hg := hn t v h1
      have hr : Rep c v (a.tmps.getD t undef) := by cases v <;> first | exact hE | simp [AV.isGrd] at hg
      refine ⟨a.tmps.getD t undef :: xs, ⟨by simp [h3.1], fun i u hu => ?_⟩, ?_⟩
      · cases i with
        | zero => simp at hu; subst hu; exact ⟨hr, h.closed t v h1, hg⟩
        | succ i => simpa using h3.2 i u (by simpa using hu)
      · rw [List.mapM_cons]
        simp only [resF, pure_bind, Sem.run_bind, h4, Result.andThen_ok, Sem.run_pure]
theorem codeOk_mono {N M : Nat} (h : N ≤ M) : ∀ {c : Code}, codeOk N c = true → codeOk M c = true
  | .region _ ops _, hc => by
    simp only [codeOk] at hc ⊢
    rw [List.all_eq_true] at hc ⊢
    intro o ho
    have := hc o ho
    cases hd : o.dst with
    | none => rfl
    | some d => simp only [hd] at this ⊢; exact bltT (Nat.lt_of_lt_of_le (ltB this) h)
  | .seq a b, hc => by simp only [codeOk, Bool.and_eq_true] at hc ⊢; exact ⟨codeOk_mono h hc.1, codeOk_mono h hc.2⟩
  | .cond _ a b, hc => by simp only [codeOk, Bool.and_eq_true] at hc ⊢; exact ⟨codeOk_mono h hc.1, codeOk_mono h hc.2⟩
  | .block _ b, hc => by simp only [codeOk] at hc ⊢; exact codeOk_mono h hc
  | .loop b, hc => by simp only [codeOk] at hc ⊢; exact codeOk_mono h hc
  | .scope b, hc => by simp only [codeOk] at hc ⊢; exact codeOk_mono h hc
  | .skip, _ | .exit _, _ | .ret, _ | .goto _, _ | .label _, _ | .rangeFunc .., _ | .refuse _, _ => by simp [codeOk]
theorem runF_sound {X : Cfg} (hX : CallsOk X) (hm : X.P.follows .mixedOrders = true) {f : FuncId} (hO : OracOk X f) {fn : Func} (hf : X.P.funcs[f]? = some fn) (hok : ∀ c, fn.body = some c → codeOk fn.ntmps c = true) {n : Nat} {args : List AV} {os : List AO}
    {r : AV} {os' : List AO} (he : runF X n f args os = some (r, os')) : CallOk X.P X.G f args os r os' := by
  unfold runF at he
  rw [hf] at he
  dsimp only at he
  cases hbody : fn.body with
  | none => simp [hbody] at he
  | some code =>
    simp only [hbody] at he
    have hcode := hok code hbody
    intro c0 vs hgood hobjs hsz hrep hkeys
    let a0 : Act := { tmps := vs ++ Array.replicate (fn.ntmps - vs.size) undef, defers := [] }
    let B : Base := { c0 := c0, D := held c0 (enterObjs os keyBase), K := live (enterObjs os keyBase), G := X.G, N := a0.tmps.size }
    let s0 : St := { env := enterEnv args 0, objs := enterObjs os keyBase }
    have hN : fn.ntmps ≤ B.N := by simp [B, a0]; omega
    have hcode' : codeOk B.N code = true := codeOk_mono hN hcode
    have hget : ∀ t v, s0.get t = some v → args[t]? = some v := fun t v hv => by
      have : alook (enterEnv args 0) t = some v := hv
      rw [alook_enterEnv, if_pos (Nat.zero_le _)] at this; simpa using this
    have hval : ∀ t v, args[t]? = some v → Rep c0 v (a0.tmps.getD t undef) := fun t v hv => by
      have hlt : t < vs.size := by rw [hsz]; exact (List.getElem?_eq_some_iff.1 hv).1
      have e : a0.tmps.getD t undef = vs.getD t undef := by
        simp only [a0, Array.getD_eq_getD_getElem?]
        rw [Array.getElem?_append_left hlt]
      rw [e]; exact hrep t v hv
    have hplain : ∀ t v, s0.get t = some v → v.isGrd = false := fun t v hv => by
      have := hval t v (hget t v hv)
      generalize a0.tmps.getD t undef = V at this
      cases this <;> rfl
    have h0 : Rel B c0 s0 a0 := by
      refine ⟨hgood, ⟨rfl, rfl, rfl, Nat.le_refl _, fun _ _ _ => rfl, Ext.refl _ _, fun _ _ _ _ hi => hi⟩, hobjs, fun t v hv => EnvRep.of_rep (hplain t v hv) (hval t v (hget t v hv)),
        fun t v hv k hk => hkeys k (keys_mem_of (hget t v hv) k hk), fun k o b ho hb => .inr ⟨k, o, ho, hb⟩, rfl, rfl, fun k hk => hk⟩
    refine calls_of_wp hf hbody ?_
    refine runC_sound (B := B) hX rfl hm (fun k hk => (live_enter hk).1) f hO code [] (by simp [bodyOf, subC, hf, hbody]) hcode' n s0 c0 a0 _ (r, os') _ he h0 hplain fun ex s' c' a' hex hr' hn' => ?_
    have hfin : finish X fn os.length s' = some (r, os') → a'.defers = [] ∧ ∃ v, (results fn a'.tmps).run X.P c'.w = .ok v c'.w ∧ ∃ c2 x, Ending.returned v = .returned x ∧ c2.w = c'.w ∧ Good X.G c2 ∧
      Frame { c0 := c0, D := held c0 (enterObjs os keyBase), K := live (enterObjs os keyBase), G := X.G, N := 0 } c2 ∧
      Objs c2 (enterObjs os' keyBase) ∧ Rep c2 r x ∧ (∀ k ∈ r.keys, live (enterObjs os' keyBase) k) ∧
      ∀ k o b, alook (enterObjs os' keyBase) k = some o → excl c2 k o = some b → c0.w.heap.size ≤ b ∨ held c0 (enterObjs os keyBase) b := by
      intro hfin
      refine ⟨hr'.defers, ?_⟩
      unfold finish at hfin
      obtain ⟨rs, h1, hfin⟩ := opt_bind hfin
      obtain ⟨⟨rs', o1⟩, h2, hfin⟩ := opt_bind hfin
      dsimp only at hfin
      obtain ⟨os1, h3, hfin⟩ := opt_bind hfin
      obtain ⟨hb, hfin⟩ := cond_none hfin
      simp only [Option.some.injEq, Prod.mk.injEq] at hfin
      obtain ⟨hres, rfl⟩ := hfin
      simp only [Bool.and_eq_true] at hb
      obtain ⟨xs, hs, hrun⟩ := resultL_sound X hr' hn' h1
      obtain ⟨c2, e1, e2, e3, e4, e5⟩ := freezeVs_sound hr' hs h2
      have hs2 := e3.shed
      have hfn := hs2.fn
      obtain ⟨hlen, hlook⟩ := getObjs_spec h3
      have hks : ∀ i, i < os.length → ((List.range os.length).map (keyBase + ·))[i]? = some (keyBase + i) := fun i hi => by simp [hi]
      have hl1 : os1.length = os.length := by rw [hlen]; simp
      have hsub : ∀ k o, alook (enterObjs os1 keyBase) k = some o → alook o1 k = some o := by
        intro k o ho
        rw [alook_enter] at ho
        by_cases hb : keyBase ≤ k
        · rw [if_pos hb] at ho
          have hlt := (List.getElem?_eq_some_iff.1 ho).1
          have := (hlook _ _ (hks (k - keyBase) (by omega))).1
          rw [Nat.add_sub_cancel' hb] at this
          rw [this]; exact ho
        · rw [if_neg hb] at ho; cases ho
      have hmem : ∀ k, k ∈ (List.range os.length).map (keyBase + ·) → live (enterObjs os1 keyBase) k := by
        intro k hk
        simp only [List.mem_map, List.mem_range] at hk
        obtain ⟨i, hi, rfl⟩ := hk
        refine ⟨os1[i]'(by omega), ?_⟩
        rw [alook_enter, if_pos (Nat.le_add_right _ _), Nat.add_sub_cancel_left]
        exact List.getElem?_eq_getElem _
      have hkk : ∀ k o, alook (enterObjs os1 keyBase) k = some o → k ∈ (List.range os.length).map (keyBase + ·) := by
        intro k o ho
        obtain ⟨h1, h2⟩ := live_enter ⟨o, ho⟩
        simp only [List.mem_map, List.mem_range]
        exact ⟨k - keyBase, by omega, by omega⟩
      obtain ⟨v, hv, hrv, hrk⟩ : ∃ v, (results fn a'.tmps).run X.P c'.w = .ok v c'.w ∧ Rep c2 r v ∧ ∀ k ∈ r.keys, k ∈ keysL (shedL rs') := by
        have hm' : (fn.results.mapM (m := Sem) (resF a'.tmps)).run X.P c'.w = .ok xs.toArray c'.w := by
          rw [Array.mapM_eq_mapM_toList]
          simp only [Sem.run_map]
          rw [hrun]; rfl
        have hres' : ∀ (v : Value), (if h : xs.toArray.size = 1 then xs.toArray[0] else Value.tuple xs.toArray) = v → (results fn a'.tmps).run X.P c'.w = .ok v c'.w := by
          intro v hv
          rw [results_eq]
          simp only [Sem.run_bind, hm', Result.andThen_ok]
          rw [hv]; rfl
        by_cases h1 : xs.length = 1
        · obtain ⟨x, rfl⟩ := List.length_eq_one_iff.1 h1
          have hl : (shedL rs').length = 1 := by rw [← hs2.1]; rfl
          obtain ⟨u, hu⟩ := List.length_eq_one_iff.1 hl
          rw [hu] at hres
          dsimp only at hres
          subst hres
          refine ⟨x, hres' x (by simp), (hs2.2 0 u (by rw [hu]; rfl)).rep, fun k hk => by rw [hu]; simpa [keysL] using hk⟩
        · have hl : (shedL rs').length ≠ 1 := by rw [← hs2.1]; exact h1
          have hr : r = .tup (shedL rs') := by
            rw [← hres]
            cases h : shedL rs' with
            | nil => rfl
            | cons u l => cases l with
              | nil => rw [h] at hl; simp at hl
              | cons _ _ => rfl
          subst hr
          refine ⟨.tuple xs.toArray, hres' _ (by rw [dif_neg]; simpa using h1), .tup _ _ hfn.1 hfn.2.1, fun k hk => by simpa [AV.keys] using hk⟩
      refine ⟨v, hv, c2, v, rfl, e1, e2.good, ⟨e2.frame.os, e2.frame.output, e2.frame.tape, e2.frame.size, e2.frame.block, e2.frame.ext, e2.frame.new⟩, ⟨fun k o ho => e2.objs.rep k o (hsub k o ho), fun k o k' o' b hk hk' => e2.objs.apart k o k' o' b (hsub k o hk) (hsub k' o' hk'), fun k o ho q hq => ?_⟩,
        hrv, fun k hk => hmem k (subK_spec hb.1 k (hrk k hk)), fun k o b ho hb' => e2.mine k o b (hsub k o ho) hb'⟩
      exact hmem q (subK_spec hb.2 q (objKeys_mem (hkk k o ho) (hsub k o ho) q hq))
    cases ex with
    | exit id => simp at hex
    | nor => exact hfin hex
    | ret => exact hfin hex
def FuncsOk (P : Program) : Prop := ∀ (f : FuncId) (fn : Func), P.funcs[f]? = some fn → (fn.name == "runtime.NumGoroutine") = false ∧ ∀ c, fn.body = some c → codeOk fn.ntmps c = true
theorem E_sound {V : Env} (hm : V.P.follows .mixedOrders = true) (hP : FuncsOk V.P)
    (hext : ∀ f l os r os', V.isExt f = true → V.pre f l os = true → V.ext f l os = some (r, os') → CallOk V.P V.G f l os r os' ∧ ∃ fn, V.P.funcs[f]? = some fn ∧ (fn.name == "runtime.NumGoroutine") = false ∧ fn.body.isSome = true) :
    ∀ n, CallsOk (V.cfg (EP V n))
  | 0 => fun f l os r os' _ h => by cases h
  | n + 1 => fun f l os r os' hp h => by
    have h' : E V (n + 1) f l os = some (r, os') := h
    rw [E_succ] at h'
    cases he : V.isExt f with
    | true =>
      simp only [he, cond_true] at h'
      have hp' : cond (V.isExt f) (V.pre f l os) true = true := hp
      rw [he] at hp'
      exact hext f l os r os' he hp' h'
    | false =>
      simp only [he, cond_false] at h'
      have hX := E_sound hm hP hext n
      have hh := h'
      unfold runF at hh
      cases hf : (V.cfg (EP V n)).P.funcs[f]? with
      | none => simp only [hf] at hh; cases hh
      | some fn =>
        have hf' : V.P.funcs[f]? = some fn := hf
        obtain ⟨h1, h2⟩ := hP f fn hf'
        refine ⟨runF_sound (X := V.cfg (EP V n)) hX hm ⟨fun p g hg => (by cases hg), fun p g hg => (by cases hg), fun p g hg => (by cases hg)⟩ hf h2 h', fn, hf', h1, ?_⟩
        cases hb : fn.body with
        | none => simp only [hf, hb] at hh; cases hh
        | some c => rfl
end Go.Ab

namespace Go.Ab
open Go Go.RowKit
def Ct (P : Program) (G : Nat → Option (List AV)) (f : FuncId) (l : List AV) (os : List AO) (r : AV × List AO) : Prop :=
  CallOk P G f l os r.1 r.2 ∧ ∃ fn, P.funcs[f]? = some fn ∧ (fn.name == "runtime.NumGoroutine") = false ∧ fn.body.isSome = true
structure Ent where
  f : FuncId
  pre : List AV → List AO → Bool
  ans : List AV → List AO → AV × List AO
def mkE {τ : Type} (f : FuncId) (g : List AV → List AO → Bool) (v : List AV → List AO → τ) (φ : τ → AV × List AO) : Ent := ⟨f, g, fun l os => φ (v l os)⟩
def tabGet : List Ent → FuncId → Option Ent
  | [], _ => none
  | e :: r, f => cond (Nat.beq e.f f) (some e) (tabGet r f)
abbrev Orc := St → (Ex → St → Res) → Res
abbrev Vw := St → (St → Res) → Res
def eqP : List Nat → List Nat → Bool
  | [], [] => true
  | a :: r, b :: q => Nat.beq a b && eqP r q
  | _, _ => false
def orGet {α : Type} : List (List Nat × α) → List Nat → Option α
  | [], _ => none
  | e :: r, p => cond (eqP e.1 p) (some e.2) (orGet r p)
def hn (k o : List Nat) (p : List (Nat × Nat × TypeId)) (c : List (Nat × Nat × Nat × TypeId)) : Hint := { keep := k, objs := o, promote := p, promoteCell := c }
def tr (p k o : List Nat) : List Nat × Hint := (p, { keep := k, objs := o })
def trGet : List (List Nat × Hint) → List Nat → Option Hint
  | [], _ => none
  | e :: r, p => cond (eqP e.1 p) (some e.2) (trGet r p)
def mkO {τ : Type} (g : St → Bool) (v : St → τ) (out : τ → (Ex → St → Res) → Res) : Orc := fun s k => cond (g s) (out (v s) k) none
def mkV {τ : Type} (g : St → Bool) (v : St → τ) (S : τ → St) : Vw := fun s k => cond (g s) (k (S (v s))) none
def Env.tab (V : Env) (T : List Ent) : Env :=
  { V with ext := fun f l os => (tabGet T f).map fun e => e.ans l os, isExt := fun f => (tabGet T f).isSome, pre := fun f l os => match tabGet T f with | some e => e.pre l os | none => false }
def Env.run (V : Env) (T : List Ent) (d : Nat) (C L : List (List Nat × Orc)) (W : List (List Nat × Vw)) (f : FuncId) : Cfg :=
  { (V.tab T).cfg (EP (V.tab T) d) with cutO := fun g p => cond (Nat.beq g f) (orGet C p) none, loopO := fun g p => cond (Nat.beq g f) (orGet L p) none, viewO := fun g p => cond (Nat.beq g f) (orGet W p) none }
def TabOk (V : Env) (T : List Ent) : Prop := ∀ e ∈ T, ∀ l os, e.pre l os = true → Ct V.P V.G e.f l os (e.ans l os)
theorem tabGet_mem {T : List Ent} {f : FuncId} {e : Ent} (h : tabGet T f = some e) : e ∈ T ∧ e.f = f := by
  induction T with
  | nil => simp [tabGet] at h
  | cons x r ih =>
    simp only [tabGet] at h
    cases hb : Nat.beq x.f f with
    | true => simp only [hb, cond_true, Option.some.injEq] at h; subst h; exact ⟨by simp, beqT hb⟩
    | false => simp only [hb, cond_false] at h; exact ⟨List.mem_cons_of_mem _ (ih h).1, (ih h).2⟩
theorem orGet_mem {α : Type} {C : List (List Nat × α)} {p : List Nat} {g : α} (h : orGet C p = some g) : (p, g) ∈ C := by
  have eqP_eq : ∀ {a b : List Nat}, eqP a b = true → a = b := by
    intro a
    induction a with
    | nil => intro b h; cases b <;> simp [eqP] at h ⊢
    | cons x r ih =>
      intro b h
      cases b with
      | nil => simp [eqP] at h
      | cons y q => simp only [eqP, Bool.and_eq_true] at h; rw [beqT h.1, ih h.2]
  induction C with
  | nil => simp [orGet] at h
  | cons x r ih =>
    simp only [orGet] at h
    cases hb : eqP x.1 p with
    | true => simp only [hb, cond_true, Option.some.injEq] at h; subst h; rw [← eqP_eq hb]; simp
    | false => simp only [hb, cond_false] at h; exact List.mem_cons_of_mem _ (ih h)
def CutOk (X : Cfg) (f : FuncId) (p : List Nat) (g : Orc) : Prop := ∀ s k r, g s k = some r → ∃ n, runC X f n (subC (bodyOf X.P f) p) p s k = some r
def ViewOk (g : Vw) : Prop := ∀ s k r, g s k = some r → ∃ s', k s' = some r ∧ ∀ (B : Base) (c : Cx) (a : Act), Rel B c s a → NoGrd s → ∃ c', c'.w = c.w ∧ Rel B c' s' a ∧ NoGrd s'
def LoopOk (X : Cfg) (f : FuncId) (p : List Nat) (g : Orc) : Prop := ∀ s k r, g s k = some r → ∃ n m, loopR X f n m (subC (bodyOf X.P f) p) p s k = some r
theorem calls_tab {V : Env} {T : List Ent} (hm : V.P.follows .mixedOrders = true) (hP : FuncsOk V.P) (hT : TabOk V T) (d : Nat) (C L : List (List Nat × Orc)) (W : List (List Nat × Vw)) (f : FuncId) : CallsOk (V.run T d C L W f) := by
  have h := E_sound (V := V.tab T) hm hP (fun g l os r os' hi hp he => by
    simp only [Env.tab] at hi hp he
    cases hg : tabGet T g with
    | none => simp [hg] at hi
    | some e =>
      obtain ⟨hmem, hf⟩ := tabGet_mem hg
      simp only [hg] at hp
      simp only [hg, Option.map_some, Option.some.injEq] at he
      have := hT e hmem l os hp
      rw [hf, he] at this
      exact this) d
  exact h
theorem ct_of_run {V : Env} {T : List Ent} {d : Nat} {C L : List (List Nat × Orc)} {W : List (List Nat × Vw)} {f : FuncId} {n : Nat} {l : List AV} {os : List AO} {r : AV × List AO} (hm : V.P.follows .mixedOrders = true) (hP : FuncsOk V.P) (hT : TabOk V T)
    (hC : ∀ e ∈ C, CutOk (V.run T d C L W f) f e.1 e.2) (hL : ∀ e ∈ L, LoopOk (V.run T d C L W f) f e.1 e.2) (hW : ∀ e ∈ W, ViewOk e.2)
    (he : runF (V.run T d C L W f) n f l os = some r) : Ct V.P V.G f l os r := by
  have hO : OracOk (V.run T d C L W f) f := by
    refine ⟨fun p g hg => ?_, fun p g hg => ?_, fun p g hg => ?_⟩
    · simp only [Env.run, Nat.beq_refl, cond_true] at hg
      exact hC _ (orGet_mem hg)
    · simp only [Env.run, Nat.beq_refl, cond_true] at hg
      exact hW _ (orGet_mem hg)
    · simp only [Env.run, Nat.beq_refl, cond_true] at hg
      exact hL _ (orGet_mem hg)
  have hh := he
  unfold runF at hh
  cases hf : (V.run T d C L W f).P.funcs[f]? with
  | none => simp only [hf] at hh; cases hh
  | some fn =>
    have hf' : V.P.funcs[f]? = some fn := hf
    obtain ⟨h1, h2⟩ := hP f fn hf'
    refine ⟨runF_sound (X := V.run T d C L W f) (calls_tab hm hP hT d C L W f) hm hO hf h2 he, fn, hf', h1, ?_⟩
    cases hb : fn.body with
    | none => simp only [hf, hb] at hh; cases hh
    | some c => rfl
theorem tabOk_nil {V : Env} : TabOk V [] := fun _ h => (List.not_mem_nil h).elim
theorem tabOk_cons {V : Env} {e : Ent} {r : List Ent} (h : ∀ l os, e.pre l os = true → Ct V.P V.G e.f l os (e.ans l os)) (hr : TabOk V r) : TabOk V (e :: r) := fun x hx => by
  rcases List.mem_cons.1 hx with rfl | hx
  · exact h
  · exact hr x hx
def LoopsOk (X : Cfg) (f : FuncId) (L : List (List Nat × Orc)) : Prop := ∀ e ∈ L, LoopOk X f e.1 e.2
theorem loopsOk_nil {X : Cfg} {f : FuncId} : LoopsOk X f [] := fun _ h => (List.not_mem_nil h).elim
theorem loopsOk_cons {X : Cfg} {f : FuncId} {p : List Nat} {g : Orc} {r : List (List Nat × Orc)} (h : LoopOk X f p g) (hr : LoopsOk X f r) : LoopsOk X f ((p, g) :: r) := fun x hx => by
  rcases List.mem_cons.1 hx with rfl | hx
  · exact h
  · exact hr x hx
theorem ct_loops {V : Env} {T : List Ent} {d : Nat} {L : List (List Nat × Orc)} {f : FuncId} {n : Nat} {l : List AV} {os : List AO} {r : AV × List AO} (hm : V.P.follows .mixedOrders = true) (hP : FuncsOk V.P) (hT : TabOk V T)
    (hL : LoopsOk (V.run T d [] L [] f) f L) (he : runF (V.run T d [] L [] f) n f l os = some r) : Ct V.P V.G f l os r :=
  ct_of_run hm hP hT (fun _ h => (List.not_mem_nil h).elim) hL (fun _ h => (List.not_mem_nil h).elim) he
theorem ct_of_E {V : Env} (hm : V.P.follows .mixedOrders = true) (hP : FuncsOk V.P) (hE : ∀ f, V.isExt f = false) {n : Nat} {f : FuncId} {l : List AV} {os : List AO} {r : AV × List AO} (he : E V n f l os = some r) : Ct V.P V.G f l os r :=
  E_sound hm hP (fun f _ _ _ _ h => by rw [hE f] at h; cases h) n f l os r.1 r.2 (by simp [Env.cfg, hE]) he
theorem Ct.args {P : Program} {G : Nat → Option (List AV)} {f : FuncId} {l l' : List AV} {os : List AO} {r : AV × List AO} (h : Ct P G f l os r) (hl : l'.length = l.length) (hk : keysL l = [])
    (hw : ∀ (i : Nat) (u u' : AV), l[i]? = some u → l'[i]? = some u' → ∀ c v, Rep c u' v → Rep c u v) : Ct P G f l' os r := by
  refine ⟨fun c0 vs hg ho hs hr _ => h.1 c0 vs hg ho (by rw [hs, hl]) (fun i u hu => ?_) (fun k hk' => by rw [hk] at hk'; simp at hk'), h.2⟩
  have hlt := (List.getElem?_eq_some_iff.1 hu).1
  have hu' : l'[i]? = some (l'[i]'(by omega)) := List.getElem?_eq_getElem _
  exact hw i u _ hu hu' c0 _ (hr i _ hu')
theorem Ct.res {P : Program} {G : Nat → Option (List AV)} {f : FuncId} {l : List AV} {os os' : List AO} {r r' : AV} (h : Ct P G f l os (r, os')) (hk : r'.keys = []) (hw : ∀ c v, Rep c r v → Rep c r' v) : Ct P G f l os (r', os') := by
  refine ⟨fun c0 vs hg ho hs hr hl => (h.1 c0 vs hg ho hs hr hl).mono ?_, h.2⟩
  rintro e w' ⟨c', x, h1, h2, h3, h4, h5, h6, h7, h8⟩
  exact ⟨c', x, h1, h2, h3, h4, h5, hw _ _ h6, fun k hk' => by rw [hk] at hk'; simp at hk', h8⟩
def plainEq : List AV → List AV → Bool
  | [], [] => true
  | .int k n :: r, .int k' n' :: q => decide (k = k') && (n == n' && plainEq r q)
  | .str s :: r, .str s' :: q => s == s' && plainEq r q
  | .bool s :: r, .bool s' :: q => s == s' && plainEq r q
  | _, _ => false
theorem plainEq_eq : ∀ {a b : List AV}, plainEq a b = true → a = b
  | [], [], _ => rfl
  | .int k n :: r, .int k' n' :: q, h => by simp only [plainEq, Bool.and_eq_true, decide_eq_true_eq, beq_iff_eq] at h; rw [h.1, h.2.1, plainEq_eq h.2.2]
  | .str s :: r, .str s' :: q, h => by simp only [plainEq, Bool.and_eq_true, beq_iff_eq] at h; rw [h.1, plainEq_eq h.2]
  | .bool s :: r, .bool s' :: q, h => by simp only [plainEq, Bool.and_eq_true, beq_iff_eq] at h; rw [h.1, plainEq_eq h.2]
def rowsEq (n : Nat) (get get' : Nat → List AV) : Bool := (List.range n).all fun j => plainEq (get j) (get' j)
theorem rowsEq_eq {n : Nat} {get get' : Nat → List AV} (h : rowsEq n get get' = true) : ∀ j, j < n → get j = get' j := fun j hj =>
  plainEq_eq (List.all_eq_true.1 h j (List.mem_range.2 hj))
theorem Rep.slWeak {c : Cx} {o : Own} {sz n : Nat} {get get' : Nat → List AV} {v : Value} (he : ∀ j, j < n → get' j = get j) (h : Rep c (.sl o sz n get) v) : Rep c (.sl .no sz n get') v := by
  cases h with
  | slNil => exact .slNil .no sz get' trivial
  | sl _ _ _ _ a cap vals h1 h2 h3 h4 h5 h6 =>
    exact .sl .no sz n get' a cap vals h1 h2 trivial (fun j hj => by rw [he j hj]; exact h4 j hj) (fun j i u hj hu => h5 j i u hj (by rw [← he j hj]; exact hu)) (fun j i u hj hu => h6 j i u hj (by rw [← he j hj]; exact hu))
def nextR (X : Cfg) (f : FuncId) (n : Nat) (c : Code) (p : List Nat) (k : Ex → St → Res) : Nat → St → Res
  | 0, _ => none
  | m + 1, s => loopR X f n m c p s k
def roundR (X : Cfg) (f : FuncId) (n : Nat) (p : List Nat) (s : St) (kn : St → Res) (k : Ex → St → Res) : Res :=
  runC X f n (subC (bodyOf X.P f) (p ++ [0])) (p ++ [0]) s fun e s' => match e with
    | .nor => (atHead X.P (X.hint f (tagOf (subC (bodyOf X.P f) (p ++ [0])))) s').bind kn
    | e => k e s'
theorem loop_run {X : Cfg} {f : FuncId} {n : Nat} {p : List Nat} {b : Code} {σ : Type} (S : σ → St) (Inv : σ → Prop) (μ : σ → Nat) (out : σ → (Ex → St → Res) → Res) (hb : subC (bodyOf X.P f) p = .loop b)
    (round : ∀ v, Inv v → ∀ (k : Ex → St → Res) (kn : St → Res), (∀ v', Inv v' → μ v' < μ v → kn (S v') = out v' k) → roundR X f n p (S v) kn k = out v k) :
    ∀ (m : Nat) (v : σ), Inv v → μ v ≤ m → ∀ k, loopR X f n m (subC (bodyOf X.P f) p) p (S v) k = out v k := by
  have hb0 : subC (bodyOf X.P f) (p ++ [0]) = b := by rw [subC_append, hb]; simp [subC]
  have hnext : ∀ (m : Nat) (s : St) (k : Ex → St → Res), loopN X.P (runC X f n b (p ++ [0])) (X.hint f (tagOf b)) m s k = (atHead X.P (X.hint f (tagOf b)) s).bind (nextR X f n (.loop b) p k m) := by
    intro m s k
    cases m with
    | zero =>
      simp only [loopN]
      cases atHead X.P (X.hint f (tagOf b)) s <;> rfl
    | succ m => rfl
  intro m
  induction m with
  | zero =>
    intro v hv hm k
    rw [hb]
    simp only [loopR, hnext]
    have := round v hv k (nextR X f n (.loop b) p k 0) (fun v' _ h => by omega)
    simp only [roundR, hb0] at this
    exact this
  | succ m ih =>
    intro v hv hm k
    rw [hb]
    simp only [loopR, hnext]
    have := round v hv k (nextR X f n (.loop b) p k (m + 1)) (fun v' hv' h => by
      have := ih v' hv' (by omega) k
      rw [hb] at this
      exact this)
    simp only [roundR, hb0] at this
    exact this
section
open Classical
variable {α τ : Type}
noncomputable def goodS (S : α → St) (Inv : α → Prop) (s : St) : Bool := decide (∃ v, Inv v ∧ S v = s)
noncomputable def valS [Inhabited τ] (S : α → St) (Inv : α → Prop) (w : α → τ) (s : St) : τ := if h : ∃ v, Inv v ∧ S v = s then w h.choose else default
noncomputable def goodA (A : α → List AV) (O : α → List AO) (Pre : α → Prop) (l : List AV) (os : List AO) : Bool := decide (∃ v, Pre v ∧ A v = l ∧ O v = os)
noncomputable def valA [Inhabited τ] (A : α → List AV) (O : α → List AO) (Pre : α → Prop) (w : α → τ) (l : List AV) (os : List AO) : τ := if h : ∃ v, Pre v ∧ A v = l ∧ O v = os then w h.choose else default
theorem goodS_eq {S : α → St} {Inv : α → Prop} {v : α} (h : Inv v) : goodS S Inv (S v) = true := decide_eq_true ⟨v, h, rfl⟩
theorem valS_eq [Inhabited τ] {S : α → St} {Inv : α → Prop} {w : α → τ} (hi : ∀ a b, Inv a → Inv b → S a = S b → w a = w b) {v : α} (h : Inv v) : valS S Inv w (S v) = w v := by
  have hx : ∃ u, Inv u ∧ S u = S v := ⟨v, h, rfl⟩
  unfold valS
  rw [dif_pos hx]
  exact hi _ _ hx.choose_spec.1 h hx.choose_spec.2
theorem goodA_eq {A : α → List AV} {O : α → List AO} {Pre : α → Prop} {v : α} (h : Pre v) : goodA A O Pre (A v) (O v) = true := decide_eq_true ⟨v, h, rfl, rfl⟩
theorem valA_eq [Inhabited τ] {A : α → List AV} {O : α → List AO} {Pre : α → Prop} {w : α → τ} (hi : ∀ a b, Pre a → Pre b → A a = A b → O a = O b → w a = w b) {v : α} (h : Pre v) : valA A O Pre w (A v) (O v) = w v := by
  have hx : ∃ u, Pre u ∧ A u = A v ∧ O u = O v := ⟨v, h, rfl, rfl⟩
  unfold valA
  rw [dif_pos hx]
  exact hi _ _ hx.choose_spec.1 h hx.choose_spec.2.1 hx.choose_spec.2.2
noncomputable def entC [Inhabited τ] (f : FuncId) (A : α → List AV) (O : α → List AO) (Pre : α → Prop) (w : α → τ) (φ : τ → AV × List AO) : Ent := mkE f (goodA A O Pre) (valA A O Pre w) φ
theorem entC_ok [Inhabited τ] {V : Env} {f : FuncId} {A : α → List AV} {O : α → List AO} {Pre : α → Prop} {w : α → τ} {φ : τ → AV × List AO} (h : ∀ a, Pre a → Ct V.P V.G f (A a) (O a) (φ (w a))) :
    ∀ l os, (entC f A O Pre w φ).pre l os = true → Ct V.P V.G (entC f A O Pre w φ).f l os ((entC f A O Pre w φ).ans l os) := by
  intro l os hp
  have hx : ∃ v, Pre v ∧ A v = l ∧ O v = os := of_decide_eq_true hp
  show Ct V.P V.G f l os (φ (valA A O Pre w l os))
  unfold valA
  rw [dif_pos hx]
  have := h _ hx.choose_spec.1
  rw [hx.choose_spec.2.1, hx.choose_spec.2.2] at this
  exact this
theorem loopOk_of [Inhabited τ] {X : Cfg} {f : FuncId} {p : List Nat} {b : Code} (S : α → St) (Inv : α → Prop) (μ : α → Nat) (w : α → τ) (out : τ → (Ex → St → Res) → Res) (hb : subC (bodyOf X.P f) p = .loop b) (n : Nat)
    (round : ∀ v, Inv v → ∀ (k : Ex → St → Res) (kn : St → Res), (∀ v', Inv v' → μ v' < μ v → kn (S v') = out (w v') k) → roundR X f n p (S v) kn k = out (w v) k) :
    LoopOk X f p (mkO (goodS S Inv) (valS S Inv w) out) := by
  intro s k r h
  unfold mkO at h
  obtain ⟨hg, h⟩ := cond_none h
  have hx : ∃ v, Inv v ∧ S v = s := of_decide_eq_true hg
  unfold valS at h
  rw [dif_pos hx] at h
  refine ⟨n, μ hx.choose, ?_⟩
  have := loop_run S Inv μ (fun v => out (w v)) hb round (μ hx.choose) hx.choose hx.choose_spec.1 (Nat.le_refl _) k
  rw [hx.choose_spec.2] at this
  rw [this]; exact h
end
theorem wrap_i64 {x : Int} (h0 : -9223372036854775808 ≤ x) (h1 : x < 9223372036854775808) : IntKind.i64.wrap x = x := by
  simp [IntKind.wrap, IntKind.signed, IntKind.bits] <;> (try split) <;> omega
theorem within_of {x : Int} {n : Nat} (h0 : 0 ≤ x) (h1 : x < n) : within x n = true := by simp [within, h0, h1]
end Go.Ab

namespace Go.Ab
open Go Go.RowKit
def startCx (w : World) : Cx := { w := w, I := fun b o => ∃ v, w.cell? ⟨b, o, none⟩ = some v, β := fun _ => 0, κ := fun _ => none, fr := fun _ => none }
theorem startCx_objs (w : World) : Objs (startCx w) [] := ⟨fun _ _ h => by simp [alook] at h, fun _ _ _ _ _ h => by simp [alook] at h, fun _ _ h => by simp [alook] at h⟩
def Stand (w : World) : List AV → List Value → Prop
  | [], [] => True
  | u :: l, x :: xs => (Rep (startCx w) u x ∧ u.keys = []) ∧ Stand w l xs
  | _, _ => False
theorem Stand.spec {w : World} : ∀ {l : List AV} {xs : List Value}, Stand w l xs → xs.length = l.length ∧ keysL l = [] ∧ ∀ (i : Nat) (u : AV), l[i]? = some u → Rep (startCx w) u (xs.getD i undef)
  | [], [], _ => ⟨rfl, rfl, by simp⟩
  | u :: l, x :: xs, h => by
    obtain ⟨⟨h1, h2⟩, h3⟩ := h
    obtain ⟨e1, e2, e3⟩ := h3.spec
    refine ⟨by simp [e1], by simp [keysL, h2, e2], fun i v hv => ?_⟩
    cases i with
    | zero => simp at hv; subst hv; exact h1
    | succ i => simpa using e3 i v (by simpa using hv)
def funcsOkB (P : Program) : Bool := P.funcs.toList.all fun fn => !(fn.name == "runtime.NumGoroutine") && (match fn.body with
  | none => true
  | some c => codeOk fn.ntmps c)
theorem funcsOk_of {P : Program} (h : funcsOkB P = true) : FuncsOk P := by
  intro f fn hf
  have := List.all_eq_true.1 h fn (by simpa using Array.mem_of_getElem? hf)
  simp only [Bool.and_eq_true, Bool.not_eq_true'] at this
  refine ⟨this.1, fun c hc => ?_⟩
  have h2 := this.2
  rw [hc] at h2; exact h2
end Go.Ab

namespace Go.Ab
open Go
section
variable {τ : Type} [Inhabited τ]
def scan (n : Nat) (nxt : Nat → Nat) (stop : Nat → Option τ) : Nat → Nat → Bool × τ
  | 0, _ => (false, default)
  | d + 1, i => if i < n then (match stop i with
      | some t => (true, t)
      | none => scan n nxt stop d (nxt i)) else (false, default)
theorem scan_fuel {n : Nat} {nxt : Nat → Nat} {stop : Nat → Option τ} (hn : ∀ i, i < n → i < nxt i) : ∀ (d e i : Nat), n - i ≤ d → n - i ≤ e → scan n nxt stop d i = scan n nxt stop e i
  | 0, e, i, h, h' => by
    cases e with
    | zero => rfl
    | succ e => simp only [scan]; rw [if_neg (by omega)]
  | d + 1, 0, i, h, h' => by simp only [scan]; rw [if_neg (by omega)]
  | d + 1, e + 1, i, h, h' => by
    simp only [scan]
    by_cases hi : i < n
    · rw [if_pos hi, if_pos hi]
      have := hn i hi
      rw [scan_fuel hn d e (nxt i) (by omega) (by omega)]
    · rw [if_neg hi, if_neg hi]
def scanAt (n : Nat) (nxt : Nat → Nat) (stop : Nat → Option τ) (i : Nat) : Bool × τ := scan n nxt stop (n - i) i
theorem scanAt_end (n : Nat) (nxt : Nat → Nat) (stop : Nat → Option τ) {i : Nat} (h : ¬ i < n) : scanAt n nxt stop i = (false, default) := by
  unfold scanAt
  rw [show n - i = 0 by omega]; rfl
theorem scanAt_step {n : Nat} {nxt : Nat → Nat} {stop : Nat → Option τ} (hn : ∀ i, i < n → i < nxt i) {i : Nat} (h : i < n) : scanAt n nxt stop i = (match stop i with
    | some t => (true, t)
    | none => scanAt n nxt stop (nxt i)) := by
  unfold scanAt
  obtain ⟨d, hd⟩ : ∃ d, n - i = d + 1 := ⟨n - i - 1, by omega⟩
  rw [hd]
  simp only [scan]
  rw [if_pos h]
  have := hn i h
  rw [scan_fuel hn d (n - nxt i) (nxt i) (by omega) (Nat.le_refl _)]
theorem scan_val {n : Nat} {nxt : Nat → Nat} {stop : Nat → Option τ} {P : τ → Prop} (h : ∀ i t, i < n → stop i = some t → P t) : ∀ d i, (scan n nxt stop d i).1 = true → P (scan n nxt stop d i).2
  | 0, i, hs => by simp [scan] at hs
  | d + 1, i, hs => by
    simp only [scan] at hs ⊢
    by_cases hi : i < n
    · rw [if_pos hi] at hs ⊢
      cases ht : stop i with
      | some t => exact h i t hi ht
      | none => rw [ht] at hs; exact scan_val h d (nxt i) hs
    · rw [if_neg hi] at hs; simp at hs
theorem scanAt_val {n : Nat} {nxt : Nat → Nat} {stop : Nat → Option τ} {P : τ → Prop} (h : ∀ i t, i < n → stop i = some t → P t) (i : Nat) (hs : (scanAt n nxt stop i).1 = true) : P (scanAt n nxt stop i).2 := scan_val h _ _ hs
def seek (n : Nat) (nxt : Nat → Nat) (bad : Nat → Bool) (t : τ) : Bool × τ := scanAt n nxt (fun i => bif bad i then some t else none) 0
theorem seek_val {n : Nat} {nxt : Nat → Nat} {bad : Nat → Bool} {t : τ} (h : (seek n nxt bad t).1 = true) : (seek n nxt bad t).2 = t :=
  scanAt_val (P := fun x => x = t) (fun i u _ hu => by cases hb : bad i <;> simp [hb] at hu; exact hu.symm) 0 h
def outB (outS : τ → (Ex → St → Res) → Res) (outE : (Ex → St → Res) → Res) (o : Bool × τ) (k : Ex → St → Res) : Res := cond o.1 (outS o.2 k) (outE k)
theorem loopOk_scan {X : Cfg} {f : FuncId} {p : List Nat} {b : Code} (S : Nat → St) (n : Nat) (nxt : Nat → Nat) (stop : Nat → Option τ) (outS : τ → (Ex → St → Res) → Res) (outE : (Ex → St → Res) → Res)
    (hb : subC (bodyOf X.P f) p = .loop b) (m : Nat) (hn : ∀ i, i < n → i < nxt i ∧ nxt i ≤ n)
    (hstep : ∀ i, i < n → ∀ kn k, roundR X f m p (S i) kn k = (match stop i with | some t => outS t k | none => kn (S (nxt i))))
    (hend : ∀ kn k, roundR X f m p (S n) kn k = outE k) :
    LoopOk X f p (mkO (goodS S (· ≤ n)) (valS S (· ≤ n) (scanAt n nxt stop)) (outB outS outE)) := by
  refine loopOk_of S (· ≤ n) (fun i => n - i) (scanAt n nxt stop) (outB outS outE) hb m fun i hi k kn hk => ?_
  have hi : i ≤ n := hi
  by_cases h : i < n
  · rw [hstep i h, scanAt_step (fun i hi => (hn i hi).1) h]
    have := hn i h
    cases hs : stop i with
    | some t => rfl
    | none => exact hk (nxt i) this.2 (by omega)
  · obtain rfl : i = n := by omega
    rw [hend, scanAt_end _ _ _ h]; rfl
end
theorem loopOk_seek {τ : Type} [Inhabited τ] {X : Cfg} {f : FuncId} {p : List Nat} {b : Code} (S : Nat → St) (n : Nat) (nxt : Nat → Nat) (bad : Nat → Bool) (t : τ) (outS : τ → (Ex → St → Res) → Res) (outE : (Ex → St → Res) → Res)
    (hb : subC (bodyOf X.P f) p = .loop b) (m : Nat) (hn : ∀ i, i < n → i < nxt i ∧ nxt i ≤ n)
    (hstep : ∀ i, i < n → ∀ kn k, roundR X f m p (S i) kn k = cond (bad i) (outS t k) (kn (S (nxt i))))
    (hend : ∀ kn k, roundR X f m p (S n) kn k = outE k) :
    LoopOk X f p (mkO (goodS S (· ≤ n)) (valS S (· ≤ n) (scanAt n nxt (fun i => bif bad i then some t else none))) (outB outS outE)) :=
  loopOk_scan S n nxt _ outS outE hb m hn (fun i hi kn k => by rw [hstep i hi kn k]; cases bad i <;> rfl) hend
theorem seek_at {τ : Type} [Inhabited τ] (S : Nat → St) (n : Nat) (nxt : Nat → Nat) (bad : Nat → Bool) (t : τ) (hi : ∀ i j, S i = S j → i = j) :
    goodS S (· ≤ n) (S 0) = true ∧ valS S (· ≤ n) (scanAt n nxt (fun i => bif bad i then some t else none)) (S 0) = seek n nxt bad t :=
  ⟨goodS_eq (Nat.zero_le _), valS_eq (fun a b _ _ h => by rw [hi a b h]) (Nat.zero_le _)⟩
theorem wrap_next {i n : Nat} (h : i < n) (hn : n ≤ 4611686018427387904) : IntKind.wrap .i64 ((i : Int) + 1) = ((i + 1 : Nat) : Int) := by rw [wrap_i64 (by omega) (by omega)]; rfl
theorem lt_true {i n : Nat} (h : i < n) : decide ((i : Int) < (n : Int)) = true := decide_eq_true (by omega)
theorem lt_false {i n : Nat} (h : ¬ i < n) : decide ((i : Int) < (n : Int)) = false := decide_eq_false (by omega)
theorem within_lt {i n : Nat} (h : i < n) : within (i : Int) n = true := within_of (by omega) (by omega)
def retI (t : Nat) (n : Int) (k : Ex → St → Res) : Res := k .ret { env := [(t, .int .i64 n)], objs := [] }
def retB (t : Nat) (b : Bool) (k : Ex → St → Res) : Res := k .ret { env := [(t, .bool b)], objs := [] }
end Go.Ab
