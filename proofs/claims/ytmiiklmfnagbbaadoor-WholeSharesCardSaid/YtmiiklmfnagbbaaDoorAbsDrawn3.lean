/- A region whose order is drawn: every order leaves what the order of the text leaves. -/
import Derived.Test.YtmiiklmfnagbbaaDoorAbsDrawn2
namespace Go.Ab
open Go Go.RowKit
variable {P : Program} {B : Base} {c : Cx} {s : St} {a : Act}

/-- One operation of the text. -/
inductive One (X : Cfg) (ops : Array Oper) (o : Oper) (s : St) : St → Prop
  | plain (v : AV) (objs' : List (Nat × AO)) : o.guard = none → effA X s o = some (true, v, objs') → One X ops o s (s.after o.dst v objs')
  | guarded (j t d : Nat) (w : Bool) (v : AV) : o.guard = some (j, w) → (ops[j]?).bind (·.dst) = some t → o.dst = some d → d ≠ t → effG X s o t w = some (true, v) → One X ops o s (s.put (some d) (.grd t w v))

theorem One.other {X : Cfg} {ops : Array Oper} {o : Oper} {s s' : St} (h : One X ops o s s') {t : Nat} (ht : o.dst ≠ some t) : s'.get t = s.get t := by
  cases h with
  | plain v objs' _ _ => rw [get_after, if_neg ht]
  | guarded j t' d w v _ _ hd _ _ => rw [St.get_put, if_neg]; rintro rfl; exact ht hd

/-- The run of the text: the states between, and what each operation reads. -/
structure Trace (X : Cfg) (ops : Array Oper) (st : Nat → St) : Prop where
  step : ∀ i o, ops[i]? = some o → One X ops o (st i) (st (i + 1))
  later : ∀ (i : Nat) (o : Oper) (j t : Nat) (w : Bool), ops[i]? = some o → o.guard = some (j, w) → (ops[j]?).bind (·.dst) = some t → ∀ (k : Nat) (q : Oper), i < k → ops[k]? = some q → q.dst ≠ some t

theorem runOpsD_inv {X : Cfg} {ops : Array Oper} {K : List Fp → St → Res} {r : AV × List AO} : ∀ (rest : List Oper) (i : Nat) (acc : List Fp) (s : St), (∀ j, rest[j]? = ops[i + j]?) → runOpsD X ops rest i acc s K = some r →
    ∃ st : Nat → St, st i = s ∧ (∀ q o, i ≤ q → ops[q]? = some o → One X ops o (st q) (st (q + 1))) ∧
      (∀ q o j t w, i ≤ q → ops[q]? = some o → o.guard = some (j, w) → (ops[j]?).bind (·.dst) = some t → ∀ k p, q < k → ops[k]? = some p → p.dst ≠ some t) ∧
      ∃ fps, K (acc ++ fps) (st (i + rest.length)) = some r ∧ fps.length = rest.length ∧ ∀ q o, i ≤ q → ops[q]? = some o → fps[q - i]? = some (fpOf X (st q) ops q o)
  | [], i, acc, s, hops, he => by
    have hno : ∀ q o, i ≤ q → ops[q]? ≠ some o := fun q o hq h => by
      have := hops (q - i)
      rw [show i + (q - i) = q by omega, h] at this; simp at this
    refine ⟨fun _ => s, rfl, fun q o hq h => absurd h (hno q o hq), fun q o _ _ _ hq h => absurd h (hno q o hq), [], by simpa [runOpsD] using he, rfl, fun q o hq h => absurd h (hno q o hq)⟩
  | o :: rest, i, acc, s, hops, he => by
    have hoi : ops[i]? = some o := by have := hops 0; simpa using this.symm
    have hrest : ∀ j, rest[j]? = ops[i + 1 + j]? := fun j => by
      have := hops (j + 1)
      rw [Nat.add_assoc, Nat.add_comm 1 j]; simpa using this
    have main : ∀ s', One X ops o s s' → runOpsD X ops rest (i + 1) (acc ++ [fpOf X s ops i o]) s' K = some r →
        (∀ j t w, o.guard = some (j, w) → (ops[j]?).bind (·.dst) = some t → ∀ p ∈ rest, p.dst ≠ some t) →
        ∃ st : Nat → St, st i = s ∧ (∀ q o, i ≤ q → ops[q]? = some o → One X ops o (st q) (st (q + 1))) ∧
      (∀ q o j t w, i ≤ q → ops[q]? = some o → o.guard = some (j, w) → (ops[j]?).bind (·.dst) = some t → ∀ k p, q < k → ops[k]? = some p → p.dst ≠ some t) ∧
      ∃ fps, K (acc ++ fps) (st (i + (o :: rest).length)) = some r ∧ fps.length = (o :: rest).length ∧ ∀ q o, i ≤ q → ops[q]? = some o → fps[q - i]? = some (fpOf X (st q) ops q o) := by
      intro s' hone he' hlat
      obtain ⟨st, h1, h2, h3, fps, h4, h5, h6⟩ := runOpsD_inv rest (i + 1) _ s' hrest he'
      have hst : ∀ q, i + 1 ≤ q → (if q ≤ i then s else st q) = st q := fun q hq => if_neg (by omega)
      refine ⟨fun q => if q ≤ i then s else st q, by simp, fun q p hq hp => ?_, fun q p j t w hq hp hg ht k p' hk hp' => ?_, fpOf X s ops i o :: fps, ?_, by simp [h5], fun q p hq hp => ?_⟩
      · by_cases e : q = i
        · subst e
          rw [hoi] at hp; cases hp
          simp only [Nat.le_refl, if_true]
          rw [if_neg (by omega), h1]; exact hone
        · simp only [hst q (by omega), hst (q + 1) (by omega)]
          exact h2 q p (by omega) hp
      · by_cases e : q = i
        · subst e
          rw [hoi] at hp; cases hp
          have hm := hrest (k - (q + 1))
          rw [show q + 1 + (k - (q + 1)) = k by omega, hp'] at hm
          exact hlat j t w hg ht p' (List.mem_of_getElem? hm)
        · exact h3 q p j t w (by omega) hp hg ht k p' hk hp'
      · have e : i + (o :: rest).length = i + 1 + rest.length := by simp; omega
        simp only [e]
        rw [if_neg (by omega)]
        simpa [List.append_assoc] using h4
      · by_cases e : q = i
        · subst e
          rw [hoi] at hp; cases hp
          simp
        · have := h6 q p (by omega) hp
          simp only [hst q (by omega)]
          rw [show q - i = (q - (i + 1)) + 1 by omega]
          simpa using this
    simp only [runOpsD] at he
    cases hg : o.guard with
    | none =>
      simp only [hg] at he
      obtain ⟨v, objs', e1, e2⟩ := stepA_inv he
      exact main _ (.plain v objs' hg e1) e2 (fun j t w h => by rw [hg] at h; cases h)
    | some jw =>
      obtain ⟨j, w⟩ := jw
      simp only [hg] at he
      cases ht : (ops[j]?).bind (·.dst) with
      | none => simp [ht] at he
      | some t =>
        simp only [ht] at he
        obtain ⟨hany, he⟩ := cond_none' he
        obtain ⟨d, v, hd, hdt, e1, e2⟩ := stepG_inv he
        refine main _ (.guarded j t d w v hg ht hd hdt e1) e2 (fun j' t' w' h ht' p hp => ?_)
        rw [hg] at h; cases h
        rw [ht] at ht'; cases ht'
        have := List.any_eq_false.1 hany p hp
        simpa using this

theorem dstsApart_spec : ∀ {l : List Oper} {seen : List Nat}, dstsApart l seen = true → (∀ (i : Nat) (o : Oper) (d : Nat), l[i]? = some o → o.dst = some d → d ∉ seen) ∧
    ∀ (i j : Nat) (o q : Oper) (d : Nat), l[i]? = some o → l[j]? = some q → o.dst = some d → q.dst = some d → i = j
  | [], seen, _ => ⟨by simp, by simp⟩
  | p :: r, seen, h => by
    simp only [dstsApart] at h
    cases hd : p.dst with
    | none =>
      simp only [hd] at h
      obtain ⟨h1, h2⟩ := dstsApart_spec h
      refine ⟨fun i o d hi ho => ?_, fun i j o q d hi hj ho hq => ?_⟩
      · cases i with
        | zero => simp at hi; subst hi; rw [hd] at ho; cases ho
        | succ i => exact h1 i o d (by simpa using hi) ho
      · cases i with
        | zero => simp at hi; subst hi; rw [hd] at ho; cases ho
        | succ i =>
          cases j with
          | zero => simp at hj; subst hj; rw [hd] at hq; cases hq
          | succ j => rw [h2 i j o q d (by simpa using hi) (by simpa using hj) ho hq]
    | some e =>
      simp only [hd, Bool.and_eq_true, Bool.not_eq_true'] at h
      obtain ⟨h1, h2⟩ := dstsApart_spec h.2
      have hseen : e ∉ seen := fun hm => by rw [any_beq.2 hm] at h; simp at h
      refine ⟨fun i o d hi ho => ?_, fun i j o q d hi hj ho hq => ?_⟩
      · cases i with
        | zero => simp at hi; subst hi; rw [hd] at ho; cases ho; exact hseen
        | succ i => exact fun hm => h1 i o d (by simpa using hi) ho (List.mem_cons_of_mem _ hm)
      · cases i with
        | zero =>
          simp at hi; subst hi; rw [hd] at ho; cases ho
          cases j with
          | zero => rfl
          | succ j => exact absurd (List.mem_cons_self) (h1 j q e (by simpa using hj) hq)
        | succ i =>
          cases j with
          | zero => simp at hj; subst hj; rw [hd] at hq; cases hq; exact absurd (List.mem_cons_self) (h1 i o e (by simpa using hi) ho)
          | succ j => rw [h2 i j o q d (by simpa using hi) (by simpa using hj) ho hq]

theorem edgesOk_spec : ∀ {l : List Oper} {i : Nat}, edgesOk l i = true → ∀ (j : Nat) (o : Oper), l[j]? = some o → ∀ e ∈ o.after, Region.binds .any e = true → e.on < i + j
  | [], _, _, j, o, h => by simp at h
  | p :: r, i, h, j, o, hj => by
    simp only [edgesOk, Bool.and_eq_true] at h
    cases j with
    | zero => simp at hj; subst hj; intro e he hb; have := Array.all_eq_true_iff_forall_mem.1 h.1 e he; rw [hb, cond_true] at this; exact ltB this
    | succ j => intro e he hb; have := edgesOk_spec h.2 j o (by simpa using hj) e he hb; omega

theorem fpsOk_spec {bits : List Nat} : ∀ {l : List Fp}, fpsOk bits l = true → ∀ (i j : Nat) (x y : Fp), i < j → l[i]? = some x → l[j]? = some y → (bits.getD y.i 0).testBit x.i = true ∨ apartF x y = true
  | [], _, i, j, x, y, _, h, _ => by simp at h
  | p :: r, h, i, j, x, y, hij, hi, hj => by
    simp only [fpsOk, Bool.and_eq_true] at h
    cases j with
    | zero => omega
    | succ j =>
      cases i with
      | zero =>
        simp at hi; subst hi
        have := List.all_eq_true.1 h.1 y (List.mem_of_getElem? (by simpa using hj))
        simpa using this
      | succ i => exact fpsOk_spec h.2 i j x y (by omega) (by simpa using hi) (by simpa using hj)

theorem edgeBits_spec {acc : List Nat} : ∀ {l : List Edge} {k : Nat}, (edgeBits acc l).testBit k = true → ∃ e ∈ l, Region.binds .any e = true ∧ (k = e.on ∨ (acc.getD e.on 0).testBit k = true)
  | [], k, h => by simp [edgeBits] at h
  | e :: r, k, h => by
    simp only [edgeBits] at h
    cases hb : Region.binds .any e with
    | false =>
      simp only [hb, cond_false] at h
      obtain ⟨e', h1, h2⟩ := edgeBits_spec h
      exact ⟨e', List.mem_cons_of_mem _ h1, h2⟩
    | true =>
      simp only [hb, cond_true] at h
      have hor : ∀ x y : Nat, Nat.lor x y = x ||| y := fun _ _ => rfl
      simp only [hor, Nat.testBit_or, Bool.or_eq_true, Nat.testBit_two_pow, decide_eq_true_eq] at h
      rcases h with (h | h) | h
      · exact ⟨e, by simp, hb, .inl h.symm⟩
      · exact ⟨e, by simp, hb, .inr h⟩
      · obtain ⟨e', h1, h2⟩ := edgeBits_spec h
        exact ⟨e', List.mem_cons_of_mem _ h1, h2⟩

/-- What stands before an operation that is ready has run. -/
theorem befores_spec {S : Nat → Prop} {ops : Array Oper} (hS : ∀ i o, S i → ops[i]? = some o → ∀ e ∈ o.after, Region.binds .any e = true → S e.on) :
    ∀ (rest : List Oper) (acc : List Nat), (∀ j, rest[j]? = ops[acc.length + j]?) →
      (∀ j o, j < acc.length → ops[j]? = some o → (∀ e ∈ o.after, Region.binds .any e = true → S e.on) → ∀ k, (acc.getD j 0).testBit k = true → S k) →
      ∀ j o, ops[j]? = some o → (∀ e ∈ o.after, Region.binds .any e = true → S e.on) → ∀ k, ((befores rest acc).getD j 0).testBit k = true → S k
  | [], acc, hops, hacc, j, o, ho, hr, k, hk => by
    by_cases hj : j < acc.length
    · exact hacc j o hj ho hr k hk
    · have := hops (j - acc.length)
      rw [show acc.length + (j - acc.length) = j by omega, ho] at this; simp at this
  | p :: rest, acc, hops, hacc, j, o, ho, hr, k, hk => by
    have e : befores (p :: rest) acc = befores rest (acc ++ [edgeBits acc p.after.toList]) := by
      simp only [befores]
      cases edgeBits acc p.after.toList <;> rfl
    rw [e] at hk
    have hp : ops[acc.length]? = some p := by have := hops 0; simpa using this.symm
    refine befores_spec hS rest _ (fun j => by have := hops (j + 1); rw [List.length_append, List.length_singleton, Nat.add_assoc, Nat.add_comm 1 j]; simpa using this) ?_ j o ho hr k hk
    intro j q hj hq hrq k hk
    by_cases hlt : j < acc.length
    · rw [List.getD_eq_getElem?_getD, List.getElem?_append_left hlt, ← List.getD_eq_getElem?_getD] at hk
      exact hacc j q hlt hq hrq k hk
    · have hj' : j = acc.length := by simp at hj; omega
      subst hj'
      rw [hp] at hq; cases hq
      have : (acc ++ [edgeBits acc p.after.toList]).getD acc.length 0 = edgeBits acc p.after.toList := by simp
      rw [this] at hk
      obtain ⟨ed, h1, h2, h3⟩ := edgeBits_spec hk
      have hSe := hrq ed (by simpa using h1) h2
      rcases h3 with rfl | h3
      · exact hSe
      · by_cases hl : ed.on < acc.length
        · have ho' : ops[ed.on]? = some (ops[ed.on]'(by have := (Array.getElem?_eq_some_iff.1 hp).1; omega)) := Array.getElem?_eq_getElem _
          exact hacc ed.on _ hl ho' (fun e' he' hb' => hS _ _ hSe ho' e' he' hb') k h3
        · have : acc.getD ed.on 0 = 0 := by simp [List.getD_eq_getElem?_getD, List.getElem?_eq_none (by omega : acc.length ≤ ed.on)]
          rw [this] at h3; simp at h3
end Go.Ab
