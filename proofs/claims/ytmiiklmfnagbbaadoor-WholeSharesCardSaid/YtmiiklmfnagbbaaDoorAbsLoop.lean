/- The head of a loop. -/
import Derived.Test.YtmiiklmfnagbbaaDoorAbsDrawn5
namespace Go.Ab
open Go Go.RowKit
variable {P : Program} {B : Base} {c : Cx} {s : St} {a : Act}

theorem alook_keepEnv {env : List (Nat × AV)} : ∀ {ks : List Nat} {t : Nat} {v : AV}, alook (keepEnv env ks) t = some v → alook env t = some v
  | [], t, v, h => by simp [keepEnv, alook] at h
  | k :: r, t, v, h => by
    simp only [keepEnv] at h
    cases hk : alook env k with
    | none => simp only [hk] at h; exact alook_keepEnv h
    | some u =>
      simp only [hk, alook] at h
      by_cases e : k = t
      · subst e; simp at h; rw [hk, h]
      · rw [beqF e, cond_false] at h; exact alook_keepEnv h
theorem alook_keepObjs {objs : List (Nat × AO)} : ∀ {ks : List Nat} {t : Nat} {v : AO}, alook (keepObjs objs ks) t = some v → alook objs t = some v
  | [], t, v, h => by simp [keepObjs, alook] at h
  | k :: r, t, v, h => by
    simp only [keepObjs] at h
    cases hk : alook objs k with
    | none => simp only [hk] at h; exact alook_keepObjs h
    | some u =>
      simp only [hk, alook] at h
      by_cases e : k = t
      · subst e; simp at h; rw [hk, h]
      · rw [beqF e, cond_false] at h; exact alook_keepObjs h
theorem live_keepObjs {objs : List (Nat × AO)} {k : Nat} (hl : live objs k) : ∀ {ks : List Nat}, k ∈ ks → live (keepObjs objs ks) k
  | [], h => by simp at h
  | q :: r, h => by
    simp only [keepObjs]
    by_cases e : q = k
    · subst e
      obtain ⟨o, ho⟩ := hl
      rw [ho]; exact ⟨o, by simp [alook]⟩
    · have hr := live_keepObjs hl (ks := r) (by rcases List.mem_cons.1 h with rfl | h; exact absurd rfl e; exact h)
      cases hq : alook objs q with
      | none => exact hr
      | some u => obtain ⟨o, ho⟩ := hr; exact ⟨o, by simp [alook, beqF e, ho]⟩
theorem mem_baseK {objs : List (Nat × AO)} {k : Nat} (hl : live objs k) (hb : keyBase ≤ k) : k ∈ baseK objs := by
  induction objs with
  | nil => obtain ⟨o, h⟩ := hl; simp [alook] at h
  | cons p r ih =>
    obtain ⟨q, o⟩ := p
    simp only [baseK]
    by_cases e : q = k
    · subst e; rw [Nat.ble_eq_true_of_le hb]; simp
    · obtain ⟨o', ho'⟩ := hl
      simp only [alook, beqF e, cond_false] at ho'
      have := ih ⟨o', ho'⟩
      cases Nat.ble keyBase q <;> simp [this]
theorem mem_envKeys {env : List (Nat × AV)} {t : Nat} {v : AV} (h : alook env t = some v) : ∀ k ∈ v.keys, k ∈ envKeys env := by
  induction env with
  | nil => simp [alook] at h
  | cons p r ih =>
    obtain ⟨q, u⟩ := p
    intro k hk
    simp only [envKeys, List.mem_append]
    simp only [alook] at h
    by_cases e : q = t
    · subst e; simp at h; subst h; exact .inl hk
    · rw [beqF e, cond_false] at h; exact .inr (ih h k hk)
theorem mem_allObjKeys {objs : List (Nat × AO)} {t : Nat} {v : AO} (h : alook objs t = some v) : ∀ k ∈ v.keys, k ∈ allObjKeys objs := by
  induction objs with
  | nil => simp [alook] at h
  | cons p r ih =>
    obtain ⟨q, u⟩ := p
    intro k hk
    simp only [allObjKeys, List.mem_append]
    simp only [alook] at h
    by_cases e : q = t
    · subst e; simp at h; subst h; exact .inl hk
    · rw [beqF e, cond_false] at h; exact .inr (ih h k hk)

/-- Another word for the value in a slot. -/
theorem Rel.reslot (h : Rel B c s a) {t : Nat} {v : AV} (hs : Sees B c s v (a.tmps.getD t undef)) (_ : NoGrd s) : Rel B c (s.put (some t) v) a := by
  refine ⟨h.good, h.frame, by rw [St.objs_put]; exact h.objs, fun q u hu => ?_, fun q u hu k hk' => ?_, fun k o b ho => h.mine k o b (by simpa using ho), h.tmps, h.defers, by rw [St.objs_put]; exact h.kept⟩
  · rw [St.get_put] at hu
    by_cases e : t = q
    · subst e; simp at hu; subst hu; exact EnvRep.of_rep hs.plain hs.rep
    · rw [if_neg e] at hu; exact h.env q u hu
  · rw [St.objs_put]
    rw [St.get_put] at hu
    by_cases e : t = q
    · subst e; simp at hu; subst hu; exact hs.live k hk'
    · rw [if_neg e] at hu; exact h.closed q u hu k hk'
theorem NoGrd.put {s : St} (h : NoGrd s) {t : Nat} {v : AV} (hv : v.isGrd = false) : NoGrd (s.put (some t) v) := by
  intro q u hu
  rw [St.get_put] at hu
  by_cases e : t = q
  · subst e; simp at hu; subst hu; exact hv
  · rw [if_neg e] at hu; exact h q u hu
theorem ownAs_plain (key : Nat) (z : List AV) (sz n : Nat) (get : Nat → List AV) : (ownAs key z sz n get).isGrd = false ∧ (ownAs key z sz n get).keys = [key] ∧ (ownAs key z sz n get).one = true := by
  unfold ownAs; cases Nat.beq n 0 <;> exact ⟨rfl, rfl, rfl⟩

theorem promote_sound (h : Rel B c s a) {sz n : Nat} {get : Nat → List AV} {X : Value} (hx : Rep c (.sl .fit sz n get) X) {key : Nat} (hk : s.obj key = none) {z : List AV} (hz : 0 < ownSz z sz n) :
    ∃ c', c'.β = c.β ∧ c'.w = c.w ∧ Rel B c' (s.setObj key (.own (ownSz z sz n) n)) a ∧ Sees B c' (s.setObj key (.own (ownSz z sz n) n)) (ownAs key z sz n get) X := by
  have hown : OwnRep c .fit n X := by cases hx <;> assumption
  by_cases hn : n = 0
  · subst hn
    exact append_zero' (sz := z.length) (get' := fun _ => z) h hz hx ⟨.inl ⟨rfl, hk⟩, hown⟩ (.inl rfl) (fun j hj => by omega)
  · have e1 : ownSz z sz n = sz := by simp [ownSz, beqF hn]
    have e2 : ownAs key z sz n get = .sl (.key key) sz n get := by simp [ownAs, beqF hn]
    rw [e1, e2]
    rw [e1] at hz
    exact append_zero' (sz := sz) (get' := get) h hz hx ⟨.inl ⟨rfl, hk⟩, hown⟩ (.inr rfl) (fun j hj => rfl)

theorem promoteEnv_sound : ∀ {l : List (Nat × Nat × TypeId)} {s s' : St} {c : Cx}, Rel B c s a → NoGrd s → promoteEnv P s l = some s' → ∃ c', c'.w = c.w ∧ Rel B c' s' a ∧ NoGrd s'
  | [], s, s', c, h, hn, he => by simp [promoteEnv] at he; subst he; exact ⟨c, rfl, h, hn⟩
  | (t, key, e) :: r, s, s', c, h, hn, he => by
    simp only [promoteEnv] at he
    split at he
    · rename_i sz n get hg
      split at he
      · rename_i z hk hz
        obtain ⟨hb, he⟩ := guardO_inv he
        have hE : Rep c (.sl .fit sz n get) (a.tmps.getD t undef) := h.env t _ hg
        obtain ⟨c1, e0, e1, e2, e3⟩ := promote_sound h hE hk (ltB hb)
        have hn1 : NoGrd (s.setObj key (.own (ownSz z sz n) n)) := hn
        obtain ⟨c2, f1, f2, f3⟩ := promoteEnv_sound (e2.reslot e3 hn1) (hn1.put (ownAs_plain _ _ _ _ _).1) he
        exact ⟨c2, f1.trans e1, f2, f3⟩
      · simp at he
    · exact promoteEnv_sound h hn he

theorem keysL_set {cs : List AV} {i : Nat} {v : AV} : ∀ k ∈ keysL (cs.set i v), k ∈ v.keys ∨ k ∈ keysL cs := by
  induction cs generalizing i with
  | nil => intro k hk; simp [keysL] at hk
  | cons u r ih =>
    intro k hk
    cases i with
    | zero =>
      simp only [List.set_cons_zero, keysL, List.mem_append] at hk
      simp only [keysL, List.mem_append]
      rcases hk with hk | hk
      · exact .inl hk
      · exact .inr (.inr hk)
    | succ i =>
      simp only [List.set_cons_succ, keysL, List.mem_append] at hk
      simp only [keysL, List.mem_append]
      rcases hk with hk | hk
      · exact .inr (.inl hk)
      · rcases ih k hk with h | h
        · exact .inl h
        · exact .inr (.inr h)

theorem promoteCells_sound : ∀ {l : List (Nat × Nat × Nat × TypeId)} {s s' : St} {c : Cx}, Rel B c s a → NoGrd s → promoteCells P s l = some s' → ∃ c', c'.w = c.w ∧ Rel B c' s' a ∧ NoGrd s'
  | [], s, s', c, h, hn, he => by simp [promoteCells] at he; subst he; exact ⟨c, rfl, h, hn⟩
  | (ob, off, key, e) :: r, s, s', c, h, hn, he => by
    simp only [promoteCells] at he
    split at he
    · rename_i cs hob
      split at he
      · rename_i sz n get hg
        split at he
        · rename_i z hk hz
          obtain ⟨hb, he⟩ := guardO_inv he
          have hne : key ≠ ob := by rintro rfl; rw [hk] at hob; cases hob
          obtain ⟨⟨⟨vs, t, hh, hs, hv⟩, h1⟩, hI, hfr⟩ := h.objs.rep ob _ hob
          obtain ⟨c1, e0, e1, e2, e3⟩ := promote_sound h (hv off _ hg) hk (ltB hb)
          have hob1 : alook (aput s.objs key (.own (ownSz z sz n) n)) ob = some (.cells cs) := by rw [alook_aput, if_neg hne]; exact hob
          obtain ⟨⟨⟨vs1, t1, hh1, hs1, hv1⟩, h11⟩, hI1, hfr1⟩ := e2.objs.rep ob _ hob1
          rw [e0, e1, hh] at hh1
          simp only [Option.some.injEq, Obj.cells.injEq] at hh1
          obtain ⟨rfl, rfl, _⟩ := hh1
          let s1 : St := s.setObj key (.own (ownSz z sz n) n)
          have hoff : off < cs.length := (List.getElem?_eq_some_iff.1 hg).1
          have hget : ∀ (i : Nat) (u : AV), (cs.set off (ownAs key z sz n get))[i]? = some u → (i = off ∧ u = ownAs key z sz n get) ∨ cs[i]? = some u := by
            intro i u hu
            rw [List.getElem?_set] at hu
            by_cases e : off = i
            · subst e; simp [hoff] at hu; exact .inl ⟨rfl, hu.symm⟩
            · rw [if_neg e] at hu; exact .inr hu
          have hrel : Rel B c1 (s1.setObj ob (.cells (cs.set off (ownAs key z sz n get)))) a := by
            refine e2.obj (k := ob) ((Keeps.refl c1 s1.objs).but ob) (Grow.refl e2.good) ⟨⟨⟨vs, t, by rw [e0, e1]; exact hh, by rw [hs, List.length_set], fun i u hu => ?_⟩, fun i u hu => ?_⟩, hI1, hfr1⟩
              (fun q o' b hq hne' hb' e => e2.objs.apart q o' ob _ b hq hob1 hne' hb' e) (fun q hq => ?_) (fun b hb' => e2.mine ob _ b hob1 hb')
            · rcases hget i u hu with ⟨rfl, rfl⟩ | hu
              · exact e3.rep
              · exact hv1 i u hu
            · rcases hget i u hu with ⟨rfl, rfl⟩ | hu
              · exact (ownAs_plain _ _ _ _ _).2.2
              · exact h1 i u hu
            · simp only [AO.keys] at hq
              rcases keysL_set q hq with hq | hq
              · exact .inr (e3.live q hq)
              · exact .inr (e2.objs.closed ob _ hob1 q (by simpa [AO.keys] using hq))
          obtain ⟨c2, f1, f2, f3⟩ := promoteCells_sound hrel hn he
          exact ⟨c2, f1.trans e1, f2, f3⟩
        · simp at he
      · exact promoteCells_sound h hn he
    · exact promoteCells_sound h hn he

theorem atHead_sound (h : Rel B c s a) (hn : NoGrd s) (hK : ∀ k, B.K k → keyBase ≤ k) {hint : Hint} {s' : St} (he : atHead P hint s = some s') : ∃ c', c'.w = c.w ∧ Rel B c' s' a ∧ NoGrd s' := by
  unfold atHead at he
  dsimp only at he
  obtain ⟨hb, he⟩ := cond_none he
  simp only [Bool.and_eq_true] at hb
  obtain ⟨s2, h1, he⟩ := opt_bind he
  have hr : Rel B c { env := keepEnv s.env hint.keep, objs := keepObjs s.objs (hint.objs ++ baseK s.objs) } a := by
    refine h.less (fun k hk => live_keepObjs (h.kept k hk) (List.mem_append_right _ (mem_baseK (h.kept k hk) (hK k hk)))) (fun t v hv => alook_keepEnv hv) (fun k o ho => alook_keepObjs ho)
      (fun t v hv k hk => domK_live (subK_spec hb.1 k (mem_envKeys hv k hk))) (fun k o ho q hq => domK_live (subK_spec hb.2 q (mem_allObjKeys ho q hq)))
  have hn1 : NoGrd { env := keepEnv s.env hint.keep, objs := keepObjs s.objs (hint.objs ++ baseK s.objs) } := fun t v hv => hn t v (alook_keepEnv hv)
  obtain ⟨c1, e1, e2, e3⟩ := promoteEnv_sound hr hn1 h1
  obtain ⟨c2, f1, f2, f3⟩ := promoteCells_sound e2 e3 he
  exact ⟨c2, f1.trans e1, f2, f3⟩
end Go.Ab
