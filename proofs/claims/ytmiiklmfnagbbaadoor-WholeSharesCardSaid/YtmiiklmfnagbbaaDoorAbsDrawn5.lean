/- A region whose order is drawn, sound. -/
import Derived.Test.YtmiiklmfnagbbaaDoorAbsDrawn4
namespace Go.Ab
open Go Go.RowKit
variable {B : Base} {c : Cx} {s : St} {a : Act} {X : Cfg} {ops : Array Oper} {st : Nat → St}

theorem Inv.end (p : Plan X ops st) {S : Nat → Prop} (hI : Inv X ops st S s) (hall : ∀ i, i < ops.size → S i) (h : Rel B c s a) : Rel B c (st ops.size) a := by
  have hget : ∀ t, (st ops.size).get t = s.get t := by
    intro t
    by_cases hex : ∃ (j : Nat) (q : Oper), ops[j]? = some q ∧ q.dst = some t
    · obtain ⟨j, q, hj, hq⟩ := hex
      exact (hI.done t j q (hall j (Array.getElem?_eq_some_iff.1 hj).1) hj hq).symm
    · have hno : ∀ (k : Nat) (q : Oper), ops[k]? = some q → q.dst ≠ some t := fun k q hk hq => hex ⟨k, q, hk, hq⟩
      rw [hI.rest t fun k q _ hk => hno k q hk, p.get0 _ t (Nat.le_refl _) fun k q _ hk => hno k q hk]
  have hobj : ∀ k, (st ops.size).obj k = s.obj k := by
    intro k
    obtain ⟨m, hm, hobs, hwr⟩ := hI.objs k
    rw [hobs]
    have := p.objs (i := m) (q := k) (ops.size - m) (by omega) fun j q hj1 hj2 hq hw => by
      have := (hwr j q hq hw).1 (hall j (Array.getElem?_eq_some_iff.1 hq).1); omega
    rw [show m + (ops.size - m) = ops.size by omega] at this; exact this
  have hlive : ∀ k, live s.objs k → live (st ops.size).objs k := fun k ⟨o, ho⟩ => ⟨o, by have := hobj k; simp only [St.obj] at this; rw [this]; exact ho⟩
  refine h.less (fun k hk => hlive k (h.kept k hk)) (fun t v hv => by rw [← hget t]; exact hv) (fun k o ho => by rw [← hobj k]; exact ho)
    (fun t v hv k hk => hlive k (h.closed t v (by rw [← hget t]; exact hv) k hk)) (fun k o ho q hq => hlive q (h.objs.closed k o (by have := hobj k; rw [ho] at this; exact this.symm) q hq))

theorem getD_of {listed : Array Bool} {i : Nat} (h : i < listed.size) (b b' : Bool) : listed.getD i b = listed.getD i b' := by
  simp [h]

theorem Plan.run (p : Plan X ops st) (hX : CallsOk X) (hG : X.G = B.G) (hN : ∀ o ∈ ops.toList, ∀ d, o.dst = some d → d < B.N) {Q : Exit → Act → World → Prop} (hQ : ∀ c' a', Rel B c' (st ops.size) a' → Q .normal a' c'.w) :
    ∀ (fuel : Nat) (listed : Array Bool) (s : St) (c : Cx) (a : Act), listed.size = ops.size → (∃ U : List Nat, U.length ≤ fuel ∧ ∀ i, i < ops.size → listed.getD i false = false → i ∈ U) →
      Inv X ops st (fun i => listed.getD i false = true) s → Rel B c s a → wpAny X.P .any ops Q fuel listed a c.w := by
  have hdone : ∀ (listed : Array Bool) (s : St) (c : Cx) (a : Act), listed.size = ops.size → Inv X ops st (fun i => listed.getD i false = true) s → Rel B c s a → Region.ready .any ops listed = [] → Q .normal a c.w := by
    intro listed s c a hsz hI h hr
    have hall : ∀ i, i < ops.size → listed.getD i false = true := by
      intro i
      induction i using Nat.strongRecOn with
      | _ i ih =>
        intro hi
        cases hl : listed.getD i false with
        | true => rfl
        | false =>
          obtain ⟨o, ho⟩ := get_op hi
          have : i ∈ Region.ready .any ops listed := mem_ready.2 ⟨by rw [getD_of (by omega) true false]; exact hl, o, ho, fun e he hb => ih e.on (p.edge i o ho e he hb) (by have := p.edge i o ho e he hb; omega)⟩
          rw [hr] at this; simp at this
    exact hQ c a (hI.end p hall h)
  intro fuel
  induction fuel with
  | zero =>
    intro listed s c a hsz hU hI h
    have hr : Region.ready .any ops listed = [] := by
      cases hr : Region.ready .any ops listed with
      | nil => rfl
      | cons i r =>
        have hi : i ∈ Region.ready .any ops listed := by rw [hr]; simp
        obtain ⟨h0, o, ho, _⟩ := mem_ready.1 hi
        have hin := (Array.getElem?_eq_some_iff.1 ho).1
        obtain ⟨U, h1, h2⟩ := hU
        have := h2 i hin (by rw [getD_of (by omega) false true]; exact h0)
        have hUn : U = [] := List.length_eq_zero_iff.1 (by omega)
        rw [hUn] at this; simp at this
    exact ⟨hr, hdone listed s c a hsz hI h hr⟩
  | succ fuel ih =>
    intro listed s c a hsz hU hI h
    refine ⟨hdone listed s c a hsz hI h, fun i hi => ?_⟩
    obtain ⟨h0, o, ho, hall⟩ := mem_ready.1 hi
    have hin := (Array.getElem?_eq_some_iff.1 ho).1
    have h0' : listed.getD i false = false := by rw [getD_of (by omega) false true]; exact h0
    obtain ⟨s', hI', hstep⟩ := p.next (B := B) (c := c) (a := a) hX hG hN hI h ho (by simp [h0']) (fun e he hb => hall e he hb)
    refine hstep Q _ fun a' c' hr => ?_
    have hset : ∀ j, (listed.setIfInBounds i true).getD j false = true ↔ (j = i ∨ listed.getD j false = true) := by
      intro j
      by_cases e : i = j
      · subst e
        have : i < listed.size := by omega
        simp [this]
      · rw [getD_set_ne false e]
        exact ⟨.inr, fun h => h.resolve_left (fun x => e x.symm)⟩
    refine ih _ s' c' a' (by simpa using hsz) ?_ ?_ hr
    · obtain ⟨U, h1, h2⟩ := hU
      have hiU := h2 i hin h0'
      refine ⟨U.erase i, ?_, fun j hj hjn => ?_⟩
      · rw [List.length_erase_of_mem hiU]; omega
      · have hne : j ≠ i := by rintro rfl; rw [(hset j).2 (.inl rfl)] at hjn; cases hjn
        refine (List.mem_erase_of_ne hne).2 (h2 j hj ?_)
        cases hl : listed.getD j false with
        | false => rfl
        | true => rw [(hset j).2 (.inr hl)] at hjn; cases hjn
    · have : (fun j => (listed.setIfInBounds i true).getD j false = true) = fun j => j = i ∨ listed.getD j false = true := by funext j; exact propext (hset j)
      rw [this]; exact hI'

theorem runDrawn_sound (hX : CallsOk X) (hG : X.G = B.G) (hm : X.P.follows .mixedOrders = true) {id : Nat} {k : St → Res} {r : AV × List AO} {Q : Exit → Act → World → Prop} (he : runDrawn X ops s k = some r) (h : Rel B c s a) (hn : NoGrd s)
    (hN : ∀ o ∈ ops.toList, ∀ d, o.dst = some d → d < B.N) (hk : ∀ s' c' a', k s' = some r → Rel B c' s' a' → NoGrd s' → Q .normal a' c'.w) : (Code.region id ops true).wp X.P Q a c.w := by
  apply wp_region_any hm
  unfold runDrawn at he
  obtain ⟨hb, he⟩ := cond_none he
  simp only [Bool.and_eq_true] at hb
  obtain ⟨st, h0, h1, h2, fps, h3, h4, h5⟩ := runOpsD_inv ops.toList 0 [] s (fun j => by simp) he
  obtain ⟨hfp, h3⟩ := cond_none h3
  simp only [List.nil_append, Nat.zero_add] at hfp h3
  have hlen : ops.toList.length = ops.size := by simp
  rw [hlen] at h3
  have p : Plan X ops st := by
    refine ⟨⟨fun i o ho => h1 i o (Nat.zero_le _) ho, fun i o j t w ho hg ht k q hk hq => h2 i o j t w (Nat.zero_le _) ho hg ht k q hk hq⟩, by rw [h0]; exact hn, fun i j o q d hi hj ho hq => (dstsApart_spec hb.1).2 i j o q d (by simpa using hi) (by simpa using hj) ho hq,
      fun i o ho e he hbe => by have := edgesOk_spec hb.2 i o (by simpa using ho) e he hbe; omega, fun i j o q hij hi hj => ?_⟩
    have := fpsOk_spec hfp i j _ _ hij (h5 i o (Nat.zero_le _) hi) (h5 j q (Nat.zero_le _) hj)
    have hfi : ∀ (k : Nat) (x : Oper) (s : St), (fpOf X s ops k x).i = k := by
      intro k x s
      simp only [fpOf]
      split
      · rfl
      · split <;> rfl
    rw [hfi, hfi] at this
    exact this
  have hrel : Rel B c.drew s a := h.keep (Cx.drew_keeps c s.objs) (Cx.drew_grow h.good)
  refine p.run (B := B) hX hG hN (fun c' a' hr => hk _ c' a' h3 hr.purge (NoGrd.purge _)) ops.size _ s c.drew a (by simp) ⟨List.range ops.size, by simp, fun i hi _ => by simpa using hi⟩ ?_ hrel
  have hf : ∀ i, (Array.replicate ops.size false).getD i false = true ↔ False := by
    intro i; simp [Array.getD_eq_getD_getElem?, Array.getElem?_replicate]; split <;> rfl
  refine ⟨fun t j o hj => ((hf j).1 hj).elim, fun t _ => by rw [h0], fun k => ⟨0, Nat.zero_le _, by rw [h0], fun j o _ _ => ⟨fun hj => ((hf j).1 hj).elim, fun hj => by omega⟩⟩, fun j o hj => ((hf j).1 hj).elim, fun t tc w v hg => ?_⟩
  have := hn t _ hg
  simp [AV.isGrd] at this
end Go.Ab
