/- A call that hands back one object more than it was handed: a pointer to a new one. A string's iterator, sound. Maps of the model: a key that is a scalar, a struct or an array of scalars is found by its cells. Maps, sound: making one, a look-up, a store. One operation of a region, sound. Regions that run in the order of the text. What an operation of a region depends on. What an operation of a region depends on: calls, guards. A region whose order is drawn: every order leaves what the order of the text leaves. A call that is handed objects in which no keys stand: it asks for those alone, and it turns those alone. A region whose order is drawn: the order does not count. A region whose order is drawn, sound. The head of a loop. Code, sound. -/
import Derived.Test.YtmdjcnklhffnbaaGreatDoorX2
import Derived.Laws.RangeString
import Derived.Laws.StructEq
import Derived.ChangeKeysEq
import Derived.MapKept
import Derived.WideKeyRuns
import Derived.Orders
import Derived.Scope
namespace Go.Ab
open Go Go.RowKit
variable {P : Program} {B : Base} {c : Cx} {s : St} {a : Act}
/-- A call of which the callee's contract is known, and which makes objects: what the caller sees; ds are the new objects' keys. -/
theorem call_new (h : Rel B c s a) {f : FuncId} {ks : List Nat} (hn : ks.Nodup) {os os' : List AO} (hos : getObjs s.objs ks = some os) (hcl : ∀ q ∈ objKeys s.objs ks, q ∈ ks)
    {l : List AV} {xs : List Value} (hl : SeesL B c s l xs) (hlk : ∀ q ∈ keysL l, q ∈ ks) {r : AV}
    (hok : CallOk P B.G f (renL (fun k => keyBase + idxOf ks k 0) l) (os.map (AO.ren fun k => keyBase + idxOf ks k 0)) r os') {ds : List Nat} (hnds : ds.Nodup) (hd : ∀ d ∈ ds, alook s.objs d = none) (hlen : os'.length = ks.length + ds.length) :
    Calls P f xs.toArray c.w fun e w' => ∃ c2 x, e = .returned x ∧ c2.w = w' ∧ Rel B c2 (s.with (putObjs s.objs (ks ++ ds) (os'.map (AO.ren fun k => nthD (ks ++ ds) (k - keyBase))))) a ∧
      Sees B c2 (s.with (putObjs s.objs (ks ++ ds) (os'.map (AO.ren fun k => nthD (ks ++ ds) (k - keyBase))))) (r.ren fun k => nthD (ks ++ ds) (k - keyBase)) x := by
  obtain ⟨hol, hoo⟩ := getObjs_spec hos
  let fwd := fun k => keyBase + idxOf ks k 0
  let bwd := fun k => nthD ks (k - keyBase)
  have hfb : ∀ k ∈ ks, bwd (fwd k) = k := fun k hk => by
    show nthD ks (keyBase + idxOf ks k 0 - keyBase) = k
    rw [Nat.add_sub_cancel_left]; exact nthD_spec (idxOf_spec 0 hk)
  have hbf : ∀ i k, ks[i]? = some k → bwd (keyBase + i) = k ∧ fwd k = keyBase + i := fun i k hk =>
    ⟨by show nthD ks (keyBase + i - keyBase) = k; rw [Nat.add_sub_cancel_left]; exact nthD_spec hk, by show keyBase + idxOf ks k 0 = _; rw [idx_eq hn hk]⟩
  -- the callee's context
  let c0 : Cx := { w := c.w, I := c.I, β := fun q => c.β (bwd q), κ := fun q => c.κ (bwd q), fr := fun q => c.fr (bwd q) }
  have hβ0 : ∀ k ∈ ks, c0.β (fwd k) = c.β k := fun k hk => by show c.β (bwd (fwd k)) = _; rw [hfb k hk]
  have hκ0 : ∀ k ∈ ks, c0.κ (fwd k) = c.κ k := fun k hk => by show c.κ (bwd (fwd k)) = _; rw [hfb k hk]
  have hf0 : ∀ k ∈ ks, c0.fr (fwd k) = c.fr k := fun k hk => by show c.fr (bwd (fwd k)) = _; rw [hfb k hk]
  have hown0 : ∀ k ∈ ks, ∀ n y, OwnRep c (.key k) n y → OwnRep c0 (.key (fwd k)) n y := fun k hk n y => by simp only [OwnRep, hκ0 k hk, hf0 k hk]; exact id
  have hfwd : ∀ k ∈ ks, c0.β (fwd k) = c.β k ∧ ∀ n y, OwnRep c (.key k) n y → OwnRep c0 (.key (fwd k)) n y := fun k hk => ⟨hβ0 k hk, hown0 k hk⟩
  have hlook : ∀ q o, alook (enterObjs (os.map (AO.ren fwd)) keyBase) q = some o → ∃ k o0, k ∈ ks ∧ q = fwd k ∧ alook s.objs k = some o0 ∧ o = o0.ren fwd := by
    intro q o hq
    rw [alook_enter] at hq
    by_cases hb : keyBase ≤ q
    · rw [if_pos hb, List.getElem?_map] at hq
      cases hi : os[q - keyBase]? with
      | none => simp [hi] at hq
      | some o0 =>
        simp [hi] at hq; subst hq
        have hlt := (List.getElem?_eq_some_iff.1 hi).1
        have hk : ks[q - keyBase]? = some (ks[q - keyBase]'(by omega)) := List.getElem?_eq_getElem _
        refine ⟨_, o0, List.mem_of_getElem? hk, ?_, by rw [(hoo _ _ hk).1, hi], rfl⟩
        rw [(hbf _ _ hk).2]; omega
    · rw [if_neg hb] at hq; simp at hq
  have hlook' : ∀ k ∈ ks, ∃ o0, alook s.objs k = some o0 ∧ alook (enterObjs (os.map (AO.ren fwd)) keyBase) (fwd k) = some (o0.ren fwd) := by
    intro k hk
    have hi := idxOf_spec 0 hk
    obtain ⟨h1, o0, h2⟩ := hoo _ _ hi
    refine ⟨o0, h2, ?_⟩
    rw [alook_enter, if_pos (Nat.le_add_right _ _)]
    show (os.map (AO.ren fwd))[keyBase + idxOf ks k 0 - keyBase]? = _
    rw [Nat.add_sub_cancel_left, List.getElem?_map, ← h1, h2]; rfl
  have hO0 : Objs c0 (enterObjs (os.map (AO.ren fwd)) keyBase) := by
    refine ⟨fun q o hq => ?_, fun q o q' o' b hq hq' hne hb => ?_, fun q o hq r hr => ?_⟩
    · obtain ⟨k, o0, hk, rfl, h1, rfl⟩ := hlook q o hq
      exact (h.objs.rep k o0 h1).ren rfl rfl (hβ0 k hk) (hκ0 k hk) (hf0 k hk) fun q hq => hfwd q (hcl q (objKeys_mem hk h1 q hq))
    · obtain ⟨k, o0, hk, rfl, h1, rfl⟩ := hlook q o hq
      obtain ⟨k', o0', hk', rfl, h1', rfl⟩ := hlook q' o' hq'
      rw [excl_ren (hβ0 k hk) (hκ0 k hk)] at hb
      rw [excl_ren (hβ0 k' hk') (hκ0 k' hk')]
      exact h.objs.apart k o0 k' o0' b h1 h1' (fun e => hne (by rw [e])) hb
    · obtain ⟨k, o0, hk, rfl, h1, rfl⟩ := hlook q o hq
      obtain ⟨q', hq', rfl⟩ := AO.ren_keys _ _ r hr
      obtain ⟨_, _, e⟩ := hlook' q' (hcl q' (objKeys_mem hk h1 q' hq'))
      exact ⟨_, e⟩
  have hG0 : Good B.G c0 := ⟨h.good.there, fun g cs hg => (h.good.globs g cs hg).ext (ks := fun _ => False) ⟨fun _ _ _ _ hv => hv, fun _ _ hi => hi, fun _ hk => hk.elim, fun _ hk => hk.elim⟩ (by simp [AV.keys])⟩
  have hcall := hok
  have hfn := hl.fn
  refine (hcall c0 xs.toArray hG0 hO0 (by rw [renL_length]; exact hfn.1) (fun i u hu => ?_) (fun k hk => ?_)).mono ?_
  · rw [renL_get] at hu
    cases hi : l[i]? with
    | none => simp [hi] at hu
    | some u' => simp [hi] at hu; subst hu; exact Rep.ren (c := c) (c' := c0) (m := fwd) (fun _ _ _ _ hv => hv) (fun _ _ hi => hi) (hfn.2.1 i u' hi) fun q hq => hfwd q (hlk q (keys_mem_of hi q hq))
  · obtain ⟨q, hq, rfl⟩ := renL_keys _ _ k hk
    obtain ⟨_, _, e⟩ := hlook' q (hlk q hq)
    exact ⟨_, e⟩
  -- the way back
  rintro e w' ⟨c', x, he, hw', hG', hF', hO', hr', hrk, hmine⟩
  have hheld : ∀ b, held c0 (enterObjs (os.map (AO.ren fwd)) keyBase) b → ∃ k o, k ∈ ks ∧ alook s.objs k = some o ∧ excl c k o = some b := by
    rintro b ⟨q, o, hq, hb⟩
    obtain ⟨k, o0, hk, rfl, h1, rfl⟩ := hlook q o hq
    exact ⟨k, o0, hk, h1, by rw [← excl_ren (hβ0 k hk) (hκ0 k hk)]; exact hb⟩
  have hK : ∀ k ∈ ks, live (enterObjs (os.map (AO.ren fwd)) keyBase) (fwd k) := fun k hk => by obtain ⟨_, _, e⟩ := hlook' k hk; exact ⟨_, e⟩
  have hlow : ∀ b, b < B.c0.w.heap.size → ¬ B.D b → b < c0.w.heap.size ∧ ¬ held c0 (enterObjs (os.map (AO.ren fwd)) keyBase) b := by
    intro b hb hd
    refine ⟨Nat.lt_of_lt_of_le hb h.frame.size, fun hh => ?_⟩
    obtain ⟨k, o, _, h1, h2⟩ := hheld b hh
    rcases h.mine k o b h1 h2 with h3 | h3
    · omega
    · exact hd h3
  -- the keys with the new one
  have hdk : ∀ d ∈ ds, d ∉ ks := fun d hdd hk => by
    obtain ⟨_, o, e⟩ := hoo _ _ (idxOf_spec 0 hk)
    rw [hd d hdd] at e; cases e
  let kt := ks ++ ds
  have hnt : kt.Nodup := List.nodup_append.2 ⟨hn, hnds, fun x hx y hy => fun e => hdk y hy (e ▸ hx)⟩
  let fwd2 := fun k => keyBase + idxOf kt k 0
  let bwd2 := fun k => nthD kt (k - keyBase)
  have hfb2 : ∀ k ∈ kt, bwd2 (fwd2 k) = k := fun k hk => by
    show nthD kt (keyBase + idxOf kt k 0 - keyBase) = k
    rw [Nat.add_sub_cancel_left]; exact nthD_spec (idxOf_spec 0 hk)
  have hbf2 : ∀ i k, kt[i]? = some k → bwd2 (keyBase + i) = k ∧ fwd2 k = keyBase + i := fun i k hk =>
    ⟨by show nthD kt (keyBase + i - keyBase) = k; rw [Nat.add_sub_cancel_left]; exact nthD_spec hk, by show keyBase + idxOf kt k 0 = _; rw [idx_eq hnt hk]⟩
  have hff : ∀ k ∈ ks, fwd2 k = fwd k := fun k hk => by
    have h1 := idxOf_spec 0 hk
    have h2 : kt[idxOf ks k 0]? = some k := by
      have := (List.getElem?_eq_some_iff.1 h1).1
      show (ks ++ ds)[idxOf ks k 0]? = some k
      rw [List.getElem?_append_left this]; exact h1
    show keyBase + idxOf kt k 0 = keyBase + idxOf ks k 0
    rw [idx_eq hnt h2]
  have hkt : ∀ k, k ∈ kt → k ∉ ds → k ∈ ks := fun k hk hne => by
    rcases List.mem_append.1 hk with h | h
    · exact h
    · exact absurd h hne
  have hlt2 : kt.length = ks.length + ds.length := by show (ks ++ ds).length = _; simp
  have hnd : ∀ k, k ∉ kt → k ∉ ds := fun k hk e => hk (List.mem_append.2 (.inr e))
  have hnk : ∀ k, k ∉ kt → k ∉ ks := fun k hk h => hk (List.mem_append.2 (.inl h))
  classical
  let c2 : Cx := { w := c'.w, I := c'.I, β := fun q => if q ∈ ds then c'.β (fwd2 q) else c.β q, κ := fun q => if q ∈ kt then c'.κ (fwd2 q) else c.κ q, fr := fun q => if q ∈ kt then c'.fr (fwd2 q) else c.fr q }
  have hκ2 : ∀ k ∈ kt, c2.κ k = c'.κ (fwd2 k) := fun k hk => if_pos hk
  have hf2 : ∀ k ∈ kt, c2.fr k = c'.fr (fwd2 k) := fun k hk => if_pos hk
  have hκn : ∀ k, k ∉ kt → c2.κ k = c.κ k := fun k hk => if_neg hk
  have hfn2 : ∀ k, k ∉ kt → c2.fr k = c.fr k := fun k hk => if_neg hk
  have hβn : ∀ k, k ∉ ds → c2.β k = c.β k := fun k hk => if_neg hk
  have hβ2 : ∀ k ∈ kt, c2.β k = c'.β (fwd2 k) := fun k hk => by
    by_cases e : k ∈ ds
    · exact if_pos e
    · have hk' := hkt k hk e
      rw [hβn k e, hff k hk', hF'.ext.β (fwd k) (hK k hk')]; exact (hβ0 k hk').symm
  have hown2 : ∀ k ∈ kt, ∀ n y, OwnRep c' (.key (fwd2 k)) n y → OwnRep c2 (.key k) n y := fun k hk n y => by simp only [OwnRep, hκ2 k hk, hf2 k hk]; exact id
  have hext : Ext c c2 (live s.objs) := by
    refine ⟨hF'.ext.cell, hF'.ext.I, fun k hk => hβn k (fun e => by obtain ⟨o, ho⟩ := hk; rw [hd k e] at ho; cases ho), fun k hl n y hy => ?_⟩
    by_cases hk : k ∈ kt
    · have hk' := hkt k hk (fun e => by obtain ⟨o, ho⟩ := hl; rw [hd k e] at ho; cases ho)
      exact hown2 k hk n y (by rw [hff k hk']; exact hF'.ext.own (fwd k) (hK k hk') n y (hown0 k hk' n y hy))
    · simp only [OwnRep, hκn k hk, hfn2 k hk]; exact hy
  have hgrow : Grow B c c2 := ⟨hF'.os, hF'.output, hF'.tape, hF'.size, fun b hb hd => hF'.block b (hlow b hb hd).1 (hlow b hb hd).2,
    fun b o hb hd hi => hF'.new b o (hlow b hb hd).1 (hlow b hb hd).2 hi, hG'.there⟩
  -- lookups after the call
  have hput : ∀ k, alook (putObjs s.objs kt (os'.map (AO.ren bwd2))) k = if k ∈ kt then (os'.map (AO.ren bwd2))[idxOf kt k 0]? else alook s.objs k := alook_putObjs hnt (by simp [hlen, hlt2])
  have hin : ∀ k ∈ kt, ∃ o', alook (enterObjs os' keyBase) (fwd2 k) = some o' ∧ alook (putObjs s.objs kt (os'.map (AO.ren bwd2))) k = some (o'.ren bwd2) := by
    intro k hk
    have hi := idxOf_spec 0 hk
    have hlt := (List.getElem?_eq_some_iff.1 hi).1
    have ho : os'[idxOf kt k 0]? = some (os'[idxOf kt k 0]'(by omega)) := List.getElem?_eq_getElem _
    refine ⟨os'[idxOf kt k 0]'(by omega), ?_, ?_⟩
    · rw [alook_enter, if_pos (Nat.le_add_right _ _)]
      show os'[keyBase + idxOf kt k 0 - keyBase]? = _
      rw [Nat.add_sub_cancel_left]; exact ho
    · rw [hput, if_pos hk, List.getElem?_map, ho]; rfl
  have hback : ∀ q, live (enterObjs os' keyBase) q → bwd2 q ∈ kt ∧ fwd2 (bwd2 q) = q := by
    rintro q ⟨o, hq⟩
    rw [alook_enter] at hq
    by_cases hb : keyBase ≤ q
    · rw [if_pos hb] at hq
      have hlt := (List.getElem?_eq_some_iff.1 hq).1
      have hk : kt[q - keyBase]? = some (kt[q - keyBase]'(by omega)) := List.getElem?_eq_getElem _
      have := hbf2 _ _ hk
      rw [Nat.add_sub_cancel' hb] at this
      rw [this.1]
      exact ⟨List.mem_of_getElem? hk, this.2⟩
    · rw [if_neg hb] at hq; simp at hq
  have hbwd : ∀ q, live (enterObjs os' keyBase) q → c2.β (bwd2 q) = c'.β q ∧ ∀ n y, OwnRep c' (.key q) n y → OwnRep c2 (.key (bwd2 q)) n y := by
    intro q hq
    obtain ⟨h1, h2⟩ := hback q hq
    refine ⟨by rw [hβ2 _ h1, h2], fun n y hy => hown2 _ h1 n y (by rw [h2]; exact hy)⟩
  have hlive : ∀ k, live s.objs k → live (putObjs s.objs kt (os'.map (AO.ren bwd2))) k := by
    rintro k ⟨o, ho⟩
    by_cases hk : k ∈ kt
    · obtain ⟨_, _, e⟩ := hin k hk; exact ⟨_, e⟩
    · exact ⟨o, by rw [hput, if_neg hk]; exact ho⟩
  have hcases : ∀ k o, alook (putObjs s.objs kt (os'.map (AO.ren bwd2))) k = some o → (k ∈ kt ∧ ∃ o', alook (enterObjs os' keyBase) (fwd2 k) = some o' ∧ o = o'.ren bwd2 ∧ excl c2 k o = excl c' (fwd2 k) o') ∨ (k ∉ kt ∧ alook s.objs k = some o ∧ excl c2 k o = excl c k o) := by
    intro k o ho
    by_cases hk : k ∈ kt
    · obtain ⟨o', e1, e2⟩ := hin k hk
      rw [e2] at ho; cases ho
      exact .inl ⟨hk, o', e1, rfl, excl_ren (hβ2 k hk) (hκ2 k hk)⟩
    · rw [hput, if_neg hk] at ho
      exact .inr ⟨hk, ho, excl_same (hβn k (hnd k hk)) (hκn k hk)⟩
  have hout : ∀ k k' o' o b, k ∈ kt → alook (enterObjs os' keyBase) (fwd2 k) = some o' → k' ∉ kt → alook s.objs k' = some o → excl c' (fwd2 k) o' = some b → excl c k' o ≠ some b := by
    intro k k' o' o b hk h1 hk' h2 hb hb'
    rcases hmine _ _ b h1 hb with h3 | h3
    · have := excl_lt (h.objs.rep k' o h2) hb'
      have : c0.w.heap.size = c.w.heap.size := rfl
      omega
    · obtain ⟨k'', o'', h4, h5, h6⟩ := hheld b h3
      exact h.objs.apart k'' o'' k' o b h5 h2 (fun e => hnk _ hk' (e ▸ h4)) h6 hb'
  have hO2 : Objs c2 (putObjs s.objs kt (os'.map (AO.ren bwd2))) := by
    refine ⟨fun k o ho => ?_, fun k o k' o' b ho ho' hne hb => ?_, fun k o ho q hq => ?_⟩
    · rcases hcases k o ho with ⟨hk, o', e1, rfl, _⟩ | ⟨hk, e1, _⟩
      · exact (hO'.rep _ o' e1).ren rfl rfl (hβ2 k hk) (hκ2 k hk) (hf2 k hk) fun q hq => hbwd q (hO'.closed _ o' e1 q hq)
      · refine h.objs.rep_keep' hext e1 (hβn k (hnd k hk)) (hκn k hk) (hfn2 k hk) fun b hb => ?_
        have hlt := excl_lt (h.objs.rep k o e1) hb
        have hnh : ¬ held c0 (enterObjs (os.map (AO.ren fwd)) keyBase) b := fun hh => by
          obtain ⟨k'', o'', h4, h5, h6⟩ := hheld b hh
          exact h.objs.apart k'' o'' k o b h5 e1 (fun e => hnk _ hk (e ▸ h4)) h6 hb
        exact ⟨hF'.block b hlt hnh, fun off hi => hF'.new b off hlt hnh hi⟩
    · rcases hcases k o ho with ⟨hk, o1, e1, rfl, e2⟩ | ⟨hk, e1, e2⟩ <;> rcases hcases k' o' ho' with ⟨hk', o1', e1', rfl, e2'⟩ | ⟨hk', e1', e2'⟩
      · rw [e2'] ; rw [e2] at hb
        exact hO'.apart _ _ _ _ b e1 e1' (fun e => hne (by rw [← hfb2 k hk, e, hfb2 k' hk'])) hb
      · rw [e2']; rw [e2] at hb
        exact hout k k' o1 o' b hk e1 hk' e1' hb
      · rw [e2']; rw [e2] at hb
        exact fun hb' => hout k' k o1' o b hk' e1' hk e1 hb' hb
      · rw [e2']; rw [e2] at hb
        exact h.objs.apart k o k' o' b e1 e1' hne hb
    · rcases hcases k o ho with ⟨hk, o', e1, rfl, _⟩ | ⟨hk, e1, _⟩
      · obtain ⟨q', hq', rfl⟩ := AO.ren_keys _ _ q hq
        obtain ⟨_, _, e⟩ := hin _ (hback q' (hO'.closed _ o' e1 q' hq')).1
        exact ⟨_, e⟩
      · exact hlive q (h.objs.closed k o e1 q hq)
  refine ⟨c2, x, he, hw', ⟨h.good.grow hext hgrow, h.frame.grow hext hgrow h.kept, hO2, fun t v hv => (h.env t v hv).ext hext (h.closed t v hv),
    fun t v hv k hk => hlive k (h.closed t v hv k hk), fun k o b ho hb => ?_, h.tmps, h.defers, fun k hk => hlive k (h.kept k hk)⟩, ⟨?_, ?_, ?_⟩⟩
  · rcases hcases k o ho with ⟨hk, o', e1, rfl, e2⟩ | ⟨hk, e1, e2⟩
    · rw [e2] at hb
      rcases hmine _ _ b e1 hb with h3 | h3
      · exact .inl (Nat.le_trans h.frame.size h3)
      · obtain ⟨k'', o'', h4, h5, h6⟩ := hheld b h3
        exact h.mine k'' o'' b h5 h6
    · rw [e2] at hb; exact h.mine k o b e1 hb
  · exact Rep.ren (c := c') (c' := c2) (m := bwd2) (fun _ _ _ _ hv => hv) (fun _ _ hi => hi) hr' fun q hq => hbwd q (hrk q hq)
  · intro k hk
    obtain ⟨q, hq, rfl⟩ := ren_keys _ _ k hk
    obtain ⟨_, _, e⟩ := hin _ (hback q (hrk q hq)).1
    exact ⟨_, e⟩
  · cases hr' with
    | slNil o => cases o <;> rfl
    | sl o => cases o <;> rfl
    | _ => rfl
end Go.Ab

namespace Go.Ab
open Go Go.RowKit
variable {P : Program} {B : Base} {c : Cx} {s : St} {a : Act}

/-- A new object of the model's, key k's. -/
def Cx.obj (c : Cx) (k : Nat) (ob : Obj) : Cx :=
  { c with w := c.w.alloc ob, β := fun q => if q = k then c.w.heap.size else c.β q, fr := fun q => if q = k then none else c.fr q }
theorem Cx.obj_keeps {G : Nat → Option (List AV)} {c : Cx} (hg : Good G c) {objs : List (Nat × AO)} (ho : Objs c objs) {k : Nat} (hk : alook objs k = none) (ob : Obj) : KeepsBut c (c.obj k ob) objs k := by
  refine ⟨ext_alloc hg rfl (fun _ _ h => h) (fun q hq => by simp [Cx.obj, live_ne hk hq]) (fun _ _ => rfl) (fun q hq => by simp [Cx.obj, live_ne hk hq]), fun q _ hne => by simp [Cx.obj, hne], fun _ _ _ => rfl, fun q _ hne => by simp [Cx.obj, hne], fun q o b hq _ hb => ?_⟩
  exact ⟨heap_alloc_lt _ _ _ (excl_lt (ho.rep q o hq) hb), fun _ h => h⟩
theorem Cx.obj_grow {B : Base} {c : Cx} (hg : Good B.G c) (hf : Frame B c) (k : Nat) (ob : Obj) : Grow B c (c.obj k ob) := by
  refine ⟨rfl, rfl, rfl, by simp [Cx.obj], fun b hb _ => heap_alloc_lt _ _ _ (Nat.lt_of_lt_of_le hb hf.size), fun b o hb _ hi => hi, fun b o hi => ?_⟩
  obtain ⟨v, hv⟩ := hg.there b o hi
  exact ⟨v, by show (c.w.alloc _).cell? _ = _; rw [World.cell?_block (heap_alloc_lt c.w _ b (lt_of_cell hv))]; exact hv⟩

theorem range_sound (h : Rel B c s a) {k : Nat} (hk : s.obj k = none) {t : TypeId} (ht : P.underlying t = some .string) (b : List UInt8) :
    ∃ x c', (Instr.range t (.string ⟨b.toArray⟩)).run P c.w = .ok x c'.w ∧ Rel B c' (s.setObj k (.iter b 0)) a ∧ Sees B c' (s.setObj k (.iter b 0)) (.ref k 0) x := by
  refine ⟨.pointer (some ⟨c.w.heap.size, 0, none⟩), c.obj k (.stringIter ⟨b.toArray⟩ 0), run_range_string c.w t _ ht, ?_, ?_⟩
  · refine h.obj (Cx.obj_keeps h.good h.objs hk _) (Cx.obj_grow h.good h.frame k _) ⟨?_, fun o hi => ?_, by simp [Cx.obj]⟩ (fun q o' b' hq hne hb => ?_) (fun r hr => by simp [AO.keys] at hr) (fun b' hb => ?_)
    · simp only [Cx.obj, if_true]; exact heap_alloc_eq c.w _
    · simp only [Cx.obj, if_true] at hi
      obtain ⟨v, hv⟩ := h.good.there _ _ hi
      have := lt_of_cell hv
      omega
    · simp only [excl, Cx.obj, if_true]
      have := excl_lt (h.objs.rep q o' hq) hb
      intro e
      have := Option.some.inj e
      omega
    · simp only [excl, Cx.obj, if_true] at hb
      have := Option.some.inj hb
      have := h.frame.size
      left; omega
  · refine ⟨?_, fun q hq => ?_, rfl⟩
    · have := Rep.ref (c := c.obj k (.stringIter ⟨b.toArray⟩ 0)) k 0
      simpa [Cx.obj] using this
    · simp [AV.keys] at hq; subst hq; exact live_aput_self

theorem run_next (w : World) (r : Nat) (b : ByteArray) (pos : Nat) (ty : TypeId) (hb : w.heap[r]? = some (.stringIter b pos)) :
    (Instr.next (.pointer (some ⟨r, 0, none⟩)) true ty).run P w = if pos < b.size then .ok (.tuple #[.bool true, .int .i64 pos, .int .i32 (Utf8.decode b pos).1]) { w with heap := w.heap.setIfInBounds r (.stringIter b (pos + (Utf8.decode b pos).2)) } else .ok (.tuple #[.bool false]) w := by
  by_cases h : pos < b.size
  · simp [Instr.next, getObj, setObj, Sem.run_bind, Sem.run, hb, Result.andThen, h, goInt]
  · simp [Instr.next, getObj, Sem.run, hb, h]

theorem next_sound (h : Rel B c s a) {k : Nat} {b : List UInt8} {pos : Nat} (hk : s.obj k = some (.iter b pos)) {x : Value} (hx : Rep c (.ref k 0) x) (ty : TypeId) :
    ∃ y c', (Instr.next x true ty).run P c.w = .ok y c'.w ∧ Rel B c' (s.setObj k (.iter b (cond (Nat.blt pos b.length) (nextP b pos) pos))) a ∧
      Sees B c' (s.setObj k (.iter b (cond (Nat.blt pos b.length) (nextP b pos) pos))) (cond (Nat.blt pos b.length) (nextV b pos) (.tup [.bool false])) y := by
  cases hx
  obtain ⟨hh, hI, hfr⟩ := h.objs.rep k _ hk
  have hexcl : excl c k (.iter b pos) = some (c.β k) := rfl
  have hsz : (ByteArray.mk b.toArray).size = b.length := by simp [ByteArray.size]
  have put : ∀ (p : Nat) (w' : World), Wrote c (c.β k) w' → w'.heap[c.β k]? = some (.stringIter ⟨b.toArray⟩ p) → Rel B (c.write w') (s.setObj k (.iter b p)) a := by
    intro p w' hw hq
    refine h.obj (Cx.write_keeps h.objs hk hexcl hI hw) (Cx.write_grow h.good hI hw (h.mine k _ _ hk hexcl)) ⟨hq, hI, hfr⟩ (fun q o' b' hq hne hb => ?_) (fun r hr => by simp [AO.keys] at hr) (fun b' hb => h.mine k _ b' hk hb)
    intro e
    exact h.objs.apart q o' k _ b' hq hk hne hb e
  have hrun := run_next (P := P) c.w (c.β k) ⟨b.toArray⟩ pos ty hh
  rw [hsz] at hrun
  by_cases hp : pos < b.length
  · rw [if_pos hp] at hrun
    have hb : Nat.blt pos b.length = true := bltT hp
    rw [hb]
    simp only [cond_true]
    refine ⟨_, c.write { c.w with heap := c.w.heap.setIfInBounds (c.β k) (.stringIter ⟨b.toArray⟩ (nextP b pos)) }, hrun, put _ _ ⟨rfl, rfl, rfl, by simp, fun b' hne => ?_⟩ ?_, ⟨?_, fun q hq => by simp [nextV, AV.keys, keysL] at hq, rfl⟩⟩
    · simp only [Array.getElem?_setIfInBounds]; rw [if_neg (fun e => hne e.symm)]
    · simp [lt_of_heap hh]
    · refine .tup _ _ rfl fun i u hu => ?_
      match i with
      | 0 => simp at hu; subst hu; exact .bool _
      | 1 => simp at hu; subst hu; exact .int _ _
      | 2 => simp at hu; subst hu; exact .int _ _
      | i + 3 => simp at hu
  · rw [if_neg hp] at hrun
    have hb : Nat.blt pos b.length = false := by
      cases e : Nat.blt pos b.length with
      | false => rfl
      | true => exact absurd (ltB e) hp
    rw [hb]
    simp only [cond_false]
    refine ⟨_, c.write c.w, hrun, put _ _ ⟨rfl, rfl, rfl, rfl, fun _ _ => rfl⟩ hh, ⟨?_, fun q hq => by simp [AV.keys, keysL] at hq, rfl⟩⟩
    refine .tup _ _ rfl fun i u hu => ?_
    match i with
    | 0 => simp at hu; subst hu; exact .bool _
    | i + 1 => simp at hu
end Go.Ab

namespace Go.Ab
open Go
set_option linter.unusedVariables false
set_option linter.unusedSimpArgs false

section
variable {P : Program} (w : World)
/-- The first entry of a key, from place i on. -/
def findC (l : List AV) : List (List AV × Value) → Nat → Option (Nat × Value)
  | [], _ => none
  | (k, v) :: r, i => cond (eqCs l k) (some (i, v)) (findC l r (i + 1))
theorem run_findAsking_key {t : TypeId} {ka : Bool} {ks : List KD} (h : keyT P t = some (ka, ks)) {l : List AV} (h1 : kdFits ks l = true) : ∀ (es : List MapEntry) (ms : List (List AV × Value)) (i : Nat), es.map (fun e => (e.key, e.val)) = ms.map (fun m => (keyV ka m.1, m.2)) → (∀ m ∈ ms, kdFits ks m.1 = true) →
    (Instr.findAsking t (keyV ka l) es i).run P w = .ok (findC l ms i) w
  | [], [], i, _, _ => by simp [Instr.findAsking, findC]
  | [], _ :: _, _, h, _ => by simp at h
  | _ :: _, [], _, h, _ => by simp at h
  | e :: es, m :: ms, i, he, hm => by
    simp only [List.map_cons, List.cons.injEq, Prod.mk.injEq] at he
    have hq := run_equal_key w h h1 (hm m (List.mem_cons_self ..))
    have ih := run_findAsking_key h h1 es ms (i + 1) he.2 fun x hx => hm x (List.mem_cons_of_mem _ hx)
    obtain ⟨k, v⟩ := m
    simp only [Instr.findAsking, Sem.run_bind, he.1.1, hq, Result.andThen_ok, findC]
    cases eqCs l k with
    | true => simp [he.1.2]
    | false => simpa using ih
theorem findNow_kd {t : TypeId} {k : KD} (h : kdOf P t = some k) {u : AV} (h1 : k.fits u = true) {e : TypeDesc} (hu : P.underlying t = some e) : ∀ (es : List MapEntry) (ms : List (List AV × Value)) (i : Nat), es.map (fun e => (e.key, e.val)) = ms.map (fun m => (keyV false m.1, m.2)) → (∀ m ∈ ms, kdFits [k] m.1 = true) →
    Instr.findNow e (valC u) es i = some (findC [u] ms i)
  | [], [], i, _, _ => by simp [Instr.findNow, findC]
  | [], _ :: _, _, h, _ => by simp at h
  | _ :: _, [], _, h, _ => by simp at h
  | x :: es, m :: ms, i, he, hm => by
    simp only [List.map_cons, List.cons.injEq, Prod.mk.injEq] at he
    have ih := findNow_kd h h1 hu es ms (i + 1) he.2 fun x hx => hm x (List.mem_cons_of_mem _ hx)
    obtain ⟨l, v⟩ := m
    have hm0 := hm (l, v) (List.mem_cons_self ..)
    match l, hm0, he with
    | [q], hm0, he =>
      simp only [kdFits, Bool.and_true] at hm0
      obtain ⟨e', he', hs⟩ := sameNow_kd h h1 hm0
      rw [hu] at he'
      obtain rfl := Option.some.inj he'
      have hkey : x.key = valC q := he.1.1
      simp only [Instr.findNow, hkey, hs, findC, eqCs, Bool.and_true]
      cases eqC u q with
      | true => simp [he.1.2]
      | false => simpa using ih
    | [], hm0, _ => simp [kdFits] at hm0
    | _ :: _ :: _, hm0, _ => simp [kdFits] at hm0
theorem run_findKey_key {t : TypeId} {ka : Bool} {ks : List KD} (h : keyT P t = some (ka, ks)) {l : List AV} (h1 : kdFits ks l = true) (es : List MapEntry) (ms : List (List AV × Value)) (he : es.map (fun e => (e.key, e.val)) = ms.map (fun m => (keyV ka m.1, m.2))) (hm : ∀ m ∈ ms, kdFits ks m.1 = true) :
    (Instr.findKey t (keyV ka l) es).run P w = .ok (findC l ms 0) w := by
  have h0 := h
  unfold keyT at h0
  split at h0
  · rename_i fs hu
    rw [run_findKey_eq w (k := t) (by rw [hu])]
    exact run_findAsking_key w h h1 es ms 0 he hm
  · rename_i n e hu
    rw [run_findKey_eq w (k := t) (by rw [hu])]
    exact run_findAsking_key w h h1 es ms 0 he hm
  · obtain ⟨k, hk, h0⟩ := Option.map_eq_some_iff.1 h0
    simp only [Prod.mk.injEq] at h0
    obtain ⟨rfl, rfl⟩ := h0
    match l, h1 with
    | [u], h1 =>
      simp only [kdFits, Bool.and_true] at h1
      obtain ⟨e, hu, _⟩ := sameNow_kd hk h1 h1
      exact MapKept.run_findKey (P := P) (w := w) hu (findNow_kd hk h1 hu es ms 0 he hm)
    | [], h1 => simp [kdFits] at h1
    | _ :: _ :: _, h1 => simp [kdFits] at h1
theorem run_checkKey_key {t : TypeId} {ka : Bool} {ks : List KD} (h : keyT P t = some (ka, ks)) {l : List AV} (h1 : kdFits ks l = true) (em : Bool) (n : Nat) : (Instr.checkKey em (n + 2) t (keyV ka l)).run P w = .ok () w := by
  have hsc : ∀ {t : TypeId} {k : KD} (hk : kdOf P t = some k) {u : AV} (hu : k.fits u = true), (Instr.checkKey em (n + 1) t (valC u)).run P w = .ok () w := by
    intro t k hk u hu
    unfold kdOf at hk
    cases ht : P.underlying t with
    | none => simp [ht] at hk
    | some e =>
      cases e <;> simp [ht] at hk
      all_goals simp [Instr.checkKey, run_underlying ht]
  have hsc2 : ∀ {t : TypeId} {k : KD} (hk : kdOf P t = some k) {u : AV} (hu : k.fits u = true), (Instr.checkKey em (n + 2) t (valC u)).run P w = .ok () w := by
    intro t k hk u hu
    unfold kdOf at hk
    cases ht : P.underlying t with
    | none => simp [ht] at hk
    | some e =>
      cases e <;> simp [ht] at hk
      all_goals simp [Instr.checkKey, run_underlying ht]
  have h0 := h
  unfold keyT at h0
  split at h0
  · rename_i fs hu
    obtain ⟨_, h0⟩ : (!P.stoodInHeld t) = true ∧ (kdsFields P 0 fs.toList).map (fun l => (true, l)) = some (ka, ks) := by
      cases hb : (!P.stoodInHeld t) with
      | false => rw [hb] at h0; simp [guardO] at h0
      | true => rw [hb] at h0; exact ⟨rfl, by simpa [guardO] using h0⟩
    obtain ⟨r, hr, h0⟩ := Option.map_eq_some_iff.1 h0
    simp only [Prod.mk.injEq] at h0
    obtain ⟨rfl, rfl⟩ := h0
    show (Instr.checkKey em (n + 1 + 1) t (.agg (valsC l))).run P w = _
    unfold Instr.checkKey
    simp only [Sem.run_bind, run_underlying hu, Result.andThen_ok]
    rw [← Array.forIn_toList]
    have key : ∀ (fs : List Field) (i : Nat) (ks : List KD) (pre l : List AV), kdsFields P i fs = some ks → kdFits ks l = true → pre.length = i →
        (forIn fs PUnit.unit fun f (_ : PUnit) => (if f.name ≠ "_" then do Instr.checkKey em (n + 1) f.type (← part f.type (valsC (pre ++ l)) f.offset); pure (ForInStep.yield PUnit.unit) else pure (ForInStep.yield PUnit.unit) : Sem (ForInStep PUnit))).run P w = .ok PUnit.unit w := by
      intro fs
      induction fs with
      | nil => intros; simp
      | cons f fs ih =>
        intro i ks pre l h h1 e1
        simp only [kdsFields] at h
        cases hb : (f.name != "_" && Nat.beq f.offset i) with
        | false => simp [hb, guardO] at h
        | true =>
          rw [hb] at h
          simp only [guardO, cond_true] at h
          simp only [Bool.and_eq_true, bne_iff_ne, ne_eq] at hb
          have ho : f.offset = i := Nat.eq_of_beq_eq_true hb.2
          cases hk : kdOf P f.type with
          | none => simp [hk] at h
          | some k =>
            simp only [hk, Option.bind_some, Option.map_eq_some_iff] at h
            obtain ⟨r, hr, rfl⟩ := h
            cases l with
            | nil => simp [kdFits] at h1
            | cons u l =>
              simp only [kdFits, Bool.and_eq_true] at h1
              have g1 : (valsC (pre ++ u :: l))[f.offset]? = some (valC u) := valsC_get (by rw [ho, List.getElem?_append_right (by omega)]; simp [e1])
              have ih := ih (i + 1) r (pre ++ [u]) l hr h1.2 (by simp [e1])
              simp only [List.append_assoc, List.singleton_append] at ih
              simp only [List.forIn_cons, hb.1, not_false_eq_true, ne_eq, if_true, Sem.run_bind, run_part_kd w hk g1, Result.andThen_ok, hsc hk h1.1, Sem.run_pure]
              exact ih
    have := key fs.toList 0 r [] l hr h1 rfl
    simp at this ⊢
    rw [this]; rfl
  · rename_i m e hu
    cases hk : kdOf P e with
    | none => simp [hk] at h0
    | some k =>
      simp only [hk, Option.bind_some] at h0
      cases hb : (sizeOf? P e == some 1) with
      | false => rw [hb] at h0; simp [guardO] at h0
      | true =>
        rw [hb] at h0
        simp only [guardO, cond_true, Option.some.injEq, Prod.mk.injEq] at h0
        obtain ⟨rfl, rfl⟩ := h0
        have hb : (P.info? e).map (·.size) = some 1 := by simpa [sizeOf?] using hb
        obtain ⟨i, hi, hs⟩ := Option.map_eq_some_iff.1 hb
        show (Instr.checkKey em (n + 1 + 1) t (.agg (valsC l))).run P w = _
        unfold Instr.checkKey
        simp only [Sem.run_bind, run_underlying hu, Result.andThen_ok]
        simp only [Std.Legacy.Range.forIn_eq_forIn_range', Std.Legacy.Range.size, Nat.sub_zero, Nat.add_one_sub_one, Nat.div_one]
        have hc : P.cellsOf e = 1 := by simp [Program.cellsOf, hi, hs]
        have key : ∀ (m i : Nat) (pre l : List AV), kdFits (List.replicate m k) l = true → pre.length = i →
            (forIn (List.range' i m) PUnit.unit fun j (_ : PUnit) => (do Instr.checkKey em (n + 1) e (← part e (valsC (pre ++ l)) (j * (← sizeOf e))); pure (ForInStep.yield PUnit.unit) : Sem (ForInStep PUnit))).run P w = .ok PUnit.unit w := by
          intro m
          induction m with
          | zero => intros; simp
          | succ m ih =>
            intro i pre l h1 e1
            rw [List.replicate_succ] at h1
            cases l with
            | nil => simp [kdFits] at h1
            | cons u l =>
              simp only [kdFits, Bool.and_eq_true] at h1
              have g1 : (valsC (pre ++ u :: l))[i * 1]? = some (valC u) := valsC_get (by rw [Nat.mul_one, List.getElem?_append_right (by omega)]; simp [e1])
              have ih := ih (i + 1) (pre ++ [u]) l h1.2 (by simp [e1])
              simp only [List.append_assoc, List.singleton_append] at ih
              simp only [List.range'_succ, List.forIn_cons, Sem.run_bind, Go.run_sizeOf w hi, hc, Result.andThen_ok, run_part_kd w hk g1, hsc hk h1.1, Sem.run_pure]
              simpa [Go.run_sizeOf w hi, hc] using ih
        have := key m 0 [] l h1 rfl
        simp at this ⊢
        rw [this]; rfl
  · obtain ⟨k, hk, h0⟩ := Option.map_eq_some_iff.1 h0
    simp only [Prod.mk.injEq] at h0
    obtain ⟨rfl, rfl⟩ := h0
    match l, h1 with
    | [u], h1 =>
      simp only [kdFits, Bool.and_true] at h1
      exact hsc2 hk h1
    | [], h1 => simp [kdFits] at h1
    | _ :: _ :: _, h1 => simp [kdFits] at h1
end
end Go.Ab

namespace Go.Ab
open Go
set_option linter.unusedVariables false
set_option linter.unusedSimpArgs false
variable {P : Program} {B : Base} {c : Cx} {s : St} {a : Act}

theorem eqC_eq {k : KD} {u v : AV} (hu : k.fits u = true) (hv : k.fits v = true) : eqC u v = true ↔ u = v := by
  cases k <;> cases u <;> simp [KD.fits] at hu <;> cases v <;> simp [KD.fits] at hv
  · simp [eqC]
  · subst hu; subst hv; simp [eqC]
  · simp [eqC]
theorem eqCs_eq : ∀ {ks : List KD} {l m : List AV}, kdFits ks l = true → kdFits ks m = true → (eqCs l m = true ↔ l = m)
  | [], l, m, h1, h2 => by
    cases l <;> simp [kdFits] at h1
    cases m <;> simp [kdFits] at h2
    simp [eqCs]
  | k :: ks, l, m, h1, h2 => by
    cases l with
    | nil => simp [kdFits] at h1
    | cons u l =>
      cases m with
      | nil => simp [kdFits] at h2
      | cons v m =>
        simp only [kdFits, Bool.and_eq_true] at h1 h2
        simp only [eqCs, Bool.and_eq_true, eqC_eq h1.1 h2.1, eqCs_eq h1.2 h2.2, List.cons.injEq]
theorem kdEq_eq {k q : KD} (h : kdEq k q = true) : k = q := by
  cases k <;> cases q <;> simp [kdEq] at h
  · rfl
  · rw [h]
  · rfl
theorem kdsEq_eq : ∀ {l m : List KD}, kdsEq l m = true → l = m
  | [], [], _ => rfl
  | k :: l, q :: m, h => by
    simp only [kdsEq, Bool.and_eq_true] at h
    rw [kdEq_eq h.1, kdsEq_eq h.2]
  | [], _ :: _, h => by simp [kdsEq] at h
  | _ :: _, [], h => by simp [kdsEq] at h
theorem arrCells_get {get : Nat → List AV} : ∀ {n i : Nat}, (∀ j, j < i + n → (get j).length = 1) → (arrCells get i n).length = n ∧ ∀ q u, (arrCells get i n)[q]? = some u → q < n ∧ (get (i + q))[0]? = some u
  | 0, i, _ => ⟨rfl, fun q u h => by simp [arrCells] at h⟩
  | n + 1, i, h => by
    obtain ⟨h1, h2⟩ := arrCells_get (get := get) (n := n) (i := i + 1) fun j hj => h j (by omega)
    have h0 := h i (by omega)
    match hg : get i, h0 with
    | [v], _ =>
      refine ⟨by simp [arrCells, hg, h1], fun q u hu => ?_⟩
      simp only [arrCells, hg, List.singleton_append] at hu
      cases q with
      | zero => simp at hu; subst hu; exact ⟨by omega, by simp [hg]⟩
      | succ q =>
        obtain ⟨e1, e2⟩ := h2 q u (by simpa using hu)
        exact ⟨by omega, by rw [show i + (q + 1) = i + 1 + q by omega]; exact e2⟩
    | [], h0 => simp at h0
    | _ :: _ :: _, h0 => simp at h0
/-- A key's value in the model. -/
theorem key_rep {ka : Bool} {ks : List KD} {u : AV} {x : Value} (hr : Rep c u x) (ha : (keyCells u).1 = ka) (hk : kdFits ks (keyCells u).2 = true) : x = keyV ka (keyCells u).2 := by
  have one : ∀ {u : AV}, Rep c u x → (∀ v : AV, keyCells u = (false, [u])) → kdFits ks (keyCells u).2 = true → x = keyV false [u] := by
    intro u hr he hk
    rw [he u] at hk
    match ks, hk with
    | [k], hk =>
      simp only [kdFits, Bool.and_true] at hk
      exact fits_rep hk hr
    | [], hk => simp [kdFits] at hk
    | _ :: _ :: _, hk => simp [kdFits] at hk
  subst ha
  cases u with
  | agg cs =>
    exact agg_rep hk hr
  | arr sz n get =>
    match sz with
    | 1 =>
      cases hr with
      | arr _ _ _ vs h1 h2 h3 h4 =>
        obtain ⟨g1, g2⟩ := arrCells_get (get := get) (n := n) (i := 0) fun j hj => (h2 j (by omega)).1
        have hk : kdFits ks (arrCells get 0 n) = true := hk
        have := kdFits_rep (c := c) (vs := vs.toList) hk (by show vs.toList.length = (arrCells get 0 n).length; rw [g1]; simpa using h1) fun i u hu => by
          obtain ⟨e1, e2⟩ := g2 i u hu
          rw [Nat.zero_add] at e2
          have := h4 i 0 u e1 e2
          simpa [Array.getD_eq_getD_getElem?, List.getD_eq_getElem?_getD] using this
        show Value.agg vs = .agg (valsC (arrCells get 0 n))
        congr 1
        apply Array.ext'
        simpa [valsC] using this
    | 0 => exact one hr (fun _ => rfl) hk
    | m + 2 => exact one hr (fun _ => rfl) hk
  | bool b => exact one hr (fun _ => rfl) hk
  | int k n => exact one hr (fun _ => rfl) hk
  | str s => exact one hr (fun _ => rfl) hk
  | nilp => exact one hr (fun _ => rfl) hk
  | nilf => exact one hr (fun _ => rfl) hk
  | nilm => exact one hr (fun _ => rfl) hk
  | nili => exact one hr (fun _ => rfl) hk
  | nni => exact one hr (fun _ => rfl) hk
  | num k => exact one hr (fun _ => rfl) hk
  | undef => exact one hr (fun _ => rfl) hk
  | sl o sz n get => exact one hr (fun _ => rfl) hk
  | tup vs => exact one hr (fun _ => rfl) hk
  | ref k off => exact one hr (fun _ => rfl) hk
  | aref k sz i off => exact one hr (fun _ => rfl) hk
  | elt cs off => exact one hr (fun _ => rfl) hk
  | msl k sz off len => exact one hr (fun _ => rfl) hk
  | gsl k sz n => exact one hr (fun _ => rfl) hk
  | gref k sz n i off => exact one hr (fun _ => rfl) hk
  | gsub k sz n lo len => exact one hr (fun _ => rfl) hk
  | mref k => exact one hr (fun _ => rfl) hk
  | fn f a b => exact one hr (fun _ => rfl) hk
  | grd t w v => exact one hr (fun _ => rfl) hk

theorem keyFit_inv {kt : TypeId} {ka : Bool} {ks : List KD} {u : AV} (h : keyFit P kt ka ks u = true) : keyT P kt = some (ka, ks) ∧ (keyCells u).1 = ka ∧ kdFits ks (keyCells u).2 = true := by
  unfold keyFit at h
  split at h
  · rename_i b l hk
    simp only [Bool.and_eq_true, beq_iff_eq] at h
    obtain ⟨rfl, h1, h2, h3⟩ := h
    have := kdsEq_eq h1
    subst this
    exact ⟨hk, h2, h3⟩
  · cases h

/-- What is found of a key. -/
theorem findC_spec {ks : List KD} {l : List AV} (hl : kdFits ks l = true) : ∀ (ms : List (List AV × Value)) (i : Nat), (∀ m ∈ ms, kdFits ks m.1 = true) →
    (findC l ms i = none ∧ ∀ m ∈ ms, m.1 ≠ l) ∨ ∃ j v, findC l ms i = some (i + j, v) ∧ ms[j]? = some (l, v) ∧ ∀ q m, q < j → ms[q]? = some m → m.1 ≠ l
  | [], i, _ => .inl ⟨rfl, by simp⟩
  | (k, v) :: ms, i, h => by
    have hk := h _ (List.mem_cons_self ..)
    have he := eqCs_eq hl hk
    cases hb : eqCs l k with
    | true =>
      have := he.1 hb
      subst this
      exact .inr ⟨0, v, by simp [findC, hb], rfl, fun q m hq => by omega⟩
    | false =>
      have hne : k ≠ l := fun e => by have := he.2 e.symm; rw [hb] at this; cases this
      rcases findC_spec hl ms (i + 1) fun m hm => h m (List.mem_cons_of_mem _ hm) with ⟨h1, h2⟩ | ⟨j, w, h1, h2, h3⟩
      · exact .inl ⟨by simp [findC, hb, h1], fun m hm => by
          rcases List.mem_cons.1 hm with rfl | hm
          · exact hne
          · exact h2 m hm⟩
      · refine .inr ⟨j + 1, w, by simp [findC, hb, h1]; omega, by simpa using h2, fun q m hq hm => ?_⟩
        cases q with
        | zero => simp at hm; subst hm; exact hne
        | succ q => exact h3 q m (by omega) (by simpa using hm)

theorem zeroA_run {t : TypeId} {z : AV} (h : zeroA P t = some z) (w : World) : ∃ v, (zeroValue t).run P w = .ok v w ∧ ofValue v = some z := by
  unfold zeroA at h
  obtain ⟨v, h1, h2⟩ := Option.bind_eq_some_iff.1 h
  obtain ⟨i, h3, h4⟩ := Option.bind_eq_some_iff.1 h1
  exact ⟨v, by simp [zeroValue, typeInfo, h3, h4], h2⟩

theorem lookA_sound (h : Rel B c s a) {t : TypeId} {x i : AV} {X I : Value} {ok : Bool} {r : Bool × AV × AV} (hx : Sees B c s x X) (hi : Sees B c s i I) (he : lookA P s t x i = some r) :
    ∃ V, (Instr.lookup t X I ok).run P c.w = .ok V c.w ∧ Sees B c s (cond r.1 (lookV ok true r.2.1) (lookV ok false r.2.2)) V := by
  unfold lookA at he
  split at he
  · rename_i kt et k hu
    obtain ⟨z, hz, he⟩ := Option.bind_eq_some_iff.1 he
    split at he
    · rename_i ka ks dom get ho
      simp only [guardO] at he
      cases hf : keyFit P kt ka ks i with
      | false => rw [hf] at he; cases he
      | true =>
        rw [hf] at he
        simp only [cond_true, Option.some.injEq] at he
        subst he
        obtain ⟨hk, ha, hfit⟩ := keyFit_inv hf
        have hI := key_rep hi.rep ha hfit
        obtain ⟨⟨⟨es, clock, ms, hh, h1, h2, h3, h4⟩, hp⟩, _, _⟩ := h.objs.rep k _ ho
        have hr := hx.rep
        cases hr
        obtain ⟨zv, hzr, hzo⟩ := zeroA_run hz c.w
        have hget := MapKept.run_getObj_map (P := P) hh
        have hchk : ∀ em, (Instr.checkKey em 10000 kt (keyV ka (keyCells i).2)).run P c.w = .ok () c.w := fun em => run_checkKey_key c.w hk hfit em 9998
        have hfind := run_findKey_key (P := P) c.w hk hfit es.toList ms h1 fun m hm => (h2 m hm).1
        have hzs : Sees B c s z zv := by
          unfold ofValue at hzo
          split at hzo
          · rename_i cs
            obtain ⟨us, hus, rfl⟩ := Option.map_eq_some_iff.1 hzo
            obtain ⟨e1, e2, e3⟩ := ofCells_rep (c := c) hus
            exact ⟨.agg _ _ (by simpa using e1.symm) (fun j u hu => (e3 j u hu).1) fun j u hu => by simpa [Array.getD_eq_getD_getElem?, List.getD_eq_getElem?_getD] using (e3 j u hu).2, by simp [AV.keys, e2], rfl⟩
          · obtain ⟨e1, e2, e3, _⟩ := ofCell_rep (c := c) hzo
            exact ⟨e1, by simp [e2], e3⟩
        have hV : ∀ (b : Bool) (v : AV) (y : Value), Sees B c s v y → Sees B c s (lookV ok b v) (if ok = true then .tuple #[y, .bool b] else y) := by
          intro b v y hs
          cases ok with
          | false => exact hs
          | true =>
            refine ⟨.tup _ _ rfl fun j u hu => ?_, fun q hq => hs.live q (by simpa [lookV, AV.keys, keysL] using hq), rfl⟩
            match j with
            | 0 => simp at hu; subst hu; exact hs.rep
            | 1 => simp at hu; subst hu; exact .bool _
            | j + 2 => simp at hu
        rcases findC_spec hfit ms 0 fun m hm => (h2 m hm).1 with ⟨f1, f2⟩ | ⟨j, v, f1, f2, f3⟩
        · have hd : dom (keyCells i).2 = false := by
            cases hd : dom (keyCells i).2 with
            | false => rfl
            | true => obtain ⟨m, hm, e⟩ := h3 _ hfit hd; exact absurd e (f2 m hm)
          rw [f1] at hfind
          simp only [hd, cond_false]
          refine ⟨_, ?_, hV false z zv hzs⟩
          rw [hI]
          simp only [Instr.lookup, Sem.run_bind, run_underlying hu, Result.andThen_ok, hget, Sem.run_pure, hchk, hfind, hzr]
        · have hm := List.mem_of_getElem? f2
          obtain ⟨_, hd, hrep⟩ := h2 _ hm
          rw [f1] at hfind
          simp only at hd hrep
          simp only [hd, cond_true]
          have hkn := hp _ hfit hd
          refine ⟨_, ?_, hV true (get (keyCells i).2) v ⟨hrep, by simp [hkn], hrep.plain⟩⟩
          rw [hI]
          simp only [Instr.lookup, Sem.run_bind, run_underlying hu, Result.andThen_ok, hget, Sem.run_pure, hchk, hfind]
    · cases he
  · cases he

theorem makeMap_sound (h : Rel B c s a) {d : Nat} (hd : s.obj d = none) (t : TypeId) (ka : Bool) (ks : List KD) (get : List AV → AV) :
    ∃ x c', (Instr.makeMap t none).run P c.w = .ok x c'.w ∧ Rel B c' (s.setObj d (.mp ka ks (fun _ => false) get)) a ∧ Sees B c' (s.setObj d (.mp ka ks (fun _ => false) get)) (.mref d) x := by
  refine ⟨.map (some c.w.heap.size), c.obj d (.map #[] 0), ?_, ?_, ?_⟩
  · simp only [Instr.makeMap, Sem.run_bind, Sem.run_pure, Result.andThen_ok]
    have : (newObj (.map #[] 0)).run P c.w = .ok c.w.heap.size (c.w.alloc (.map #[] 0)) := rfl
    rw [this]; rfl
  · refine h.obj (Cx.obj_keeps h.good h.objs hd _) (Cx.obj_grow h.good h.frame d _) ⟨⟨⟨#[], 0, [], ?_, rfl, by simp, by simp, by simp⟩, by simp⟩, fun o hi => ?_, by simp [Cx.obj]⟩ (fun q o' b' hq hne hb => ?_) (fun r hr => by simp [AO.keys] at hr) (fun b' hb => ?_)
    · simp only [Cx.obj, if_true]; exact heap_alloc_eq c.w _
    · simp only [Cx.obj, if_true] at hi
      obtain ⟨v, hv⟩ := h.good.there _ _ hi
      have := lt_of_cell hv
      omega
    · simp only [excl, Cx.obj, if_true]
      have := excl_lt (h.objs.rep q o' hq) hb
      intro e
      have := Option.some.inj e
      omega
    · simp only [excl, Cx.obj, if_true] at hb
      have := Option.some.inj hb
      have := h.frame.size
      left; omega
  · refine ⟨?_, fun q hq => ?_, rfl⟩
    · have := Rep.mref (c := c.obj d (.map #[] 0)) d
      simpa [Cx.obj] using this
    · simp [AV.keys] at hq; subst hq; exact live_aput_self

theorem valC_bits (n : Nat) {k : KD} {u : AV} (h : k.fits u = true) : Instr.sameBits n (valC u) (valC u) = true := by
  cases k <;> cases u <;> simp [KD.fits] at h <;> cases n <;> simp [valC, Instr.sameBits, beq_toListBytes]
theorem keyV_bits {ka : Bool} {ks : List KD} {l : List AV} (h : kdFits ks l = true) (ha : ka = false → ∃ u, l = [u]) : Instr.sameBits 10000 (keyV ka l) (keyV ka l) = true := by
  cases ka with
  | false =>
    obtain ⟨u, rfl⟩ := ha rfl
    match ks, h with
    | [k], h =>
      simp only [kdFits, Bool.and_true] at h
      exact valC_bits _ h
    | [], h => simp [kdFits] at h
    | _ :: _ :: _, h => simp [kdFits] at h
  | true =>
    show Instr.sameBits (9999 + 1) (.agg (valsC l)) (.agg (valsC l)) = true
    simp only [Instr.sameBits, beq_self_eq_true, Bool.true_and]
    have : ∀ {ks : List KD} {l : List AV}, kdFits ks l = true → ((l.map valC).zip (l.map valC)).all (fun (x, y) => Instr.sameBits 9999 x y) = true := by
      intro ks
      induction ks with
      | nil => intro l h; cases l <;> simp [kdFits] at h; rfl
      | cons k ks ih =>
        intro l h
        cases l with
        | nil => simp [kdFits] at h
        | cons u l =>
          simp only [kdFits, Bool.and_eq_true] at h
          simp only [List.map_cons, List.zip_cons_cons, List.all_cons, Bool.and_eq_true]
          exact ⟨valC_bits _ h.1, ih h.2⟩
    simpa [valsC] using this h

theorem mapPutA_sound (h : Rel B c s a) {t : TypeId} {x i v : AV} {X I V : Value} {k : Nat} {ob : AO} (hx : Sees B c s x X) (hi : Sees B c s i I) (hv : Sees B c s v V) (he : mapPutA P s t x i v = some (k, ob)) :
    ∃ c', (Instr.mapUpdate t X I V).run P c.w = .ok () c'.w ∧ Rel B c' (s.setObj k ob) a := by
  unfold mapPutA at he
  split at he
  · rename_i kt et k' hu
    split at he
    · rename_i ka ks dom get ho
      simp only [guardO] at he
      cases hf : (keyFit P kt ka ks i && isNil v.shed.keys) with
      | false => rw [hf] at he; cases he
      | true =>
        rw [hf] at he
        simp only [cond_true, Option.some.injEq, Prod.mk.injEq] at he
        obtain ⟨rfl, rfl⟩ := he
        simp only [Bool.and_eq_true] at hf
        obtain ⟨hk, ha, hfit⟩ := keyFit_inv hf.1
        have hvk : v.shed.keys = [] := by cases hq : v.shed.keys with | nil => rfl | cons => simp [hq, isNil] at hf
        have hI := key_rep hi.rep ha hfit
        obtain ⟨⟨⟨es, clock, ms, hh, h1, h2, h3, h4⟩, hp⟩, hfree, hfr⟩ := h.objs.rep k' _ ho
        have hr := hx.rep
        cases hr
        have hrv : Rep c v.shed V := hv.rep.shed
        have hget := MapKept.run_getObj_map (P := P) hh
        have hset := fun o => MapKept.run_setObj_map (P := P) (w := c.w) (r := c.β k') o hh
        have hchk : (Instr.checkKey false 10000 kt (keyV ka (keyCells i).2)).run P c.w = .ok () c.w := run_checkKey_key c.w hk hfit false 9998
        have hfind := run_findKey_key (P := P) c.w hk hfit es.toList ms h1 fun m hm => (h2 m hm).1
        generalize hl : (keyCells i).2 = l at *
        have hsc : ka = false → ∃ u, l = [u] := fun e => by
          rw [e] at ha
          unfold keyT at hk
          split at hk
          · rename_i fs _
            cases hb : (!P.stoodInHeld kt) <;> simp [hb, guardO, e] at hk
          · rename_i n q _
            cases hq : kdOf P q with
            | none => simp [hq] at hk
            | some w => cases hb : (sizeOf? P q == some 1) <;> simp [hq, hb, guardO, e] at hk
          · obtain ⟨w, hw, hk⟩ := Option.map_eq_some_iff.1 hk
            simp only [Prod.mk.injEq] at hk
            obtain ⟨_, rfl⟩ := hk
            match l, hfit with
            | [u], _ => exact ⟨u, rfl⟩
            | [], hfit => simp [kdFits] at hfit
            | _ :: _ :: _, hfit => simp [kdFits] at hfit
        have hexcl : excl c k' (.mp ka ks dom get) = some (c.β k') := rfl
        -- the new map
        have put : ∀ (es' : Array MapEntry) (clock' : Nat) (ms' : List (List AV × Value)), es'.toList.map (fun e => (e.key, e.val)) = ms'.map (fun m => (keyV ka m.1, m.2)) →
            (∀ m ∈ ms', kdFits ks m.1 = true ∧ ((m.1 = l ∧ m.2 = V) ∨ (m.1 ≠ l ∧ m ∈ ms))) → (∀ m ∈ ms, m.1 ≠ l → m ∈ ms') → (∃ m ∈ ms', m.1 = l) → (ms'.map (·.1)).Nodup →
            Rel B (c.write { c.w with heap := c.w.heap.setIfInBounds (c.β k') (.map es' clock') }) (s.setObj k' (.mp ka ks (fun q => cond (eqCs q l) true (dom q)) fun q => cond (eqCs q l) v.shed (get q))) a := by
          intro es' clock' ms' g1 g2 g3 g4 g5
          have hw : Wrote c (c.β k') { c.w with heap := c.w.heap.setIfInBounds (c.β k') (.map es' clock') } := ⟨rfl, rfl, rfl, by simp, fun b' hne => by
            simp only [Array.getElem?_setIfInBounds]; rw [if_neg (fun e => hne e.symm)]⟩
          have hkb := Cx.write_keeps h.objs ho hexcl hfree hw
          have hext : Ext c (c.write { c.w with heap := c.w.heap.setIfInBounds (c.β k') (.map es' clock') }) (live s.objs) := hkb.ext
          refine h.obj hkb (Cx.write_grow h.good hfree hw (h.mine k' _ _ ho hexcl)) ⟨⟨⟨es', clock', ms', by show _ = _; simp [Cx.write, lt_of_heap hh], g1, fun m hm => ?_, fun q hq hd => ?_, g5⟩, fun q hq hd => ?_⟩, hfree, hfr⟩ (fun q o' b' hq hne hb => ?_) (fun r hr => by simp [AO.keys] at hr) (fun b' hb => h.mine k' _ b' ho hb)
          · obtain ⟨f1, f2⟩ := g2 m hm
            refine ⟨f1, ?_⟩
            rcases f2 with ⟨rfl, e2⟩ | ⟨e1, e2⟩
            · have : eqCs m.1 m.1 = true := (eqCs_eq f1 f1).2 rfl
              rw [this]
              refine ⟨rfl, ?_⟩
              rw [e2]
              exact hrv.ext hext fun q hq => by rw [hvk] at hq; simp at hq
            · have : eqCs m.1 l = false := by
                cases hb : eqCs m.1 l with
                | false => rfl
                | true => exact absurd ((eqCs_eq f1 hfit).1 hb) e1
              rw [this]
              obtain ⟨d1, d2, d3⟩ := h2 m e2
              exact ⟨d2, d3.ext hext fun q hq => by rw [hp _ d1 d2] at hq; simp at hq⟩
          · cases hb : eqCs q l with
            | true =>
              have := (eqCs_eq hq hfit).1 hb
              subst this
              exact g4
            | false =>
              rw [hb] at hd
              obtain ⟨m, hm, rfl⟩ := h3 q hq hd
              exact ⟨m, g3 m hm (fun e => by rw [(eqCs_eq hq hfit).2 e] at hb; cases hb), rfl⟩
          · cases hb : eqCs q l with
            | true => exact hvk
            | false => rw [hb] at hd; exact hp q hq hd
          · intro e
            exact h.objs.apart q o' k' _ b' hq ho hne hb e
        have nodup_at : ∀ (q1 q2 : Nat) (m1 m2 : List AV × Value), ms[q1]? = some m1 → ms[q2]? = some m2 → m1.1 = m2.1 → q1 = q2 := fun q1 q2 m1 m2 e1 e2 e3 => by
          have hlt1 : q1 < (ms.map (·.1)).length := by simpa using (List.getElem?_eq_some_iff.1 e1).1
          refine (List.getElem?_inj hlt1 h4).1 ?_
          simp only [List.getElem?_map, e1, e2, Option.map_some, e3]
        rcases findC_spec hfit ms 0 fun m hm => (h2 m hm).1 with ⟨f1, f2⟩ | ⟨j, y, f1, f2, f3⟩
        · rw [f1] at hfind
          refine ⟨_, ?_, put (es.push { key := keyV ka l, val := V, born := clock }) (clock + 1) (ms ++ [(l, V)]) (by simp [h1]) (fun m hm => ?_) (fun m hm _ => by simp [hm]) ⟨(l, V), by simp, rfl⟩ ?_⟩
          · rw [hI]
            simp only [Instr.mapUpdate, Sem.run_bind, run_underlying hu, Result.andThen_ok, hget, hchk, hfind, hset]
            rfl
          · rcases List.mem_append.1 hm with hm | hm
            · exact ⟨(h2 m hm).1, .inr ⟨f2 m hm, hm⟩⟩
            · simp at hm; subst hm; exact ⟨hfit, .inl ⟨rfl, rfl⟩⟩
          · rw [List.map_append]
            refine List.nodup_append.2 ⟨h4, by simp, fun q hq r hr e => ?_⟩
            simp at hr
            subst hr e
            obtain ⟨m, hm, e⟩ := List.mem_map.1 hq
            exact f2 m hm e
        · rw [f1, Nat.zero_add] at hfind
          have hjl : j < ms.length := (List.getElem?_eq_some_iff.1 f2).1
          have hlen : es.toList.length = ms.length := by have := congrArg List.length h1; simpa using this
          have hje : j < es.size := by rw [← hlen] at hjl; simpa using hjl
          have hkey : es[j].key = keyV ka l := by
            have := congrArg (fun q => q[j]?) h1
            simp [f2, hje] at this
            exact this.1
          refine ⟨_, ?_, put (es.modify j fun e => { e with key := keyV ka l, val := V }) clock (ms.set j (l, V)) ?_ (fun m hm => ?_) (fun m hm hne => ?_) ⟨(l, V), ?_, rfl⟩ ?_⟩
          · rw [hI]
            have hst : (Instr.keyThatStays (((es[j]?).map (·.key)).getD (keyV ka l)) (keyV ka l)).run P c.w = .ok (keyV ka l) c.w := by
              have : ((es[j]?).map (·.key)).getD (keyV ka l) = keyV ka l := by simp [hje, hkey]
              rw [this]
              simp [Instr.keyThatStays, keyV_bits hfit hsc]
            simp only [Instr.mapUpdate, Sem.run_bind, run_underlying hu, Result.andThen_ok, hget, hchk, hfind, hst, hset]
            rfl
          · apply List.ext_getElem?
            intro q
            have h1q := congrArg (fun r => r[q]?) h1
            simp only [List.getElem?_map, Array.getElem?_toList, Array.getElem?_modify, List.getElem?_set] at h1q ⊢
            by_cases e : j = q
            · subst e
              simp [hje, hjl]
            · simp only [e, if_false] at h1q ⊢
              exact h1q
          · obtain ⟨q, hq⟩ := List.getElem?_of_mem hm
            rw [List.getElem?_set] at hq
            by_cases e : j = q
            · simp only [e, if_true] at hq
              split at hq
              · simp at hq; subst hq; exact ⟨hfit, .inl ⟨rfl, rfl⟩⟩
              · cases hq
            · rw [if_neg e] at hq
              have hm' := List.mem_of_getElem? hq
              refine ⟨(h2 m hm').1, .inr ⟨fun e2 => e (nodup_at j q (l, y) m f2 hq e2.symm), hm'⟩⟩
          · obtain ⟨q, hq⟩ := List.getElem?_of_mem hm
            have : j ≠ q := fun e => by rw [← e, f2] at hq; have := Option.some.inj hq; exact hne (by rw [← this])
            refine List.mem_of_getElem? (i := q) ?_
            rw [List.getElem?_set, if_neg this]; exact hq
          · refine List.mem_of_getElem? (i := j) ?_
            rw [List.getElem?_set]; simp [hjl]
          · have : (ms.set j (l, V)).map (·.1) = ms.map (·.1) := by
              apply List.ext_getElem?
              intro q
              simp only [List.getElem?_map, List.getElem?_set]
              by_cases e : j = q
              · subst e; simp only [if_true, hjl, Option.map_some, f2]
              · simp [e]
            rw [this]; exact h4
    · cases he
  · cases he
end Go.Ab

namespace Go.Ab
open Go Go.RowKit
variable {P : Program} {B : Base} {c : Cx} {s : St} {a : Act}

/-- What the calls of a configuration are known to do. -/
def CallsOk (X : Cfg) : Prop := ∀ f l os r os', X.pre f l os = true → X.call f l os = some (r, os') →
  CallOk X.P X.G f l os r os' ∧ ∃ fn, X.P.funcs[f]? = some fn ∧ (fn.name == "runtime.NumGoroutine") = false ∧ fn.body.isSome = true

theorem opt_bind {α β : Type} {x : Option α} {f : α → Option β} {r : β} (h : x.bind f = some r) : ∃ y, x = some y ∧ f y = some r := by
  cases x with
  | none => simp at h
  | some y => exact ⟨y, rfl, h⟩
theorem opt_map {α β : Type} {x : Option α} {f : α → β} {r : β} (h : x.map f = some r) : ∃ y, x = some y ∧ f y = r := by
  cases x with
  | none => simp at h
  | some y => exact ⟨y, rfl, by simpa using h⟩
theorem guardO_inv {α : Type} {b : Bool} {x : Option α} {r : α} (h : guardO b x = some r) : b = true ∧ x = some r := by
  cases b with
  | false => simp [guardO] at h
  | true => exact ⟨rfl, h⟩
theorem cond_none {α : Type} {b : Bool} {x : Option α} {r : α} (h : cond b x none = some r) : b = true ∧ x = some r := by
  cases b with
  | false => simp at h
  | true => exact ⟨rfl, h⟩
theorem cond_none' {α : Type} {b : Bool} {x : Option α} {r : α} (h : cond b none x = some r) : b = false ∧ x = some r := by
  cases b with
  | false => exact ⟨rfl, h⟩
  | true => simp at h

theorem doCall_sound {X : Cfg} (hX : CallsOk X) (hG : X.G = B.G) (h : Rel B c s a) {f : FuncId} {l : List AV} {xs : List Value} {v : AV} {objs' : List (Nat × AO)} (hs : SeesL B c s l xs)
    (he : doCall X s.objs f l = some (true, v, objs')) :
    (Calls X.P f xs.toArray c.w fun e w' => ∃ c2 x, e = .returned x ∧ c2.w = w' ∧ Rel B c2 (s.with objs') a ∧ Sees B c2 (s.with objs') v x) ∧
      ∃ fn, X.P.funcs[f]? = some fn ∧ (fn.name == "runtime.NumGoroutine") = false ∧ fn.body.isSome = true := by
  unfold doCall at he
  obtain ⟨⟨l1, o1⟩, h1, he⟩ := opt_bind he
  have hfz : ∃ c1, c1.w = c.w ∧ Rel B c1 (s.with o1) a ∧ SeesL B c1 (s.with o1) l1 xs := by
    cases hb : X.byRef f with
    | true => simp [hb] at h1; obtain ⟨rfl, rfl⟩ := h1; exact ⟨c, rfl, h, hs⟩
    | false =>
      simp [hb] at h1
      obtain ⟨c1, e1, e2, e3, _, _⟩ := freezeVs_sound h hs h1
      exact ⟨c1, e1, e2, e3⟩
  obtain ⟨c1, hw, hr1, hs1⟩ := hfz
  dsimp only at he
  obtain ⟨hcl, he⟩ := cond_none he
  obtain ⟨os, hos, he⟩ := opt_bind he
  obtain ⟨⟨r, os'⟩, hcall, he⟩ := opt_bind he
  obtain ⟨hlen, he⟩ := cond_none he
  dsimp only at hlen he
  simp only [Option.some.injEq, Prod.mk.injEq] at he
  obtain ⟨hpre, rfl, rfl⟩ := he
  obtain ⟨hok, hfn⟩ := hX _ _ _ _ _ hpre hcall
  rw [hG] at hok
  obtain ⟨hn, hk⟩ := reachK_spec o1 (keysL (shedL l1))
  have hcore := call_core (P := X.P) hr1 hn hos (subK_spec hcl) hs1.shed hk hok (beqT hlen)
  rw [hw] at hcore
  exact ⟨hcore, hfn⟩
/-- A call that only reads: nothing has turned but what it left behind. -/
theorem doCallL_sound {X : Cfg} (hX : CallsOk X) (hG : X.G = B.G) (h : Rel B c s a) {f : FuncId} {l : List AV} {xs : List Value} {v : AV} {objs' : List (Nat × AO)} (hs : SeesL B c s l xs)
    (he : doCallL X s.objs f l = some (true, v, objs')) :
    (Calls X.P f xs.toArray c.w fun e w' => ∃ c2 x, e = .returned x ∧ c2.w = w' ∧ Rel B c2 (s.with objs') a ∧ Sees B c2 (s.with objs') v x) ∧
      ∃ fn, X.P.funcs[f]? = some fn ∧ (fn.name == "runtime.NumGoroutine") = false ∧ fn.body.isSome = true := by
  unfold doCallL at he
  obtain ⟨⟨l1, o1⟩, h1, he⟩ := opt_bind he
  obtain ⟨c1, hw, hr1, hs1, _, _⟩ := freezeVs_sound h hs h1
  dsimp only at he
  obtain ⟨hnil, he⟩ := cond_none he
  obtain ⟨⟨r, os'⟩, hcall, he⟩ := opt_bind he
  obtain ⟨hpl, he⟩ := cond_none he
  dsimp only at hpl he
  simp only [Option.some.injEq, Prod.mk.injEq] at he
  obtain ⟨hpre, rfl, rfl⟩ := he
  obtain ⟨hok, hfn⟩ := hX _ _ _ _ _ hpre hcall
  rw [hG] at hok
  have hk : keysL (shedL l1) = [] := by
    cases hq : keysL (shedL l1) with
    | nil => rfl
    | cons => rw [hq] at hnil; cases hnil
  simp only [Bool.and_eq_true] at hpl
  have hsf := hs1.shed.fn
  refine ⟨?_, hfn⟩
  have hok := hok c1 xs.toArray hr1.good ⟨fun k o hq => by simp [enterObjs, alook] at hq, fun k o k' o' b hq => by simp [enterObjs, alook] at hq, fun k o hq => by simp [enterObjs, alook] at hq⟩ hsf.1 (fun i u hu => hsf.2.1 i u hu) (fun k hq => by rw [hk] at hq; cases hq)
  rw [hw] at hok
  refine hok.mono ?_
  rintro e w' ⟨c', x, he, hw', hG', hF', _, hrx, _, _⟩
  have hnh : ∀ b, ¬ held c1 (enterObjs [] keyBase) b := fun b hb => by obtain ⟨q, o, hq, _⟩ := hb; simp [enterObjs, alook] at hq
  have hblk : ∀ b, b < c.w.heap.size → c'.w.heap[b]? = c.w.heap[b]? := fun b hb => by
    have := hF'.block b (by show b < c1.w.heap.size; rw [hw]; exact hb) (hnh b)
    rw [this]; show c1.w.heap[b]? = _; rw [hw]
  have hcell : ∀ b o y, c.w.cell? ⟨b, o, none⟩ = some y → c'.w.cell? ⟨b, o, none⟩ = some y := fun b o y hy => by
    rw [World.cell?_block (hblk b (lt_of_cell hy))]; exact hy
  let c2 : Cx := { c with w := c'.w }
  have hkp : Keeps c c2 s.objs := ⟨⟨fun b o y _ hy => hcell b o y hy, fun _ _ hi => hi, fun _ _ => rfl, fun _ _ _ _ hv => hv⟩, fun _ _ => rfl, fun _ _ => rfl, fun _ _ => rfl, fun q o b hq hb => ⟨hblk b (excl_lt (h.objs.rep q o hq) hb), fun _ hi => hi⟩⟩
  have hgr : Grow B c c2 := by
    refine ⟨?_, ?_, ?_, ?_, fun b hb _ => hblk b (Nat.lt_of_lt_of_le hb h.frame.size), fun _ _ _ _ hi => hi, fun b o hi => ?_⟩
    · have := hF'.os; show c'.w.os = _; rw [this]; show c1.w.os = _; rw [hw]
    · have := hF'.output; show c'.w.output = _; rw [this]; show c1.w.output = _; rw [hw]
    · have := hF'.tape; show c'.w.tape = _; rw [this]; show c1.w.tape = _; rw [hw]
    · have := hF'.size; show c.w.heap.size ≤ c'.w.heap.size; refine Nat.le_trans ?_ this; show _ ≤ c1.w.heap.size; rw [hw]; exact Nat.le_refl _
    · obtain ⟨y, hy⟩ := h.good.there b o hi
      exact ⟨y, hcell b o y hy⟩
  refine ⟨c2, x, he, hw', h.keep hkp hgr, ?_⟩
  have hp := hpl.1
  cases r with
  | bool b => cases hrx; exact ⟨.bool b, by simp [AV.keys], rfl⟩
  | int k n => cases hrx; exact ⟨.int k n, by simp [AV.keys], rfl⟩
  | str l => cases hrx; exact ⟨.str l, by simp [AV.keys], rfl⟩
  | _ => simp [plainV] at hp
theorem newKs_mem {d k : Nat} : ∀ {m i : Nat}, k ∈ newKs d i m → ∃ j, i ≤ j ∧ k = d + 100000 * j
  | 0, i, h => by simp [newKs] at h
  | m + 1, i, h => by
    simp only [newKs, List.mem_cons] at h
    rcases h with rfl | h
    · exact ⟨i, Nat.le_refl _, rfl⟩
    · obtain ⟨j, h1, h2⟩ := newKs_mem h; exact ⟨j, by omega, h2⟩
theorem newKs_spec (d : Nat) : ∀ (m i : Nat), (newKs d i m).Nodup ∧ (newKs d i m).length = m
  | 0, i => by simp [newKs]
  | m + 1, i => by
    obtain ⟨h1, h2⟩ := newKs_spec d m (i + 1)
    refine ⟨List.nodup_cons.2 ⟨fun h => ?_, h1⟩, by simp [newKs, h2]⟩
    obtain ⟨j, g1, g2⟩ := newKs_mem h
    omega
theorem allFresh_spec {objs : List (Nat × AO)} : ∀ {l : List Nat}, allFresh objs l = true → ∀ d ∈ l, alook objs d = none
  | [], _, d, hd => by simp at hd
  | k :: r, h, d, hd => by
    simp only [allFresh] at h
    cases hk : alook objs k with
    | some _ => simp [hk] at h
    | none =>
      simp only [hk] at h
      rcases List.mem_cons.1 hd with rfl | hd
      · exact hk
      · exact allFresh_spec h d hd
theorem doCallV_sound {X : Cfg} (hX : CallsOk X) (hG : X.G = B.G) (h : Rel B c s a) {f : FuncId} {l : List AV} {xs : List Value} {v : AV} {objs' : List (Nat × AO)} (hs : SeesL B c s l xs)
    {d : Option Nat} (he : doCallV X d s.objs f l = some (true, v, objs')) :
    (Calls X.P f xs.toArray c.w fun e w' => ∃ c2 x, e = .returned x ∧ c2.w = w' ∧ Rel B c2 (s.with objs') a ∧ Sees B c2 (s.with objs') v x) ∧
      ∃ fn, X.P.funcs[f]? = some fn ∧ (fn.name == "runtime.NumGoroutine") = false ∧ fn.body.isSome = true := by
  unfold doCallV at he
  obtain ⟨⟨l1, o1⟩, h1, he⟩ := opt_bind he
  have hfz : ∃ c1, c1.w = c.w ∧ Rel B c1 (s.with o1) a ∧ SeesL B c1 (s.with o1) l1 xs := by
    cases hb : X.byRef f with
    | true => simp [hb] at h1; obtain ⟨rfl, rfl⟩ := h1; exact ⟨c, rfl, h, hs⟩
    | false =>
      simp [hb] at h1
      obtain ⟨c1, e1, e2, e3, _, _⟩ := freezeVs_sound h hs h1
      exact ⟨c1, e1, e2, e3⟩
  obtain ⟨c1, hw, hr1, hs1⟩ := hfz
  dsimp only at he
  obtain ⟨hcl, he⟩ := cond_none he
  obtain ⟨os, hos, he⟩ := opt_bind he
  obtain ⟨⟨r, os'⟩, hcall, he⟩ := opt_bind he
  dsimp only at he
  cases hlen : Nat.beq os'.length (reachK o1 (keysL (shedL l1))).length with
  | true =>
    rw [hlen, cond_true] at he
    simp only [Option.some.injEq, Prod.mk.injEq] at he
    obtain ⟨hpre, rfl, rfl⟩ := he
    obtain ⟨hok, hfn⟩ := hX _ _ _ _ _ hpre hcall
    rw [hG] at hok
    obtain ⟨hn, hk⟩ := reachK_spec o1 (keysL (shedL l1))
    have hcore := call_core (P := X.P) hr1 hn hos (subK_spec hcl) hs1.shed hk hok (beqT hlen)
    rw [hw] at hcore
    exact ⟨hcore, hfn⟩
  | false =>
    rw [hlen, cond_false] at he
    cases d with
    | none => simp at he
    | some d =>
      dsimp only at he
      obtain ⟨hlen1, he⟩ := cond_none he
      simp only [Bool.and_eq_true] at hlen1
      have hlt := ltB hlen1.1
      simp only [Option.some.injEq, Prod.mk.injEq] at he
      obtain ⟨hpre, rfl, rfl⟩ := he
      obtain ⟨hok, hfn⟩ := hX _ _ _ _ _ hpre hcall
      rw [hG] at hok
      obtain ⟨hn, hk⟩ := reachK_spec o1 (keysL (shedL l1))
      obtain ⟨g1, g2⟩ := newKs_spec d (os'.length - (reachK o1 (keysL (shedL l1))).length) 0
      have hcore := call_new (P := X.P) hr1 hn hos (subK_spec hcl) hs1.shed hk hok g1 (allFresh_spec hlen1.2) (by rw [g2]; omega)
      rw [hw] at hcore
      exact ⟨hcore, hfn⟩

theorem Rel.put' {d : Option Nat} {v : AV} {x : Value} (h : Rel B c s a) (hd : ∀ t, d = some t → t < B.N ∧ FreeOf s t) (hs : Sees B c s v x) : Rel B c (s.put d v) (a.put d x) := by
  cases d with
  | none => exact h
  | some d => exact h.put (hd d rfl).1 hs.rep hs.plain hs.live (hd d rfl).2

theorem run_program_bind {α : Type} (k : Program → Sem α) (w : World) : (program >>= k).run P w = (k P).run P w := rfl
theorem run_callFunc {f : FuncId} {args : Array Value} {w : World} {fn : Func} (h1 : P.funcs[f]? = some fn) (h2 : (fn.name == "runtime.NumGoroutine") = false) (h3 : fn.body.isSome = true) :
    (callFunc f args).run P w = .ok (.enter f args) w := by
  have h3' : fn.body.isNone = false := by cases hb : fn.body <;> simp_all
  unfold callFunc
  rw [run_program_bind, h1]
  simp only [h2, h3', Bool.false_eq_true, if_false, Sem.run_pure]

theorem strT_inv {P : Program} {t : TypeId} (h : strT P t = true) : P.underlying t = some .string := by
  unfold strT at h
  split at h
  · assumption
  · cases h
theorem SeesL.append {l m : List AV} {xs ys : List Value} (h : SeesL B c s l xs) (k : SeesL B c s m ys) : SeesL B c s (l ++ m) (xs ++ ys) := by
  refine ⟨by simp [h.1, k.1], fun i u hu => ?_⟩
  by_cases hi : i < l.length
  · rw [List.getElem?_append_left hi] at hu
    have : (xs ++ ys).getD i undef = xs.getD i undef := by simp [List.getD_eq_getElem?_getD, List.getElem?_append_left (show i < xs.length by rw [h.1]; exact hi)]
    rw [this]; exact h.2 i u hu
  · rw [List.getElem?_append_right (by omega)] at hu
    have : (xs ++ ys).getD i undef = ys.getD (i - l.length) undef := by
      simp only [List.getD_eq_getElem?_getD]
      rw [List.getElem?_append_right (by rw [h.1]; omega), h.1]
    rw [this]; exact k.2 _ u hu

theorem calleeA_sound (h : Rel B c s a) {ch : Chain} (hc : ChOk a ch) {o : Oper} {q : Operand} {args : Array Operand} {ts : Array TypeId} (ho : o.op = .call { callee := .value q, args, argTypes := ts }) {f : FuncId} {l : List AV}
    (he : calleeA ⟨s, B.G, ch⟩ { callee := .value q, args, argTypes := ts } = some (f, l)) :
    ∃ xs, SeesL B c s l xs ∧ ∀ (fn : Func), P.funcs[f]? = some fn → (fn.name == "runtime.NumGoroutine") = false → fn.body.isSome = true → (execOp a.eval o).run P c.w = .ok (.enter f xs.toArray) c.w := by
  unfold calleeA at he
  dsimp only at he
  obtain ⟨fv, h1, he⟩ := opt_bind he
  obtain ⟨vs, h2, he⟩ := opt_bind he
  have hf := evalO_sound h hc h1
  have hv := evalL_sound h hc h2
  cases fv with
  | fn f' first caps =>
    simp only [Option.some.injEq, Prod.mk.injEq] at he
    obtain ⟨rfl, rfl⟩ := he
    obtain ⟨hr, hl, _⟩ := hf
    generalize hq : a.eval q = Q at hr
    cases hr with
    | fn _ _ _ va vb e1 e2 e3 e4 =>
      have hfirst : SeesL B c s first va.toList := ⟨by simpa using e1, fun i u hu => ⟨by
        have := e3 i u hu
        simpa [Array.getD_eq_getD_getElem?, List.getD_eq_getElem?_getD] using this, fun k hk => hl k (by simp only [AV.keys, List.mem_append]; exact .inl (keys_mem_of hu k hk)), (e3 i u hu).plain⟩⟩
      have hcaps : SeesL B c s caps vb.toList := ⟨by simpa using e2, fun i u hu => ⟨by
        have := e4 i u hu
        simpa [Array.getD_eq_getD_getElem?, List.getD_eq_getElem?_getD] using this, fun k hk => hl k (by simp only [AV.keys, List.mem_append]; exact .inr (keys_mem_of hu k hk)), (e4 i u hu).plain⟩⟩
      refine ⟨_, (hfirst.append hv).append hcaps, fun fn g1 g2 g3 => ?_⟩
      have e : (va.toList ++ args.toList.map a.eval ++ vb.toList).toArray = va ++ args.map a.eval ++ vb := by apply Array.ext'; simp
      rw [e]
      simp only [execOp, ho, resolve, hq, Deferred.ofValue, pure_bind, invoke]
      exact run_callFunc g1 g2 g3
  | _ => simp at he

/-- A step of one operation: the next state stands for the next world. -/
def OStep (P : Program) (B : Base) (c : Cx) (a : Act) (o : Oper) (s' : St) : Prop :=
  ∀ Q, o.wp P a c.w (fun a' w' => ∃ c', c'.w = w' ∧ Rel B c' s' a') Q

theorem OStep.value {c' : Cx} {o : Oper} {x : Value} {v : AV} {objs' : List (Nat × AO)} (hd : ∀ t, o.dst = some t → t < B.N ∧ FreeOf s t) (hrun : (execOp a.eval o).run P c.w = .ok (.value x) c'.w)
    (hr : Rel B c' (s.with objs') a) (hs : Sees B c' (s.with objs') v x) : OStep P B c a o (s.after o.dst v objs') := by
  intro Q
  simp only [Oper.wp, hrun, Oper.upon]
  exact ⟨c', rfl, hr.put' hd hs⟩
theorem OStep.skip {c' : Cx} {o : Oper} {objs' : List (Nat × AO)} (hd : ∀ t, o.dst = some t → t < B.N ∧ FreeOf s t) (hrun : (execOp a.eval o).run P c.w = .ok .skip c'.w)
    (hr : Rel B c' (s.with objs') a) : OStep P B c a o (s.after o.dst .undef objs') := by
  intro Q
  simp only [Oper.wp, hrun, Oper.upon]
  exact ⟨c', rfl, hr.put' hd ⟨.undef _, by simp [AV.keys], rfl⟩⟩
theorem OpGoes.step {o : Oper} {v : AV} (h : Rel B c s a) (hd : ∀ t, o.dst = some t → t < B.N ∧ FreeOf s t) (hg : OpGoes P B c s a o v) : OStep P B c a o (s.after o.dst v s.objs) := by
  obtain ⟨x, c', h1, h2, h3, h4⟩ := hg
  exact OStep.value hd h1 (h.keep h2 h3) h4

theorem execOp_v {o : Oper} {m : Sem Value} {x : Value} {w w' : World} (he : execOp a.eval o = (do let x ← m; pure (Next.value x))) (hm : m.run P w = .ok x w') : (execOp a.eval o).run P w = .ok (.value x) w' := by
  rw [he]; simp [hm]

theorem effA_sound {X : Cfg} (hX : CallsOk X) (hG : X.G = B.G) (h : Rel B c s a) {o : Oper} (hd : ∀ t, o.dst = some t → t < B.N ∧ FreeOf s t) {v : AV} {objs' : List (Nat × AO)}
    (he : effA X s o = some (true, v, objs')) : OStep X.P B c a o (s.after o.dst v objs') ∧ v.isGrd = false := by
  have hch : ChOk a [] := fun t w hm => by simp at hm
  have hpure : (pureA X.P ⟨s, X.G, []⟩ o.op).map (fun r => (r.1, r.2, s.objs)) = some (true, v, objs') → OStep X.P B c a o (s.after o.dst v objs') ∧ v.isGrd = false := by
    intro he
    obtain ⟨⟨b, u⟩, h1, h2⟩ := opt_map he
    simp only [Prod.mk.injEq] at h2
    obtain ⟨rfl, rfl, rfl⟩ := h2
    rw [hG] at h1
    have hg := pureA_sound h hch h1
    refine ⟨hg.step h hd, ?_⟩
    obtain ⟨_, _, _, _, _, h4⟩ := hg
    exact h4.plain
  cases ho : o.op with
  | alloc t =>
    simp only [effA, ho] at he
    cases hdst : o.dst with
    | none => simp [hdst] at he
    | some d =>
      simp only [hdst] at he
      cases hob : s.obj d with
      | some _ => simp [hob] at he
      | none =>
        simp only [hob] at he
        obtain ⟨ob, h1, h2⟩ := opt_map he
        simp only [Prod.mk.injEq] at h2
        obtain ⟨_, rfl, rfl⟩ := h2
        obtain ⟨x, c', e1, e2, e3⟩ := alloc_sound h hob h1
        exact ⟨hdst ▸ OStep.value hd (execOp_v (by simp [execOp, ho]) e1) e2 e3, e3.plain⟩
  | box t x =>
    simp only [effA, ho] at he
    cases hdst : o.dst with
    | none => simp [hdst] at he
    | some d =>
      simp only [hdst] at he
      cases hob : s.obj d with
      | some _ => simp [hob] at he
      | none =>
        simp only [hob] at he
        obtain ⟨u, h1, he⟩ := opt_bind he
        rw [hG] at h1
        have hu := evalO_sound h hch h1
        have hcells : guardO (allOne u.cells && (sizeOf? X.P t == some u.cells.length)) (some (true, AV.ref d 0, aput s.objs d (AO.cells u.cells))) = some (true, v, objs') → OStep X.P B c a o (s.after (some d) v objs') ∧ v.isGrd = false := by
          intro he
          obtain ⟨hb, he⟩ := guardO_inv he
          simp only [Option.some.injEq, Prod.mk.injEq] at he
          obtain ⟨_, rfl, rfl⟩ := he
          simp only [Bool.and_eq_true] at hb
          obtain ⟨y, c', e1, e2, e3⟩ := box_cells_sound (P := X.P) (t := t) h hob hu hb.1
          exact ⟨hdst ▸ OStep.value hd (execOp_v (by simp [execOp, ho]) e1) e2 e3, e3.plain⟩
        cases u with
        | arr sz n get =>
          dsimp only at he
          obtain ⟨hb, he⟩ := guardO_inv he
          simp only [Option.some.injEq, Prod.mk.injEq] at he
          obtain ⟨_, rfl, rfl⟩ := he
          obtain ⟨y, c', e1, e2, e3⟩ := box_arr_sound (P := X.P) (t := t) h hob hu.rep
          exact ⟨hdst ▸ OStep.value hd (execOp_v (by simp [execOp, ho]) e1) e2 e3, e3.plain⟩
        | _ => exact hcells he
  | store t x y =>
    simp only [effA, ho] at he
    obtain ⟨u, h1, he⟩ := opt_bind he
    obtain ⟨q, h2, he⟩ := opt_bind he
    obtain ⟨⟨b, k, ob⟩, h3, he⟩ := opt_map he
    simp only [Prod.mk.injEq] at he
    obtain ⟨rfl, rfl, rfl⟩ := he
    rw [hG] at h1 h2
    obtain ⟨c', e1, e2⟩ := storeA_sound h (evalO_sound h hch h1) (evalO_sound h hch h2) h3
    exact ⟨OStep.skip hd (by simp only [execOp, ho]; simp [e1]) e2, rfl⟩
  | range t x =>
    simp only [effA, ho] at he
    cases hdst : o.dst with
    | none => simp [hdst] at he
    | some d =>
      simp only [hdst] at he
      cases hob : s.obj d with
      | some _ => simp [hob] at he
      | none =>
        simp only [hob] at he
        obtain ⟨u, h1, he⟩ := opt_bind he
        rw [hG] at h1
        have hu := (evalO_sound h hch h1).rep
        split at he
        · rename_i b ht
          simp only [Option.some.injEq, Prod.mk.injEq] at he
          obtain ⟨_, rfl, rfl⟩ := he
          generalize hX : a.eval x = X at hu
          cases hu
          obtain ⟨y, c', e1, e2, e3⟩ := range_sound h hob ht b
          exact ⟨hdst ▸ OStep.value hd (execOp_v (by simp [execOp, ho, hX]) e1) e2 e3, e3.plain⟩
        · simp at he
  | next it isS =>
    simp only [effA, ho] at he
    obtain ⟨u, h1, he⟩ := opt_bind he
    rw [hG] at h1
    have hu := (evalO_sound h hch h1).rep
    split at he
    · rename_i q
      split at he
      · rename_i b pos hob
        simp only [Option.some.injEq, Prod.mk.injEq] at he
        obtain ⟨_, rfl, rfl⟩ := he
        obtain ⟨y, c', e1, e2, e3⟩ := next_sound (P := X.P) h hob hu o.type
        exact ⟨OStep.value hd (execOp_v (by simp [execOp, ho]) e1) e2 e3, e3.plain⟩
      · simp at he
    · simp at he
  | makeSlice t l n =>
    simp only [effA, ho] at he
    cases hdst : o.dst with
    | none => simp [hdst] at he
    | some d =>
      simp only [hdst] at he
      obtain ⟨u, h1, he⟩ := opt_bind he
      obtain ⟨q, h2, he⟩ := opt_bind he
      obtain ⟨⟨b, v', k, ob⟩, h3, he⟩ := opt_map he
      simp only [Prod.mk.injEq] at he
      obtain ⟨rfl, rfl, rfl⟩ := he
      rw [hG] at h1 h2
      obtain ⟨z, c', e1, e2, e3⟩ := makeSliceA_sound h (evalO_sound h hch h1).rep (evalO_sound h hch h2).rep h3
      exact ⟨hdst ▸ OStep.value hd (execOp_v (by simp [execOp, ho]) e1) e2 e3, e3.plain⟩
  | makeMap t r =>
    cases r with
    | some r => simp only [effA, ho] at he; exact hpure (by rw [ho]; exact he)
    | none =>
      simp only [effA, ho] at he
      cases hdst : o.dst with
      | none => simp [hdst] at he
      | some d =>
        simp only [hdst] at he
        cases hob : s.obj d with
        | some _ => simp [hob] at he
        | none =>
          simp only [hob] at he
          split at he
          · obtain ⟨z, _, he⟩ := opt_bind he
            obtain ⟨q, _, he⟩ := opt_map he
            simp only [Prod.mk.injEq] at he
            obtain ⟨_, rfl, rfl⟩ := he
            obtain ⟨y, c', e1, e2, e3⟩ := makeMap_sound (P := X.P) h hob t q.1 q.2 fun _ => z
            exact ⟨hdst ▸ OStep.value hd (execOp_v (by simp [execOp, ho]) e1) e2 e3, e3.plain⟩
          · simp at he
  | lookup t x i ok =>
    simp only [effA, ho] at he
    obtain ⟨u, h1, he⟩ := opt_bind he
    obtain ⟨q, h2, he⟩ := opt_bind he
    obtain ⟨r, h3, he⟩ := opt_map he
    simp only [Prod.mk.injEq] at he
    obtain ⟨_, rfl, rfl⟩ := he
    rw [hG] at h1 h2
    obtain ⟨y, e1, e2⟩ := lookA_sound (P := X.P) (ok := ok) h (evalO_sound h hch h1) (evalO_sound h hch h2) h3
    exact ⟨OStep.value (c' := c) hd (execOp_v (by simp [execOp, ho]) e1) h e2, e2.plain⟩
  | mapUpdate t x i w =>
    simp only [effA, ho] at he
    obtain ⟨u, h1, he⟩ := opt_bind he
    obtain ⟨q, h2, he⟩ := opt_bind he
    obtain ⟨r, h4, he⟩ := opt_bind he
    obtain ⟨⟨k, ob⟩, h3, he⟩ := opt_map he
    simp only [Prod.mk.injEq] at he
    obtain ⟨_, rfl, rfl⟩ := he
    rw [hG] at h1 h2 h4
    obtain ⟨c', e1, e2⟩ := mapPutA_sound (P := X.P) h (evalO_sound h hch h1) (evalO_sound h hch h2) (evalO_sound h hch h4) h3
    exact ⟨OStep.skip hd (by simp only [execOp, ho]; simp [e1]) e2, rfl⟩
  | call q =>
    obtain ⟨callee, args, argTypes⟩ := q
    cases callee with
    | builtin b =>
      cases b with
      | append =>
        simp only [effA, ho] at he
        split at he
        · rename_i d t t' hdst hts
          obtain ⟨hb, he'⟩ := guardO_inv he
          clear he hb
          obtain ⟨l, h1, he⟩ := opt_bind he'
          rw [hG] at h1
          split at he
          · rename_i x bs
            obtain ⟨hst, he⟩ := guardO_inv he
            have hus : X.P.underlying t' = some .string := strT_inv hst
            have hs := evalL_sound h hch h1
            obtain ⟨x1, R, hXR, hx, hr⟩ := hs.cons_inv
            obtain ⟨x2, R2, hXR2, hy, hr2⟩ := hr.cons_inv
            have hR := hr2.nil_inv
            subst hR hXR2
            have e1 : args.map a.eval = #[x1, x2] := by apply Array.ext'; simpa using hXR
            have e2 : argTypes = #[t, t'] := by apply Array.ext'; simpa using hts
            obtain rfl : x2 = .string ⟨bs.toArray⟩ := by cases hy.rep; rfl
            obtain ⟨⟨b, v', k, ob⟩, h3, he⟩ := opt_map he
            simp only [Prod.mk.injEq] at he
            obtain ⟨rfl, rfl, rfl⟩ := he
            obtain ⟨V, c', g1, g2, g3⟩ := appendS_sound (ty := o.type) h hus hx.rep h3
            refine ⟨hdst ▸ OStep.value hd (execOp_v (m := Builtin.append_ #[t, t'] o.type #[x1, .string ⟨bs.toArray⟩]) ?_ g1) g2 g3, g3.plain⟩
            simp only [execOp, ho, resolve, pure_bind, invoke, builtin, e1, e2]
          · rename_i x y _
            obtain ⟨hb, he2⟩ := guardO_inv he
            have := beqT hb
            clear he
            subst this
            have he := he2
            have hs := evalL_sound h hch h1
            obtain ⟨x1, R, hXR, hx, hr⟩ := hs.cons_inv
            obtain ⟨x2, R2, hXR2, hy, hr2⟩ := hr.cons_inv
            have hR := hr2.nil_inv
            subst hR hXR2
            have e1 : args.map a.eval = #[x1, x2] := by apply Array.ext'; simpa using hXR
            have e2 : argTypes = #[t, t] := by apply Array.ext'; simpa using hts
            obtain ⟨V, c', g1, g2, g3⟩ : ∃ V c', (Builtin.append_ #[t, t] o.type #[x1, x2]).run X.P c.w = .ok V c'.w ∧ Rel B c' (s.with objs') a ∧ Sees B c' (s.with objs') v V := by
              cases hgs : isGsub x with
              | true =>
                rw [hgs] at he
                obtain ⟨⟨b, v', us⟩, h3, he⟩ := opt_map he
                simp only [Prod.mk.injEq] at he
                obtain ⟨rfl, rfl, rfl⟩ := he
                exact appendG_sound h hx.rep hy.rep h3
              | false =>
                rw [hgs] at he
                obtain ⟨⟨b, v', k, ob⟩, h3, he⟩ := opt_map he
                simp only [Prod.mk.injEq] at he
                obtain ⟨rfl, rfl, rfl⟩ := he
                cases hg : (isGsl x || X.grow o) with
                | true => rw [hg] at h3; exact appendM_sound h hx.rep hy.rep h3
                | false => rw [hg] at h3; exact appendA_sound h hx.rep hy.rep h3
            refine ⟨hdst ▸ OStep.value hd (execOp_v (m := Builtin.append_ #[t, t] o.type #[x1, x2]) ?_ g1) g2 g3, g3.plain⟩
            simp only [execOp, ho, resolve, pure_bind, invoke, builtin, e1, e2]
          · simp at he
        · simp at he
      | _ => simp only [effA, ho] at he; exact hpure (by rw [ho]; exact he)
    | value f =>
      simp only [effA, ho] at he
      obtain ⟨⟨g, l⟩, h1, he⟩ := opt_bind he
      rw [hG] at h1
      obtain ⟨xs, hs, hrun⟩ := calleeA_sound (P := X.P) h hch ho h1
      obtain ⟨hcall, fn, g1, g2, g3⟩ := doCall_sound hX hG h hs he
      refine ⟨?_, ?_⟩
      case refine_2 =>
        obtain ⟨e, w', fr, ⟨c2, x, _, _, _, hx⟩, _⟩ := hcall []
        exact hx.plain
      intro Q
      simp only [Oper.wp, hrun fn g1 g2 g3, Oper.upon]
      refine hcall.mono ?_
      rintro e w' ⟨c2, x, rfl, rfl, hr, hx⟩
      exact ⟨c2, rfl, hr.put' hd hx⟩
    | invoke r m => simp only [effA, ho] at he; exact hpure (by rw [ho]; exact he)
  | _ => simp only [effA, ho] at he; exact hpure (by rw [ho]; exact he)
/-- A literal that may be stored into. -/
theorem effX_sound {X : Cfg} (hX : CallsOk X) (hG : X.G = B.G) (h : Rel B c s a) {o : Oper} (hd : ∀ t, o.dst = some t → t < B.N ∧ FreeOf s t) {v : AV} {objs' : List (Nat × AO)}
    (he : effX X s o = some (true, v, objs')) : OStep X.P B c a o (s.after o.dst v objs') ∧ v.isGrd = false := by
  have hch : ChOk a [] := fun t w hm => by simp at hm
  cases ho : o.op with
  | buildSlice t n ps =>
    simp only [effX, ho] at he
    cases hg : X.grow o with
    | false => rw [hg] at he; exact effA_sound hX hG h hd he
    | true =>
      rw [hg] at he
      simp only [cond_true] at he
      cases hdst : o.dst with
      | none => simp [hdst] at he
      | some d =>
        simp only [hdst] at he
        cases hob : s.obj d with
        | some _ => simp [hob] at he
        | none =>
          simp only [hob] at he
          obtain ⟨l, h1, he⟩ := opt_bind he
          rw [hG] at h1
          split at he
          · rename_i b sz m get hb
            obtain ⟨_, he⟩ := guardO_inv he
            simp only [Option.some.injEq, Prod.mk.injEq] at he
            obtain ⟨rfl, rfl, rfl⟩ := he
            obtain ⟨y, c', e1, e2, e3⟩ := buildG_sound (P := X.P) h hob (evalParts_sound h hch h1) hb
            refine ⟨hdst ▸ OStep.value hd (execOp_v ?_ e1) e2 e3, e3.plain⟩
            simp only [execOp, ho]
            congr 1
            congr 1
            apply Array.ext'
            simp
          · simp at he
  | _ => simp only [effX, ho] at he; cases he
/-- One operation in text order. -/
theorem effN_sound {X : Cfg} (hX : CallsOk X) (hG : X.G = B.G) (h : Rel B c s a) {o : Oper} (hd : ∀ t, o.dst = some t → t < B.N ∧ FreeOf s t) {v : AV} {objs' : List (Nat × AO)}
    (he : effN X s o = some (true, v, objs')) : OStep X.P B c a o (s.after o.dst v objs') ∧ v.isGrd = false := by
  unfold effN at he
  split at he
  · rename_i f args ts ho
    have hch : ChOk a [] := fun t w hm => by simp at hm
    obtain ⟨⟨g, l⟩, h1, he⟩ := opt_bind he
    rw [hG] at h1
    obtain ⟨xs, hs, hrun⟩ := calleeA_sound (P := X.P) h hch ho h1
    obtain ⟨hcall, fn, g1, g2, g3⟩ : (Calls X.P g xs.toArray c.w fun e w' => ∃ c2 x, e = .returned x ∧ c2.w = w' ∧ Rel B c2 (s.with objs') a ∧ Sees B c2 (s.with objs') v x) ∧
        ∃ fn, X.P.funcs[g]? = some fn ∧ (fn.name == "runtime.NumGoroutine") = false ∧ fn.body.isSome = true := by
      cases hl : X.lend o with
      | true => rw [hl] at he; exact doCallL_sound hX hG h hs he
      | false => rw [hl] at he; exact doCallV_sound hX hG h hs he
    refine ⟨?_, ?_⟩
    case refine_2 =>
      obtain ⟨e, w', fr, ⟨c2, x, _, _, _, hx⟩, _⟩ := hcall []
      exact hx.plain
    intro Q
    simp only [Oper.wp, hrun fn g1 g2 g3, Oper.upon]
    refine hcall.mono ?_
    rintro e w' ⟨c2, x, rfl, rfl, hr, hx⟩
    exact ⟨c2, rfl, hr.put' hd hx⟩
  · cases hx : isX o.op with
    | true => rw [hx] at he; exact effX_sound hX hG h hd he
    | false => rw [hx] at he; exact effA_sound hX hG h hd he
end Go.Ab

namespace Go.Ab
open Go Go.RowKit
variable {P : Program} {B : Base} {c : Cx} {s : St} {a : Act}

theorem get_after (s : St) (d : Option Nat) (v : AV) (objs : List (Nat × AO)) (t : Nat) : (s.after d v objs).get t = if d = some t then some v else s.get t := by
  cases d with
  | none => simp [St.after, St.put, St.get]
  | some d =>
    simp only [St.after, St.get_put, Option.some.injEq]
    rfl
theorem objs_after (s : St) (d : Option Nat) (v : AV) (objs : List (Nat × AO)) : (s.after d v objs).objs = objs := by simp [St.after]

theorem undef_ne_bool (b : Bool) : undef ≠ .bool b := by simp [undef]

theorem domK_live {objs : List (Nat × AO)} {k : Nat} (h : k ∈ domK objs) : live objs k := by
  induction objs with
  | nil => simp [domK] at h
  | cons p r ih =>
    obtain ⟨q, o⟩ := p
    by_cases e : q = k
    · exact ⟨o, by simp [alook, e]⟩
    · simp only [domK, List.mem_cons] at h
      obtain ⟨o', h'⟩ := ih (h.resolve_left (fun x => e x.symm))
      exact ⟨o', by simp [alook, beqF e, h']⟩
theorem live_domK {objs : List (Nat × AO)} {k : Nat} (h : live objs k) : k ∈ domK objs := by
  induction objs with
  | nil => obtain ⟨o, h⟩ := h; simp [alook] at h
  | cons p r ih =>
    obtain ⟨q, o⟩ := p
    by_cases e : q = k
    · simp [domK, e]
    · obtain ⟨o', h'⟩ := h
      simp only [alook, beqF e, cond_false] at h'
      simp [domK, ih ⟨o', h'⟩]

/-- Behind a guard that holds, the guards of its slot hold. -/
theorem chain_ok (h : Rel B c s a) : ∀ {n t : Nat} {w : Bool}, a.tmps.getD t undef = .bool w → ChOk a (chainOf s n t w)
  | 0, t, w, ht => by
    intro t' w' hm
    simp [chainOf] at hm
    obtain ⟨rfl, rfl⟩ := hm; exact ht
  | n + 1, t, w, ht => by
    intro t' w' hm
    simp only [chainOf, List.mem_cons] at hm
    rcases hm with hm | hm
    · obtain ⟨rfl, rfl⟩ := hm; exact ht
    · cases hg : s.get t with
      | none => simp [hg] at hm
      | some u =>
        cases u with
        | grd tc wc u' =>
          simp only [hg] at hm
          have he := h.env t _ hg
          have : a.tmps.getD tc undef = .bool wc := by
            refine Classical.byContradiction fun hne => ?_
            have h2 := he.2 hne
            rw [ht] at h2
            exact undef_ne_bool w h2.symm
          exact chain_ok h this t' w' hm
        | _ => simp [hg] at hm

theorem holdsA_true (h : Rel B c s a) : ∀ {ch : Chain} {g : Bool}, ChOk a ch → holdsA s ch = some g → g = true
  | [], g, _, he => by simp [holdsA] at he; exact he
  | (t, w) :: r, g, hc, he => by
    have ht := hc t w (by simp)
    have hr : ChOk a r := fun t' w' hm => hc t' w' (List.mem_cons_of_mem _ hm)
    simp only [holdsA] at he
    cases hg : s.get t with
    | none => simp [hg] at he
    | some u =>
      have hE := h.env t _ hg
      cases u with
      | bool b =>
        simp only [hg] at he
        obtain ⟨g', h1, h2⟩ := opt_map he
        have := holdsA_true h hr h1
        subst this
        have hb : Rep c (.bool b) (a.tmps.getD t undef) := hE
        rw [ht] at hb
        cases hb
        simp at h2; exact h2
      | grd tc wc u' =>
        cases u' with
        | bool b =>
          simp only [hg] at he
          obtain ⟨g', h1, h2⟩ := opt_map he
          have := holdsA_true h hr h1
          subst this
          have hw : a.tmps.getD tc undef = .bool wc := by
            refine Classical.byContradiction fun hne => ?_
            have h2 := hE.2 hne
            rw [ht] at h2
            exact undef_ne_bool w h2.symm
          have hb : Rep c (.bool b) (a.tmps.getD t undef) := hE.1 hw
          rw [ht] at hb
          cases hb
          simp at h2; exact h2
        | _ => simp [hg] at he
      | _ => simp [hg] at he

/-- The operation with number i: what comes after it finds the next state. -/
def IStep (P : Program) (ops : Array Oper) (B : Base) (c : Cx) (a : Act) (i : Nat) (s' : St) : Prop :=
  ∀ (Q : Exit → Act → World → Prop) (K : Act → World → Prop), (∀ a' c', Rel B c' s' a' → K a' c'.w) → wpOp P ops Q i K a c.w

theorem OStep.istep {ops : Array Oper} {i : Nat} {o : Oper} {s' : St} (ho : ops[i]? = some o) (hg : o.guard = none) (h : OStep P B c a o s') : IStep P ops B c a i s' := by
  intro Q K hK
  unfold wpOp
  simp only [ho, Region.wanted, hg, if_true]
  exact .inl (Oper.wp_mono (fun a' w' => by rintro ⟨c', rfl, hr⟩; exact hK a' c' hr) (h Q))

theorem wanted_iff {ops : Array Oper} {o : Oper} {j t : Nat} {w : Bool} (hg : o.guard = some (j, w)) (ht : (ops[j]?).bind (·.dst) = some t) :
    Region.wanted o (yielded ops a.tmps) = true ↔ a.tmps.getD t undef = .bool w := by
  simp only [Region.wanted, hg, yielded, ht, Option.bind_some]
  rw [Array.getD_eq_getD_getElem?]
  cases ht' : a.tmps[t]? with
  | none => simp [undef]
  | some v =>
    cases v <;> simp

theorem ren_nil_aux : ∀ (o : Own) (m : Nat → Nat) (sz n : Nat) (get : Nat → List AV), (AV.sl o sz n get).keys = [] → (AV.sl o sz n get).ren m = .sl o sz n get := by
  intro o m sz n get h
  cases o <;> simp_all [AV.keys, AV.ren]
mutual
theorem ren_nil (m : Nat → Nat) : ∀ (v : AV), v.keys = [] → v.ren m = v
  | .sl o sz n get, h => ren_nil_aux o m sz n get h
  | .agg cs, h => by simp only [AV.ren]; rw [renL_nil m cs (by simpa [AV.keys] using h)]
  | .tup vs, h => by simp only [AV.ren]; rw [renL_nil m vs (by simpa [AV.keys] using h)]
  | .ref .., h | .aref .., h | .msl .., h => by simp [AV.keys] at h
  | .fn f p q, h => by
    simp only [AV.keys, List.append_eq_nil_iff] at h
    simp only [AV.ren]; rw [renL_nil m p h.1, renL_nil m q h.2]
  | .bool _, _ | .int .., _ | .str _, _ | .nilp, _ | .nilf, _ | .nilm, _ | .nili, _ | .nni, _ | .num _, _ | .undef, _ | .arr .., _ | .elt .., _ => rfl
  | .grd t w v, h => by simp only [AV.ren]; rw [ren_nil m v (by simpa [AV.keys] using h)]
theorem renL_nil (m : Nat → Nat) : ∀ (l : List AV), keysL l = [] → renL m l = l
  | [], _ => rfl
  | v :: r, h => by
    simp only [keysL, List.append_eq_nil_iff] at h
    simp only [renL]; rw [ren_nil m v h.1, renL_nil m r h.2]
end
theorem isNil_eq {α : Type} {l : List α} (h : isNil l = true) : l = [] := by cases l <;> simp_all [isNil]

theorem effG_pure {X : Cfg} {o : Oper} {t : Nat} {w : Bool} {v : AV} (he : effG X s o t w = some (true, v)) (hn : ∀ f args ts, o.op ≠ .call { callee := .value f, args, argTypes := ts }) :
    ∃ g b, holdsA s (chainOf s 4 t w) = some g ∧ pureA X.P ⟨s, X.G, chainOf s 4 t w⟩ o.op = some (b, v) ∧ (cond b true (!g)) = true ∧ subK v.keys (domK s.objs) = true := by
  have key : ((holdsA s (chainOf s 4 t w)).bind fun g => (pureA X.P ⟨s, X.G, chainOf s 4 t w⟩ o.op).bind fun r => guardO (subK r.2.keys (domK s.objs)) (some (cond r.1 true (!g), r.2))) = some (true, v) := by
    cases ho : o.op with
    | call q =>
      obtain ⟨callee, args, ts⟩ := q
      cases callee with
      | value f => exact absurd ho (hn f args ts)
      | _ => simpa only [effG, ho] using he
    | _ => simpa only [effG, ho] using he
  obtain ⟨g, h1, key⟩ := opt_bind key
  obtain ⟨⟨b, u⟩, h2, key⟩ := opt_bind key
  obtain ⟨h3, key⟩ := guardO_inv key
  simp only [Option.some.injEq, Prod.mk.injEq] at key
  obtain ⟨h4, rfl⟩ := key
  exact ⟨g, b, h1, h2, h4, h3⟩

theorem effG_sound {X : Cfg} (hX : CallsOk X) (hG : X.G = B.G) (h : Rel B c s a) {ops : Array Oper} {i j t d : Nat} {w : Bool} {o : Oper} (hoi : ops[i]? = some o) (hg : o.guard = some (j, w)) (ht : (ops[j]?).bind (·.dst) = some t)
    (hdst : o.dst = some d) (hdN : d < B.N) (hfree : FreeOf s d) (hdt : d ≠ t) {v : AV} (he : effG X s o t w = some (true, v)) : IStep X.P ops B c a i (s.put (some d) (.grd t w v)) := by
  intro Q K hK
  unfold wpOp
  simp only [hoi]
  have hkeys : ∀ k ∈ v.keys, live s.objs k := by
    intro k hk
    by_cases hc : ∃ f args ts, o.op = .call { callee := .value f, args, argTypes := ts }
    · obtain ⟨f, args, ts, ho⟩ := hc
      simp only [effG, ho] at he
      obtain ⟨q, _, he⟩ := opt_bind he
      obtain ⟨_, he⟩ := guardO_inv he
      obtain ⟨⟨r, os⟩, _, he⟩ := opt_bind he
      cases os with
      | nil =>
        dsimp only at he
        obtain ⟨hb, he⟩ := guardO_inv he
        simp only [Option.some.injEq, Prod.mk.injEq] at he
        obtain ⟨_, rfl⟩ := he
        simp only [Bool.and_eq_true] at hb
        rw [isNil_eq hb.1] at hk; simp at hk
      | cons _ _ => simp at he
    · obtain ⟨_, _, _, _, _, h5⟩ := effG_pure he (fun f args ts e => hc ⟨f, args, ts, e⟩)
      exact domK_live (subK_spec h5 k hk)
  by_cases hw : Region.wanted o (yielded ops a.tmps) = true
  · have hbool := (wanted_iff hg ht).1 hw
    have hch := chain_ok h (n := 4) hbool
    rw [if_pos hw]
    refine .inl ?_
    by_cases hc : ∃ f args ts, o.op = .call { callee := .value f, args, argTypes := ts }
    · obtain ⟨f, args, ts, ho⟩ := hc
      simp only [effG, ho] at he
      obtain ⟨⟨g, l⟩, h1, he⟩ := opt_bind he
      obtain ⟨hnil, he⟩ := guardO_inv he
      obtain ⟨⟨r, os⟩, h2, he⟩ := opt_bind he
      cases os with
      | cons _ _ => simp at he
      | nil =>
        dsimp only at he
        obtain ⟨hb, he⟩ := guardO_inv he
        simp only [Option.some.injEq, Prod.mk.injEq] at he
        obtain ⟨hpre, rfl⟩ := he
        simp only [Bool.and_eq_true] at hb
        have hl := isNil_eq hnil
        dsimp only at hl h2
        rw [hG] at h1
        obtain ⟨xs, hs, hrun⟩ := calleeA_sound (P := X.P) h hch ho h1
        obtain ⟨hok, fn, g1, g2, g3⟩ := hX _ _ _ _ _ hpre h2
        rw [hG] at hok
        have hcore := call_core (P := X.P) (f := g) (r := r) (ks := []) (os := []) (os' := []) h List.nodup_nil rfl (by simp [objKeys]) hs (by rw [hl]; simp) (by rw [renL_nil _ _ hl]; exact hok) rfl
        simp only [Oper.wp, hrun fn g1 g2 g3, Oper.upon]
        refine hcore.mono ?_
        rintro e w' ⟨c2, x, rfl, rfl, hr, hx⟩
        have hr' : Rel B c2 s a := hr
        have hx' : Rep c2 r x := by have := hx.rep; rw [ren_nil _ _ (isNil_eq hb.1)] at this; exact this
        refine hK _ _ ?_
        rw [hdst]
        exact hr'.putG hdN hdt (fun _ => hx') (fun hn => absurd hbool hn) hkeys hfree
    · obtain ⟨g, b, h1, h2, h3, _⟩ := effG_pure he (fun f args ts e => hc ⟨f, args, ts, e⟩)
      have := holdsA_true h hch h1
      subst this
      have hb : b = true := by cases b <;> simp_all
      subst hb
      rw [hG] at h2
      obtain ⟨x, c', e1, e2, e3, e4⟩ := pureA_sound h hch h2
      simp only [Oper.wp, e1, Oper.upon]
      refine hK _ _ ?_
      rw [hdst]
      exact (h.keep e2 e3).putG hdN hdt (fun _ => e4.rep) (fun hn => absurd hbool hn) hkeys hfree
  · have hbool : a.tmps.getD t undef ≠ .bool w := fun e => hw ((wanted_iff hg ht).2 e)
    rw [if_neg hw]
    refine hK _ _ ?_
    rw [hdst]
    exact h.putG hdN hdt (fun e => absurd e hbool) (fun _ => rfl) hkeys hfree

def NoGrd (s : St) : Prop := ∀ t v, s.get t = some v → v.isGrd = false

/-- What a step of one operation leaves: the state, and that it stands for the next world. -/
theorem stepA_inv {X : Cfg} {o : Oper} {k : St → Res} {r : AV × List AO} (he : stepA X s o k = some r) : ∃ v objs', effA X s o = some (true, v, objs') ∧ k (s.after o.dst v objs') = some r := by
  rw [stepA_eq] at he
  obtain ⟨⟨b, v, objs'⟩, h1, he⟩ := opt_bind he
  obtain ⟨rfl, he⟩ := guardO_inv he
  exact ⟨v, objs', h1, he⟩
theorem stepN_inv {X : Cfg} {o : Oper} {k : St → Res} {r : AV × List AO} (he : stepN X s o k = some r) : ∃ v objs', effN X s o = some (true, v, objs') ∧ k (s.after o.dst v objs') = some r := by
  rw [stepN_eq] at he
  obtain ⟨⟨b, v, objs'⟩, h1, he⟩ := opt_bind he
  obtain ⟨rfl, he⟩ := guardO_inv he
  exact ⟨v, objs', h1, he⟩
theorem stepG_inv {X : Cfg} {o : Oper} {t : Nat} {w : Bool} {k : St → Res} {r : AV × List AO} (he : stepG X s o t w k = some r) :
    ∃ d v, o.dst = some d ∧ d ≠ t ∧ effG X s o t w = some (true, v) ∧ k (s.put (some d) (.grd t w v)) = some r := by
  rw [stepG_eq] at he
  cases hd : o.dst with
  | none => simp [hd] at he
  | some d =>
    simp only [hd] at he
    obtain ⟨h1, he⟩ := cond_none' he
    obtain ⟨⟨b, v⟩, h2, he⟩ := opt_bind he
    obtain ⟨rfl, he⟩ := guardO_inv he
    exact ⟨d, v, rfl, fun e => by subst e; simp at h1, h2, he⟩

/-- The slots that values wait for are not written again. -/
def GInv (s : St) (rest : List Oper) : Prop := ∀ t tc w v, s.get t = some (.grd tc w v) → ∀ o ∈ rest, o.dst ≠ some tc

theorem GInv.after {s : St} {o : Oper} {rest : List Oper} (h : GInv s (o :: rest)) {v : AV} (hv : v.isGrd = false) (objs : List (Nat × AO)) : GInv (s.after o.dst v objs) rest := by
  intro t tc w u hu q hq
  rw [get_after] at hu
  by_cases e : o.dst = some t
  · rw [if_pos e] at hu; cases hu; simp [AV.isGrd] at hv
  · rw [if_neg e] at hu; exact h t tc w u hu q (List.mem_cons_of_mem _ hq)

theorem GInv.putG {s : St} {o : Oper} {rest : List Oper} (h : GInv s (o :: rest)) {d t : Nat} {w : Bool} {v : AV} (hr : (rest.any fun q => q.dst == some t) = false) : GInv (s.put (some d) (.grd t w v)) rest := by
  intro t' tc w' u hu q hq
  rw [St.get_put] at hu
  by_cases e : d = t'
  · rw [if_pos e] at hu
    simp only [Option.some.injEq, AV.grd.injEq] at hu
    obtain ⟨rfl, _, _⟩ := hu
    have := List.any_eq_false.1 hr q hq
    simpa using this
  · rw [if_neg e] at hu; exact h t' tc w' u hu q (List.mem_cons_of_mem _ hq)

theorem get_same {s : St} {t : Nat} {v : AV} (h : s.get t = some v) (q : Nat) : (s.put (some t) v).get q = s.get q := by
  rw [St.get_put]
  by_cases e : t = q
  · subst e; rw [if_pos rfl, h]
  · rw [if_neg e]
theorem Rel.same (h : Rel B c s a) {t : Nat} {v : AV} (hv : s.get t = some v) : Rel B c (s.put (some t) v) a :=
  h.less (by rw [St.objs_put]; exact h.kept) (fun q u hu => by rwa [get_same hv] at hu) (fun k o ho => by simpa using ho) (fun q u hu k hk => by rw [St.objs_put]; rw [get_same hv] at hu; exact h.closed q u hu k hk) (fun k o ho q hq => by rw [St.objs_put]; exact h.objs.closed k o (by simpa [St.obj] using ho) q hq)
theorem GInv.same {s : St} {rest : List Oper} (h : GInv s rest) {t : Nat} {v : AV} (hv : s.get t = some v) : GInv (s.put (some t) v) rest := fun q tc w u hu => h q tc w u (by rwa [get_same hv] at hu)
theorem stepB_inv {X : Cfg} {s : St} {o : Oper} {t : Nat} {w : Bool} {k : St → Res} {r : AV × List AO} (he : stepB X s o t w k = some r) :
    ∃ b, s.get t = some (.bool b) ∧ ((b = w ∧ stepN X (s.put (some t) (.bool b)) o k = some r) ∨ (b ≠ w ∧ k ((s.put (some t) (.bool b)).put o.dst .undef) = some r)) := by
  unfold stepB at he
  split at he
  · rename_i b hb
    refine ⟨b, hb, ?_⟩
    cases w <;> cases b
    · exact .inl ⟨rfl, he⟩
    · exact .inr ⟨by simp, he⟩
    · exact .inr ⟨by simp, he⟩
    · exact .inl ⟨rfl, he⟩
  · cases he
theorem runOps_sound {X : Cfg} (hX : CallsOk X) (hG : X.G = B.G) {ops : Array Oper} {k : St → Res} {r : AV × List AO} {Q : Exit → Act → World → Prop}  :
    ∀ (rest : List Oper) (i : Nat) (s : St) (c : Cx) (a : Act), (∀ j o, rest[j]? = some o → ops[i + j]? = some o) → runOps X ops rest s k = some r → Rel B c s a → (∀ o ∈ rest, ∀ d, o.dst = some d → d < B.N) → GInv s rest →
      (∀ s' c' a', k s' = some r → Rel B c' s' a' → (NoGrd s → anyGuard rest = false → NoGrd s') → Q .normal a' c'.w) → wpOps X.P ops Q (List.range' i rest.length) a c.w
  | [], i, s, c, a, _, he, h, _, _, hk => by
    simp only [List.length_nil, List.range'_zero, wpOps]
    exact hk s c a he h (fun hn _ => hn)
  | o :: rest, i, s, c, a, hops, he, h, hN, hI, hk => by
    have hoi : ops[i]? = some o := hops 0 o rfl
    have hrest : ∀ j q, rest[j]? = some q → ops[i + 1 + j]? = some q := fun j q hq => by
      have := hops (j + 1) q (by simpa using hq)
      rw [Nat.add_assoc, Nat.add_comm 1 j]; exact this
    have hN' : ∀ o ∈ rest, ∀ d, o.dst = some d → d < B.N := fun q hq => hN q (List.mem_cons_of_mem _ hq)
    simp only [List.length_cons, List.range'_succ]
    rw [wpOps_cons]
    cases hg : o.guard with
    | none =>
      simp only [runOps, hg] at he
      obtain ⟨v, objs', h1, h2⟩ := stepN_inv he
      have hfree : ∀ t, o.dst = some t → t < B.N ∧ FreeOf s t := fun t ht => ⟨hN o (by simp) t ht, fun t' tc w v' hgt e => hI t' tc w v' hgt o (by simp) (by rw [ht, e])⟩
      obtain ⟨hstep, hv⟩ := effN_sound hX hG h hfree h1
      refine hstep.istep hoi hg Q _ fun a' c' hr => ?_
      refine runOps_sound hX hG rest (i + 1) _ c' a' hrest h2 hr hN' (hI.after hv objs') fun s' c2 a2 e1 e2 e3 => hk s' c2 a2 e1 e2 fun hn hq => e3 (fun t u hu => ?_) (by simpa [anyGuard, hg] using hq)
      rw [get_after] at hu
      by_cases e : o.dst = some t
      · rw [if_pos e] at hu; cases hu; exact hv
      · rw [if_neg e] at hu; exact hn t u hu
    | some jw =>
      obtain ⟨j, w⟩ := jw
      simp only [runOps, hg] at he
      cases ht : (ops[j]?).bind (·.dst) with
      | none => simp [ht] at he
      | some t =>
        simp only [ht] at he
        obtain ⟨hany, he⟩ := cond_none' he
        cases hbrk : X.brk o with
        | true =>
          rw [hbrk, cond_true] at he
          obtain ⟨b, hb, hee⟩ := stepB_inv he
          have h' := h.same hb
          have hI' := hI.same hb
          have hbt := (h.env t _ hb)
          have hbv : a.tmps.getD t undef = .bool b := by
            have hbt : Rep c (.bool b) (a.tmps.getD t undef) := hbt
            generalize a.tmps.getD t undef = Z at hbt
            cases hbt; rfl
          rcases hee with ⟨rfl, hs1⟩ | ⟨hne, hs1⟩
          · obtain ⟨v, objs', h1, h2⟩ := stepN_inv hs1
            have hfree : ∀ t', o.dst = some t' → t' < B.N ∧ FreeOf (s.put (some t) (.bool b)) t' := fun t' ht' => ⟨hN o (by simp) t' ht', fun t'' tc w' v' hgt e => hI' t'' tc w' v' hgt o (by simp) (by rw [ht', e])⟩
            obtain ⟨hstep, hv⟩ := effN_sound hX hG h' hfree h1
            have hw : Region.wanted o (yielded ops a.tmps) = true := (wanted_iff hg ht).2 hbv
            have hist : IStep X.P ops B c a i ((s.put (some t) (.bool b)).after o.dst v objs') := by
              intro Q K hK
              unfold wpOp
              simp only [hoi]
              rw [if_pos hw]
              exact .inl (Oper.wp_mono (fun a' w' => by rintro ⟨c', rfl, hr⟩; exact hK a' c' hr) (hstep Q))
            refine hist Q _ fun a' c' hr => ?_
            refine runOps_sound hX hG rest (i + 1) _ c' a' hrest h2 hr hN' (hI'.after hv objs') fun s' c2 a2 e1 e2 e3 => hk s' c2 a2 e1 e2 fun hn hq => ?_
            simp [anyGuard, hg] at hq
          · have hw : ¬ Region.wanted o (yielded ops a.tmps) = true := fun e => by
              have := (wanted_iff hg ht).1 e
              rw [hbv] at this
              exact hne (by simpa using this)
            have hist : IStep X.P ops B c a i ((s.put (some t) (.bool b)).put o.dst .undef) := by
              intro Q K hK
              unfold wpOp
              simp only [hoi]
              rw [if_neg hw]
              refine hK _ _ ?_
              cases hd : o.dst with
              | none => exact h'
              | some d => exact h'.put (hN o (by simp) d hd) (.undef _) rfl (by simp [AV.keys]) (fun t'' tc w' v' hgt e => hI' t'' tc w' v' hgt o (by simp) (by rw [hd, e]))
            refine hist Q _ fun a' c' hr => ?_
            refine runOps_sound hX hG rest (i + 1) _ c' a' hrest hs1 hr hN' (hI'.after (v := .undef) rfl (s.put (some t) (.bool b)).objs) fun s' c2 a2 e1 e2 e3 => hk s' c2 a2 e1 e2 fun hn hq => ?_
            simp [anyGuard, hg] at hq
        | false =>
        rw [hbrk, cond_false] at he
        obtain ⟨d, v, hd, hdt, h1, h2⟩ := stepG_inv he
        have hfree : FreeOf s d := fun t' tc w v' hgt e => hI t' tc w v' hgt o (by simp) (by rw [hd, e])
        refine effG_sound hX hG h hoi hg ht hd (hN o (by simp) d hd) hfree hdt h1 Q _ fun a' c' hr => ?_
        refine runOps_sound hX hG rest (i + 1) _ c' a' hrest h2 hr hN' (hI.putG hany) fun s' c2 a2 e1 e2 e3 => hk s' c2 a2 e1 e2 fun hn hq => ?_
        simp [anyGuard, hg] at hq

theorem alook_purge (env : List (Nat × AV)) (t : Nat) : alook (purge env) t = (alook env t).map fun v => cond v.isGrd .undef v := by
  induction env with
  | nil => rfl
  | cons p r ih =>
    obtain ⟨q, v⟩ := p
    simp only [purge, alook]
    cases Nat.beq q t <;> simp [ih]

theorem Rel.purge (h : Rel B c s a) : Rel B c { s with env := purge s.env } a := by
  refine ⟨h.good, h.frame, h.objs, fun t v hv => ?_, fun t v hv => ?_, h.mine, h.tmps, h.defers, h.kept⟩
  · simp only [St.get, alook_purge] at hv
    obtain ⟨u, h1, h2⟩ := opt_map hv
    cases hu : u.isGrd with
    | true => simp only [hu, cond_true] at h2; subst h2; exact EnvRep.of_rep rfl (.undef _)
    | false => simp only [hu, cond_false] at h2; subst h2; exact h.env t u h1
  · simp only [St.get, alook_purge] at hv
    obtain ⟨u, h1, h2⟩ := opt_map hv
    cases hu : u.isGrd with
    | true => simp only [hu, cond_true] at h2; subst h2; simp [AV.keys]
    | false => simp only [hu, cond_false] at h2; subst h2; exact h.closed t u h1
theorem NoGrd.purge (s : St) : NoGrd { s with env := Go.Ab.purge s.env } := by
  intro t v hv
  simp only [St.get, alook_purge] at hv
  obtain ⟨u, h1, h2⟩ := opt_map hv
  cases hu : u.isGrd with
  | true => simp only [hu, cond_true] at h2; subst h2; rfl
  | false => simp only [hu, cond_false] at h2; subst h2; exact hu

theorem NoGrd.ginv {s : St} (h : NoGrd s) (rest : List Oper) : GInv s rest := by
  intro t tc w v hv
  have := h t _ hv
  simp [AV.isGrd] at this

theorem runRegion_sound {X : Cfg} (hX : CallsOk X) (hG : X.G = B.G) {ops : Array Oper} {id : Nat} {k : St → Res} {r : AV × List AO} {Q : Exit → Act → World → Prop} (he : runRegion X ops s k = some r) (h : Rel B c s a) (hn : NoGrd s)
    (hN : ∀ o ∈ ops.toList, ∀ d, o.dst = some d → d < B.N) (hk : ∀ s' c' a', k s' = some r → Rel B c' s' a' → NoGrd s' → Q .normal a' c'.w) : (Code.region id ops false).wp X.P Q a c.w := by
  apply wp_region
  have hr : List.range ops.size = List.range' 0 ops.toList.length := by simp [List.range_eq_range']
  rw [hr]
  have hops : ∀ j o, ops.toList[j]? = some o → ops[0 + j]? = some o := fun j o ho => by simpa using ho
  unfold runRegion at he
  cases hb : anyGuard ops.toList with
  | true =>
    simp only [hb, cond_true] at he
    obtain ⟨_, he⟩ := cond_none he
    exact runOps_sound hX hG ops.toList 0 s c a hops he h hN (hn.ginv _) fun s' c' a' e1 e2 _ => hk _ c' a' e1 e2.purge (NoGrd.purge _)
  | false =>
    simp only [hb, cond_false] at he
    exact runOps_sound hX hG ops.toList 0 s c a hops he h hN (hn.ginv _) fun s' c' a' e1 e2 e3 => hk _ c' a' e1 e2 (e3 hn hb)
end Go.Ab

namespace Go.Ab
open Go Go.RowKit

def Agree (s1 s2 : St) (l : List Nat) : Prop := ∀ t ∈ l, s1.get t = s2.get t

theorem opTmps_mem {l : List Operand} {t : Nat} : t ∈ opTmps l ↔ Operand.tmp t ∈ l := by
  induction l with
  | nil => simp [opTmps]
  | cons o r ih => cases o <;> simp [opTmps, ih]
theorem Agree.sub {s1 s2 : St} {l m : List Operand} (h : Agree s1 s2 (opTmps l)) (hs : ∀ x ∈ m, x ∈ l) : Agree s1 s2 (opTmps m) :=
  fun t ht => h t (opTmps_mem.2 (hs _ (opTmps_mem.1 ht)))

section
variable {s1 s2 : St} {G : Nat → Option (List AV)} {ch : Chain}
theorem evalO_congr {x : Operand} (h : Agree s1 s2 (opTmps [x])) : evalO ⟨s1, G, ch⟩ x = evalO ⟨s2, G, ch⟩ x := by
  cases x with
  | tmp t => simp only [evalO]; rw [h t (by simp [opTmps])]
  | _ => rfl
theorem evalL_congr : ∀ {l : List Operand}, Agree s1 s2 (opTmps l) → evalL ⟨s1, G, ch⟩ l = evalL ⟨s2, G, ch⟩ l
  | [], _ => rfl
  | x :: r, h => by
    simp only [evalL]
    rw [evalO_congr (h.sub (by simp)), evalL_congr (l := r) (h.sub (by simp +contextual))]
theorem evalParts_congr : ∀ {l : List (Nat × Operand)}, Agree s1 s2 (opTmps (l.map (·.2))) → evalParts ⟨s1, G, ch⟩ l = evalParts ⟨s2, G, ch⟩ l
  | [], _ => rfl
  | (i, x) :: r, h => by
    simp only [evalParts]
    rw [evalO_congr (h.sub (by simp)), evalParts_congr (l := r) (h.sub (by simp +contextual))]
theorem evalM_congr {x : Option Operand} (h : Agree s1 s2 (opTmps x.toList)) : pureA.evalM ⟨s1, G, ch⟩ x = pureA.evalM ⟨s2, G, ch⟩ x := by
  cases x with
  | none => rfl
  | some o => simp only [pureA.evalM]; rw [evalO_congr (h.sub (by simp))]

/-- The same objects under these keys. -/
def SameK (s1 s2 : St) (l : List Nat) : Prop := ∀ k ∈ l, s1.obj k = s2.obj k

theorem srcA_congr {x : AV} (h : SameK s1 s2 x.keys) : srcA s1 x = srcA s2 x := by
  cases x with
  | msl k sz off n => simp only [srcA, h k (by simp [AV.keys])]
  | gsl k sz n => simp only [srcA, h k (by simp [AV.keys])]
  | gsub k sz n lo len => simp only [srcA, h k (by simp [AV.keys])]
  | _ => rfl
theorem loadA_congr {x : AV} (h : SameK s1 s2 x.keys) (P : Program) (t : TypeId) : loadA P s1 t x = loadA P s2 t x := by
  cases x with
  | ref k off => simp only [loadA, h k (by simp [AV.keys])]
  | aref k sz i off => simp only [loadA, h k (by simp [AV.keys])]
  | gref k sz n i off => simp only [loadA, h k (by simp [AV.keys])]
  | _ => rfl
theorem indexAddrA_congr {x : AV} (h : SameK s1 s2 x.keys) (P : Program) (t : TypeId) (i : AV) : indexAddrA P s1 t x i = indexAddrA P s2 t x i := by
  cases i <;> try rfl
  simp only [indexAddrA]
  cases P.underlying t with
  | none => rfl
  | some d =>
    cases x with
    | ref k off => cases d <;> first | rfl | (cases off <;> simp only [h k (by simp [AV.keys])])
    | gsl k sz n => cases d <;> first | rfl | simp only [h k (by simp [AV.keys])]
    | gsub k sz n lo len => cases d <;> first | rfl | simp only [h k (by simp [AV.keys])]
    | _ => cases d <;> rfl
theorem convA_congr {x : AV} (h : SameK s1 s2 x.keys) (P : Program) (a b : TypeId) : convA P s1 a b x = convA P s2 a b x := by
  unfold convA
  cases P.underlying b with
  | none => rfl
  | some d =>
    cases x with
    | msl k sz off n => cases d <;> first | rfl | simp only [srcA, h k (by simp [AV.keys])]
    | gsl k sz n => cases d <;> first | rfl | simp only [srcA, h k (by simp [AV.keys])]
    | gsub k sz n lo len => cases d <;> first | rfl | simp only [srcA, h k (by simp [AV.keys])]
    | _ => cases d <;> rfl
theorem storeA_congr {x : AV} (h : SameK s1 s2 x.keys) (P : Program) (t : TypeId) (v : AV) : storeA P s1 t x v = storeA P s2 t x v := by
  cases x with
  | ref k off => simp only [storeA, h k (by simp [AV.keys])]
  | aref k sz i off => simp only [storeA, h k (by simp [AV.keys])]
  | gref k sz n i off => simp only [storeA, h k (by simp [AV.keys])]
  | _ => rfl
theorem lookA_congr {x : AV} (h : SameK s1 s2 x.keys) (P : Program) (t : TypeId) (i : AV) : lookA P s1 t x i = lookA P s2 t x i := by
  unfold lookA
  cases P.underlying t with
  | none => rfl
  | some d =>
    cases x with
    | mref k => cases d <;> first | rfl | simp only [h k (by simp [AV.keys])]
    | _ => cases d <;> rfl
theorem mapPutA_congr {x : AV} (h : SameK s1 s2 x.keys) (P : Program) (t : TypeId) (i v : AV) : mapPutA P s1 t x i v = mapPutA P s2 t x i v := by
  unfold mapPutA
  cases P.underlying t with
  | none => rfl
  | some d =>
    cases x with
    | mref k => cases d <;> first | rfl | simp only [h k (by simp [AV.keys])]
    | _ => cases d <;> rfl
theorem lookA_key {P : Program} {s : St} {t : TypeId} {x i : AV} {r : Bool × AV × AV} (h : lookA P s t x i = some r) : ∃ k ob, k ∈ x.keys ∧ s.obj k = some ob := by
  unfold lookA at h
  split at h
  · rename_i kt et k hu
    obtain ⟨z, _, h⟩ := opt_bind h
    split at h
    · rename_i ho; exact ⟨k, _, by simp [AV.keys], ho⟩
    · cases h
  · cases h
theorem mapPutA_key {P : Program} {s : St} {t : TypeId} {x i v : AV} {k : Nat} {ob : AO} (h : mapPutA P s t x i v = some (k, ob)) : k ∈ x.keys := by
  unfold mapPutA at h
  split at h
  · split at h
    · obtain ⟨_, h⟩ := guardO_inv h
      simp only [Option.some.injEq, Prod.mk.injEq] at h
      simp [AV.keys, h.1]
    · cases h
  · cases h
theorem aput_same {α : Type} : ∀ {l : List (Nat × α)} {k : Nat} {x : α}, alook l k = some x → aput l k x = l
  | [], k, x, h => by simp [alook] at h
  | (q, y) :: r, k, x, h => by
    simp only [alook] at h
    simp only [aput]
    cases hq : Nat.beq q k with
    | true => rw [hq] at h; simp at h; simp [h]
    | false => rw [hq] at h; simp only [cond_false] at h ⊢; rw [aput_same h]
theorem makeSliceA_congr {d : Nat} (h : s1.obj d = s2.obj d) (P : Program) (t : TypeId) (same : Bool) (x v : AV) : makeSliceA P s1 d t same x v = makeSliceA P s2 d t same x v := by
  simp only [makeSliceA, h]
theorem appendA_congr {d : Nat} {x y : AV} (h : s1.obj d = s2.obj d) (hx : SameK s1 s2 x.keys) (hy : SameK s1 s2 y.keys) (P : Program) (t : TypeId) : appendA P s1 d t x y = appendA P s2 d t x y := by
  unfold appendA
  rw [srcA_congr hy]
  cases P.underlying t with
  | none => rfl
  | some D =>
    cases D with
    | slice e =>
      dsimp only
      cases sizeOf? P e with
      | none => rfl
      | some sz => cases zeroCells P e with
        | none => rfl
        | some z => cases P.info? e with
          | none => rfl
          | some inf => cases x with
            | sl o sz0 n get => cases srcA s2 y with
              | none => rfl
              | some q => cases o with
                | no => rfl
                | fit => dsimp only; rw [h]
                | key k => dsimp only; rw [hx k (by simp [AV.keys])]
            | _ => rfl
    | _ => rfl
theorem appendS_congr {d : Nat} {x : AV} (h : s1.obj d = s2.obj d) (hx : SameK s1 s2 x.keys) (P : Program) (t : TypeId) (b : List UInt8) : appendS P s1 d t x b = appendS P s2 d t x b := by
  unfold appendS
  cases P.underlying t with
  | none => rfl
  | some D =>
    cases D with
    | slice e =>
      dsimp only
      cases sizeOf? P e with
      | none => rfl
      | some sz => cases zeroCells P e with
        | none => rfl
        | some z => cases P.info? e with
          | none => rfl
          | some inf => cases P.underlying e with
            | none => rfl
            | some E => cases x with
              | sl o sz0 n get => cases E with
                | int ki => cases ki <;> cases o <;> first | rfl | (dsimp only; rw [h]) | (dsimp only; rw [hx _ (by simp [AV.keys])])
                | _ => rfl
              | _ => cases E with
                | int ki => cases ki <;> rfl
                | _ => rfl
    | _ => rfl
theorem appendS_key {P : Program} {s : St} {d : Nat} {t : TypeId} {x v : AV} {bs : List UInt8} {b : Bool} {k : Nat} {ob : AO} (h : appendS P s d t x bs = some (b, v, k, ob)) : k = d ∨ k ∈ x.keys := by
  unfold appendS at h
  split at h
  · split at h
    · rename_i ow sz0 n get _ _ _ _
      obtain ⟨_, h⟩ := guardO_inv h
      cases ow with
      | no => cases h
      | fit =>
        simp only [] at h
        split at h
        · simp only [Option.some.injEq, Prod.mk.injEq] at h; exact .inl h.2.2.1.symm
        · cases h
      | key k' =>
        simp only [] at h
        split at h
        · obtain ⟨_, h⟩ := guardO_inv h
          simp only [Option.some.injEq, Prod.mk.injEq] at h; exact .inr (by simp [AV.keys, h.2.2.1])
        · cases h
    · cases h
  · cases h
theorem appendM_congr {d : Nat} {x y : AV} (h : s1.obj d = s2.obj d) (hx : SameK s1 s2 x.keys) (hy : SameK s1 s2 y.keys) (P : Program) (t : TypeId) : appendM P s1 d t x y = appendM P s2 d t x y := by
  unfold appendM
  rw [srcA_congr hy]
  cases P.underlying t with
  | none => rfl
  | some D =>
    cases D with
    | slice e =>
      dsimp only
      cases sizeOf? P e with
      | none => rfl
      | some sz => cases zeroCells P e with
        | none => rfl
        | some z => cases P.info? e with
          | none => rfl
          | some inf => cases srcA s2 y with
            | none => rfl
            | some q => cases x with
              | sl o sz0 n get => cases o with
                | no => rfl
                | fit => dsimp only; rw [h]
                | key k => rfl
              | gsl k sz0 n => dsimp only; rw [hx k (by simp [AV.keys])]
              | _ => rfl
    | _ => rfl

theorem appendG_congr {d : Nat} {x y : AV} (h : s1.obj d = s2.obj d) (h' : s1.obj (d + 500000) = s2.obj (d + 500000)) (hx : SameK s1 s2 x.keys) (hy : SameK s1 s2 y.keys) (P : Program) (t : TypeId) : appendG P s1 d t x y = appendG P s2 d t x y := by
  unfold appendG
  rw [srcA_congr hy]
  have hf : freshK s1.objs d = freshK s2.objs d := by
    unfold freshK
    have e1 : alook s1.objs d = alook s2.objs d := h
    have e2 : alook s1.objs (d + 500000) = alook s2.objs (d + 500000) := h'
    rw [e1, e2]
  rw [hf]
  cases P.underlying t with
  | none => rfl
  | some D => cases x with
    | gsub k sz0 n lo hh => cases D <;> first | rfl | (cases lo <;> first | rfl | simp only [hx k (by simp [AV.keys])])
    | _ => cases D <;> rfl
theorem appendG_keys {P : Program} {s : St} {d : Nat} {t : TypeId} {x y v : AV} {b : Bool} {us : List (Nat × AO)} (h : appendG P s d t x y = some (b, v, us)) : ∀ p ∈ us, p.1 ∈ x.keys ∨ p.1 = d ∨ p.1 = d + 500000 := by
  unfold appendG at h
  split at h
  · split at h
    · rename_i hK
      obtain ⟨_, h⟩ := guardO_inv h
      simp only [Option.some.injEq, Prod.mk.injEq] at h
      obtain ⟨_, _, rfl⟩ := h
      intro p hp
      rcases List.mem_cons.1 hp with rfl | hp
      · exact .inl (by simp [AV.keys])
      · simp only [List.mem_singleton] at hp
        subst hp
        right
        unfold freshK at hK
        split at hK
        · exact .inl (Option.some.inj hK).symm
        · split at hK
          · exact .inr (Option.some.inj hK).symm
          · cases hK
    · cases h
  · cases h
theorem putU_other {k : Nat} : ∀ {us objs : List (Nat × AO)}, (∀ p ∈ us, p.1 ≠ k) → alook (putU objs us) k = alook objs k
  | [], _, _ => rfl
  | (q, o) :: r, objs, h => by
    rw [putU, putU_other fun p hp => h p (List.mem_cons_of_mem _ hp), alook_aput, if_neg (h _ (List.mem_cons_self ..))]
theorem putU_same {k : Nat} : ∀ {us o1 o2 : List (Nat × AO)}, alook o1 k = alook o2 k → alook (putU o1 us) k = alook (putU o2 us) k
  | [], _, _, h => h
  | (q, o) :: r, o1, o2, h => by
    rw [putU, putU]
    refine putU_same ?_
    rw [alook_aput, alook_aput, h]
theorem opKeys_mem {c : Ctx} {x : Operand} {v : AV} (hv : evalO c x = some v) : ∀ {l : List Operand}, x ∈ l → ∀ k ∈ v.keys, k ∈ opKeys c l
  | [], hx, _, _ => by simp at hx
  | y :: r, hx, k, hk => by
    simp only [opKeys, List.mem_append]
    rcases List.mem_cons.1 hx with rfl | hx
    · left; rw [hv]; exact hk
    · exact .inr (opKeys_mem hv hx k hk)

theorem pureA_congr (P : Program) {op : Op} (h : Agree s1 s2 (opTmps op.operands.toList)) (ho : SameK s1 s2 (cond (readsObj op) (opKeys ⟨s2, G, ch⟩ op.operands.toList) [])) : pureA P ⟨s1, G, ch⟩ op = pureA P ⟨s2, G, ch⟩ op := by
  have E : ∀ {x : Operand} {ch : Chain}, x ∈ op.operands.toList → evalO ⟨s1, G, ch⟩ x = evalO ⟨s2, G, ch⟩ x := fun {x ch} hx => evalO_congr (h.sub (m := [x]) (by simpa using hx))
  have K : readsObj op = true → ∀ {x : Operand} {v : AV}, x ∈ op.operands.toList → evalO ⟨s2, G, ch⟩ x = some v → SameK s1 s2 v.keys := fun hr {x v} hx hv k hk => ho k (by rw [hr]; exact opKeys_mem hv hx k hk)
  cases op with
  | move x | assign x | nilCheck x | unOp _ _ x | extract x _ | fieldAddr _ x _ | field _ x _ => simp only [pureA]; rw [E (by simp [Op.operands])]
  | load t x =>
    simp only [pureA]; rw [E (by simp [Op.operands])]
    cases hx : evalO ⟨s2, G, ch⟩ x with
    | none => rfl
    | some v => simp only [Option.bind_some]; exact loadA_congr (K rfl (by simp [Op.operands]) hx) P t
  | convert a b x =>
    simp only [pureA]; rw [E (by simp [Op.operands])]
    cases hx : evalO ⟨s2, G, ch⟩ x with
    | none => rfl
    | some v => simp only [Option.bind_some]; exact convA_congr (K rfl (by simp [Op.operands]) hx) P a b
  | pick q a b =>
    cases q with
    | tmp t => simp only [pureA]; rw [E (x := .tmp t) (by simp [Op.operands]), E (x := a) (by simp [Op.operands]), E (x := b) (by simp [Op.operands])]
    | _ => rfl
  | build t ps | buildSlice t n ps =>
    simp only [pureA]; rw [evalParts_congr (h.sub (by simp [Op.operands]))]
  | binOp op t x y z => simp only [pureA]; rw [E (x := x) (by simp [Op.operands]), E (x := y) (by simp [Op.operands])]
  | makeSlice t x y => simp only [pureA]; rw [E (x := x) (by simp [Op.operands]), E (x := y) (by simp [Op.operands])]
  | indexAddr t x y =>
    simp only [pureA]; rw [E (x := x) (by simp [Op.operands]), E (x := y) (by simp [Op.operands])]
    cases hx : evalO ⟨s2, G, ch⟩ x with
    | none => rfl
    | some v => simp only [Option.bind_some, indexAddrA_congr (K rfl (by simp [Op.operands]) hx)]
  | index t x y =>
    simp only [pureA]; rw [E (x := x) (by simp [Op.operands]), E (x := y) (by simp [Op.operands])]
  | makeFunc f a b =>
    cases f with
    | func f => simp only [pureA]; rw [evalL_congr (l := a.toList) (h.sub (by simp +contextual [Op.operands])), evalL_congr (l := b.toList) (h.sub (by simp +contextual [Op.operands]))]
    | _ => rfl
  | slice t x l hi m =>
    simp only [pureA]
    rw [E (x := x) (by simp [Op.operands]), evalM_congr (x := l) (h.sub (by simp +contextual [Op.operands])), evalM_congr (x := hi) (h.sub (by simp +contextual [Op.operands])), evalM_congr (x := m) (h.sub (by simp +contextual [Op.operands]))]
  | call q =>
    obtain ⟨callee, args, ts⟩ := q
    cases callee with
    | builtin b =>
      have hl : evalL ⟨s1, G, ch⟩ args.toList = evalL ⟨s2, G, ch⟩ args.toList := evalL_congr (h.sub (by simp +contextual [Op.operands, Call.operands]))
      cases b <;> first | rfl | (simp only [pureA]; rw [hl])
    | _ => rfl
  | _ => rfl

theorem opKeys_nil {c : Ctx} : ∀ {l : List Operand}, opKeys c l = [] → ∀ x ∈ l, ∃ v, evalO c x = some v ∧ v.keys = []
  | [], _, x, hx => by simp at hx
  | y :: r, h, x, hx => by
    simp only [opKeys, List.append_eq_nil_iff] at h
    rcases List.mem_cons.1 hx with rfl | hx
    · cases hv : evalO c x with
      | none => simp [hv] at h
      | some v => simp [hv] at h; exact ⟨v, rfl, h.1⟩
    · exact opKeys_nil h.2 x hx
end
end Go.Ab

namespace Go.Ab
open Go Go.RowKit

mutual
theorem shed_nil : ∀ (v : AV), v.keys = [] → v.shed = v
  | .sl o sz n get, h => by cases o <;> simp_all [AV.keys, AV.shed]
  | .agg cs, h => by simp only [AV.shed]; rw [shedL_nil cs (by simpa [AV.keys] using h)]
  | .tup vs, h => by simp only [AV.shed]; rw [shedL_nil vs (by simpa [AV.keys] using h)]
  | .ref .., _ | .aref .., _ | .msl .., _ | .fn .., _ | .bool _, _ | .int .., _ | .str _, _ | .nilp, _ | .nilf, _ | .nilm, _ | .nili, _ | .nni, _ | .num _, _ | .undef, _ | .arr .., _ | .elt .., _ | .grd .., _ => rfl
theorem shedL_nil : ∀ (l : List AV), keysL l = [] → shedL l = l
  | [], _ => rfl
  | v :: r, h => by
    simp only [keysL, List.append_eq_nil_iff] at h
    simp only [shedL]; rw [shed_nil v h.1, shedL_nil r h.2]
end
theorem freezeA_nil {O : List (Nat × AO)} {v : AV} (h : v.keys = []) : freezeA O v = some (v, O) := by
  cases v <;> first | rfl | (simp [AV.keys] at h; done)
theorem freezeL_nil {O : List (Nat × AO)} : ∀ {l : List AV}, keysL l = [] → freezeL O l = some (l, O)
  | [], _ => rfl
  | v :: r, h => by
    simp only [keysL, List.append_eq_nil_iff] at h
    simp only [freezeL, freezeA_nil h.1, freezeL_nil h.2, Option.bind_some]
theorem freezeV_nil {O : List (Nat × AO)} {v : AV} (h : v.keys = []) : freezeV O v = some (v, O) := by
  cases v with
  | agg cs => simp only [freezeV, freezeL_nil (show keysL cs = [] by simpa [AV.keys] using h), Option.map_some]
  | _ => exact freezeA_nil h
theorem freezeVs_nil {O : List (Nat × AO)} : ∀ {l : List AV}, keysL l = [] → freezeVs O l = some (l, O)
  | [], _ => rfl
  | v :: r, h => by
    simp only [keysL, List.append_eq_nil_iff] at h
    simp only [freezeVs, freezeV_nil h.1, freezeVs_nil h.2, Option.bind_some]

theorem doCall_nil {X : Cfg} {O : List (Nat × AO)} {f : FuncId} {l : List AV} (h : keysL l = []) :
    doCall X O f l = (X.call f l []).bind fun r => cond (Nat.beq r.2.length 0) (some (X.pre f l [], r.1.ren (fun k => nthD [] (k - keyBase)), O)) none := by
  have h1 : (cond (X.byRef f) (some (l, O)) (freezeVs O l)) = some (l, O) := by cases X.byRef f <;> simp [freezeVs_nil h]
  unfold doCall
  rw [h1]
  simp only [Option.bind_some, shedL_nil l h, h]
  have h2 : reachK O [] = [] := rfl
  have h3 : ∀ m : List AO, putObjs O [] m = O := by intro m; cases m <;> rfl
  simp only [h2, h3, objKeys, subK, cond_true, getObjs, Option.bind_some, List.map_nil, renL_nil _ l h, List.length_nil]

section
variable {s1 s2 : St} {G : Nat → Option (List AV)} {ch : Chain}

theorem calleeA_congr {f : Operand} {args : Array Operand} {ts : Array TypeId} (h : Agree s1 s2 (opTmps (Op.call { callee := .value f, args, argTypes := ts }).operands.toList)) :
    calleeA ⟨s1, G, ch⟩ { callee := .value f, args, argTypes := ts } = calleeA ⟨s2, G, ch⟩ { callee := .value f, args, argTypes := ts } := by
  simp only [calleeA]
  rw [evalO_congr (x := f) (h.sub (by simp [Op.operands, Call.operands])), evalL_congr (l := args.toList) (h.sub (by simp +contextual [Op.operands, Call.operands]))]

/-- A quiet operation that is no call leaves the objects. -/
theorem effA_pure {X : Cfg} {s : St} {o : Oper} (h1 : isLoud o.op = false) (h2 : isCallV o.op = false) : effA X s o = (pureA X.P ⟨s, X.G, []⟩ o.op).map fun r => (r.1, r.2, s.objs) := by
  cases hop : o.op with
  | call q =>
    obtain ⟨callee, args, ts⟩ := q
    cases callee with
    | builtin b => cases b <;> first | (simp [hop, isLoud] at h1; done) | simp only [effA, hop]
    | value f => simp [hop, isCallV] at h2
    | invoke r m => simp only [effA, hop]
  | alloc _ => simp [hop, isLoud] at h1
  | box _ _ => simp [hop, isLoud] at h1
  | store _ _ _ => simp [hop, isLoud] at h1
  | range _ _ => simp [hop, isLoud] at h1
  | next _ _ => simp [hop, isLoud] at h1
  | makeSlice _ _ _ => simp [hop, isLoud] at h1
  | makeMap t r => cases r with | none => simp [hop, isLoud] at h1 | some r => simp only [effA, hop]
  | lookup _ _ _ _ => simp [hop, isLoud] at h1
  | mapUpdate _ _ _ _ => simp [hop, isLoud] at h1
  | _ => simp only [effA, hop]

theorem keysL_evalL {s : St} : ∀ {l : List Operand} {vs : List AV}, opKeys ⟨s, G, ch⟩ l = [] → evalL ⟨s, G, ch⟩ l = some vs → keysL vs = []
  | [], vs, _, h => by simp [evalL] at h; subst h; rfl
  | x :: r, vs, hk, h => by
    simp only [evalL] at h
    obtain ⟨v, h1, h⟩ := opt_bind h
    obtain ⟨l, h2, h⟩ := opt_map h
    subst h
    simp only [opKeys, h1, List.append_eq_nil_iff] at hk
    simp only [keysL, hk.1, keysL_evalL hk.2 h2, List.append_nil]

theorem opKeys_sub {c : Ctx} {l : List Operand} (h : opKeys c l = []) : ∀ {m : List Operand}, (∀ x ∈ m, x ∈ l) → opKeys c m = []
  | [], _ => rfl
  | x :: r, hs => by
    obtain ⟨v, h1, h2⟩ := opKeys_nil h x (hs x (by simp))
    simp only [opKeys, h1, h2, List.nil_append]
    exact opKeys_sub h fun y hy => hs y (List.mem_cons_of_mem _ hy)

theorem calleeA_keys {s : St} {f : Operand} {args : Array Operand} {ts : Array TypeId} (h : opKeys ⟨s, G, ch⟩ (Op.call { callee := .value f, args, argTypes := ts }).operands.toList = []) {g : FuncId} {l : List AV}
    (he : calleeA ⟨s, G, ch⟩ { callee := .value f, args, argTypes := ts } = some (g, l)) : keysL l = [] := by
  unfold calleeA at he
  dsimp only at he
  obtain ⟨fv, h1, he⟩ := opt_bind he
  obtain ⟨vs, h2, he⟩ := opt_bind he
  obtain ⟨v, h3, h4⟩ := opKeys_nil h f (by simp [Op.operands, Call.operands])
  rw [h1] at h3; cases h3
  have h5 := keysL_evalL (opKeys_sub h (m := args.toList) (by simp +contextual [Op.operands, Call.operands])) h2
  cases fv with
  | fn f' first caps =>
    simp only [Option.some.injEq, Prod.mk.injEq] at he
    obtain ⟨_, rfl⟩ := he
    simp only [AV.keys, List.append_eq_nil_iff] at h4
    simp only [keysL_append, h4.1, h4.2, h5, List.append_nil]
  | _ => simp at he

/-- A call that is handed no object: it leaves them, and it does not ask for them. -/
theorem effA_quiet {X : Cfg} {o : Oper} (h1 : isCallV o.op = true) (hk : opKeys ⟨s2, X.G, []⟩ o.op.operands.toList = []) (h : Agree s1 s2 (opTmps o.op.operands.toList)) {b : Bool} {v : AV} {O' : List (Nat × AO)} (he : effA X s2 o = some (b, v, O')) :
    O' = s2.objs ∧ effA X s1 o = some (b, v, s1.objs) := by
  cases hop : o.op with
  | call q =>
    obtain ⟨callee, args, ts⟩ := q
    cases callee with
    | value f =>
      rw [hop] at hk h
      simp only [effA, hop] at he ⊢
      obtain ⟨⟨g, l⟩, e1, he⟩ := opt_bind he
      have hl := calleeA_keys hk e1
      have e2 := he
      dsimp only at e2
      rw [doCall_nil hl] at e2
      rw [calleeA_congr h, e1]
      simp only [Option.bind_some]
      rw [doCall_nil hl]
      obtain ⟨⟨r', os⟩, e3, e2⟩ := opt_bind e2
      obtain ⟨e4, e2⟩ := cond_none e2
      simp only [Option.some.injEq, Prod.mk.injEq] at e2
      obtain ⟨rfl, rfl, rfl⟩ := e2
      exact ⟨rfl, by rw [e3]; simp only [Option.bind_some]; rw [e4]; rfl⟩
    | builtin b => simp [hop, isCallV] at h1
    | invoke r m => simp [hop, isCallV] at h1
  | _ => simp [hop, isCallV] at h1

/-! ### the same objects, in whatever order they are listed -/
def SameO (O1 O2 : List (Nat × AO)) : Prop := ∀ k, alook O1 k = alook O2 k
theorem SameO.put {O1 O2 : List (Nat × AO)} (h : SameO O1 O2) (k : Nat) (o : AO) : SameO (aput O1 k o) (aput O2 k o) := fun q => by rw [alook_aput, alook_aput, h q]
theorem freezeA_same {O1 O2 : List (Nat × AO)} (h : SameO O1 O2) {v v' : AV} {O2' : List (Nat × AO)} (he : freezeA O2 v = some (v', O2')) : ∃ O1', freezeA O1 v = some (v', O1') ∧ SameO O1' O2' := by
  cases v with
  | msl k sz off n =>
    simp only [freezeA] at he ⊢
    rw [h k]
    cases ho : alook O2 k with
    | none => simp [ho] at he
    | some ob =>
      cases ob with
      | arr sz' m get =>
        simp only [ho] at he ⊢
        obtain ⟨hb, he⟩ := guardO_inv he
        simp only [Option.some.injEq, Prod.mk.injEq] at he
        obtain ⟨rfl, rfl⟩ := he
        exact ⟨_, by rw [hb]; rfl, h.put _ _⟩
      | frz sz' m get =>
        simp only [ho] at he ⊢
        obtain ⟨hb, he⟩ := guardO_inv he
        simp only [Option.some.injEq, Prod.mk.injEq] at he
        obtain ⟨rfl, rfl⟩ := he
        exact ⟨_, by rw [hb]; rfl, h⟩
      | _ => simp [ho] at he
  | gsl k sz n =>
    simp only [freezeA] at he ⊢
    rw [h k]
    cases ho : alook O2 k with
    | none => simp [ho] at he
    | some ob =>
      cases ob with
      | grw sq sz' m get =>
        simp only [ho] at he ⊢
        obtain ⟨hb, he⟩ := guardO_inv he
        simp only [Option.some.injEq, Prod.mk.injEq] at he
        obtain ⟨rfl, rfl⟩ := he
        exact ⟨_, by rw [hb]; rfl, h.put _ _⟩
      | _ => simp [ho] at he
  | _ => simp only [freezeA, Option.some.injEq, Prod.mk.injEq] at he ⊢; obtain ⟨rfl, rfl⟩ := he; exact ⟨_, ⟨rfl, rfl⟩, h⟩
theorem freezeL_same : ∀ {l l' : List AV} {O1 O2 O2' : List (Nat × AO)}, SameO O1 O2 → freezeL O2 l = some (l', O2') → ∃ O1', freezeL O1 l = some (l', O1') ∧ SameO O1' O2'
  | [], l', O1, O2, O2', h, he => by simp only [freezeL, Option.some.injEq, Prod.mk.injEq] at he; obtain ⟨rfl, rfl⟩ := he; exact ⟨_, rfl, h⟩
  | v :: r, l', O1, O2, O2', h, he => by
    simp only [freezeL] at he ⊢
    obtain ⟨⟨v', o1⟩, e1, he⟩ := opt_bind he
    obtain ⟨⟨r', o2⟩, e2, he⟩ := opt_bind he
    simp only [Option.some.injEq, Prod.mk.injEq] at he
    obtain ⟨rfl, rfl⟩ := he
    obtain ⟨p1, g1, g2⟩ := freezeA_same h e1
    obtain ⟨p2, g3, g4⟩ := freezeL_same g2 e2
    exact ⟨p2, by rw [g1]; simp only [Option.bind_some]; rw [g3]; rfl, g4⟩
theorem freezeV_same {O1 O2 : List (Nat × AO)} (h : SameO O1 O2) {v v' : AV} {O2' : List (Nat × AO)} (he : freezeV O2 v = some (v', O2')) : ∃ O1', freezeV O1 v = some (v', O1') ∧ SameO O1' O2' := by
  cases v with
  | agg cs =>
    simp only [freezeV] at he ⊢
    obtain ⟨⟨l, o⟩, e1, he⟩ := opt_map he
    simp only [Prod.mk.injEq] at he
    obtain ⟨rfl, rfl⟩ := he
    obtain ⟨p, g1, g2⟩ := freezeL_same h e1
    exact ⟨p, by rw [g1]; rfl, g2⟩
  | _ => simp only [freezeV] at he ⊢; exact freezeA_same h he
theorem freezeVs_same : ∀ {l l' : List AV} {O1 O2 O2' : List (Nat × AO)}, SameO O1 O2 → freezeVs O2 l = some (l', O2') → ∃ O1', freezeVs O1 l = some (l', O1') ∧ SameO O1' O2'
  | [], l', O1, O2, O2', h, he => by simp only [freezeVs, Option.some.injEq, Prod.mk.injEq] at he; obtain ⟨rfl, rfl⟩ := he; exact ⟨_, rfl, h⟩
  | v :: r, l', O1, O2, O2', h, he => by
    simp only [freezeVs] at he ⊢
    obtain ⟨⟨v', o1⟩, e1, he⟩ := opt_bind he
    obtain ⟨⟨r', o2⟩, e2, he⟩ := opt_bind he
    simp only [Option.some.injEq, Prod.mk.injEq] at he
    obtain ⟨rfl, rfl⟩ := he
    obtain ⟨p1, g1, g2⟩ := freezeV_same h e1
    obtain ⟨p2, g3, g4⟩ := freezeVs_same g2 e2
    exact ⟨p2, by rw [g1]; simp only [Option.bind_some]; rw [g3]; rfl, g4⟩
theorem objKeys_same {O1 O2 : List (Nat × AO)} (h : SameO O1 O2) : ∀ l, objKeys O1 l = objKeys O2 l
  | [] => rfl
  | k :: r => by simp only [objKeys, h k, objKeys_same h r]
theorem getObjs_same {O1 O2 : List (Nat × AO)} (h : SameO O1 O2) : ∀ l, getObjs O1 l = getObjs O2 l
  | [] => rfl
  | k :: r => by simp only [getObjs, h k, getObjs_same h r]
theorem putObjs_same : ∀ {ks : List Nat} {l : List AO} {O1 O2 : List (Nat × AO)}, SameO O1 O2 → SameO (putObjs O1 ks l) (putObjs O2 ks l)
  | [], l, O1, O2, h => by cases l <;> exact h
  | k :: r, [], O1, O2, h => h
  | k :: r, o :: l, O1, O2, h => putObjs_same (ks := r) (l := l) (h.put k o)
theorem doCall_same {X : Cfg} {O1 O2 : List (Nat × AO)} (h : SameO O1 O2) {f : FuncId} {l : List AV} {b : Bool} {v : AV} {O2' : List (Nat × AO)} (he : doCall X O2 f l = some (b, v, O2')) : ∃ O1', doCall X O1 f l = some (b, v, O1') ∧ SameO O1' O2' := by
  unfold doCall at he ⊢
  obtain ⟨⟨l1, o1⟩, h1, he⟩ := opt_bind he
  have hfz : ∃ p, cond (X.byRef f) (some (l, O1)) (freezeVs O1 l) = some (l1, p) ∧ SameO p o1 := by
    cases hb : X.byRef f with
    | true => simp only [hb, cond_true, Option.some.injEq, Prod.mk.injEq] at h1; obtain ⟨rfl, rfl⟩ := h1; exact ⟨O1, rfl, h⟩
    | false => simp only [hb, cond_false] at h1; exact freezeVs_same h h1
  obtain ⟨p, g1, g2⟩ := hfz
  rw [g1]
  dsimp only [Option.bind_some] at he ⊢
  have e1 : reachK p (keysL (shedL l1)) = reachK o1 (keysL (shedL l1)) := by simp only [reachK, objKeys_same g2]
  obtain ⟨hcl, he⟩ := cond_none he
  obtain ⟨os, hos, he⟩ := opt_bind he
  obtain ⟨⟨r, os'⟩, hcall, he⟩ := opt_bind he
  obtain ⟨hlen, he⟩ := cond_none he
  dsimp only at hlen he
  simp only [Option.some.injEq, Prod.mk.injEq] at he
  obtain ⟨rfl, rfl, rfl⟩ := he
  refine ⟨putObjs p _ _, ?_, putObjs_same g2⟩
  rw [e1, objKeys_same g2, hcl, getObjs_same g2, hos]
  simp only [cond_true, Option.bind_some]
  rw [hcall]
  simp only [Option.bind_some, hlen, cond_true]

theorem effA_call_same {X : Cfg} {o : Oper} (h1 : isCallV o.op = true) (hO : SameO s1.objs s2.objs) (h : Agree s1 s2 (opTmps o.op.operands.toList)) {b : Bool} {v : AV} {O' : List (Nat × AO)} (he : effA X s2 o = some (b, v, O')) :
    ∃ O1', effA X s1 o = some (b, v, O1') ∧ SameO O1' O' := by
  cases hop : o.op with
  | call q =>
    obtain ⟨callee, args, ts⟩ := q
    cases callee with
    | value f =>
      rw [hop] at h
      simp only [effA, hop] at he ⊢
      obtain ⟨⟨g, l⟩, e1, he⟩ := opt_bind he
      obtain ⟨p, g1, g2⟩ := doCall_same hO he
      rw [calleeA_congr h, e1]
      exact ⟨p, by simp only [Option.bind_some]; rw [g1], g2⟩
    | builtin b => simp [hop, isCallV] at h1
    | invoke r m => simp [hop, isCallV] at h1
  | _ => simp [hop, isCallV] at h1

/-- An operation that makes or turns objects. -/
theorem effA_loud {X : Cfg} {o : Oper} (h1 : isLoud o.op = true) (h : Agree s1 s2 (opTmps o.op.operands.toList)) (hK : SameK s1 s2 (altK o.dst.toList ++ opKeys ⟨s2, X.G, []⟩ o.op.operands.toList)) {b : Bool} {v : AV} {O' : List (Nat × AO)} (he : effA X s2 o = some (b, v, O')) :
    ∃ us : List (Nat × AO), (∀ p ∈ us, p.1 ∈ altK o.dst.toList ++ opKeys ⟨s2, X.G, []⟩ o.op.operands.toList) ∧ O' = putU s2.objs us ∧ effA X s1 o = some (b, v, putU s1.objs us) := by
  suffices hs : (∃ q ob, q ∈ altK o.dst.toList ++ opKeys ⟨s2, X.G, []⟩ o.op.operands.toList ∧ O' = aput s2.objs q ob ∧ effA X s1 o = some (b, v, aput s1.objs q ob)) ∨ (∃ us : List (Nat × AO), (∀ p ∈ us, p.1 ∈ altK o.dst.toList ++ opKeys ⟨s2, X.G, []⟩ o.op.operands.toList) ∧ O' = putU s2.objs us ∧ effA X s1 o = some (b, v, putU s1.objs us)) by
    rcases hs with ⟨q, ob, g1, g2, g3⟩ | hs
    · exact ⟨[(q, ob)], fun p hp => by simp only [List.mem_singleton] at hp; subst hp; exact g1, g2, g3⟩
    · exact hs
  have E : ∀ {x : Operand}, x ∈ o.op.operands.toList → evalO ⟨s1, X.G, []⟩ x = evalO ⟨s2, X.G, []⟩ x := fun {x} hx => evalO_congr (h.sub (m := [x]) (by simpa using hx))
  have K : ∀ {x : Operand} {v : AV}, x ∈ o.op.operands.toList → evalO ⟨s2, X.G, []⟩ x = some v → ∀ k ∈ v.keys, k ∈ altK o.dst.toList ++ opKeys ⟨s2, X.G, []⟩ o.op.operands.toList := fun {x v} hx hv k hk => List.mem_append_right _ (opKeys_mem hv hx k hk)
  have D : ∀ d, o.dst = some d → d ∈ altK o.dst.toList ++ opKeys ⟨s2, X.G, []⟩ o.op.operands.toList := fun d hd => List.mem_append_left _ (by rw [hd]; simp [altK])
  have D' : ∀ d, o.dst = some d → d + 500000 ∈ altK o.dst.toList ++ opKeys ⟨s2, X.G, []⟩ o.op.operands.toList := fun d hd => List.mem_append_left _ (by rw [hd]; simp [altK])
  cases hop : o.op with
  | alloc t =>
    simp only [effA, hop] at he ⊢
    cases hdst : o.dst with
    | none => simp [hdst] at he
    | some d =>
      simp only [hdst] at he ⊢
      rw [hK d (D d hdst)]
      cases hob : s2.obj d with
      | some _ => simp [hob] at he
      | none =>
        simp only [hob] at he ⊢
        obtain ⟨ob, e1, e2⟩ := opt_map he
        simp only [Prod.mk.injEq] at e2
        obtain ⟨rfl, rfl, rfl⟩ := e2
        exact .inl ⟨d, ob, by simp [altK], rfl, by rw [e1]; rfl⟩
  | box t x =>
    have hE := E (x := x) (by simp [hop, Op.operands])
    simp only [effA, hop] at he ⊢
    cases hdst : o.dst with
    | none => simp [hdst] at he
    | some d =>
      simp only [hdst] at he ⊢
      rw [hK d (D d hdst), hE]
      cases hob : s2.obj d with
      | some _ => simp [hob] at he
      | none =>
        simp only [hob] at he ⊢
        obtain ⟨u, e1, he⟩ := opt_bind he
        rw [e1]
        simp only [Option.bind_some]
        cases u with
        | arr sz n get =>
          dsimp only at he ⊢
          obtain ⟨hb, he⟩ := guardO_inv he
          simp only [Option.some.injEq, Prod.mk.injEq] at he
          obtain ⟨rfl, rfl, rfl⟩ := he
          exact .inl ⟨d, _, by simp [altK], rfl, by rw [hb]; rfl⟩
        | _ =>
          dsimp only at he ⊢
          obtain ⟨hb, he⟩ := guardO_inv he
          simp only [Option.some.injEq, Prod.mk.injEq] at he
          obtain ⟨rfl, rfl, rfl⟩ := he
          exact .inl ⟨d, _, by simp [altK], rfl, by rw [hb]; rfl⟩
  | range t x =>
    have hE := E (x := x) (by simp [hop, Op.operands])
    simp only [effA, hop] at he ⊢
    cases hdst : o.dst with
    | none => simp [hdst] at he
    | some d =>
      simp only [hdst] at he ⊢
      rw [hK d (D d hdst), hE]
      cases hob : s2.obj d with
      | some _ => simp [hob] at he
      | none =>
        simp only [hob] at he ⊢
        obtain ⟨u, e1, he⟩ := opt_bind he
        rw [e1]
        simp only [Option.bind_some]
        split at he
        · rename_i bs ht
          simp only [Option.some.injEq, Prod.mk.injEq] at he
          obtain ⟨rfl, rfl, rfl⟩ := he
          exact .inl ⟨d, _, by simp [altK], rfl, rfl⟩
        · simp at he
  | next x isS =>
    have hE := E (x := x) (by simp [hop, Op.operands])
    have hKx : ∀ {v : AV}, evalO ⟨s2, X.G, []⟩ x = some v → ∀ k ∈ v.keys, k ∈ altK o.dst.toList ++ opKeys ⟨s2, X.G, []⟩ o.op.operands.toList := fun {v} => K (x := x) (v := v) (by simp [hop, Op.operands])
    rw [hop] at hK hKx
    simp only [effA, hop] at he ⊢
    rw [hE]
    obtain ⟨u, e1, he'⟩ := opt_bind he
    clear he
    have hku := hKx e1
    rw [e1]
    simp only [Option.bind_some]
    split at he'
    · rename_i q
      have he := he'
      clear he'
      have hq := hku q (by simp [AV.keys])
      split at he
      · rename_i bs pos hob
        simp only [Option.some.injEq, Prod.mk.injEq] at he
        obtain ⟨rfl, rfl, rfl⟩ := he
        exact .inl ⟨q, _, hq, rfl, by simp only [hK q hq, hob]⟩
      · simp at he
    · simp at he'
  | store t x y =>
    have hE := E (x := x) (by simp [hop, Op.operands])
    have hE' := E (x := y) (by simp [hop, Op.operands])
    have hKx : ∀ {v : AV}, evalO ⟨s2, X.G, []⟩ x = some v → ∀ k ∈ v.keys, k ∈ altK o.dst.toList ++ opKeys ⟨s2, X.G, []⟩ o.op.operands.toList := fun {v} => K (x := x) (v := v) (by simp [hop, Op.operands])
    simp only [effA, hop] at he ⊢
    rw [hE, hE']
    obtain ⟨u, e1, he⟩ := opt_bind he
    obtain ⟨q, e2, he⟩ := opt_bind he
    obtain ⟨⟨b', k, ob⟩, e3, he⟩ := opt_map he
    simp only [Prod.mk.injEq] at he
    obtain ⟨rfl, rfl, rfl⟩ := he
    rw [e1, e2]
    simp only [Option.bind_some]
    have hku := hKx e1
    rw [storeA_congr (fun k hk => hK k (hku k hk)), e3]
    refine .inl ⟨k, ob, ?_, rfl, rfl⟩
    have hk : k ∈ u.keys := by
      cases u with
      | ref k' off =>
        have : k = k' := by
          simp only [storeA] at e3
          cases ho : s2.obj k' with
          | none => simp [ho] at e3
          | some o' =>
            cases o' with
            | cells cs =>
              simp only [ho] at e3
              obtain ⟨_, e3⟩ := guardO_inv e3
              obtain ⟨_, _, e3⟩ := opt_map e3
              simp only [Prod.mk.injEq] at e3; exact e3.2.1.symm
            | arr sz n get =>
              simp only [ho] at e3
              cases q <;> simp only [] at e3 <;> first
                | (cases e3; done)
                | (obtain ⟨_, e3⟩ := guardO_inv e3; simp only [Option.some.injEq, Prod.mk.injEq] at e3; exact e3.2.1.symm)
            | _ => simp [ho] at e3
        simp [AV.keys, this]
      | aref k' sz' i off =>
        have : k = k' := by
          simp only [storeA] at e3
          cases ho : s2.obj k' with
          | none => simp [ho] at e3
          | some o' =>
            cases o' with
            | arr sz n get =>
              simp only [ho] at e3
              obtain ⟨_, e3⟩ := guardO_inv e3
              obtain ⟨_, _, e3⟩ := opt_map e3
              simp only [Prod.mk.injEq] at e3; exact e3.2.1.symm
            | _ => simp [ho] at e3
        simp [AV.keys, this]
      | gref k' sz' n' i off =>
        have : k = k' := by
          simp only [storeA] at e3
          cases ho : s2.obj k' with
          | none => simp [ho] at e3
          | some o' =>
            cases o' with
            | grw sq sz n get =>
              simp only [ho] at e3
              obtain ⟨_, e3⟩ := guardO_inv e3
              obtain ⟨_, _, e3⟩ := opt_map e3
              simp only [Prod.mk.injEq] at e3; exact e3.2.1.symm
            | _ => simp [ho] at e3
        simp [AV.keys, this]
      | _ => simp [storeA] at e3
    rw [← hop]; exact hku k hk
  | makeSlice t x y =>
    have hE := E (x := x) (by simp [hop, Op.operands])
    have hE' := E (x := y) (by simp [hop, Op.operands])
    simp only [effA, hop] at he ⊢
    rw [hE, hE']
    cases hdst : o.dst with
    | none => simp [hdst] at he
    | some d =>
      simp only [hdst] at he ⊢
      obtain ⟨u, e1, he⟩ := opt_bind he
      obtain ⟨q, e2, he⟩ := opt_bind he
      obtain ⟨⟨b', v', k, ob⟩, e3, he⟩ := opt_map he
      simp only [Prod.mk.injEq] at he
      obtain ⟨rfl, rfl, rfl⟩ := he
      rw [e1, e2]
      simp only [Option.bind_some]
      rw [makeSliceA_congr (hK d (D d hdst)), e3]
      have hk : k = d := by
        clear he hE hE' e1 e2
        unfold makeSliceA at e3
        split at e3
        · rename_i e l m hu
          split at e3
          · obtain ⟨_, e3⟩ := guardO_inv e3
            generalize opSame x y = same at e3
            cases same with
            | true => simp only [cond_true, Option.some.injEq, Prod.mk.injEq] at e3; exact e3.2.2.1.symm
            | false => simp only [cond_false, Option.some.injEq, Prod.mk.injEq] at e3; exact e3.2.2.1.symm
          · cases e3
        · cases e3
      exact .inl ⟨k, ob, by simp [hk, altK], rfl, rfl⟩
  | makeMap t r =>
    cases r with
    | some r => simp [hop, isLoud] at h1
    | none =>
      simp only [effA, hop] at he ⊢
      cases hdst : o.dst with
      | none => simp [hdst] at he
      | some d =>
        simp only [hdst] at he ⊢
        rw [hK d (D d hdst)]
        cases hob : s2.obj d with
        | some _ => simp [hob] at he
        | none =>
          simp only [hob] at he ⊢
          split at he
          · obtain ⟨z, e0, he⟩ := opt_bind he
            obtain ⟨q, e1, he⟩ := opt_map he
            simp only [Prod.mk.injEq] at he
            obtain ⟨rfl, rfl, rfl⟩ := he
            exact .inl ⟨d, _, by simp [altK], rfl, by rw [e0, Option.bind_some, e1]; rfl⟩
          · simp at he
  | lookup t x i ok =>
    have hE := E (x := x) (by simp [hop, Op.operands])
    have hE' := E (x := i) (by simp [hop, Op.operands])
    have hKx : ∀ {v : AV}, evalO ⟨s2, X.G, []⟩ x = some v → ∀ k ∈ v.keys, k ∈ altK o.dst.toList ++ opKeys ⟨s2, X.G, []⟩ o.op.operands.toList := fun {v} => K (x := x) (v := v) (by simp [hop, Op.operands])
    rw [hop] at hK hKx
    simp only [effA, hop] at he ⊢
    rw [hE, hE']
    obtain ⟨u, e1, he⟩ := opt_bind he
    obtain ⟨q, e2, he⟩ := opt_bind he
    obtain ⟨r, e3, he⟩ := opt_map he
    simp only [Prod.mk.injEq] at he
    obtain ⟨rfl, rfl, rfl⟩ := he
    have hku := hKx e1
    obtain ⟨k, ob, hk, hob⟩ := lookA_key e3
    refine .inl ⟨k, ob, hku k hk, (aput_same hob).symm, ?_⟩
    rw [e1, e2]
    simp only [Option.bind_some]
    rw [lookA_congr (fun k hk => hK k (hku k hk)), e3]
    have h1o : alook s1.objs k = some ob := (hK k (hku k hk)).trans hob
    rw [aput_same h1o]; rfl
  | mapUpdate t x i w =>
    have hE := E (x := x) (by simp [hop, Op.operands])
    have hE' := E (x := i) (by simp [hop, Op.operands])
    have hE2 := E (x := w) (by simp [hop, Op.operands])
    have hKx : ∀ {v : AV}, evalO ⟨s2, X.G, []⟩ x = some v → ∀ k ∈ v.keys, k ∈ altK o.dst.toList ++ opKeys ⟨s2, X.G, []⟩ o.op.operands.toList := fun {v} => K (x := x) (v := v) (by simp [hop, Op.operands])
    rw [hop] at hK hKx
    simp only [effA, hop] at he ⊢
    rw [hE, hE', hE2]
    obtain ⟨u, e1, he⟩ := opt_bind he
    obtain ⟨q, e2, he⟩ := opt_bind he
    obtain ⟨r, e4, he⟩ := opt_bind he
    obtain ⟨⟨k, ob⟩, e3, he⟩ := opt_map he
    simp only [Prod.mk.injEq] at he
    obtain ⟨rfl, rfl, rfl⟩ := he
    have hku := hKx e1
    refine .inl ⟨k, ob, hku k (mapPutA_key e3), rfl, ?_⟩
    rw [e1, e2, e4]
    simp only [Option.bind_some]
    rw [mapPutA_congr (fun k hk => hK k (hku k hk)), e3]; rfl
  | call q =>
    obtain ⟨callee, args, ts⟩ := q
    cases callee with
    | builtin bi =>
      cases bi with
      | append =>
        have hl : evalL ⟨s1, X.G, []⟩ args.toList = evalL ⟨s2, X.G, []⟩ args.toList := evalL_congr (h.sub (by rw [hop]; simp +contextual [Op.operands, Call.operands]))
        simp only [effA, hop] at he ⊢
        split at he
        · rename_i d t t' hdst hts
          obtain ⟨hb, he⟩ := guardO_inv he
          obtain ⟨l, e1, he⟩ := opt_bind he
          rw [hl, e1, hb]
          have hkeys' : ∀ k ∈ keysL l, k ∈ altK o.dst.toList ++ opKeys ⟨s2, X.G, []⟩ o.op.operands.toList := by
              have aux : ∀ (as : List Operand) (l : List AV), evalL ⟨s2, X.G, []⟩ as = some l → ∀ k ∈ keysL l, k ∈ opKeys ⟨s2, X.G, []⟩ as := by
                intro as
                induction as with
                | nil => intro l hl k hk; simp [evalL] at hl; subst hl; simp [keysL] at hk
                | cons x r ih =>
                  intro l hl k hk
                  simp only [evalL] at hl
                  obtain ⟨v, g1, hl⟩ := opt_bind hl
                  obtain ⟨l', g2, hl⟩ := opt_map hl
                  subst hl
                  simp only [keysL, List.mem_append] at hk
                  simp only [opKeys, g1, List.mem_append]
                  rcases hk with hk | hk
                  · exact .inl hk
                  · exact .inr (ih l' g2 k hk)
              intro k hk
              have := aux _ _ e1 k hk
              refine List.mem_append_right _ ?_
              rw [hop]
              simpa [Op.operands, Call.operands] using this
          split at he
          · rename_i x bs
            have hkeys : ∀ k ∈ x.keys, k ∈ altK o.dst.toList ++ opKeys ⟨s2, X.G, []⟩ o.op.operands.toList := fun k hk => hkeys' k (by simp only [keysL, List.mem_append]; exact .inl hk)
            obtain ⟨hst, he⟩ := guardO_inv he
            obtain ⟨⟨b', v', k, ob⟩, e3, he⟩ := opt_map he
            simp only [Prod.mk.injEq] at he
            obtain ⟨rfl, rfl, rfl⟩ := he
            simp only [guardO, cond_true, Option.bind_some, hst]
            rw [appendS_congr (hK d (D d hdst)) (fun k hk => hK k (hkeys k hk)), e3]
            refine .inl ⟨k, ob, ?_, rfl, rfl⟩
            rw [← hop]
            rcases appendS_key e3 with rfl | hk
            · exact List.mem_append_left _ (by simp [hdst, altK])
            · exact hkeys k hk
          · rename_i x y _
            have hkeys : ∀ k ∈ keysL [x, y], k ∈ altK o.dst.toList ++ opKeys ⟨s2, X.G, []⟩ o.op.operands.toList := hkeys'
            obtain ⟨hb', he2⟩ := guardO_inv he
            clear he
            have he := he2
            have hsx : SameK s1 s2 x.keys := fun k hk => hK k (hkeys k (by simp only [keysL, List.mem_append]; exact .inl hk))
            have hsy : SameK s1 s2 y.keys := fun k hk => hK k (hkeys k (by simp only [keysL, List.mem_append]; exact .inr (.inl hk)))
            simp only [guardO, cond_true, Option.bind_some, hb']
            cases hgs : isGsub x with
            | true =>
              rw [hgs, cond_true] at he
              obtain ⟨⟨b', v', us⟩, e3, he⟩ := opt_map he
              simp only [Prod.mk.injEq] at he
              obtain ⟨rfl, rfl, rfl⟩ := he
              rw [cond_true, appendG_congr (hK d (D d hdst)) (hK (d + 500000) (D' d hdst)) hsx hsy, e3]
              refine .inr ⟨us, fun p hp => ?_, rfl, rfl⟩
              rw [← hop]
              rcases appendG_keys e3 p hp with hk | hk | hk
              · exact hkeys _ (by simp only [keysL, List.mem_append]; exact .inl hk)
              · rw [hk]; exact D d hdst
              · rw [hk]; exact D' d hdst
            | false =>
            rw [hgs, cond_false] at he
            obtain ⟨⟨b', v', k, ob⟩, e3, he⟩ := opt_map he
            simp only [Prod.mk.injEq] at he
            obtain ⟨rfl, rfl, rfl⟩ := he
            rw [cond_false, appendA_congr (hK d (D d hdst)) hsx hsy, appendM_congr (hK d (D d hdst)) hsx hsy, e3]
            refine .inl ⟨k, ob, ?_, rfl, rfl⟩
            have hk : k = d ∨ k ∈ x.keys := by
              cases hgr : (isGsl x || X.grow o) with
              | true =>
                rw [hgr, cond_true] at e3
                unfold appendM at e3
                split at e3
                · split at e3
                  · rename_i sz z inf sz2 m get2 _ _ _ _
                    obtain ⟨_, e3⟩ := guardO_inv e3
                    split at e3
                    · obtain ⟨_, e3⟩ := guardO_inv e3
                      split at e3
                      · simp only [Option.some.injEq, Prod.mk.injEq] at e3; exact .inl e3.2.2.1.symm
                      · cases e3
                    · obtain ⟨_, e3⟩ := guardO_inv e3
                      split at e3
                      · obtain ⟨_, e3⟩ := guardO_inv e3
                        simp only [Option.some.injEq, Prod.mk.injEq] at e3; exact .inr (by simp [AV.keys, e3.2.2.1])
                      · cases e3
                    · cases e3
                  · cases e3
                · cases e3
              | false =>
                rw [hgr, cond_false] at e3
                unfold appendA at e3
                split at e3
                · split at e3
                  · rename_i ow sz0 n get sz2 m get2 _ _ _ _
                    obtain ⟨_, e3⟩ := guardO_inv e3
                    cases ow with
                    | no => cases e3
                    | fit =>
                      simp only [] at e3
                      split at e3
                      · simp only [Option.some.injEq, Prod.mk.injEq] at e3; exact .inl e3.2.2.1.symm
                      · cases e3
                    | key k' =>
                      simp only [] at e3
                      split at e3
                      · obtain ⟨_, e3⟩ := guardO_inv e3
                        simp only [Option.some.injEq, Prod.mk.injEq] at e3; exact .inr (by simp [AV.keys, e3.2.2.1])
                      · cases e3
                  · cases e3
                · cases e3
            rw [← hop]
            rcases hk with rfl | hk
            · exact List.mem_append_left _ (by simp [hdst, altK])
            · exact hkeys k (by simp only [keysL, List.mem_append]; exact .inl hk)
          · cases he
        · cases he
      | _ => simp [hop, isLoud] at h1
    | _ => simp [hop, isLoud] at h1
  | _ => simp [hop, isLoud] at h1

/-! ### guards -/
theorem chainOf_congr : ∀ {n t : Nat} {w : Bool}, Agree s1 s2 ((chainOf s2 n t w).map (·.1)) → chainOf s1 n t w = chainOf s2 n t w
  | 0, _, _, _ => rfl
  | n + 1, t, w, h => by
    have ht : s1.get t = s2.get t := h t (by simp [chainOf])
    simp only [chainOf] at h ⊢
    rw [ht]
    cases hg : s2.get t with
    | none => rfl
    | some u =>
      cases u with
      | grd tc wc u' =>
        simp only [hg] at h ⊢
        rw [chainOf_congr (n := n) fun q hq => h q (by simp only [List.map_cons, List.mem_cons]; exact .inr hq)]
      | _ => rfl
theorem holdsA_congr : ∀ {ch : Chain}, Agree s1 s2 (ch.map (·.1)) → holdsA s1 ch = holdsA s2 ch
  | [], _ => rfl
  | (t, w) :: r, h => by
    have ht : s1.get t = s2.get t := h t (by simp)
    simp only [holdsA]
    rw [ht, holdsA_congr (ch := r) fun q hq => h q (by simp only [List.map_cons, List.mem_cons]; exact .inr hq)]

theorem subK_domK {O1 O2 : List (Nat × AO)} : ∀ {l : List Nat}, (∀ k ∈ l, alook O1 k = alook O2 k) → subK l (domK O2) = true → subK l (domK O1) = true
  | [], _, _ => rfl
  | k :: r, h, he => by
    simp only [subK, Bool.and_eq_true] at he ⊢
    refine ⟨any_beq.2 (live_domK ?_), subK_domK (fun q hq => h q (List.mem_cons_of_mem _ hq)) he.2⟩
    obtain ⟨o, ho⟩ := domK_live (any_beq.1 he.1)
    exact ⟨o, by rw [h k (by simp)]; exact ho⟩

theorem effG_congr {X : Cfg} {o : Oper} {t : Nat} {w : Bool} {b : Bool} {v : AV} (he : effG X s2 o t w = some (b, v)) (h : Agree s1 s2 ((chainOf s2 4 t w).map (·.1) ++ opTmps o.op.operands.toList))
    (ho : SameK s1 s2 (cond (readsObj o.op) (opKeys ⟨s2, X.G, chainOf s2 4 t w⟩ o.op.operands.toList) [] ++ v.keys)) : effG X s1 o t w = some (b, v) := by
  have hc : Agree s1 s2 ((chainOf s2 4 t w).map (·.1)) := fun q hq => h q (List.mem_append_left _ hq)
  have hop' : Agree s1 s2 (opTmps o.op.operands.toList) := fun q hq => h q (List.mem_append_right _ hq)
  have e1 := chainOf_congr hc
  have e2 := holdsA_congr hc
  have hp : (holdsA s2 (chainOf s2 4 t w)).bind (fun g => (pureA X.P ⟨s2, X.G, chainOf s2 4 t w⟩ o.op).bind fun r => guardO (subK r.2.keys (domK s2.objs)) (some (cond r.1 true (!g), r.2))) = some (b, v) →
      (holdsA s1 (chainOf s1 4 t w)).bind (fun g => (pureA X.P ⟨s1, X.G, chainOf s1 4 t w⟩ o.op).bind fun r => guardO (subK r.2.keys (domK s1.objs)) (some (cond r.1 true (!g), r.2))) = some (b, v) := by
    intro he
    rw [e1, e2, pureA_congr X.P hop' (fun k hk => ho k (List.mem_append_left _ hk))]
    obtain ⟨g, f1, he⟩ := opt_bind he
    obtain ⟨⟨b', v'⟩, f2, he⟩ := opt_bind he
    obtain ⟨f3, he⟩ := guardO_inv he
    simp only [Option.some.injEq, Prod.mk.injEq] at he
    obtain ⟨rfl, rfl⟩ := he
    rw [f1, f2]
    simp only [Option.bind_some]
    rw [subK_domK (fun k hk => ho k (List.mem_append_right _ hk)) f3]; rfl
  cases hop : o.op with
  | call q =>
    obtain ⟨callee, args, ts⟩ := q
    cases callee with
    | value f => simp only [effG, hop] at he ⊢; rw [e1, calleeA_congr (by rw [← hop]; exact hop')]; exact he
    | _ => simp only [effG, hop] at he ⊢; rw [hop] at hp; exact hp he
  | _ => simp only [effG, hop] at he ⊢; rw [hop] at hp; exact hp he
end
end Go.Ab

namespace Go.Ab
open Go Go.RowKit
variable {P : Program} {B : Base} {c : Cx} {s : St} {a : Act}

/-- One operation of the text. -/
inductive One (X : Cfg) (ops : Array Oper) (o : Oper) (s : St) : St → Prop
  | plain (v : AV) (objs' : List (Nat × AO)) : o.guard = none → effA X s o = some (true, v, objs') → One X ops o s (s.after o.dst v objs')
  | guarded (j t d : Nat) (w : Bool) (v : AV) : o.guard = some (j, w) → (ops[j]?).bind (·.dst) = some t → o.dst = some d → d ≠ t → effG X s o t w = some (true, v) → One X ops o s (s.put (some d) (.grd t w v))

theorem One.other {X : Cfg} {ops : Array Oper} {o : Oper} {s s' : St} (h : One X ops o s s') {t : Nat} (ht : o.dst ≠ some t) : s'.get t = s.get t := by
  cases h with
  | plain v objs' _ _ => rw [get_after, if_neg ht]
  | guarded j t' d w v _ _ hd _ _ => rw [St.get_put, if_neg]; rintro rfl; exact ht hd

/-- The run of the text: the states between, and what each operation reads. -/
structure Trace (X : Cfg) (ops : Array Oper) (st : Nat → St) : Prop where
  step : ∀ i o, ops[i]? = some o → One X ops o (st i) (st (i + 1))
  later : ∀ (i : Nat) (o : Oper) (j t : Nat) (w : Bool), ops[i]? = some o → o.guard = some (j, w) → (ops[j]?).bind (·.dst) = some t → ∀ (k : Nat) (q : Oper), i < k → ops[k]? = some q → q.dst ≠ some t

theorem runOpsD_inv {X : Cfg} {ops : Array Oper} {K : List Fp → St → Res} {r : AV × List AO} : ∀ (rest : List Oper) (i : Nat) (acc : List Fp) (s : St), (∀ j, rest[j]? = ops[i + j]?) → runOpsD X ops rest i acc s K = some r →
    ∃ st : Nat → St, st i = s ∧ (∀ q o, i ≤ q → ops[q]? = some o → One X ops o (st q) (st (q + 1))) ∧
      (∀ q o j t w, i ≤ q → ops[q]? = some o → o.guard = some (j, w) → (ops[j]?).bind (·.dst) = some t → ∀ k p, q < k → ops[k]? = some p → p.dst ≠ some t) ∧
      ∃ fps, K (acc ++ fps) (st (i + rest.length)) = some r ∧ fps.length = rest.length ∧ ∀ q o, i ≤ q → ops[q]? = some o → fps[q - i]? = some (fpOf X (st q) ops q o)
  | [], i, acc, s, hops, he => by
    have hno : ∀ q o, i ≤ q → ops[q]? ≠ some o := fun q o hq h => by
      have := hops (q - i)
      rw [show i + (q - i) = q by omega, h] at this; simp at this
    refine ⟨fun _ => s, rfl, fun q o hq h => absurd h (hno q o hq), fun q o _ _ _ hq h => absurd h (hno q o hq), [], by simpa [runOpsD] using he, rfl, fun q o hq h => absurd h (hno q o hq)⟩
  | o :: rest, i, acc, s, hops, he => by
    have hoi : ops[i]? = some o := by have := hops 0; simpa using this.symm
    have hrest : ∀ j, rest[j]? = ops[i + 1 + j]? := fun j => by
      have := hops (j + 1)
      rw [Nat.add_assoc, Nat.add_comm 1 j]; simpa using this
    have main : ∀ s', One X ops o s s' → runOpsD X ops rest (i + 1) (acc ++ [fpOf X s ops i o]) s' K = some r →
        (∀ j t w, o.guard = some (j, w) → (ops[j]?).bind (·.dst) = some t → ∀ p ∈ rest, p.dst ≠ some t) →
        ∃ st : Nat → St, st i = s ∧ (∀ q o, i ≤ q → ops[q]? = some o → One X ops o (st q) (st (q + 1))) ∧
      (∀ q o j t w, i ≤ q → ops[q]? = some o → o.guard = some (j, w) → (ops[j]?).bind (·.dst) = some t → ∀ k p, q < k → ops[k]? = some p → p.dst ≠ some t) ∧
      ∃ fps, K (acc ++ fps) (st (i + (o :: rest).length)) = some r ∧ fps.length = (o :: rest).length ∧ ∀ q o, i ≤ q → ops[q]? = some o → fps[q - i]? = some (fpOf X (st q) ops q o) := by
      intro s' hone he' hlat
      obtain ⟨st, h1, h2, h3, fps, h4, h5, h6⟩ := runOpsD_inv rest (i + 1) _ s' hrest he'
      have hst : ∀ q, i + 1 ≤ q → (if q ≤ i then s else st q) = st q := fun q hq => if_neg (by omega)
      refine ⟨fun q => if q ≤ i then s else st q, by simp, fun q p hq hp => ?_, fun q p j t w hq hp hg ht k p' hk hp' => ?_, fpOf X s ops i o :: fps, ?_, by simp [h5], fun q p hq hp => ?_⟩
      · by_cases e : q = i
        · subst e
          rw [hoi] at hp; cases hp
          simp only [Nat.le_refl, if_true]
          rw [if_neg (by omega), h1]; exact hone
        · simp only [hst q (by omega), hst (q + 1) (by omega)]
          exact h2 q p (by omega) hp
      · by_cases e : q = i
        · subst e
          rw [hoi] at hp; cases hp
          have hm := hrest (k - (q + 1))
          rw [show q + 1 + (k - (q + 1)) = k by omega, hp'] at hm
          exact hlat j t w hg ht p' (List.mem_of_getElem? hm)
        · exact h3 q p j t w (by omega) hp hg ht k p' hk hp'
      · have e : i + (o :: rest).length = i + 1 + rest.length := by simp; omega
        simp only [e]
        rw [if_neg (by omega)]
        simpa [List.append_assoc] using h4
      · by_cases e : q = i
        · subst e
          rw [hoi] at hp; cases hp
          simp
        · have := h6 q p (by omega) hp
          simp only [hst q (by omega)]
          rw [show q - i = (q - (i + 1)) + 1 by omega]
          simpa using this
    simp only [runOpsD] at he
    cases hg : o.guard with
    | none =>
      simp only [hg] at he
      obtain ⟨v, objs', e1, e2⟩ := stepA_inv he
      exact main _ (.plain v objs' hg e1) e2 (fun j t w h => by rw [hg] at h; cases h)
    | some jw =>
      obtain ⟨j, w⟩ := jw
      simp only [hg] at he
      cases ht : (ops[j]?).bind (·.dst) with
      | none => simp [ht] at he
      | some t =>
        simp only [ht] at he
        obtain ⟨hany, he⟩ := cond_none' he
        obtain ⟨d, v, hd, hdt, e1, e2⟩ := stepG_inv he
        refine main _ (.guarded j t d w v hg ht hd hdt e1) e2 (fun j' t' w' h ht' p hp => ?_)
        rw [hg] at h; cases h
        rw [ht] at ht'; cases ht'
        have := List.any_eq_false.1 hany p hp
        simpa using this

theorem dstsApart_spec : ∀ {l : List Oper} {seen : List Nat}, dstsApart l seen = true → (∀ (i : Nat) (o : Oper) (d : Nat), l[i]? = some o → o.dst = some d → d ∉ seen) ∧
    ∀ (i j : Nat) (o q : Oper) (d : Nat), l[i]? = some o → l[j]? = some q → o.dst = some d → q.dst = some d → i = j
  | [], seen, _ => ⟨by simp, by simp⟩
  | p :: r, seen, h => by
    simp only [dstsApart] at h
    cases hd : p.dst with
    | none =>
      simp only [hd] at h
      obtain ⟨h1, h2⟩ := dstsApart_spec h
      refine ⟨fun i o d hi ho => ?_, fun i j o q d hi hj ho hq => ?_⟩
      · cases i with
        | zero => simp at hi; subst hi; rw [hd] at ho; cases ho
        | succ i => exact h1 i o d (by simpa using hi) ho
      · cases i with
        | zero => simp at hi; subst hi; rw [hd] at ho; cases ho
        | succ i =>
          cases j with
          | zero => simp at hj; subst hj; rw [hd] at hq; cases hq
          | succ j => rw [h2 i j o q d (by simpa using hi) (by simpa using hj) ho hq]
    | some e =>
      simp only [hd, Bool.and_eq_true, Bool.not_eq_true'] at h
      obtain ⟨h1, h2⟩ := dstsApart_spec h.2
      have hseen : e ∉ seen := fun hm => by rw [any_beq.2 hm] at h; simp at h
      refine ⟨fun i o d hi ho => ?_, fun i j o q d hi hj ho hq => ?_⟩
      · cases i with
        | zero => simp at hi; subst hi; rw [hd] at ho; cases ho; exact hseen
        | succ i => exact fun hm => h1 i o d (by simpa using hi) ho (List.mem_cons_of_mem _ hm)
      · cases i with
        | zero =>
          simp at hi; subst hi; rw [hd] at ho; cases ho
          cases j with
          | zero => rfl
          | succ j => exact absurd (List.mem_cons_self) (h1 j q e (by simpa using hj) hq)
        | succ i =>
          cases j with
          | zero => simp at hj; subst hj; rw [hd] at hq; cases hq; exact absurd (List.mem_cons_self) (h1 i o e (by simpa using hi) ho)
          | succ j => rw [h2 i j o q d (by simpa using hi) (by simpa using hj) ho hq]

theorem edgesOk_spec : ∀ {l : List Oper} {i : Nat}, edgesOk l i = true → ∀ (j : Nat) (o : Oper), l[j]? = some o → ∀ e ∈ o.after, Region.binds .any e = true → e.on < i + j
  | [], _, _, j, o, h => by simp at h
  | p :: r, i, h, j, o, hj => by
    simp only [edgesOk, Bool.and_eq_true] at h
    cases j with
    | zero => simp at hj; subst hj; intro e he hb; have := Array.all_eq_true_iff_forall_mem.1 h.1 e he; rw [hb, cond_true] at this; exact ltB this
    | succ j => intro e he hb; have := edgesOk_spec h.2 j o (by simpa using hj) e he hb; omega

theorem fpsOk_spec {bits : List Nat} : ∀ {l : List Fp}, fpsOk bits l = true → ∀ (i j : Nat) (x y : Fp), i < j → l[i]? = some x → l[j]? = some y → (bits.getD y.i 0).testBit x.i = true ∨ apartF x y = true
  | [], _, i, j, x, y, _, h, _ => by simp at h
  | p :: r, h, i, j, x, y, hij, hi, hj => by
    simp only [fpsOk, Bool.and_eq_true] at h
    cases j with
    | zero => omega
    | succ j =>
      cases i with
      | zero =>
        simp at hi; subst hi
        have := List.all_eq_true.1 h.1 y (List.mem_of_getElem? (by simpa using hj))
        simpa using this
      | succ i => exact fpsOk_spec h.2 i j x y (by omega) (by simpa using hi) (by simpa using hj)

theorem edgeBits_spec {acc : List Nat} : ∀ {l : List Edge} {k : Nat}, (edgeBits acc l).testBit k = true → ∃ e ∈ l, Region.binds .any e = true ∧ (k = e.on ∨ (acc.getD e.on 0).testBit k = true)
  | [], k, h => by simp [edgeBits] at h
  | e :: r, k, h => by
    simp only [edgeBits] at h
    cases hb : Region.binds .any e with
    | false =>
      simp only [hb, cond_false] at h
      obtain ⟨e', h1, h2⟩ := edgeBits_spec h
      exact ⟨e', List.mem_cons_of_mem _ h1, h2⟩
    | true =>
      simp only [hb, cond_true] at h
      have hor : ∀ x y : Nat, Nat.lor x y = x ||| y := fun _ _ => rfl
      simp only [hor, Nat.testBit_or, Bool.or_eq_true, Nat.testBit_two_pow, decide_eq_true_eq] at h
      rcases h with (h | h) | h
      · exact ⟨e, by simp, hb, .inl h.symm⟩
      · exact ⟨e, by simp, hb, .inr h⟩
      · obtain ⟨e', h1, h2⟩ := edgeBits_spec h
        exact ⟨e', List.mem_cons_of_mem _ h1, h2⟩

/-- What stands before an operation that is ready has run. -/
theorem befores_spec {S : Nat → Prop} {ops : Array Oper} (hS : ∀ i o, S i → ops[i]? = some o → ∀ e ∈ o.after, Region.binds .any e = true → S e.on) :
    ∀ (rest : List Oper) (acc : List Nat), (∀ j, rest[j]? = ops[acc.length + j]?) →
      (∀ j o, j < acc.length → ops[j]? = some o → (∀ e ∈ o.after, Region.binds .any e = true → S e.on) → ∀ k, (acc.getD j 0).testBit k = true → S k) →
      ∀ j o, ops[j]? = some o → (∀ e ∈ o.after, Region.binds .any e = true → S e.on) → ∀ k, ((befores rest acc).getD j 0).testBit k = true → S k
  | [], acc, hops, hacc, j, o, ho, hr, k, hk => by
    by_cases hj : j < acc.length
    · exact hacc j o hj ho hr k hk
    · have := hops (j - acc.length)
      rw [show acc.length + (j - acc.length) = j by omega, ho] at this; simp at this
  | p :: rest, acc, hops, hacc, j, o, ho, hr, k, hk => by
    have e : befores (p :: rest) acc = befores rest (acc ++ [edgeBits acc p.after.toList]) := by
      simp only [befores]
      cases edgeBits acc p.after.toList <;> rfl
    rw [e] at hk
    have hp : ops[acc.length]? = some p := by have := hops 0; simpa using this.symm
    refine befores_spec hS rest _ (fun j => by have := hops (j + 1); rw [List.length_append, List.length_singleton, Nat.add_assoc, Nat.add_comm 1 j]; simpa using this) ?_ j o ho hr k hk
    intro j q hj hq hrq k hk
    by_cases hlt : j < acc.length
    · rw [List.getD_eq_getElem?_getD, List.getElem?_append_left hlt, ← List.getD_eq_getElem?_getD] at hk
      exact hacc j q hlt hq hrq k hk
    · have hj' : j = acc.length := by simp at hj; omega
      subst hj'
      rw [hp] at hq; cases hq
      have : (acc ++ [edgeBits acc p.after.toList]).getD acc.length 0 = edgeBits acc p.after.toList := by simp
      rw [this] at hk
      obtain ⟨ed, h1, h2, h3⟩ := edgeBits_spec hk
      have hSe := hrq ed (by simpa using h1) h2
      rcases h3 with rfl | h3
      · exact hSe
      · by_cases hl : ed.on < acc.length
        · have ho' : ops[ed.on]? = some (ops[ed.on]'(by have := (Array.getElem?_eq_some_iff.1 hp).1; omega)) := Array.getElem?_eq_getElem _
          exact hacc ed.on _ hl ho' (fun e' he' hb' => hS _ _ hSe ho' e' he' hb') k h3
        · have : acc.getD ed.on 0 = 0 := by simp [List.getD_eq_getElem?_getD, List.getElem?_eq_none (by omega : acc.length ≤ ed.on)]
          rw [this] at h3; simp at h3
end Go.Ab

namespace Go.Ab
open Go Go.RowKit
/-- The same objects under some keys; the others as they were. -/
structure Loc (K : Nat → Prop) (O1 O2 p1 p2 : List (Nat × AO)) : Prop where
  on : ∀ k, K k → alook p1 k = alook p2 k
  off1 : ∀ k, ¬ K k → alook p1 k = alook O1 k
  off2 : ∀ k, ¬ K k → alook p2 k = alook O2 k
  bare : ∀ k ob, K k → alook p2 k = some ob → ob.keys = []
variable {K : Nat → Prop}
theorem Loc.start {O1 O2 : List (Nat × AO)} (h : ∀ k, K k → alook O1 k = alook O2 k) (hb : ∀ k ob, K k → alook O2 k = some ob → ob.keys = []) : Loc K O1 O2 O1 O2 := ⟨h, fun _ _ => rfl, fun _ _ => rfl, hb⟩
theorem Loc.trans {O1 O2 p1 p2 q1 q2 : List (Nat × AO)} (h : Loc K O1 O2 p1 p2) (g : Loc K p1 p2 q1 q2) : Loc K O1 O2 q1 q2 :=
  ⟨g.on, fun k hk => (g.off1 k hk).trans (h.off1 k hk), fun k hk => (g.off2 k hk).trans (h.off2 k hk), g.bare⟩
theorem Loc.put {O1 O2 p1 p2 : List (Nat × AO)} (h : Loc K O1 O2 p1 p2) {k : Nat} (hk : K k) {o : AO} (ho : o.keys = []) : Loc K O1 O2 (aput p1 k o) (aput p2 k o) := by
  refine ⟨fun q hq => ?_, fun q hq => ?_, fun q hq => ?_, fun q ob hq he => ?_⟩
  · rw [alook_aput, alook_aput, h.on q hq]
  · rw [alook_aput, if_neg (by rintro rfl; exact hq hk), h.off1 q hq]
  · rw [alook_aput, if_neg (by rintro rfl; exact hq hk), h.off2 q hq]
  · rw [alook_aput] at he
    split at he
    · simp only [Option.some.injEq] at he; subst he; exact ho
    · exact h.bare q ob hq he
theorem freezeA_loc {O1 O2 p1 p2 : List (Nat × AO)} (h : Loc K O1 O2 p1 p2) {v v' : AV} (hv : ∀ k ∈ v.keys, K k) {q2 : List (Nat × AO)} (he : freezeA p2 v = some (v', q2)) : ∃ q1, freezeA p1 v = some (v', q1) ∧ Loc K O1 O2 q1 q2 ∧ ∀ k ∈ v'.keys, K k := by
  cases v with
  | msl k sz off n =>
    have hk : K k := hv k (by simp [AV.keys])
    simp only [freezeA] at he ⊢
    rw [h.on k hk]
    cases ho : alook p2 k with
    | none => simp [ho] at he
    | some ob =>
      cases ob with
      | arr sz' m get =>
        simp only [ho] at he ⊢
        obtain ⟨hb, he⟩ := guardO_inv he
        simp only [Option.some.injEq, Prod.mk.injEq] at he
        obtain ⟨rfl, rfl⟩ := he
        exact ⟨_, by rw [hb]; rfl, h.put hk rfl, by simp [AV.keys]⟩
      | frz sz' m get =>
        simp only [ho] at he ⊢
        obtain ⟨hb, he⟩ := guardO_inv he
        simp only [Option.some.injEq, Prod.mk.injEq] at he
        obtain ⟨rfl, rfl⟩ := he
        exact ⟨_, by rw [hb]; rfl, h, by simp [AV.keys]⟩
      | _ => simp [ho] at he
  | gsl k sz n =>
    have hk : K k := hv k (by simp [AV.keys])
    simp only [freezeA] at he ⊢
    rw [h.on k hk]
    cases ho : alook p2 k with
    | none => simp [ho] at he
    | some ob =>
      cases ob with
      | grw sq sz' m get =>
        simp only [ho] at he ⊢
        obtain ⟨hb, he⟩ := guardO_inv he
        simp only [Option.some.injEq, Prod.mk.injEq] at he
        obtain ⟨rfl, rfl⟩ := he
        exact ⟨_, by rw [hb]; rfl, h.put hk (frzO_keys _ _ _ _), by simp [AV.keys]⟩
      | _ => simp [ho] at he
  | _ => simp only [freezeA, Option.some.injEq, Prod.mk.injEq] at he ⊢; obtain ⟨rfl, rfl⟩ := he; exact ⟨_, ⟨rfl, rfl⟩, h, hv⟩
theorem freezeL_loc : ∀ {l l' : List AV} {O1 O2 p1 p2 q2 : List (Nat × AO)}, Loc K O1 O2 p1 p2 → (∀ k ∈ keysL l, K k) → freezeL p2 l = some (l', q2) → ∃ q1, freezeL p1 l = some (l', q1) ∧ Loc K O1 O2 q1 q2 ∧ ∀ k ∈ keysL l', K k
  | [], l', O1, O2, p1, p2, q2, h, hv, he => by simp only [freezeL, Option.some.injEq, Prod.mk.injEq] at he; obtain ⟨rfl, rfl⟩ := he; exact ⟨_, rfl, h, hv⟩
  | v :: r, l', O1, O2, p1, p2, q2, h, hv, he => by
    simp only [freezeL] at he ⊢
    simp only [keysL, List.mem_append] at hv
    obtain ⟨⟨v', o1⟩, e1, he⟩ := opt_bind he
    obtain ⟨⟨r', o2⟩, e2, he⟩ := opt_bind he
    simp only [Option.some.injEq, Prod.mk.injEq] at he
    obtain ⟨rfl, rfl⟩ := he
    obtain ⟨x1, g1, g2, g3⟩ := freezeA_loc h (fun k hk => hv k (.inl hk)) e1
    obtain ⟨x2, g4, g5, g6⟩ := freezeL_loc g2 (fun k hk => hv k (.inr hk)) e2
    refine ⟨x2, by rw [g1]; simp only [Option.bind_some]; rw [g4]; rfl, g5, fun k hk => ?_⟩
    simp only [keysL, List.mem_append] at hk
    exact hk.elim (g3 k) (g6 k)
theorem freezeV_loc {O1 O2 p1 p2 : List (Nat × AO)} (h : Loc K O1 O2 p1 p2) {v v' : AV} (hv : ∀ k ∈ v.keys, K k) {q2 : List (Nat × AO)} (he : freezeV p2 v = some (v', q2)) : ∃ q1, freezeV p1 v = some (v', q1) ∧ Loc K O1 O2 q1 q2 ∧ ∀ k ∈ v'.keys, K k := by
  cases v with
  | agg cs =>
    simp only [freezeV] at he ⊢
    simp only [AV.keys] at hv
    obtain ⟨⟨l, o⟩, e1, he⟩ := opt_map he
    simp only [Prod.mk.injEq] at he
    obtain ⟨rfl, rfl⟩ := he
    obtain ⟨p, g1, g2, g3⟩ := freezeL_loc h hv e1
    exact ⟨p, by rw [g1]; rfl, g2, fun k hk => g3 k (by simpa [AV.keys] using hk)⟩
  | _ => simp only [freezeV] at he ⊢; exact freezeA_loc h hv he
theorem freezeVs_loc : ∀ {l l' : List AV} {O1 O2 p1 p2 q2 : List (Nat × AO)}, Loc K O1 O2 p1 p2 → (∀ k ∈ keysL l, K k) → freezeVs p2 l = some (l', q2) → ∃ q1, freezeVs p1 l = some (l', q1) ∧ Loc K O1 O2 q1 q2 ∧ ∀ k ∈ keysL l', K k
  | [], l', O1, O2, p1, p2, q2, h, hv, he => by simp only [freezeVs, Option.some.injEq, Prod.mk.injEq] at he; obtain ⟨rfl, rfl⟩ := he; exact ⟨_, rfl, h, hv⟩
  | v :: r, l', O1, O2, p1, p2, q2, h, hv, he => by
    simp only [freezeVs] at he ⊢
    simp only [keysL, List.mem_append] at hv
    obtain ⟨⟨v', o1⟩, e1, he⟩ := opt_bind he
    obtain ⟨⟨r', o2⟩, e2, he⟩ := opt_bind he
    simp only [Option.some.injEq, Prod.mk.injEq] at he
    obtain ⟨rfl, rfl⟩ := he
    obtain ⟨x1, g1, g2, g3⟩ := freezeV_loc h (fun k hk => hv k (.inl hk)) e1
    obtain ⟨x2, g4, g5, g6⟩ := freezeVs_loc g2 (fun k hk => hv k (.inr hk)) e2
    refine ⟨x2, by rw [g1]; simp only [Option.bind_some]; rw [g4]; rfl, g5, fun k hk => ?_⟩
    simp only [keysL, List.mem_append] at hk
    exact hk.elim (g3 k) (g6 k)
theorem objKeys_loc {O : List (Nat × AO)} (hb : ∀ k ob, K k → alook O k = some ob → ob.keys = []) : ∀ l, (∀ k ∈ l, K k) → objKeys O l = []
  | [], _ => rfl
  | k :: r, h => by
    simp only [objKeys]
    rw [objKeys_loc hb r fun q hq => h q (List.mem_cons_of_mem _ hq), List.append_nil]
    cases ho : alook O k with
    | none => rfl
    | some ob => simp [hb k ob (h k (by simp)) ho]
theorem getObjs_loc {O1 O2 : List (Nat × AO)} (h : ∀ k, K k → alook O1 k = alook O2 k) : ∀ l, (∀ k ∈ l, K k) → getObjs O1 l = getObjs O2 l
  | [], _ => rfl
  | k :: r, hl => by simp only [getObjs, h k (hl k (by simp)), getObjs_loc h r fun q hq => hl q (List.mem_cons_of_mem _ hq)]
theorem reachK_loc {O : List (Nat × AO)} (hb : ∀ k ob, K k → alook O k = some ob → ob.keys = []) {l : List Nat} (h : ∀ k ∈ l, K k) : reachK O l = addKeys (addKeys (addKeys [] l) []) [] ∧ ∀ k ∈ reachK O l, K k := by
  have h1 : ∀ k ∈ addKeys [] l, K k := fun k hk => by
    rcases ((addKeys_spec l [] List.nodup_nil).2 k).1 hk with hk | hk
    · simp at hk
    · exact h k hk
  have e1 : objKeys O (addKeys [] l) = [] := objKeys_loc hb _ h1
  have e2 : reachK O l = addKeys (addKeys (addKeys [] l) []) [] := by
    simp only [reachK, e1, addKeys]
  refine ⟨e2, fun k hk => ?_⟩
  rw [e2] at hk
  simp only [addKeys] at hk
  exact h1 k hk
theorem doCall_loc {X : Cfg} {O1 O2 : List (Nat × AO)} (h : ∀ k, K k → alook O1 k = alook O2 k) (hb : ∀ k ob, K k → alook O2 k = some ob → ob.keys = []) {f : FuncId} {l : List AV} (hl : ∀ k ∈ keysL l, K k) {b : Bool} {v : AV} {O2' : List (Nat × AO)} (he : doCall X O2 f l = some (b, v, O2')) :
    ∃ O1', doCall X O1 f l = some (b, v, O1') ∧ (∀ k, K k → alook O1' k = alook O2' k) ∧ (∀ k, ¬ K k → alook O1' k = alook O1 k) ∧ (∀ k, ¬ K k → alook O2' k = alook O2 k) := by
  unfold doCall at he ⊢
  obtain ⟨⟨l1, o1⟩, h1, he⟩ := opt_bind he
  have hfz : ∃ p, cond (X.byRef f) (some (l, O1)) (freezeVs O1 l) = some (l1, p) ∧ Loc K O1 O2 p o1 ∧ ∀ k ∈ keysL l1, K k := by
    cases hb' : X.byRef f with
    | true => simp only [hb', cond_true, Option.some.injEq, Prod.mk.injEq] at h1; obtain ⟨rfl, rfl⟩ := h1; exact ⟨O1, rfl, Loc.start h hb, hl⟩
    | false => simp only [hb', cond_false] at h1; exact freezeVs_loc (Loc.start h hb) hl h1
  obtain ⟨p, g1, g2, g3⟩ := hfz
  rw [g1]
  dsimp only [Option.bind_some] at he ⊢
  have g4 : ∀ k ∈ keysL (shedL l1), K k := fun k hk => g3 k (shedL_keys l1 k hk)
  obtain ⟨r1, r2⟩ := reachK_loc g2.bare g4
  obtain ⟨r3, _⟩ := reachK_loc (O := p) (fun k ob hk ho => g2.bare k ob hk (by rw [← g2.on k hk]; exact ho)) g4
  have e1 : reachK p (keysL (shedL l1)) = reachK o1 (keysL (shedL l1)) := r3.trans r1.symm
  have e2 : objKeys o1 (reachK o1 (keysL (shedL l1))) = [] := objKeys_loc g2.bare _ r2
  have e3 : objKeys p (reachK o1 (keysL (shedL l1))) = [] := objKeys_loc (fun k ob hk ho => g2.bare k ob hk (by rw [← g2.on k hk]; exact ho)) _ r2
  have hnd : (reachK o1 (keysL (shedL l1))).Nodup := (reachK_spec o1 (keysL (shedL l1))).1
  obtain ⟨hcl, he⟩ := cond_none he
  obtain ⟨os, hos, he⟩ := opt_bind he
  obtain ⟨⟨r, os'⟩, hcall, he⟩ := opt_bind he
  obtain ⟨hlen, he⟩ := cond_none he
  dsimp only at hlen he
  simp only [Option.some.injEq, Prod.mk.injEq] at he
  obtain ⟨rfl, rfl, rfl⟩ := he
  rw [e2] at hcl
  generalize hks : reachK o1 (keysL (shedL l1)) = ks at *
  have hlen' : (os'.map (AO.ren fun k => nthD ks (k - keyBase))).length = ks.length := by rw [List.length_map]; exact beqT hlen
  refine ⟨putObjs p ks (os'.map (AO.ren fun k => nthD ks (k - keyBase))), ?_, fun k hk => ?_, fun k hk => ?_, fun k hk => ?_⟩
  · rw [e1, e3, hcl, getObjs_loc g2.on _ r2, hos]
    simp only [cond_true, Option.bind_some]
    rw [hcall]
    simp only [Option.bind_some, hlen, cond_true]
  · rw [alook_putObjs hnd hlen', alook_putObjs hnd hlen', g2.on k hk]
  · rw [alook_putObjs hnd hlen', if_neg fun hm => hk (r2 k hm), g2.off1 k hk]
  · rw [alook_putObjs hnd hlen', if_neg fun hm => hk (r2 k hm), g2.off2 k hk]
theorem keysL_evalL_sub {G : Nat → Option (List AV)} {ch : Chain} {s : St} : ∀ {l : List Operand} {vs : List AV}, evalL ⟨s, G, ch⟩ l = some vs → ∀ k ∈ keysL vs, k ∈ opKeys ⟨s, G, ch⟩ l
  | [], vs, h, k, hk => by simp [evalL] at h; subst h; simp [keysL] at hk
  | x :: r, vs, h, k, hk => by
    simp only [evalL] at h
    obtain ⟨v, h1, h⟩ := opt_bind h
    obtain ⟨l, h2, h⟩ := opt_map h
    subst h
    simp only [keysL, List.mem_append] at hk
    simp only [opKeys, h1, List.mem_append]
    exact hk.imp id (keysL_evalL_sub h2 k)
theorem opKeys_append {c : Ctx} : ∀ {l m : List Operand}, opKeys c (l ++ m) = opKeys c l ++ opKeys c m
  | [], m => rfl
  | x :: r, m => by simp only [List.cons_append, opKeys, opKeys_append (l := r), List.append_assoc]
theorem calleeA_sub {G : Nat → Option (List AV)} {ch : Chain} {s : St} {f : Operand} {args : Array Operand} {ts : Array TypeId} {g : FuncId} {l : List AV}
    (he : calleeA ⟨s, G, ch⟩ { callee := .value f, args, argTypes := ts } = some (g, l)) : ∀ k ∈ keysL l, k ∈ opKeys ⟨s, G, ch⟩ (Op.call { callee := .value f, args, argTypes := ts }).operands.toList := by
  unfold calleeA at he
  dsimp only at he
  obtain ⟨fv, h1, he⟩ := opt_bind he
  obtain ⟨vs, h2, he⟩ := opt_bind he
  have hm : ∀ (l : List Operand) (x : Operand) (v : AV), x ∈ l → evalO ⟨s, G, ch⟩ x = some v → ∀ k ∈ v.keys, k ∈ opKeys ⟨s, G, ch⟩ l := by
    intro l
    induction l with
    | nil => intro x v hx; simp at hx
    | cons y r ih =>
      intro x v hx hv k hk
      simp only [opKeys, List.mem_append]
      rcases List.mem_cons.1 hx with rfl | hx
      · left; rw [hv]; exact hk
      · exact .inr (ih x v hx hv k hk)
  have hsub : ∀ (l m : List Operand), (∀ x ∈ m, x ∈ l) → (∀ x ∈ m, ∃ v, evalO ⟨s, G, ch⟩ x = some v) → ∀ k ∈ opKeys ⟨s, G, ch⟩ m, k ∈ opKeys ⟨s, G, ch⟩ l := by
    intro l m
    induction m with
    | nil => intro _ _ k hk; simp [opKeys] at hk
    | cons y r ih =>
      intro hx hv k hk
      obtain ⟨v, hv'⟩ := hv y (by simp)
      simp only [opKeys, hv', List.mem_append] at hk
      rcases hk with hk | hk
      · exact hm l y v (hx y (by simp)) hv' k hk
      · exact ih (fun x h => hx x (List.mem_cons_of_mem _ h)) (fun x h => hv x (List.mem_cons_of_mem _ h)) k hk
  have hev : ∀ (m : List Operand) (vs : List AV), evalL ⟨s, G, ch⟩ m = some vs → ∀ x ∈ m, ∃ v, evalO ⟨s, G, ch⟩ x = some v := by
    intro m
    induction m with
    | nil => intro vs _ x hx; simp at hx
    | cons y r ih =>
      intro vs h x hx
      simp only [evalL] at h
      obtain ⟨v, h1, h⟩ := opt_bind h
      obtain ⟨l, h2, h⟩ := opt_map h
      rcases List.mem_cons.1 hx with rfl | hx
      · exact ⟨v, h1⟩
      · exact ih l h2 x hx
  cases fv with
  | fn f' first caps =>
    simp only [Option.some.injEq, Prod.mk.injEq] at he
    obtain ⟨_, rfl⟩ := he
    intro k hk
    simp only [keysL_append, List.mem_append] at hk
    have hf : ∀ k ∈ (AV.fn f' first caps).keys, k ∈ opKeys ⟨s, G, ch⟩ (Op.call { callee := .value f, args, argTypes := ts }).operands.toList := hm _ f _ (by simp [Op.operands, Call.operands]) h1
    rcases hk with (hk | hk) | hk
    · exact hf k (by simp [AV.keys, hk])
    · exact hsub _ args.toList (by simp +contextual [Op.operands, Call.operands]) (hev _ _ h2) k (keysL_evalL_sub h2 k hk)
    · exact hf k (by simp [AV.keys, hk])
  | _ => simp at he
variable {s1 s2 : St}
/-- A call whose objects hold no keys. -/
theorem effA_local {X : Cfg} {o : Oper} (h1 : isCallV o.op = true) (h : Agree s1 s2 (opTmps o.op.operands.toList)) (hb : objKeys s2.objs (opKeys ⟨s2, X.G, []⟩ o.op.operands.toList) = [])
    (hK : ∀ k ∈ opKeys ⟨s2, X.G, []⟩ o.op.operands.toList, s1.obj k = s2.obj k) {b : Bool} {v : AV} {O' : List (Nat × AO)} (he : effA X s2 o = some (b, v, O')) :
    ∃ O1', effA X s1 o = some (b, v, O1') ∧ (∀ k ∈ opKeys ⟨s2, X.G, []⟩ o.op.operands.toList, alook O1' k = alook O' k) ∧ (∀ k, k ∉ opKeys ⟨s2, X.G, []⟩ o.op.operands.toList → alook O1' k = alook s1.objs k) ∧
      (∀ k, k ∉ opKeys ⟨s2, X.G, []⟩ o.op.operands.toList → alook O' k = alook s2.objs k) := by
  cases hop : o.op with
  | call q =>
    obtain ⟨callee, args, ts⟩ := q
    cases callee with
    | value f =>
      rw [hop] at h hb hK
      simp only [effA, hop] at he ⊢
      obtain ⟨⟨g, l⟩, e1, he⟩ := opt_bind he
      have hl := calleeA_sub e1
      have hbare : ∀ k ob, k ∈ opKeys ⟨s2, X.G, []⟩ (Op.call { callee := .value f, args, argTypes := ts }).operands.toList → alook s2.objs k = some ob → ob.keys = [] := fun k ob hk ho => by
        cases hx : ob.keys with
        | nil => rfl
        | cons y r => exact absurd (objKeys_mem hk ho y (by rw [hx]; simp)) (by rw [hb]; simp)
      obtain ⟨O1', g1, g2, g3, g4⟩ := doCall_loc (K := fun k => k ∈ opKeys ⟨s2, X.G, []⟩ (Op.call { callee := .value f, args, argTypes := ts }).operands.toList) (O1 := s1.objs) hK hbare hl he
      rw [calleeA_congr h, e1]
      exact ⟨O1', by simp only [Option.bind_some]; rw [g1], g2, g3, g4⟩
    | builtin b => simp [hop, isCallV] at h1
    | invoke r m => simp [hop, isCallV] at h1
  | _ => simp [hop, isCallV] at h1
end Go.Ab

namespace Go.Ab
open Go Go.RowKit
variable {P : Program} {B : Base} {c : Cx} {s : St} {a : Act}

theorem disjK_spec {l m : List Nat} (h : disjK l m = true) {k : Nat} (h1 : k ∈ l) (h2 : k ∈ m) : False := by
  have := List.all_eq_true.1 h k h1
  rw [any_beq.2 h2] at this; simp at this

theorem loud_call {op : Op} (h : isLoud op = true) : isCallV op = false := by
  cases op with
  | call q =>
    obtain ⟨callee, args, ts⟩ := q
    cases callee with
    | value f => simp [isLoud] at h
    | _ => rfl
  | _ => rfl

theorem obj_after (s : St) (d : Option Nat) (v : AV) (objs : List (Nat × AO)) (k : Nat) : (s.after d v objs).obj k = alook objs k := by simp only [St.obj, objs_after]

theorem Agree.refl (s : St) (l : List Nat) : Agree s s l := fun _ _ => rfl
theorem SameK.refl (s : St) (l : List Nat) : SameK s s l := fun _ _ => rfl

theorem One.obj {X : Cfg} {ops : Array Oper} {i : Nat} {o : Oper} {s s' : St} (h : One X ops o s s') (ha : (fpOf X s ops i o).all = false) {k : Nat} (hw : k ∉ (fpOf X s ops i o).wr) : s'.obj k = s.obj k := by
  cases h with
  | plain v objs' hg he =>
    rw [obj_after]
    simp only [fpOf, hg, Bool.and_eq_false_iff, Bool.not_eq_false'] at ha hw
    cases hl : isLoud o.op with
    | true =>
      rw [hl, cond_true] at hw
      obtain ⟨us, h1, h2, _⟩ := effA_loud hl (Agree.refl s _) (SameK.refl s _) he
      rw [h2]
      exact putU_other fun p hp e => hw (e ▸ h1 p hp)
    | false =>
      by_cases hc : isCallV o.op = true
      · have hfar : isNil (objKeys s.objs (opKeys ⟨s, X.G, []⟩ o.op.operands.toList)) = true := ha.resolve_left (by simp [hc])
        rw [hl, hc, hfar] at hw
        simp only [cond_false, Bool.and_self, cond_true] at hw
        obtain ⟨O1', _, _, _, g4⟩ := effA_local hc (Agree.refl s _) (isNil_eq hfar) (fun _ _ => rfl) he
        rw [g4 k hw]; rfl
      · rw [effA_pure hl (by simpa using hc)] at he
        obtain ⟨r, _, he⟩ := opt_map he
        simp only [Prod.mk.injEq] at he
        rw [← he.2.2]; rfl
  | guarded j t d w v _ _ _ _ _ => simp

theorem effG_keys {X : Cfg} {s : St} {o : Oper} {t : Nat} {w b : Bool} {v : AV} (hc : isCallV o.op = true) (he : effG X s o t w = some (b, v)) : v.keys = [] := by
  cases hop : o.op with
  | call q =>
    obtain ⟨callee, args, ts⟩ := q
    cases callee with
    | value f =>
      simp only [effG, hop] at he
      obtain ⟨q, _, he⟩ := opt_bind he
      obtain ⟨_, he⟩ := guardO_inv he
      obtain ⟨⟨r, os⟩, _, he⟩ := opt_bind he
      cases os with
      | nil =>
        dsimp only at he
        obtain ⟨hb, he⟩ := guardO_inv he
        simp only [Option.some.injEq, Prod.mk.injEq] at he
        obtain ⟨_, rfl⟩ := he
        simp only [Bool.and_eq_true] at hb
        exact isNil_eq hb.1
      | cons _ _ => simp at he
    | builtin b => simp [hop, isCallV] at hc
    | invoke r m => simp [hop, isCallV] at hc
  | _ => simp [hop, isCallV] at hc

theorem One.move {X : Cfg} {ops : Array Oper} {i : Nat} {o : Oper} {s1 s2 s2' : St} (h : One X ops o s2 s2') (ht : Agree s1 s2 (fpOf X s2 ops i o).tmps)
    (ho : ∀ k, k ∈ (fpOf X s2 ops i o).rd ∨ k ∈ (fpOf X s2 ops i o).wr ∨ (fpOf X s2 ops i o).all = true → s1.obj k = s2.obj k) :
    ∃ s1', One X ops o s1 s1' ∧ (∀ d, o.dst = some d → s1'.get d = s2'.get d) ∧ (∀ k, k ∈ (fpOf X s2 ops i o).wr ∨ (fpOf X s2 ops i o).all = true → s1'.obj k = s2'.obj k) ∧
      (∀ k, (fpOf X s2 ops i o).all = false → k ∉ (fpOf X s2 ops i o).wr → s1'.obj k = s1.obj k) := by
  cases h with
  | plain v objs' hg he =>
    have htm : (fpOf X s2 ops i o).tmps = opTmps o.op.operands.toList := by simp only [fpOf, hg]
    have hwr : (fpOf X s2 ops i o).wr = cond (isLoud o.op) (altK o.dst.toList ++ opKeys ⟨s2, X.G, []⟩ o.op.operands.toList) (cond (isCallV o.op && isNil (objKeys s2.objs (opKeys ⟨s2, X.G, []⟩ o.op.operands.toList))) (opKeys ⟨s2, X.G, []⟩ o.op.operands.toList) []) := by simp only [fpOf, hg]
    have hrd : (fpOf X s2 ops i o).rd = cond (readsObj o.op) (opKeys ⟨s2, X.G, []⟩ o.op.operands.toList) [] := by simp only [fpOf, hg]
    have hall : (fpOf X s2 ops i o).all = (isCallV o.op && !isNil (objKeys s2.objs (opKeys ⟨s2, X.G, []⟩ o.op.operands.toList))) := by simp only [fpOf, hg]
    rw [htm] at ht
    rw [hwr, hrd, hall] at ho
    rw [hwr, hall]
    have hd : ∀ (O1 : List (Nat × AO)) (d : Nat), o.dst = some d → (s1.after o.dst v O1).get d = (s2.after o.dst v objs').get d := fun O1 d hd => by rw [get_after, get_after, if_pos hd, if_pos hd]
    cases hl : isLoud o.op with
    | true =>
      rw [hl] at ho
      simp only [cond_true] at ho ⊢
      obtain ⟨us, h1, h2, h3⟩ := effA_loud hl ht (fun k hk => ho k (.inr (.inl hk))) he
      refine ⟨_, .plain v _ hg h3, hd _, fun k hk => ?_, fun k _ hk => ?_⟩
      · rw [obj_after, obj_after, h2]
        refine putU_same ?_
        rcases hk with hk | hk
        · exact ho k (.inr (.inl hk))
        · rw [loud_call hl] at hk; simp at hk
      · rw [obj_after]
        exact putU_other fun p hp e => hk (e ▸ h1 p hp)
    | false =>
      rw [hl] at ho
      simp only [cond_false] at ho ⊢
      cases hc : isCallV o.op with
      | true =>
        cases hn : isNil (objKeys s2.objs (opKeys ⟨s2, X.G, []⟩ o.op.operands.toList)) with
        | true =>
          rw [hc, hn] at ho
          simp only [Bool.and_self, cond_true] at ho ⊢
          obtain ⟨O1, e1, e2, e3, e4⟩ := effA_local hc ht (isNil_eq hn) (fun k hk => ho k (.inr (.inl hk))) he
          refine ⟨_, .plain v _ hg e1, hd _, fun k hk => ?_, fun k _ hk => ?_⟩
          · rw [obj_after, obj_after]
            rcases hk with hk | hk
            · exact e2 k hk
            · simp at hk
          · rw [obj_after]; exact e3 k hk
        | false =>
          obtain ⟨O1, e1, e2⟩ := effA_call_same hc (fun k => ho k (.inr (.inr (by rw [hc, hn]; rfl)))) ht he
          exact ⟨_, .plain v _ hg e1, hd _, fun k _ => by rw [obj_after, obj_after]; exact e2 k, fun k hk => by simp at hk⟩
      | false =>
        have he' := he
        rw [effA_pure hl hc] at he'
        obtain ⟨⟨b', v'⟩, e1, e2⟩ := opt_map he'
        simp only [Prod.mk.injEq] at e2
        obtain ⟨rfl, rfl, rfl⟩ := e2
        have e3 : effA X s1 o = some (true, v', s1.objs) := by
          rw [effA_pure hl hc, pureA_congr X.P ht (fun k hk => ho k (.inl hk)), e1]; rfl
        exact ⟨_, .plain v' _ hg e3, hd _, fun k hk => by simp at hk, fun k _ _ => by rw [obj_after]; rfl⟩
  | guarded j t d w v hg hj hd hdt he =>
    have htm : (fpOf X s2 ops i o).tmps = (chainOf s2 4 t w).map (·.1) ++ opTmps o.op.operands.toList := by simp only [fpOf, hg, hj]
    have hwr : (fpOf X s2 ops i o).wr = [] := by simp only [fpOf, hg, hj]
    have hall : (fpOf X s2 ops i o).all = false := by simp only [fpOf, hg, hj]
    have hrd : (fpOf X s2 ops i o).rd = cond (readsObj o.op) (opKeys ⟨s2, X.G, chainOf s2 4 t w⟩ o.op.operands.toList) [] ++ v.keys := by
      simp only [fpOf, hg, hj, he]
      cases hc : isCallV o.op with
      | false => rfl
      | true => rw [effG_keys hc he]; rfl
    rw [htm] at ht
    have he1 : effG X s1 o t w = some (true, v) := effG_congr he ht fun k hk => ho k (.inl (by rw [hrd]; exact hk))
    refine ⟨_, .guarded j t d w v hg hj hd hdt he1, fun d' hd' => ?_, fun k hk => by rw [hwr, hall] at hk; simp at hk, fun k _ _ => by simp⟩
    rw [hd] at hd'; cases hd'
    rw [St.get_put, St.get_put, if_pos rfl, if_pos rfl]

/-- The plan of a drawn region. -/
structure Plan (X : Cfg) (ops : Array Oper) (st : Nat → St) : Prop where
  T : Trace X ops st
  plain : NoGrd (st 0)
  uniq : ∀ (i j : Nat) (o q : Oper) (d : Nat), ops[i]? = some o → ops[j]? = some q → o.dst = some d → q.dst = some d → i = j
  edge : ∀ (i : Nat) (o : Oper), ops[i]? = some o → ∀ e ∈ o.after, Region.binds .any e = true → e.on < i
  pair : ∀ (i j : Nat) (o q : Oper), i < j → ops[i]? = some o → ops[j]? = some q → ((befores ops.toList []).getD j 0).testBit i = true ∨ apartF (fpOf X (st i) ops i o) (fpOf X (st j) ops j q) = true

section
variable {X : Cfg} {ops : Array Oper} {st : Nat → St}

theorem get_op {ops : Array Oper} {i : Nat} (h : i < ops.size) : ∃ o, ops[i]? = some o := ⟨ops[i], Array.getElem?_eq_getElem h⟩

theorem Plan.get0 (p : Plan X ops st) : ∀ (i t : Nat), i ≤ ops.size → (∀ j o, j < i → ops[j]? = some o → o.dst ≠ some t) → (st i).get t = (st 0).get t
  | 0, _, _, _ => rfl
  | i + 1, t, hi, h => by
    obtain ⟨o, ho⟩ := get_op (show i < ops.size by omega)
    rw [(p.T.step i o ho).other (h i o (by omega) ho)]
    exact p.get0 i t (by omega) fun j o hj => h j o (by omega)
theorem Plan.get1 (p : Plan X ops st) {j t : Nat} {o : Oper} (hj : ops[j]? = some o) (ht : o.dst = some t) : ∀ (k : Nat), j + 1 + k ≤ ops.size → (st (j + 1 + k)).get t = (st (j + 1)).get t
  | 0, _ => rfl
  | k + 1, hk => by
    obtain ⟨q, hq⟩ := get_op (show j + 1 + k < ops.size by omega)
    rw [← Nat.add_assoc, (p.T.step _ q hq).other fun e => ?_]
    · exact p.get1 hj ht k (by omega)
    · have := p.uniq j _ o q t hj hq ht e; omega
theorem Plan.getF (p : Plan X ops st) {i j t : Nat} {o : Oper} (hj : ops[j]? = some o) (ht : o.dst = some t) (hij : j < i) (hi : i ≤ ops.size) : (st i).get t = (st ops.size).get t := by
  have h1 := p.get1 hj ht (i - (j + 1)) (by omega)
  have h2 := p.get1 hj ht (ops.size - (j + 1)) (by omega)
  rw [show j + 1 + (i - (j + 1)) = i by omega] at h1
  rw [show j + 1 + (ops.size - (j + 1)) = ops.size by omega] at h2
  rw [h1, h2]
/-- Operation j turns object k. -/
def Turns (X : Cfg) (ops : Array Oper) (st : Nat → St) (j : Nat) (o : Oper) (k : Nat) : Prop := k ∈ (fpOf X (st j) ops j o).wr ∨ (fpOf X (st j) ops j o).all = true

theorem Plan.objs (p : Plan X ops st) {i q : Nat} : ∀ (k : Nat), i + k ≤ ops.size → (∀ j o, i ≤ j → j < i + k → ops[j]? = some o → ¬ Turns X ops st j o q) → (st (i + k)).obj q = (st i).obj q
  | 0, _, _ => rfl
  | k + 1, hk, h => by
    obtain ⟨o, ho⟩ := get_op (show i + k < ops.size by omega)
    have hn := h _ o (by omega) (by omega) ho
    rw [← Nat.add_assoc, (p.T.step _ o ho).obj (i := i + k) (by simpa using fun e => hn (.inr e)) (fun e => hn (.inl e))]
    exact p.objs k (by omega) fun j o h1 h2 => h j o h1 (by omega)

/-- Where a run in some order stands: S has run. -/
structure Inv (X : Cfg) (ops : Array Oper) (st : Nat → St) (S : Nat → Prop) (s : St) : Prop where
  done : ∀ (t j : Nat) (o : Oper), S j → ops[j]? = some o → o.dst = some t → s.get t = (st ops.size).get t
  rest : ∀ t, (∀ (j : Nat) (o : Oper), S j → ops[j]? = some o → o.dst ≠ some t) → s.get t = (st 0).get t
  objs : ∀ k, ∃ m, m ≤ ops.size ∧ s.obj k = (st m).obj k ∧ ∀ (j : Nat) (o : Oper), ops[j]? = some o → Turns X ops st j o k → (S j ↔ j < m)
  down : ∀ (j : Nat) (o : Oper), S j → ops[j]? = some o → ∀ e ∈ o.after, Region.binds .any e = true → S e.on
  grd : ∀ (t tc : Nat) (w : Bool) (v : AV), s.get t = some (.grd tc w v) → ∃ (j : Nat) (o : Oper) (g : Nat), S j ∧ ops[j]? = some o ∧ o.dst = some t ∧ o.guard = some (g, w) ∧ (ops[g]?).bind (·.dst) = some tc

theorem Plan.bit (_ : Plan X ops st) {S : Nat → Prop} (hS : ∀ (j : Nat) (o : Oper), S j → ops[j]? = some o → ∀ e ∈ o.after, Region.binds .any e = true → S e.on) {i j : Nat} {o : Oper} (ho : ops[j]? = some o)
    (hr : ∀ e ∈ o.after, Region.binds .any e = true → S e.on) (h : ((befores ops.toList []).getD j 0).testBit i = true) : S i :=
  befores_spec hS ops.toList [] (fun j => by simp) (fun j o hj => by simp at hj) j o ho hr i h

/-- The next operation, in whatever order. -/
theorem Plan.next (p : Plan X ops st) (hX : CallsOk X) (hG : X.G = B.G) (hN : ∀ o ∈ ops.toList, ∀ d, o.dst = some d → d < B.N) {S : Nat → Prop} (hI : Inv X ops st S s) (h : Rel B c s a) {i : Nat} {o : Oper} (ho : ops[i]? = some o) (hni : ¬ S i)
    (hr : ∀ e ∈ o.after, Region.binds .any e = true → S e.on) : ∃ s', Inv X ops st (fun j => j = i ∨ S j) s' ∧ IStep X.P ops B c a i s' := by
  have hin : i < ops.size := (Array.getElem?_eq_some_iff.1 ho).1
  -- what stands before and after
  have hbefore : ∀ j q, j < i → ops[j]? = some q → S j ∨ apartF (fpOf X (st j) ops j q) (fpOf X (st i) ops i o) = true := fun j q hj hq =>
    (p.pair j i q o hj hq ho).imp (fun hb => p.bit hI.down ho hr hb) id
  have hafter : ∀ j q, i < j → ops[j]? = some q → S j → apartF (fpOf X (st i) ops i o) (fpOf X (st j) ops j q) = true := fun j q hj hq hSj =>
    (p.pair i j o q hj ho hq).resolve_left fun hb => hni (p.bit hI.down hq (hI.down j q hSj hq) hb)
  have hdstF : ∀ (k : Nat) (q : Oper) (st' : St) (t : Nat), ops[k]? = some q → q.dst = some t → t ∈ (fpOf X st' ops k q).dst ∨ (∃ j w, q.guard = some (j, w) ∧ (ops[j]?).bind (·.dst) = none) := by
    intro k q st' t hq ht
    cases hg : q.guard with
    | none => left; simp [fpOf, hg, ht]
    | some jw =>
      obtain ⟨j, w⟩ := jw
      cases hj : (ops[j]?).bind (·.dst) with
      | none => right; exact ⟨j, w, rfl, hj⟩
      | some t' => left; simp [fpOf, hg, hj, ht]
  have hdst : ∀ (k : Nat) (q : Oper) (t : Nat), ops[k]? = some q → q.dst = some t → t ∈ (fpOf X (st k) ops k q).dst := by
    intro k q t hq ht
    rcases hdstF k q (st k) t hq ht with h1 | ⟨j, w, h1, h2⟩
    · exact h1
    · have hs := p.T.step k q hq
      generalize st (k + 1) = s' at hs
      cases hs with
      | plain v objs' hg _ => rw [hg] at h1; cases h1
      | guarded j' t' d w' v hg hj _ _ _ => rw [hg] at h1; cases h1; rw [hj] at h2; cases h2
  -- the slots that it reads
  have hagree : Agree s (st i) (fpOf X (st i) ops i o).tmps := by
    intro t ht
    by_cases hex : ∃ (j : Nat) (q : Oper), ops[j]? = some q ∧ q.dst = some t
    · obtain ⟨j, q, hj, hq⟩ := hex
      have hjn : j < ops.size := (Array.getElem?_eq_some_iff.1 hj).1
      have hone : ∀ k q', S k → ops[k]? = some q' → q'.dst = some t → S j := fun k q' hk hk' hq' => by rw [p.uniq j k q q' t hj hk' hq hq']; exact hk
      rcases Nat.lt_trichotomy j i with hlt | rfl | hlt
      · rcases hbefore j q hlt hj with hS | hap
        · rw [hI.done t j q hS hj hq, p.getF hj hq hlt (by omega)]
        · simp only [apartF, Bool.and_eq_true] at hap
          exact (disjK_spec hap.1 (hdst j q t hj hq) ht).elim
      · rw [hI.rest t fun k q' hk hk' hq' => hni (hone k q' hk hk' hq'), p.get0 j t (by omega) fun k q' hk hk' hq' => by
          have := p.uniq j k q q' t hj hk' hq hq'; omega]
      · by_cases hS : S j
        · have hap := hafter j q hlt hj hS
          simp only [apartF, Bool.and_eq_true] at hap
          exact (disjK_spec hap.2.1 (hdst j q t hj hq) ht).elim
        · rw [hI.rest t fun k q' hk hk' hq' => hS (hone k q' hk hk' hq'), p.get0 i t (by omega) fun k q' hk hk' hq' => by
            have := p.uniq j k q q' t hj hk' hq hq'; omega]
    · have hno : ∀ (k : Nat) (q : Oper), ops[k]? = some q → q.dst ≠ some t := fun k q hk hq => hex ⟨k, q, hk, hq⟩
      rw [hI.rest t fun k q _ hk => hno k q hk, p.get0 i t (by omega) fun k q _ hk => hno k q hk]
  -- the objects
  have htouch : ∀ k, k ∈ (fpOf X (st i) ops i o).rd ∨ k ∈ (fpOf X (st i) ops i o).wr ∨ (fpOf X (st i) ops i o).all = true → (fpOf X (st i) ops i o).touches = true := by
    intro k hk
    simp only [Fp.touches, Bool.or_eq_true, Bool.not_eq_true']
    rcases hk with hk | hk | hk
    · right; left; cases hr : (fpOf X (st i) ops i o).rd with
      | nil => rw [hr] at hk; simp at hk
      | cons _ _ => rfl
    · right; right; cases hr : (fpOf X (st i) ops i o).wr with
      | nil => rw [hr] at hk; simp at hk
      | cons _ _ => rfl
    · exact .inl hk
  have htouch' : ∀ j q k, Turns X ops st j q k → (fpOf X (st j) ops j q).touches = true := by
    intro j q k hk
    simp only [Fp.touches, Bool.or_eq_true, Bool.not_eq_true']
    rcases hk with hk | hk
    · right; right; cases hr : (fpOf X (st j) ops j q).wr with
      | nil => rw [hr] at hk; simp at hk
      | cons _ _ => rfl
    · exact .inl hk
  have hbw : ∀ k, k ∈ (fpOf X (st i) ops i o).rd ∨ k ∈ (fpOf X (st i) ops i o).wr ∨ (fpOf X (st i) ops i o).all = true → (∀ j q, j < i → ops[j]? = some q → Turns X ops st j q k → S j) ∧ ∀ j q, i < j → ops[j]? = some q → Turns X ops st j q k → ¬ S j := by
    intro k hb
    refine ⟨fun j q hj hq hw => (hbefore j q hj hq).resolve_right fun hap => ?_, fun j q hj hq hw hS => ?_⟩
    · simp only [apartF, Bool.and_eq_true, Bool.not_eq_true', Bool.and_eq_false_iff] at hap
      obtain ⟨_, _, h3, h4, h5, h6, h7⟩ := hap
      rcases hb with hb | hb | hb
      · rcases hw with hw | hw
        · exact disjK_spec h6 hw hb
        · rcases h3 with h3 | h3
          · rw [hw] at h3; cases h3
          · rw [htouch k (.inl hb)] at h3; cases h3
      · rcases hw with hw | hw
        · exact disjK_spec h5 hw hb
        · rcases h3 with h3 | h3
          · rw [hw] at h3; cases h3
          · rw [htouch k (.inr (.inl hb))] at h3; cases h3
      · rcases h4 with h4 | h4
        · rw [hb] at h4; cases h4
        · rw [htouch' j q k hw] at h4; cases h4
    · have hap := hafter j q hj hq hS
      simp only [apartF, Bool.and_eq_true, Bool.not_eq_true', Bool.and_eq_false_iff] at hap
      obtain ⟨_, _, h3, h4, h5, h6, h7⟩ := hap
      rcases hb with hb | hb | hb
      · rcases hw with hw | hw
        · exact disjK_spec h7 hw hb
        · rcases h4 with h4 | h4
          · rw [hw] at h4; cases h4
          · rw [htouch k (.inl hb)] at h4; cases h4
      · rcases hw with hw | hw
        · exact disjK_spec h5 hb hw
        · rcases h4 with h4 | h4
          · rw [hw] at h4; cases h4
          · rw [htouch k (.inr (.inl hb))] at h4; cases h4
      · rcases h3 with h3 | h3
        · rw [hb] at h3; cases h3
        · rw [htouch' j q k hw] at h3; cases h3
  have hob : ∀ k, k ∈ (fpOf X (st i) ops i o).rd ∨ k ∈ (fpOf X (st i) ops i o).wr ∨ (fpOf X (st i) ops i o).all = true → s.obj k = (st i).obj k := by
    intro k hb
    obtain ⟨h1, h2⟩ := hbw k hb
    obtain ⟨m, hm, hobs, hwr⟩ := hI.objs k
    rw [hobs]
    rcases Nat.le_total m i with hle | hle
    · have := p.objs (i := m) (q := k) (i - m) (by omega) fun j q hj1 hj2 hq hw => by
        have := (hwr j q hq hw).1 (h1 j q (by omega) hq hw); omega
      rw [show m + (i - m) = i by omega] at this; exact this.symm
    · have := p.objs (i := i) (q := k) (m - i) (by omega) fun j q hj1 hj2 hq hw => by
        have hS := (hwr j q hq hw).2 (by omega)
        by_cases e : j = i
        · subst e; exact hni hS
        · exact h2 j q (by omega) hq hw hS
      rw [show i + (m - i) = m by omega] at this; exact this
  obtain ⟨s', hone, hget, hw1, hw0⟩ := (p.T.step i o ho).move (i := i) hagree hob
  -- what waits
  have hfree : ∀ d, o.dst = some d → d < B.N ∧ FreeOf s d := by
    intro d hd
    refine ⟨hN o (by simpa using Array.mem_of_getElem? ho) d hd, fun t tc w v hg e => ?_⟩
    subst e
    obtain ⟨j, q, g, hS, hj, hq, hqg, hqt⟩ := hI.grd t tc w v hg
    have htm : tc ∈ (fpOf X (st j) ops j q).tmps := by
      simp only [fpOf, hqg, hqt, List.mem_append]
      left; simp [chainOf]
    rcases Nat.lt_trichotomy j i with hlt | rfl | hlt
    · exact p.T.later j q g tc w hj hqg hqt i o hlt ho hd
    · exact hni hS
    · have hap := hafter j q hlt hj hS
      simp only [apartF, Bool.and_eq_true] at hap
      exact disjK_spec hap.1 (hdst i o tc ho hd) htm
  have hkeep : ∀ t, o.dst ≠ some t → s'.get t = s.get t := fun t ht => hone.other ht
  have hinv : (∀ (t tc : Nat) (w : Bool) (v : AV), o.dst = some t → s'.get t = some (.grd tc w v) → ∃ g, o.guard = some (g, w) ∧ (ops[g]?).bind (·.dst) = some tc) → Inv X ops st (fun j => j = i ∨ S j) s' := by
    intro hgr
    refine ⟨fun t j q hj hq hd => ?_, fun t hno => ?_, ?_, fun j q hj hq e he hb => ?_, fun t tc w v hg => ?_⟩
    · by_cases e : j = i
      · subst e
        rw [ho] at hq; cases hq
        rw [hget t hd]
        exact p.getF ho hd (Nat.lt_succ_self j) (by omega)
      · have hS := hj.resolve_left e
        rw [hkeep t fun hd' => e (p.uniq j i q o t hq ho hd hd')]
        exact hI.done t j q hS hq hd
    · rw [hkeep t (hno i o (.inl rfl) ho)]
      exact hI.rest t fun j q hj => hno j q (.inr hj)
    · intro k
      by_cases hw : Turns X ops st i o k
      · obtain ⟨h1, h2⟩ := hbw k (.inr hw)
        refine ⟨i + 1, by omega, hw1 k hw, fun j q hq hwj => ?_⟩
        rcases Nat.lt_trichotomy j i with hlt | rfl | hlt
        · exact ⟨fun _ => by omega, fun _ => .inr (h1 j q hlt hq hwj)⟩
        · exact ⟨fun _ => by omega, fun _ => .inl rfl⟩
        · exact ⟨fun hj => absurd (hj.resolve_left (by omega)) (h2 j q hlt hq hwj), fun hj => by omega⟩
      · obtain ⟨m, hm, hobs, hwr⟩ := hI.objs k
        refine ⟨m, hm, by rw [hw0 k (by simpa using fun e => hw (.inr e)) (fun e => hw (.inl e)), hobs], fun j q hq hwj => ?_⟩
        have e : j ≠ i := by rintro rfl; rw [ho] at hq; cases hq; exact hw hwj
        exact ⟨fun hj => (hwr j q hq hwj).1 (hj.resolve_left e), fun hj => .inr ((hwr j q hq hwj).2 hj)⟩
    · rcases hj with rfl | hj
      · rw [ho] at hq; cases hq; exact .inr (hr e he hb)
      · exact .inr (hI.down j q hj hq e he hb)
    · by_cases e : o.dst = some t
      · obtain ⟨g, h1, h2⟩ := hgr t tc w v e hg
        exact ⟨i, o, g, .inl rfl, ho, e, h1, h2⟩
      · rw [hkeep t e] at hg
        obtain ⟨j, q, g, h1, h2⟩ := hI.grd t tc w v hg
        exact ⟨j, q, g, .inr h1, h2⟩
  cases hone with
  | plain v objs' hg he =>
    obtain ⟨hstep, hv⟩ := effA_sound hX hG h hfree he
    refine ⟨_, hinv fun t tc w u ht hu => ?_, hstep.istep ho hg⟩
    rw [get_after, if_pos ht] at hu; cases hu; simp [AV.isGrd] at hv
  | guarded j t d w v hg hj hd hdt he =>
    refine ⟨_, hinv fun t' tc w' u ht' hu => ?_, effG_sound hX hG h ho hg hj hd (hfree d hd).1 (hfree d hd).2 hdt he⟩
    rw [hd] at ht'; cases ht'
    rw [St.get_put, if_pos rfl] at hu
    simp only [Option.some.injEq, AV.grd.injEq] at hu
    obtain ⟨rfl, rfl, _⟩ := hu
    exact ⟨j, hg, hj⟩
end
end Go.Ab

namespace Go.Ab
open Go Go.RowKit
variable {B : Base} {c : Cx} {s : St} {a : Act} {X : Cfg} {ops : Array Oper} {st : Nat → St}

theorem Inv.end (p : Plan X ops st) {S : Nat → Prop} (hI : Inv X ops st S s) (hall : ∀ i, i < ops.size → S i) (h : Rel B c s a) : Rel B c (st ops.size) a := by
  have hget : ∀ t, (st ops.size).get t = s.get t := by
    intro t
    by_cases hex : ∃ (j : Nat) (q : Oper), ops[j]? = some q ∧ q.dst = some t
    · obtain ⟨j, q, hj, hq⟩ := hex
      exact (hI.done t j q (hall j (Array.getElem?_eq_some_iff.1 hj).1) hj hq).symm
    · have hno : ∀ (k : Nat) (q : Oper), ops[k]? = some q → q.dst ≠ some t := fun k q hk hq => hex ⟨k, q, hk, hq⟩
      rw [hI.rest t fun k q _ hk => hno k q hk, p.get0 _ t (Nat.le_refl _) fun k q _ hk => hno k q hk]
  have hobj : ∀ k, (st ops.size).obj k = s.obj k := by
    intro k
    obtain ⟨m, hm, hobs, hwr⟩ := hI.objs k
    rw [hobs]
    have := p.objs (i := m) (q := k) (ops.size - m) (by omega) fun j q hj1 hj2 hq hw => by
      have := (hwr j q hq hw).1 (hall j (Array.getElem?_eq_some_iff.1 hq).1); omega
    rw [show m + (ops.size - m) = ops.size by omega] at this; exact this
  have hlive : ∀ k, live s.objs k → live (st ops.size).objs k := fun k ⟨o, ho⟩ => ⟨o, by have := hobj k; simp only [St.obj] at this; rw [this]; exact ho⟩
  refine h.less (fun k hk => hlive k (h.kept k hk)) (fun t v hv => by rw [← hget t]; exact hv) (fun k o ho => by rw [← hobj k]; exact ho)
    (fun t v hv k hk => hlive k (h.closed t v (by rw [← hget t]; exact hv) k hk)) (fun k o ho q hq => hlive q (h.objs.closed k o (by have := hobj k; rw [ho] at this; exact this.symm) q hq))

theorem getD_of {listed : Array Bool} {i : Nat} (h : i < listed.size) (b b' : Bool) : listed.getD i b = listed.getD i b' := by
  simp [h]

theorem Plan.run (p : Plan X ops st) (hX : CallsOk X) (hG : X.G = B.G) (hN : ∀ o ∈ ops.toList, ∀ d, o.dst = some d → d < B.N) {Q : Exit → Act → World → Prop} (hQ : ∀ c' a', Rel B c' (st ops.size) a' → Q .normal a' c'.w) :
    ∀ (fuel : Nat) (listed : Array Bool) (s : St) (c : Cx) (a : Act), listed.size = ops.size → (∃ U : List Nat, U.length ≤ fuel ∧ ∀ i, i < ops.size → listed.getD i false = false → i ∈ U) →
      Inv X ops st (fun i => listed.getD i false = true) s → Rel B c s a → wpAny X.P .any ops Q fuel listed a c.w := by
  have hdone : ∀ (listed : Array Bool) (s : St) (c : Cx) (a : Act), listed.size = ops.size → Inv X ops st (fun i => listed.getD i false = true) s → Rel B c s a → Region.ready .any ops listed = [] → Q .normal a c.w := by
    intro listed s c a hsz hI h hr
    have hall : ∀ i, i < ops.size → listed.getD i false = true := by
      intro i
      induction i using Nat.strongRecOn with
      | _ i ih =>
        intro hi
        cases hl : listed.getD i false with
        | true => rfl
        | false =>
          obtain ⟨o, ho⟩ := get_op hi
          have : i ∈ Region.ready .any ops listed := mem_ready.2 ⟨by rw [getD_of (by omega) true false]; exact hl, o, ho, fun e he hb => ih e.on (p.edge i o ho e he hb) (by have := p.edge i o ho e he hb; omega)⟩
          rw [hr] at this; simp at this
    exact hQ c a (hI.end p hall h)
  intro fuel
  induction fuel with
  | zero =>
    intro listed s c a hsz hU hI h
    have hr : Region.ready .any ops listed = [] := by
      cases hr : Region.ready .any ops listed with
      | nil => rfl
      | cons i r =>
        have hi : i ∈ Region.ready .any ops listed := by rw [hr]; simp
        obtain ⟨h0, o, ho, _⟩ := mem_ready.1 hi
        have hin := (Array.getElem?_eq_some_iff.1 ho).1
        obtain ⟨U, h1, h2⟩ := hU
        have := h2 i hin (by rw [getD_of (by omega) false true]; exact h0)
        have hUn : U = [] := List.length_eq_zero_iff.1 (by omega)
        rw [hUn] at this; simp at this
    exact ⟨hr, hdone listed s c a hsz hI h hr⟩
  | succ fuel ih =>
    intro listed s c a hsz hU hI h
    refine ⟨hdone listed s c a hsz hI h, fun i hi => ?_⟩
    obtain ⟨h0, o, ho, hall⟩ := mem_ready.1 hi
    have hin := (Array.getElem?_eq_some_iff.1 ho).1
    have h0' : listed.getD i false = false := by rw [getD_of (by omega) false true]; exact h0
    obtain ⟨s', hI', hstep⟩ := p.next (B := B) (c := c) (a := a) hX hG hN hI h ho (by simp [h0']) (fun e he hb => hall e he hb)
    refine hstep Q _ fun a' c' hr => ?_
    have hset : ∀ j, (listed.setIfInBounds i true).getD j false = true ↔ (j = i ∨ listed.getD j false = true) := by
      intro j
      by_cases e : i = j
      · subst e
        have : i < listed.size := by omega
        simp [this]
      · rw [getD_set_ne false e]
        exact ⟨.inr, fun h => h.resolve_left (fun x => e x.symm)⟩
    refine ih _ s' c' a' (by simpa using hsz) ?_ ?_ hr
    · obtain ⟨U, h1, h2⟩ := hU
      have hiU := h2 i hin h0'
      refine ⟨U.erase i, ?_, fun j hj hjn => ?_⟩
      · rw [List.length_erase_of_mem hiU]; omega
      · have hne : j ≠ i := by rintro rfl; rw [(hset j).2 (.inl rfl)] at hjn; cases hjn
        refine (List.mem_erase_of_ne hne).2 (h2 j hj ?_)
        cases hl : listed.getD j false with
        | false => rfl
        | true => rw [(hset j).2 (.inr hl)] at hjn; cases hjn
    · have : (fun j => (listed.setIfInBounds i true).getD j false = true) = fun j => j = i ∨ listed.getD j false = true := by funext j; exact propext (hset j)
      rw [this]; exact hI'

theorem runDrawn_sound (hX : CallsOk X) (hG : X.G = B.G) (hm : X.P.follows .mixedOrders = true) {id : Nat} {k : St → Res} {r : AV × List AO} {Q : Exit → Act → World → Prop} (he : runDrawn X ops s k = some r) (h : Rel B c s a) (hn : NoGrd s)
    (hN : ∀ o ∈ ops.toList, ∀ d, o.dst = some d → d < B.N) (hk : ∀ s' c' a', k s' = some r → Rel B c' s' a' → NoGrd s' → Q .normal a' c'.w) : (Code.region id ops true).wp X.P Q a c.w := by
  apply wp_region_any hm
  unfold runDrawn at he
  obtain ⟨hb, he⟩ := cond_none he
  simp only [Bool.and_eq_true] at hb
  obtain ⟨st, h0, h1, h2, fps, h3, h4, h5⟩ := runOpsD_inv ops.toList 0 [] s (fun j => by simp) he
  obtain ⟨hfp, h3⟩ := cond_none h3
  simp only [List.nil_append, Nat.zero_add] at hfp h3
  have hlen : ops.toList.length = ops.size := by simp
  rw [hlen] at h3
  have p : Plan X ops st := by
    refine ⟨⟨fun i o ho => h1 i o (Nat.zero_le _) ho, fun i o j t w ho hg ht k q hk hq => h2 i o j t w (Nat.zero_le _) ho hg ht k q hk hq⟩, by rw [h0]; exact hn, fun i j o q d hi hj ho hq => (dstsApart_spec hb.1).2 i j o q d (by simpa using hi) (by simpa using hj) ho hq,
      fun i o ho e he hbe => by have := edgesOk_spec hb.2 i o (by simpa using ho) e he hbe; omega, fun i j o q hij hi hj => ?_⟩
    have := fpsOk_spec hfp i j _ _ hij (h5 i o (Nat.zero_le _) hi) (h5 j q (Nat.zero_le _) hj)
    have hfi : ∀ (k : Nat) (x : Oper) (s : St), (fpOf X s ops k x).i = k := by
      intro k x s
      simp only [fpOf]
      split
      · rfl
      · split <;> rfl
    rw [hfi, hfi] at this
    exact this
  have hrel : Rel B c.drew s a := h.keep (Cx.drew_keeps c s.objs) (Cx.drew_grow h.good)
  refine p.run (B := B) hX hG hN (fun c' a' hr => hk _ c' a' h3 hr.purge (NoGrd.purge _)) ops.size _ s c.drew a (by simp) ⟨List.range ops.size, by simp, fun i hi _ => by simpa using hi⟩ ?_ hrel
  have hf : ∀ i, (Array.replicate ops.size false).getD i false = true ↔ False := by
    intro i; simp [Array.getD_eq_getD_getElem?, Array.getElem?_replicate]; split <;> rfl
  refine ⟨fun t j o hj => ((hf j).1 hj).elim, fun t _ => by rw [h0], fun k => ⟨0, Nat.zero_le _, by rw [h0], fun j o _ _ => ⟨fun hj => ((hf j).1 hj).elim, fun hj => by omega⟩⟩, fun j o hj => ((hf j).1 hj).elim, fun t tc w v hg => ?_⟩
  have := hn t _ hg
  simp [AV.isGrd] at this
end Go.Ab

namespace Go.Ab
open Go Go.RowKit
variable {P : Program} {B : Base} {c : Cx} {s : St} {a : Act}

theorem alook_keepEnv {env : List (Nat × AV)} : ∀ {ks : List Nat} {t : Nat} {v : AV}, alook (keepEnv env ks) t = some v → alook env t = some v
  | [], t, v, h => by simp [keepEnv, alook] at h
  | k :: r, t, v, h => by
    simp only [keepEnv] at h
    cases hk : alook env k with
    | none => simp only [hk] at h; exact alook_keepEnv h
    | some u =>
      simp only [hk, alook] at h
      by_cases e : k = t
      · subst e; simp at h; rw [hk, h]
      · rw [beqF e, cond_false] at h; exact alook_keepEnv h
theorem keepObjs_some {objs : List (Nat × AO)} {k : Nat} {r : List Nat} {u : AO} (h : alook objs k = some u) : keepObjs objs (k :: r) = (k, u) :: keepObjs objs r ∨ (keepObjs objs (k :: r) = keepObjs objs r ∧ ¬ keyBase ≤ k) := by
  simp only [keepObjs, h]
  cases u with
  | gone =>
    cases hb : Nat.ble keyBase k with
    | true => exact .inl rfl
    | false => exact .inr ⟨rfl, fun hle => by rw [Nat.ble_eq_true_of_le hle] at hb; cases hb⟩
  | _ => exact .inl rfl
theorem keepObjs_none {objs : List (Nat × AO)} {k : Nat} {r : List Nat} (h : alook objs k = none) : keepObjs objs (k :: r) = keepObjs objs r := by
  simp only [keepObjs, h]
theorem alook_keepObjs {objs : List (Nat × AO)} : ∀ {ks : List Nat} {t : Nat} {v : AO}, alook (keepObjs objs ks) t = some v → alook objs t = some v
  | [], t, v, h => by simp [keepObjs, alook] at h
  | k :: r, t, v, h => by
    cases hk : alook objs k with
    | none => rw [keepObjs_none hk] at h; exact alook_keepObjs h
    | some u =>
      rcases keepObjs_some (r := r) hk with e0 | ⟨e0, _⟩
      · rw [e0] at h
        simp only [alook] at h
        by_cases e : k = t
        · subst e; simp at h; rw [hk, h]
        · rw [beqF e, cond_false] at h; exact alook_keepObjs h
      · rw [e0] at h; exact alook_keepObjs h
theorem live_keepObjs {objs : List (Nat × AO)} {k : Nat} (hl : live objs k) (hb : keyBase ≤ k) : ∀ {ks : List Nat}, k ∈ ks → live (keepObjs objs ks) k
  | [], h => by simp at h
  | q :: r, h => by
    by_cases e : q = k
    · subst e
      obtain ⟨o, ho⟩ := hl
      rcases keepObjs_some (r := r) ho with e0 | ⟨_, e1⟩
      · rw [e0]; exact ⟨o, by simp [alook]⟩
      · exact absurd hb e1
    · have hr := live_keepObjs hl hb (ks := r) (by rcases List.mem_cons.1 h with rfl | h; exact absurd rfl e; exact h)
      cases hq : alook objs q with
      | none => rw [keepObjs_none hq]; exact hr
      | some u =>
        rcases keepObjs_some (r := r) hq with e0 | ⟨e0, _⟩
        · rw [e0]; obtain ⟨o, ho⟩ := hr; exact ⟨o, by simp [alook, beqF e, ho]⟩
        · rw [e0]; exact hr
theorem mem_baseK {objs : List (Nat × AO)} {k : Nat} (hl : live objs k) (hb : keyBase ≤ k) : k ∈ baseK objs := by
  induction objs with
  | nil => obtain ⟨o, h⟩ := hl; simp [alook] at h
  | cons p r ih =>
    obtain ⟨q, o⟩ := p
    simp only [baseK]
    by_cases e : q = k
    · subst e; rw [Nat.ble_eq_true_of_le hb]; simp
    · obtain ⟨o', ho'⟩ := hl
      simp only [alook, beqF e, cond_false] at ho'
      have := ih ⟨o', ho'⟩
      cases Nat.ble keyBase q <;> simp [this]
theorem mem_envKeys {env : List (Nat × AV)} {t : Nat} {v : AV} (h : alook env t = some v) : ∀ k ∈ v.keys, k ∈ envKeys env := by
  induction env with
  | nil => simp [alook] at h
  | cons p r ih =>
    obtain ⟨q, u⟩ := p
    intro k hk
    simp only [envKeys, List.mem_append]
    simp only [alook] at h
    by_cases e : q = t
    · subst e; simp at h; subst h; exact .inl hk
    · rw [beqF e, cond_false] at h; exact .inr (ih h k hk)
theorem mem_allObjKeys {objs : List (Nat × AO)} {t : Nat} {v : AO} (h : alook objs t = some v) : ∀ k ∈ v.keys, k ∈ allObjKeys objs := by
  induction objs with
  | nil => simp [alook] at h
  | cons p r ih =>
    obtain ⟨q, u⟩ := p
    intro k hk
    simp only [allObjKeys, List.mem_append]
    simp only [alook] at h
    by_cases e : q = t
    · subst e; simp at h; subst h; exact .inl hk
    · rw [beqF e, cond_false] at h; exact .inr (ih h k hk)

/-- Another word for the value in a slot. -/
theorem Rel.reslot (h : Rel B c s a) {t : Nat} {v : AV} (hs : Sees B c s v (a.tmps.getD t undef)) (_ : NoGrd s) : Rel B c (s.put (some t) v) a := by
  refine ⟨h.good, h.frame, by rw [St.objs_put]; exact h.objs, fun q u hu => ?_, fun q u hu k hk' => ?_, fun k o b ho => h.mine k o b (by simpa using ho), h.tmps, h.defers, by rw [St.objs_put]; exact h.kept⟩
  · rw [St.get_put] at hu
    by_cases e : t = q
    · subst e; simp at hu; subst hu; exact EnvRep.of_rep hs.plain hs.rep
    · rw [if_neg e] at hu; exact h.env q u hu
  · rw [St.objs_put]
    rw [St.get_put] at hu
    by_cases e : t = q
    · subst e; simp at hu; subst hu; exact hs.live k hk'
    · rw [if_neg e] at hu; exact h.closed q u hu k hk'
theorem NoGrd.put {s : St} (h : NoGrd s) {t : Nat} {v : AV} (hv : v.isGrd = false) : NoGrd (s.put (some t) v) := by
  intro q u hu
  rw [St.get_put] at hu
  by_cases e : t = q
  · subst e; simp at hu; subst hu; exact hv
  · rw [if_neg e] at hu; exact h q u hu
theorem ownAs_plain (key : Nat) (z : List AV) (sz n : Nat) (get : Nat → List AV) : (ownAs key z sz n get).isGrd = false ∧ (ownAs key z sz n get).keys = [key] ∧ (ownAs key z sz n get).one = true := by
  unfold ownAs; cases Nat.beq n 0 <;> exact ⟨rfl, rfl, rfl⟩

theorem promote_sound (h : Rel B c s a) {sz n : Nat} {get : Nat → List AV} {X : Value} (hx : Rep c (.sl .fit sz n get) X) {key : Nat} (hk : s.obj key = none) {z : List AV} (hz : 0 < ownSz z sz n) :
    ∃ c', c'.β = c.β ∧ c'.w = c.w ∧ Rel B c' (s.setObj key (.own (ownSz z sz n) n)) a ∧ Sees B c' (s.setObj key (.own (ownSz z sz n) n)) (ownAs key z sz n get) X := by
  have hown : OwnRep c .fit n X := by cases hx <;> assumption
  by_cases hn : n = 0
  · subst hn
    exact append_zero' (sz := z.length) (get' := fun _ => z) h hz hx ⟨.inl ⟨rfl, hk⟩, hown⟩ (.inl rfl) (fun j hj => by omega)
  · have e1 : ownSz z sz n = sz := by simp [ownSz, beqF hn]
    have e2 : ownAs key z sz n get = .sl (.key key) sz n get := by simp [ownAs, beqF hn]
    rw [e1, e2]
    rw [e1] at hz
    exact append_zero' (sz := sz) (get' := get) h hz hx ⟨.inl ⟨rfl, hk⟩, hown⟩ (.inr rfl) (fun j hj => rfl)

theorem promoteEnv_sound : ∀ {l : List (Nat × Nat × TypeId)} {s s' : St} {c : Cx}, Rel B c s a → NoGrd s → promoteEnv P s l = some s' → ∃ c', c'.w = c.w ∧ Rel B c' s' a ∧ NoGrd s'
  | [], s, s', c, h, hn, he => by simp [promoteEnv] at he; subst he; exact ⟨c, rfl, h, hn⟩
  | (t, key, e) :: r, s, s', c, h, hn, he => by
    simp only [promoteEnv] at he
    split at he
    · rename_i sz n get hg
      split at he
      · rename_i z hk hz
        obtain ⟨hb, he⟩ := guardO_inv he
        have hE : Rep c (.sl .fit sz n get) (a.tmps.getD t undef) := h.env t _ hg
        obtain ⟨c1, e0, e1, e2, e3⟩ := promote_sound h hE hk (ltB hb)
        have hn1 : NoGrd (s.setObj key (.own (ownSz z sz n) n)) := hn
        obtain ⟨c2, f1, f2, f3⟩ := promoteEnv_sound (e2.reslot e3 hn1) (hn1.put (ownAs_plain _ _ _ _ _).1) he
        exact ⟨c2, f1.trans e1, f2, f3⟩
      · simp at he
    · exact promoteEnv_sound h hn he

theorem keysL_set {cs : List AV} {i : Nat} {v : AV} : ∀ k ∈ keysL (cs.set i v), k ∈ v.keys ∨ k ∈ keysL cs := by
  induction cs generalizing i with
  | nil => intro k hk; simp [keysL] at hk
  | cons u r ih =>
    intro k hk
    cases i with
    | zero =>
      simp only [List.set_cons_zero, keysL, List.mem_append] at hk
      simp only [keysL, List.mem_append]
      rcases hk with hk | hk
      · exact .inl hk
      · exact .inr (.inr hk)
    | succ i =>
      simp only [List.set_cons_succ, keysL, List.mem_append] at hk
      simp only [keysL, List.mem_append]
      rcases hk with hk | hk
      · exact .inr (.inl hk)
      · rcases ih k hk with h | h
        · exact .inl h
        · exact .inr (.inr h)

theorem promoteCells_sound : ∀ {l : List (Nat × Nat × Nat × TypeId)} {s s' : St} {c : Cx}, Rel B c s a → NoGrd s → promoteCells P s l = some s' → ∃ c', c'.w = c.w ∧ Rel B c' s' a ∧ NoGrd s'
  | [], s, s', c, h, hn, he => by simp [promoteCells] at he; subst he; exact ⟨c, rfl, h, hn⟩
  | (ob, off, key, e) :: r, s, s', c, h, hn, he => by
    simp only [promoteCells] at he
    split at he
    · rename_i cs hob
      split at he
      · rename_i sz n get hg
        split at he
        · rename_i z hk hz
          obtain ⟨hb, he⟩ := guardO_inv he
          have hne : key ≠ ob := by rintro rfl; rw [hk] at hob; cases hob
          obtain ⟨⟨⟨vs, t, hh, hs, hv⟩, h1⟩, hI, hfr⟩ := h.objs.rep ob _ hob
          obtain ⟨c1, e0, e1, e2, e3⟩ := promote_sound h (hv off _ hg) hk (ltB hb)
          have hob1 : alook (aput s.objs key (.own (ownSz z sz n) n)) ob = some (.cells cs) := by rw [alook_aput, if_neg hne]; exact hob
          obtain ⟨⟨⟨vs1, t1, hh1, hs1, hv1⟩, h11⟩, hI1, hfr1⟩ := e2.objs.rep ob _ hob1
          rw [e0, e1, hh] at hh1
          simp only [Option.some.injEq, Obj.cells.injEq] at hh1
          obtain ⟨rfl, rfl, _⟩ := hh1
          let s1 : St := s.setObj key (.own (ownSz z sz n) n)
          have hoff : off < cs.length := (List.getElem?_eq_some_iff.1 hg).1
          have hget : ∀ (i : Nat) (u : AV), (cs.set off (ownAs key z sz n get))[i]? = some u → (i = off ∧ u = ownAs key z sz n get) ∨ cs[i]? = some u := by
            intro i u hu
            rw [List.getElem?_set] at hu
            by_cases e : off = i
            · subst e; simp [hoff] at hu; exact .inl ⟨rfl, hu.symm⟩
            · rw [if_neg e] at hu; exact .inr hu
          have hrel : Rel B c1 (s1.setObj ob (.cells (cs.set off (ownAs key z sz n get)))) a := by
            refine e2.obj (k := ob) ((Keeps.refl c1 s1.objs).but ob) (Grow.refl e2.good) ⟨⟨⟨vs, t, by rw [e0, e1]; exact hh, by rw [hs, List.length_set], fun i u hu => ?_⟩, fun i u hu => ?_⟩, hI1, hfr1⟩
              (fun q o' b hq hne' hb' e => e2.objs.apart q o' ob _ b hq hob1 hne' hb' e) (fun q hq => ?_) (fun b hb' => e2.mine ob _ b hob1 hb')
            · rcases hget i u hu with ⟨rfl, rfl⟩ | hu
              · exact e3.rep
              · exact hv1 i u hu
            · rcases hget i u hu with ⟨rfl, rfl⟩ | hu
              · exact (ownAs_plain _ _ _ _ _).2.2
              · exact h1 i u hu
            · simp only [AO.keys] at hq
              rcases keysL_set q hq with hq | hq
              · exact .inr (e3.live q hq)
              · exact .inr (e2.objs.closed ob _ hob1 q (by simpa [AO.keys] using hq))
          obtain ⟨c2, f1, f2, f3⟩ := promoteCells_sound hrel hn he
          exact ⟨c2, f1.trans e1, f2, f3⟩
        · simp at he
      · exact promoteCells_sound h hn he
    · exact promoteCells_sound h hn he

theorem atHead_sound (h : Rel B c s a) (hn : NoGrd s) (hK : ∀ k, B.K k → keyBase ≤ k) {hint : Hint} {s' : St} (he : atHead P hint s = some s') : ∃ c', c'.w = c.w ∧ Rel B c' s' a ∧ NoGrd s' := by
  unfold atHead at he
  dsimp only at he
  obtain ⟨hb, he⟩ := cond_none he
  simp only [Bool.and_eq_true] at hb
  obtain ⟨s2, h1, he⟩ := opt_bind he
  have hr : Rel B c { env := keepEnv s.env hint.keep, objs := keepObjs s.objs (hint.objs ++ baseK s.objs) } a := by
    refine h.less (fun k hk => live_keepObjs (h.kept k hk) (hK k hk) (List.mem_append_right _ (mem_baseK (h.kept k hk) (hK k hk)))) (fun t v hv => alook_keepEnv hv) (fun k o ho => alook_keepObjs ho)
      (fun t v hv k hk => domK_live (subK_spec hb.1 k (mem_envKeys hv k hk))) (fun k o ho q hq => domK_live (subK_spec hb.2 q (mem_allObjKeys ho q hq)))
  have hn1 : NoGrd { env := keepEnv s.env hint.keep, objs := keepObjs s.objs (hint.objs ++ baseK s.objs) } := fun t v hv => hn t v (alook_keepEnv hv)
  obtain ⟨c1, e1, e2, e3⟩ := promoteEnv_sound hr hn1 h1
  obtain ⟨c2, f1, f2, f3⟩ := promoteCells_sound e2 e3 he
  exact ⟨c2, f1.trans e1, f2, f3⟩
end Go.Ab

namespace Go.Ab
open Go Go.RowKit
variable {B : Base} {c : Cx} {s : St} {a : Act} {X : Cfg}

def Ex.to : Ex → Exit
  | .nor => .normal
  | .exit id => .exit id
  | .ret => .ret

/-- What stands behind a loop's round. -/
def LoopWp (P : Program) (c : Code) (Q : Exit → Act → World → Prop) (a : Act) (w : World) : Prop :=
  ∀ (b : Go.Frame) (k : List Item) (cs : List Go.Frame), ∃ e a' w', Q e a' w' ∧ Arrives P (lone (b.at a (.code c :: .inLoop c :: k)) cs w) b k cs e a' w'

theorem LoopWp.unroll {P : Program} {c : Code} {Q : Exit → Act → World → Prop} {a : Act} {w : World} (h : c.wp P (Exit.then (LoopWp P c Q) Q) a w) : LoopWp P c Q a w := by
  intro b k cs
  obtain ⟨e, a₁, w₁, hq, harr⟩ := h b (.inLoop c :: k) cs
  cases e with
  | normal =>
    obtain ⟨e₂, a₂, w₂, hq₂, harr₂⟩ := hq b k cs
    exact ⟨e₂, a₂, w₂, hq₂, .of_steps (Steps.trans harr (.one step_inLoop)) harr₂⟩
  | exit id => exact ⟨_, a₁, w₁, hq, .pass (x := .inLoop c) rfl (fun _ _ => .inl (by simp)) harr⟩
  | goto l => exact ⟨_, a₁, w₁, hq, .pass (x := .inLoop c) rfl (fun _ _ => .inl (by simp)) harr⟩
  | ret => exact ⟨_, a₁, w₁, hq, .pass (x := .inLoop c) rfl (fun _ _ => .inl (by simp)) harr⟩
  | panic ch => exact ⟨_, a₁, w₁, hq, .pass (x := .inLoop c) rfl (fun _ _ => .inl (by simp)) harr⟩
  | outgrown => exact ⟨_, a₁, w₁, hq, .pass (x := .inLoop c) rfl (fun _ _ => .inl (by simp)) harr⟩
theorem LoopWp.wp {P : Program} {c : Code} {Q : Exit → Act → World → Prop} {a : Act} {w : World} (h : LoopWp P c Q a w) : (Code.loop c).wp P Q a w := fun b k cs =>
  let ⟨e, a', w', q, r⟩ := h b k cs; ⟨e, a', w', q, .of_steps (.one step_loop) r⟩

/-- What a piece of code is known to do. -/
def Sound (X : Cfg) (B : Base) (code : Code) (run : St → (Ex → St → Res) → Res) : Prop :=
  ∀ (s : St) (c : Cx) (a : Act) (k : Ex → St → Res) (r : AV × List AO) (Q : Exit → Act → World → Prop), run s k = some r → Rel B c s a → NoGrd s →
    (∀ ex s' c' a', k ex s' = some r → Rel B c' s' a' → NoGrd s' → Q ex.to a' c'.w) → code.wp X.P Q a c.w

theorem loopN_sound {body : Code} {run : St → (Ex → St → Res) → Res} (hb : Sound X B body run) (hK : ∀ k, B.K k → keyBase ≤ k) {h : Hint} : ∀ (n : Nat) (s : St) (c : Cx) (a : Act) (k : Ex → St → Res) (r : AV × List AO) (Q : Exit → Act → World → Prop),
    loopN X.P run h n s k = some r → Rel B c s a → NoGrd s → (∀ ex s' c' a', k ex s' = some r → Rel B c' s' a' → NoGrd s' → Q ex.to a' c'.w) → LoopWp X.P body Q a c.w
  | 0, s, c, a, k, r, Q, he, _, _, _ => by simp [loopN] at he
  | n + 1, s, c, a, k, r, Q, he, hr, hn, hk => by
    simp only [loopN] at he
    obtain ⟨s1, h1, he⟩ := opt_bind he
    obtain ⟨c1, e1, e2, e3⟩ := atHead_sound hr hn hK h1
    apply LoopWp.unroll
    rw [← e1]
    refine hb s1 c1 a _ r _ he e2 e3 fun ex s' c' a' hex hr' hn' => ?_
    cases ex with
    | nor => exact loopN_sound hb hK n s' c' a' k r Q hex hr' hn' hk
    | exit id => exact hk _ s' c' a' hex hr' hn'
    | ret => exact hk _ s' c' a' hex hr' hn'

theorem subC_append : ∀ (c : Code) (p : List Nat) (i : Nat), subC c (p ++ [i]) = subC (subC c p) [i]
  | c, [], i => by simp [subC]
  | .seq a b, 0 :: r, i => by simp only [List.cons_append, subC]; exact subC_append a r i
  | .seq a b, (j + 1) :: r, i => by simp only [List.cons_append, subC]; exact subC_append b r i
  | .cond q a b, 0 :: r, i => by simp only [List.cons_append, subC]; exact subC_append a r i
  | .cond q a b, (j + 1) :: r, i => by simp only [List.cons_append, subC]; exact subC_append b r i
  | .block id b, j :: r, i => by simp only [List.cons_append, subC]; exact subC_append b r i
  | .loop b, j :: r, i => by simp only [List.cons_append, subC]; exact subC_append b r i
  | .scope b, j :: r, i => by simp only [List.cons_append, subC]; exact subC_append b r i
  | .skip, _ :: _, i | .region .., _ :: _, i | .exit _, _ :: _, i | .ret, _ :: _, i | .goto _, _ :: _, i | .label _, _ :: _, i | .rangeFunc .., _ :: _, i | .refuse _, _ :: _, i => by simp [subC]

theorem trimS_sound {P : Program} (h : Rel B c s a) (hn : NoGrd s) (hK : ∀ k, B.K k → keyBase ≤ k) {hint : Option Hint} {s' : St} (he : trimS P hint s = some s') : ∃ c', c'.w = c.w ∧ Rel B c' s' a ∧ NoGrd s' := by
  cases hint with
  | none =>
    simp only [trimS, Option.some.injEq] at he
    subst he
    exact ⟨c, rfl, h, hn⟩
  | some _ => exact atHead_sound h hn hK he

/-- The rest of a loop, from its head. -/
def loopR (X : Cfg) (f : FuncId) (n m : Nat) (c : Code) (p : List Nat) (s : St) (k : Ex → St → Res) : Res :=
  match c with
  | .loop b => runC X f n b (p ++ [0]) s fun e s' => match e with
    | .nor => loopN X.P (runC X f n b (p ++ [0])) (X.hint f (tagOf b)) m s' k
    | e => k e s'
  | _ => none

/-- What stands in place of runs is right. -/
structure OracOk (X : Cfg) (f : FuncId) : Prop where
  cut : ∀ p g, X.cutO f p = some g → ∀ s k r, g s k = some r → ∃ n, runC X f n (subC (bodyOf X.P f) p) p s k = some r
  view : ∀ p g, X.viewO f p = some g → ∀ s k r, g s k = some r → ∃ s', k s' = some r ∧ ∀ (B : Base) (c : Cx) (a : Act), Rel B c s a → NoGrd s → ∃ c', c'.w = c.w ∧ Rel B c' s' a ∧ NoGrd s'
  loop : ∀ p g, X.loopO f p = some g → ∀ s k r, g s k = some r → ∃ n m, loopR X f n m (subC (bodyOf X.P f) p) p s k = some r

theorem runC_sound (hX : CallsOk X) (hG : X.G = B.G) (hm : X.P.follows .mixedOrders = true) (hK : ∀ k, B.K k → keyBase ≤ k) (f : FuncId) (hO : OracOk X f) : ∀ (code : Code) (p : List Nat), subC (bodyOf X.P f) p = code → codeOk B.N code = true → ∀ n, Sound X B code (runC X f n code p)
  | .skip, _, _, _, n => fun s c a k r Q he hr hn hk => wp_skip (hk .nor s c a he hr hn)
  | .region id ops draw, p, _, hN, n => fun s c a k r Q he hr hn hk => by
    have hN' : ∀ o ∈ ops.toList, ∀ d, o.dst = some d → d < B.N := by
      intro o ho d hd
      simp only [codeOk] at hN
      have := List.all_eq_true.1 hN o ho
      simp only [hd] at this
      exact ltB this
    simp only [runC] at he
    cases draw with
    | true => exact runDrawn_sound hX hG hm he hr hn hN' fun s' c' a' e1 e2 e3 => hk .nor s' c' a' e1 e2 e3
    | false => exact runRegion_sound hX hG he hr hn hN' fun s' c' a' e1 e2 e3 => hk .nor s' c' a' e1 e2 e3
  | .seq x y, p, hp, hN, n => fun s c a k r Q he hr hn hk => by
    simp only [codeOk, Bool.and_eq_true] at hN
    simp only [runC] at he
    have hp1 : subC (bodyOf X.P f) (p ++ [0]) = x := by rw [subC_append, hp]; simp [subC]
    have hp2 : subC (bodyOf X.P f) (p ++ [1]) = y := by rw [subC_append, hp]; simp [subC]
    apply wp_seq
    refine runC_sound hX hG hm hK f hO x _ hp1 hN.1 n s c a _ r _ he hr hn fun ex s' c' a' hex hr' hn' => ?_
    cases ex with
    | nor =>
      obtain ⟨s1, h1, hex⟩ := opt_bind hex
      obtain ⟨c0, e01, e02, e03⟩ := trimS_sound hr' hn' hK h1
      have hv : ∃ s2 c2, (match X.cutO f (p ++ [1]) with | none => runC X f n y (p ++ [1]) s2 k | some g => g s2 k) = some r ∧ c2.w = c0.w ∧ Rel B c2 s2 a' ∧ NoGrd s2 := by
        cases hv : X.viewO f (p ++ [1]) with
        | none => simp only [viewS, hv] at hex; exact ⟨s1, c0, hex, rfl, e02, e03⟩
        | some g =>
          simp only [viewS, hv] at hex
          obtain ⟨s2, g1, g2⟩ := hO.view _ g hv _ _ _ hex
          obtain ⟨c2, g3, g4, g5⟩ := g2 B c0 a' e02 e03
          exact ⟨s2, c2, g1, g3, g4, g5⟩
      clear hex
      obtain ⟨s1, c1, hex, e1, e2, e3⟩ := hv
      rw [← e01, ← e1]
      cases hc : X.cutO f (p ++ [1]) with
      | none =>
        simp only [hc] at hex
        exact runC_sound hX hG hm hK f hO y _ hp2 hN.2 n s1 c1 a' k r Q hex e2 e3 hk
      | some g =>
        simp only [hc] at hex
        obtain ⟨n', hn'⟩ := hO.cut _ g hc s1 k r hex
        rw [hp2] at hn'
        exact runC_sound hX hG hm hK f hO y _ hp2 hN.2 n' s1 c1 a' k r Q hn' e2 e3 hk
    | exit id => exact hk _ s' c' a' hex hr' hn'
    | ret => exact hk _ s' c' a' hex hr' hn'
  | .cond q x y, p, hp, hN, n => fun s c a k r Q he hr hn hk => by
    simp only [codeOk, Bool.and_eq_true] at hN
    simp only [runC] at he
    have hp1 : subC (bodyOf X.P f) (p ++ [0]) = x := by rw [subC_append, hp]; simp [subC]
    have hp2 : subC (bodyOf X.P f) (p ++ [1]) = y := by rw [subC_append, hp]; simp [subC]
    split at he
    · rename_i t ht
      rw [hG] at ht
      have hs := (evalO_sound hr (ch := []) (fun t w hm => by simp at hm) ht).rep
      have hq : a.eval q = .bool t := by generalize a.eval q = V at hs; cases hs; rfl
      cases t with
      | true => exact wp_cond hq (runC_sound hX hG hm hK f hO x _ hp1 hN.1 n s c a k r Q he hr hn hk)
      | false => exact wp_cond hq (runC_sound hX hG hm hK f hO y _ hp2 hN.2 n s c a k r Q he hr hn hk)
    · simp at he
  | .block id b, p, hp, hN, n => fun s c a k r Q he hr hn hk => by
    simp only [codeOk] at hN
    simp only [runC] at he
    have hp1 : subC (bodyOf X.P f) (p ++ [0]) = b := by rw [subC_append, hp]; simp [subC]
    apply wp_block
    refine runC_sound hX hG hm hK f hO b _ hp1 hN n s c a _ r _ he hr hn fun ex s' c' a' hex hr' hn' => ?_
    cases ex with
    | nor => exact hk _ s' c' a' hex hr' hn'
    | exit id' =>
      simp only [Ex.to, Exit.inBlock]
      by_cases e : id' = id
      · subst e
        simp only [Nat.beq_refl, cond_true] at hex
        rw [if_pos rfl]; exact hk .nor s' c' a' hex hr' hn'
      · simp only [beqF e, cond_false] at hex
        rw [if_neg e]; exact hk (.exit id') s' c' a' hex hr' hn'
    | ret => exact hk _ s' c' a' hex hr' hn'
  | .loop b, p, hp, hN, n => fun s c a k r Q he hr hn hk => by
    simp only [codeOk] at hN
    simp only [runC] at he
    have hp1 : subC (bodyOf X.P f) (p ++ [0]) = b := by rw [subC_append, hp]; simp [subC]
    have hb := runC_sound hX hG hm hK f hO b _ hp1 hN
    cases hc : X.loopO f p with
    | none =>
      simp only [hc] at he
      exact (loopN_sound (hb n) hK n s c a k r Q he hr hn hk).wp
    | some g =>
      simp only [hc] at he
      obtain ⟨s1, h1, he⟩ := opt_bind he
      obtain ⟨n', m, he⟩ := hO.loop _ g hc s1 k r he
      rw [hp] at he
      simp only [loopR] at he
      obtain ⟨c1, e1, e2, e3⟩ := atHead_sound hr hn hK h1
      refine LoopWp.wp (LoopWp.unroll ?_)
      rw [← e1]
      refine hb n' s1 c1 a _ r _ he e2 e3 fun ex s' c' a' hex hr' hn' => ?_
      cases ex with
      | nor => exact loopN_sound (hb n') hK m s' c' a' k r Q hex hr' hn' hk
      | exit id => exact hk _ s' c' a' hex hr' hn'
      | ret => exact hk _ s' c' a' hex hr' hn'
  | .exit id, _, _, _, n => fun s c a k r Q he hr hn hk => by
    simp only [runC] at he
    obtain ⟨s1, h1, he⟩ := opt_bind he
    obtain ⟨c1, e1, e2, e3⟩ := trimS_sound hr hn hK h1
    rw [← e1]
    exact wp_exit (hk (.exit id) s1 c1 a he e2 e3)
  | .ret, _, _, _, n => fun s c a k r Q he hr hn hk => by
    simp only [runC] at he
    obtain ⟨s1, h1, he⟩ := opt_bind he
    obtain ⟨c1, e1, e2, e3⟩ := trimS_sound hr hn hK h1
    rw [← e1]
    exact wp_ret (hk .ret s1 c1 a he e2 e3)
  | .goto _, _, _, _, n => fun s c a k r Q he hr hn hk => by simp [runC] at he
  | .label _, _, _, _, n => fun s c a k r Q he hr hn hk => by
    simp only [runC] at he
    exact wp_label (hk .nor s c a he hr hn)
  | .scope b, p, hp, hN, n => fun s c a k r Q he hr hn hk => by
    simp only [codeOk] at hN
    simp only [runC] at he
    have hp1 : subC (bodyOf X.P f) (p ++ [0]) = b := by rw [subC_append, hp]; simp [subC]
    refine wp_scope_straight (runC_sound hX hG hm hK f hO b _ hp1 hN n s c a k r _ he hr hn fun ex s' c' a' hex hr' hn' => ?_)
    cases ex with
    | nor => exact hk .nor s' c' a' hex hr' hn'
    | exit id => exact hk (.exit id) s' c' a' hex hr' hn'
    | ret => exact hk .ret s' c' a' hex hr' hn'
  | .rangeFunc .., _, _, _, n => fun s c a k r Q he hr hn hk => by simp [runC] at he
  | .refuse _, _, _, _, n => fun s c a k r Q he hr hn hk => by simp [runC] at he
end Go.Ab
