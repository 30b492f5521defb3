/- A call, seen from the caller: the callee's context and the way back. -/
import Derived.Test.YtmiiklmfnagbbaaDoorAbsCall
namespace Go.Ab
open Go Go.RowKit
variable {P : Program} {B : Base} {c : Cx} {s : St} {a : Act}

theorem AO.ren_keys (m : Nat → Nat) (o : AO) : ∀ k ∈ (o.ren m).keys, ∃ q ∈ o.keys, k = m q := by
  cases o with
  | cells cs => simp only [AO.ren, AO.keys]; exact renL_keys m cs
  | _ => simp [AO.ren, AO.keys]

theorem ObjRep.ren {c c' : Cx} {m : Nat → Nat} {k k' : Nat} {o : AO} (h : ObjRep c k o) (hw : c'.w = c.w) (hI : c'.I = c.I) (hβ : c'.β k' = c.β k) (hκ : c'.κ k' = c.κ k) (hf : c'.fr k' = c.fr k)
    (hk : ∀ q ∈ o.keys, c'.β (m q) = c.β q ∧ ∀ n y, OwnRep c (.key q) n y → OwnRep c' (.key (m q)) n y) : ObjRep c' k' (o.ren m) := by
  have hren : ∀ {v : AV} {x : Value}, Rep c v x → (∀ q ∈ v.keys, c'.β (m q) = c.β q ∧ ∀ n y, OwnRep c (.key q) n y → OwnRep c' (.key (m q)) n y) → Rep c' (v.ren m) x :=
    fun hr hk => hr.ren (fun b o v _ hv => by rw [hw]; exact hv) (fun b o hi => by rw [hI]; exact hi) hk
  have hext : Ext c c' (fun _ => False) := ⟨fun b o v _ hv => by rw [hw]; exact hv, fun b o hi => by rw [hI]; exact hi, fun _ h => h.elim, fun _ h => h.elim⟩
  have harr : ∀ {sz n : Nat} {get : Nat → List AV}, ArrAt c (c.β k) sz n get → ArrAt c' (c'.β k') sz n get := by
    rintro sz n get ⟨⟨vs, t, hh, hs, hv⟩, hl, h1⟩
    exact ⟨⟨vs, t, by rw [hw, hβ]; exact hh, hs, fun j i u hj hu => (hv j i u hj hu).ext hext fun q hq => by rw [keys_nil_of (hl j hj).2 hu] at hq; simp at hq⟩, hl, h1⟩
  cases o with
  | cells cs =>
    obtain ⟨⟨⟨vs, t, hh, hs, hv⟩, h1⟩, hI', hfr⟩ := h
    refine ⟨⟨⟨vs, t, by rw [hw, hβ]; exact hh, by rw [hs, renL_length], fun i u hu => ?_⟩, fun i u hu => ?_⟩, by rw [hI, hβ]; exact hI', hf.trans hfr⟩
    · rw [renL_get] at hu
      cases hi : cs[i]? with
      | none => simp [hi] at hu
      | some u' => simp [hi] at hu; subst hu; exact hren (hv i u' hi) fun q hq => hk q (by simpa [AO.keys] using keys_mem_of hi q hq)
    · rw [renL_get] at hu
      cases hi : cs[i]? with
      | none => simp [hi] at hu
      | some u' => simp [hi] at hu; subst hu; rw [ren_one]; exact h1 i u' hi
  | arr sz n get => exact ⟨harr h.1, by rw [hI, hβ]; exact h.2.1, hf.trans h.2.2⟩
  | frz sz n get => exact ⟨harr h.1, by rw [hI, hβ]; exact h.2.1, hf.trans h.2.2⟩
  | own sz n =>
    obtain ⟨h0, hfr, hm⟩ := h
    refine ⟨h0, hf.trans hfr, ?_⟩
    simp only [hκ]
    cases hc : c.κ k with
    | none => simpa [hc] using hm
    | some p =>
      obtain ⟨ad, cap⟩ := p
      simp only [hc] at hm ⊢
      obtain ⟨h1, h2, h3⟩ := hm
      refine ⟨h1, h2, fun hlt => ?_⟩
      obtain ⟨⟨vs, t, hh, hs⟩, hoff, hfree⟩ := h3 hlt
      exact ⟨⟨vs, t, by rw [hw]; exact hh, hs⟩, hoff, by rw [hI]; exact hfree⟩
  | iter l p => exact h.elim

theorem excl_ren {c c' : Cx} {m : Nat → Nat} {k k' : Nat} {o : AO} (hβ : c'.β k' = c.β k) (hκ : c'.κ k' = c.κ k) : excl c' k' (o.ren m) = excl c k o := by
  cases o <;> simp [AO.ren, excl, hβ, hκ]

theorem Objs.rep_keep' {c c' : Cx} {objs : List (Nat × AO)} (h : Objs c objs) {q : Nat} {o : AO} (hext : Ext c c' (live objs)) (hq : alook objs q = some o)
    (hβ : c'.β q = c.β q) (hκ : c'.κ q = c.κ q) (hf : c'.fr q = c.fr q) (heap : ∀ b, excl c q o = some b → c'.w.heap[b]? = c.w.heap[b]? ∧ ∀ off, c'.I b off → c.I b off) : ObjRep c' q o := by
  have hr := h.rep q o hq
  cases o with
  | cells cs =>
    obtain ⟨⟨⟨vs, t, hh, hs, hv⟩, h1⟩, hI, hfr⟩ := hr
    have hh' := heap (c.β q) rfl
    refine ⟨⟨⟨vs, t, ?_, hs, fun i u hu => (hv i u hu).ext hext fun r hr => h.closed q _ hq r (by simpa [AO.keys] using keys_mem_of hu r hr)⟩, h1⟩, ?_, hf.trans hfr⟩
    · rw [hβ, hh'.1]; exact hh
    · intro o ho; rw [hβ] at ho; exact hI o (hh'.2 o ho)
  | arr sz n get =>
    obtain ⟨⟨⟨vs, t, hh, hs, hv⟩, hl', h1⟩, hI, hfr⟩ := hr
    have hh' := heap (c.β q) rfl
    refine ⟨⟨⟨vs, t, ?_, hs, fun j i u hj hu => (hv j i u hj hu).ext hext fun r hr => ?_⟩, hl', h1⟩, ?_, hf.trans hfr⟩
    · rw [hβ, hh'.1]; exact hh
    · rw [keys_nil_of (hl' j hj).2 hu] at hr; simp at hr
    · intro o ho; rw [hβ] at ho; exact hI o (hh'.2 o ho)
  | frz sz n get =>
    obtain ⟨⟨⟨vs, t, hh, hs, hv⟩, hl', h1⟩, hI, hfr⟩ := hr
    have hh' := heap (c.β q) rfl
    refine ⟨⟨⟨vs, t, ?_, hs, fun j i u hj hu => (hv j i u hj hu).ext hext fun r hr => ?_⟩, hl', h1⟩, ?_, hf.trans hfr⟩
    · rw [hβ, hh'.1]; exact hh
    · rw [keys_nil_of (hl' j hj).2 hu] at hr; simp at hr
    · intro o ho; rw [hβ]; exact hext.I _ _ (hI o ho)
  | own sz n =>
    obtain ⟨h0, hfr, hm⟩ := hr
    refine ⟨h0, hf.trans hfr, ?_⟩
    rw [hκ]
    cases hc : c.κ q with
    | none => simpa [hc] using hm
    | some p =>
      obtain ⟨ad, cap⟩ := p
      simp only [hc] at hm ⊢
      obtain ⟨h1, h2, h3⟩ := hm
      refine ⟨h1, h2, fun hlt => ?_⟩
      obtain ⟨⟨vs, t, hh, hs⟩, hoff, hfree⟩ := h3 hlt
      have hh' := heap ad.block (by simp [excl, hc, hlt])
      exact ⟨⟨vs, t, hh'.1.trans hh, hs⟩, hoff, fun o ho hi => hfree o ho (hh'.2 o hi)⟩
  | iter s p => exact hr.elim

theorem idx_eq {ks : List Nat} (hn : ks.Nodup) {i k : Nat} (h : ks[i]? = some k) (d : Nat) : idxOf ks k d = i := by
  have h2 := idxOf_spec (ks := ks) d (List.mem_of_getElem? h)
  have hi := (List.getElem?_eq_some_iff.1 h).1
  have hj := (List.getElem?_eq_some_iff.1 h2).1
  exact (List.getElem?_inj hj hn).1 (h2.trans h.symm)

/-- A call of which the callee's contract is known: what the caller sees. -/
theorem call_core (h : Rel B c s a) {f : FuncId} {ks : List Nat} (hn : ks.Nodup) {os os' : List AO} (hos : getObjs s.objs ks = some os) (hcl : ∀ q ∈ objKeys s.objs ks, q ∈ ks)
    {l : List AV} {xs : List Value} (hl : SeesL B c s l xs) (hlk : ∀ q ∈ keysL l, q ∈ ks) {r : AV}
    (hok : CallOk P B.G f (renL (fun k => keyBase + idxOf ks k 0) l) (os.map (AO.ren fun k => keyBase + idxOf ks k 0)) r os') (hlen : os'.length = ks.length) :
    Calls P f xs.toArray c.w fun e w' => ∃ c2 x, e = .returned x ∧ c2.w = w' ∧ Rel B c2 (s.with (putObjs s.objs ks (os'.map (AO.ren fun k => nthD ks (k - keyBase))))) a ∧
      Sees B c2 (s.with (putObjs s.objs ks (os'.map (AO.ren fun k => nthD ks (k - keyBase))))) (r.ren fun k => nthD ks (k - keyBase)) x := by
  obtain ⟨hol, hoo⟩ := getObjs_spec hos
  let fwd := fun k => keyBase + idxOf ks k 0
  let bwd := fun k => nthD ks (k - keyBase)
  have hfb : ∀ k ∈ ks, bwd (fwd k) = k := fun k hk => by
    show nthD ks (keyBase + idxOf ks k 0 - keyBase) = k
    rw [Nat.add_sub_cancel_left]; exact nthD_spec (idxOf_spec 0 hk)
  have hbf : ∀ i k, ks[i]? = some k → bwd (keyBase + i) = k ∧ fwd k = keyBase + i := fun i k hk =>
    ⟨by show nthD ks (keyBase + i - keyBase) = k; rw [Nat.add_sub_cancel_left]; exact nthD_spec hk, by show keyBase + idxOf ks k 0 = _; rw [idx_eq hn hk]⟩
  -- the callee's context
  let c0 : Cx := { w := c.w, I := c.I, β := fun q => c.β (bwd q), κ := fun q => c.κ (bwd q), fr := fun q => c.fr (bwd q) }
  have hβ0 : ∀ k ∈ ks, c0.β (fwd k) = c.β k := fun k hk => by show c.β (bwd (fwd k)) = _; rw [hfb k hk]
  have hκ0 : ∀ k ∈ ks, c0.κ (fwd k) = c.κ k := fun k hk => by show c.κ (bwd (fwd k)) = _; rw [hfb k hk]
  have hf0 : ∀ k ∈ ks, c0.fr (fwd k) = c.fr k := fun k hk => by show c.fr (bwd (fwd k)) = _; rw [hfb k hk]
  have hown0 : ∀ k ∈ ks, ∀ n y, OwnRep c (.key k) n y → OwnRep c0 (.key (fwd k)) n y := fun k hk n y => by simp only [OwnRep, hκ0 k hk, hf0 k hk]; exact id
  have hfwd : ∀ k ∈ ks, c0.β (fwd k) = c.β k ∧ ∀ n y, OwnRep c (.key k) n y → OwnRep c0 (.key (fwd k)) n y := fun k hk => ⟨hβ0 k hk, hown0 k hk⟩
  have hlook : ∀ q o, alook (enterObjs (os.map (AO.ren fwd)) keyBase) q = some o → ∃ k o0, k ∈ ks ∧ q = fwd k ∧ alook s.objs k = some o0 ∧ o = o0.ren fwd := by
    intro q o hq
    rw [alook_enter] at hq
    by_cases hb : keyBase ≤ q
    · rw [if_pos hb, List.getElem?_map] at hq
      cases hi : os[q - keyBase]? with
      | none => simp [hi] at hq
      | some o0 =>
        simp [hi] at hq; subst hq
        have hlt := (List.getElem?_eq_some_iff.1 hi).1
        have hk : ks[q - keyBase]? = some (ks[q - keyBase]'(by omega)) := List.getElem?_eq_getElem _
        refine ⟨_, o0, List.mem_of_getElem? hk, ?_, by rw [(hoo _ _ hk).1, hi], rfl⟩
        rw [(hbf _ _ hk).2]; omega
    · rw [if_neg hb] at hq; simp at hq
  have hlook' : ∀ k ∈ ks, ∃ o0, alook s.objs k = some o0 ∧ alook (enterObjs (os.map (AO.ren fwd)) keyBase) (fwd k) = some (o0.ren fwd) := by
    intro k hk
    have hi := idxOf_spec 0 hk
    obtain ⟨h1, o0, h2⟩ := hoo _ _ hi
    refine ⟨o0, h2, ?_⟩
    rw [alook_enter, if_pos (Nat.le_add_right _ _)]
    show (os.map (AO.ren fwd))[keyBase + idxOf ks k 0 - keyBase]? = _
    rw [Nat.add_sub_cancel_left, List.getElem?_map, ← h1, h2]; rfl
  have hO0 : Objs c0 (enterObjs (os.map (AO.ren fwd)) keyBase) := by
    refine ⟨fun q o hq => ?_, fun q o q' o' b hq hq' hne hb => ?_, fun q o hq r hr => ?_⟩
    · obtain ⟨k, o0, hk, rfl, h1, rfl⟩ := hlook q o hq
      exact (h.objs.rep k o0 h1).ren rfl rfl (hβ0 k hk) (hκ0 k hk) (hf0 k hk) fun q hq => hfwd q (hcl q (objKeys_mem hk h1 q hq))
    · obtain ⟨k, o0, hk, rfl, h1, rfl⟩ := hlook q o hq
      obtain ⟨k', o0', hk', rfl, h1', rfl⟩ := hlook q' o' hq'
      rw [excl_ren (hβ0 k hk) (hκ0 k hk)] at hb
      rw [excl_ren (hβ0 k' hk') (hκ0 k' hk')]
      exact h.objs.apart k o0 k' o0' b h1 h1' (fun e => hne (by rw [e])) hb
    · obtain ⟨k, o0, hk, rfl, h1, rfl⟩ := hlook q o hq
      obtain ⟨q', hq', rfl⟩ := AO.ren_keys _ _ r hr
      obtain ⟨_, _, e⟩ := hlook' q' (hcl q' (objKeys_mem hk h1 q' hq'))
      exact ⟨_, e⟩
  have hG0 : Good B.G c0 := ⟨h.good.there, fun g cs hg => (h.good.globs g cs hg).ext (ks := fun _ => False) ⟨fun _ _ _ _ hv => hv, fun _ _ hi => hi, fun _ hk => hk.elim, fun _ hk => hk.elim⟩ (by simp [AV.keys])⟩
  have hcall := hok
  have hfn := hl.fn
  refine (hcall c0 xs.toArray hG0 hO0 (by rw [renL_length]; exact hfn.1) (fun i u hu => ?_) (fun k hk => ?_)).mono ?_
  · rw [renL_get] at hu
    cases hi : l[i]? with
    | none => simp [hi] at hu
    | some u' => simp [hi] at hu; subst hu; exact Rep.ren (c := c) (c' := c0) (m := fwd) (fun _ _ _ _ hv => hv) (fun _ _ hi => hi) (hfn.2.1 i u' hi) fun q hq => hfwd q (hlk q (keys_mem_of hi q hq))
  · obtain ⟨q, hq, rfl⟩ := renL_keys _ _ k hk
    obtain ⟨_, _, e⟩ := hlook' q (hlk q hq)
    exact ⟨_, e⟩
  -- the way back
  rintro e w' ⟨c', x, he, hw', hG', hF', hO', hr', hrk, hmine⟩
  have hheld : ∀ b, held c0 (enterObjs (os.map (AO.ren fwd)) keyBase) b → ∃ k o, k ∈ ks ∧ alook s.objs k = some o ∧ excl c k o = some b := by
    rintro b ⟨q, o, hq, hb⟩
    obtain ⟨k, o0, hk, rfl, h1, rfl⟩ := hlook q o hq
    exact ⟨k, o0, hk, h1, by rw [← excl_ren (hβ0 k hk) (hκ0 k hk)]; exact hb⟩
  have hK : ∀ k ∈ ks, live (enterObjs (os.map (AO.ren fwd)) keyBase) (fwd k) := fun k hk => by obtain ⟨_, _, e⟩ := hlook' k hk; exact ⟨_, e⟩
  have hlow : ∀ b, b < B.c0.w.heap.size → ¬ B.D b → b < c0.w.heap.size ∧ ¬ held c0 (enterObjs (os.map (AO.ren fwd)) keyBase) b := by
    intro b hb hd
    refine ⟨Nat.lt_of_lt_of_le hb h.frame.size, fun hh => ?_⟩
    obtain ⟨k, o, _, h1, h2⟩ := hheld b hh
    rcases h.mine k o b h1 h2 with h3 | h3
    · omega
    · exact hd h3
  classical
  let c2 : Cx := { w := c'.w, I := c'.I, β := c.β, κ := fun q => if q ∈ ks then c'.κ (fwd q) else c.κ q, fr := fun q => if q ∈ ks then c'.fr (fwd q) else c.fr q }
  have hκ2 : ∀ k ∈ ks, c2.κ k = c'.κ (fwd k) := fun k hk => if_pos hk
  have hf2 : ∀ k ∈ ks, c2.fr k = c'.fr (fwd k) := fun k hk => if_pos hk
  have hκn : ∀ k, k ∉ ks → c2.κ k = c.κ k := fun k hk => if_neg hk
  have hfn2 : ∀ k, k ∉ ks → c2.fr k = c.fr k := fun k hk => if_neg hk
  have hβ2 : ∀ k ∈ ks, c2.β k = c'.β (fwd k) := fun k hk => by rw [hF'.ext.β (fwd k) (hK k hk)]; exact (hβ0 k hk).symm
  have hown2 : ∀ k ∈ ks, ∀ n y, OwnRep c' (.key (fwd k)) n y → OwnRep c2 (.key k) n y := fun k hk n y => by simp only [OwnRep, hκ2 k hk, hf2 k hk]; exact id
  have hext : ∀ ks' : Nat → Prop, Ext c c2 ks' := fun ks' => by
    refine ⟨hF'.ext.cell, hF'.ext.I, fun _ _ => rfl, fun k _ n y hy => ?_⟩
    by_cases hk : k ∈ ks
    · exact hown2 k hk n y (hF'.ext.own (fwd k) (hK k hk) n y (hown0 k hk n y hy))
    · simp only [OwnRep, hκn k hk, hfn2 k hk]; exact hy
  have hgrow : Grow B c c2 := ⟨hF'.os, hF'.output, hF'.tape, hF'.size, fun b hb hd => hF'.block b (hlow b hb hd).1 (hlow b hb hd).2,
    fun b o hb hd hi => hF'.new b o (hlow b hb hd).1 (hlow b hb hd).2 hi, hG'.there⟩
  -- lookups after the call
  have hput : ∀ k, alook (putObjs s.objs ks (os'.map (AO.ren bwd))) k = if k ∈ ks then (os'.map (AO.ren bwd))[idxOf ks k 0]? else alook s.objs k := alook_putObjs hn (by simp [hlen])
  have hin : ∀ k ∈ ks, ∃ o', alook (enterObjs os' keyBase) (fwd k) = some o' ∧ alook (putObjs s.objs ks (os'.map (AO.ren bwd))) k = some (o'.ren bwd) := by
    intro k hk
    have hi := idxOf_spec 0 hk
    have hlt := (List.getElem?_eq_some_iff.1 hi).1
    have ho : os'[idxOf ks k 0]? = some (os'[idxOf ks k 0]'(by omega)) := List.getElem?_eq_getElem _
    refine ⟨os'[idxOf ks k 0]'(by omega), ?_, ?_⟩
    · rw [alook_enter, if_pos (Nat.le_add_right _ _)]
      show os'[keyBase + idxOf ks k 0 - keyBase]? = _
      rw [Nat.add_sub_cancel_left]; exact ho
    · rw [hput, if_pos hk, List.getElem?_map, ho]; rfl
  have hback : ∀ q, live (enterObjs os' keyBase) q → bwd q ∈ ks ∧ fwd (bwd q) = q := by
    rintro q ⟨o, hq⟩
    rw [alook_enter] at hq
    by_cases hb : keyBase ≤ q
    · rw [if_pos hb] at hq
      have hlt := (List.getElem?_eq_some_iff.1 hq).1
      have hk : ks[q - keyBase]? = some (ks[q - keyBase]'(by omega)) := List.getElem?_eq_getElem _
      have := hbf _ _ hk
      rw [Nat.add_sub_cancel' hb] at this
      rw [this.1]
      exact ⟨List.mem_of_getElem? hk, this.2⟩
    · rw [if_neg hb] at hq; simp at hq
  have hbwd : ∀ q, live (enterObjs os' keyBase) q → c2.β (bwd q) = c'.β q ∧ ∀ n y, OwnRep c' (.key q) n y → OwnRep c2 (.key (bwd q)) n y := by
    intro q hq
    obtain ⟨h1, h2⟩ := hback q hq
    refine ⟨by rw [hβ2 _ h1, h2], fun n y hy => hown2 _ h1 n y (by rw [h2]; exact hy)⟩
  have hlive : ∀ k, live s.objs k → live (putObjs s.objs ks (os'.map (AO.ren bwd))) k := by
    rintro k ⟨o, ho⟩
    by_cases hk : k ∈ ks
    · obtain ⟨_, _, e⟩ := hin k hk; exact ⟨_, e⟩
    · exact ⟨o, by rw [hput, if_neg hk]; exact ho⟩
  have hcases : ∀ k o, alook (putObjs s.objs ks (os'.map (AO.ren bwd))) k = some o → (k ∈ ks ∧ ∃ o', alook (enterObjs os' keyBase) (fwd k) = some o' ∧ o = o'.ren bwd ∧ excl c2 k o = excl c' (fwd k) o') ∨ (k ∉ ks ∧ alook s.objs k = some o ∧ excl c2 k o = excl c k o) := by
    intro k o ho
    by_cases hk : k ∈ ks
    · obtain ⟨o', e1, e2⟩ := hin k hk
      rw [e2] at ho; cases ho
      exact .inl ⟨hk, o', e1, rfl, excl_ren (hβ2 k hk) (hκ2 k hk)⟩
    · rw [hput, if_neg hk] at ho
      exact .inr ⟨hk, ho, excl_same rfl (hκn k hk)⟩
  have hout : ∀ k k' o' o b, k ∈ ks → alook (enterObjs os' keyBase) (fwd k) = some o' → k' ∉ ks → alook s.objs k' = some o → excl c' (fwd k) o' = some b → excl c k' o ≠ some b := by
    intro k k' o' o b hk h1 hk' h2 hb hb'
    rcases hmine _ _ b h1 hb with h3 | h3
    · have := excl_lt (h.objs.rep k' o h2) hb'
      have : c0.w.heap.size = c.w.heap.size := rfl
      omega
    · obtain ⟨k'', o'', h4, h5, h6⟩ := hheld b h3
      exact h.objs.apart k'' o'' k' o b h5 h2 (fun e => hk' (e ▸ h4)) h6 hb'
  have hO2 : Objs c2 (putObjs s.objs ks (os'.map (AO.ren bwd))) := by
    refine ⟨fun k o ho => ?_, fun k o k' o' b ho ho' hne hb => ?_, fun k o ho q hq => ?_⟩
    · rcases hcases k o ho with ⟨hk, o', e1, rfl, _⟩ | ⟨hk, e1, _⟩
      · exact (hO'.rep _ o' e1).ren rfl rfl (hβ2 k hk) (hκ2 k hk) (hf2 k hk) fun q hq => hbwd q (hO'.closed _ o' e1 q hq)
      · refine h.objs.rep_keep' (hext _) e1 rfl (hκn k hk) (hfn2 k hk) fun b hb => ?_
        have hlt := excl_lt (h.objs.rep k o e1) hb
        have hnh : ¬ held c0 (enterObjs (os.map (AO.ren fwd)) keyBase) b := fun hh => by
          obtain ⟨k'', o'', h4, h5, h6⟩ := hheld b hh
          exact h.objs.apart k'' o'' k o b h5 e1 (fun e => hk (e ▸ h4)) h6 hb
        exact ⟨hF'.block b hlt hnh, fun off hi => hF'.new b off hlt hnh hi⟩
    · rcases hcases k o ho with ⟨hk, o1, e1, rfl, e2⟩ | ⟨hk, e1, e2⟩ <;> rcases hcases k' o' ho' with ⟨hk', o1', e1', rfl, e2'⟩ | ⟨hk', e1', e2'⟩
      · rw [e2'] ; rw [e2] at hb
        exact hO'.apart _ _ _ _ b e1 e1' (fun e => hne (by rw [← hfb k hk, e, hfb k' hk'])) hb
      · rw [e2']; rw [e2] at hb
        exact hout k k' o1 o' b hk e1 hk' e1' hb
      · rw [e2']; rw [e2] at hb
        exact fun hb' => hout k' k o1' o b hk' e1' hk e1 hb' hb
      · rw [e2']; rw [e2] at hb
        exact h.objs.apart k o k' o' b e1 e1' hne hb
    · rcases hcases k o ho with ⟨hk, o', e1, rfl, _⟩ | ⟨hk, e1, _⟩
      · obtain ⟨q', hq', rfl⟩ := AO.ren_keys _ _ q hq
        obtain ⟨_, _, e⟩ := hin _ (hback q' (hO'.closed _ o' e1 q' hq')).1
        exact ⟨_, e⟩
      · exact hlive q (h.objs.closed k o e1 q hq)
  refine ⟨c2, x, he, hw', ⟨h.good.grow (hext (live s.objs)) hgrow, h.frame.grow (hext (live s.objs)) hgrow h.kept, hO2, fun t v hv => (h.env t v hv).ext (hext (live s.objs)) (h.closed t v hv),
    fun t v hv k hk => hlive k (h.closed t v hv k hk), fun k o b ho hb => ?_, h.tmps, h.defers, fun k hk => hlive k (h.kept k hk)⟩, ⟨?_, ?_, ?_⟩⟩
  · rcases hcases k o ho with ⟨hk, o', e1, rfl, e2⟩ | ⟨hk, e1, e2⟩
    · rw [e2] at hb
      rcases hmine _ _ b e1 hb with h3 | h3
      · exact .inl (Nat.le_trans h.frame.size h3)
      · obtain ⟨k'', o'', h4, h5, h6⟩ := hheld b h3
        exact h.mine k'' o'' b h5 h6
    · rw [e2] at hb; exact h.mine k o b e1 hb
  · exact Rep.ren (c := c') (c' := c2) (m := bwd) (fun _ _ _ _ hv => hv) (fun _ _ hi => hi) hr' fun q hq => hbwd q (hrk q hq)
  · intro k hk
    obtain ⟨q, hq, rfl⟩ := ren_keys _ _ k hk
    obtain ⟨_, _, e⟩ := hin _ (hback q (hrk q hq)).1
    exact ⟨_, e⟩
  · cases hr' with
    | slNil o => cases o <;> rfl
    | sl o => cases o <;> rfl
    | _ => rfl
end Go.Ab
