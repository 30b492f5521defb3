/- Regions that run in the order of the text. -/
import Derived.Test.YtmiiklmfnagbbaaDoorAbsStep
import Derived.Orders
namespace Go.Ab
open Go Go.RowKit
variable {P : Program} {B : Base} {c : Cx} {s : St} {a : Act}

theorem get_after (s : St) (d : Option Nat) (v : AV) (objs : List (Nat × AO)) (t : Nat) : (s.after d v objs).get t = if d = some t then some v else s.get t := by
  cases d with
  | none => simp [St.after, St.put, St.get]
  | some d =>
    simp only [St.after, St.get_put, Option.some.injEq]
    rfl
theorem objs_after (s : St) (d : Option Nat) (v : AV) (objs : List (Nat × AO)) : (s.after d v objs).objs = objs := by simp [St.after]

theorem undef_ne_bool (b : Bool) : undef ≠ .bool b := by simp [undef]

theorem domK_live {objs : List (Nat × AO)} {k : Nat} (h : k ∈ domK objs) : live objs k := by
  induction objs with
  | nil => simp [domK] at h
  | cons p r ih =>
    obtain ⟨q, o⟩ := p
    by_cases e : q = k
    · exact ⟨o, by simp [alook, e]⟩
    · simp only [domK, List.mem_cons] at h
      obtain ⟨o', h'⟩ := ih (h.resolve_left (fun x => e x.symm))
      exact ⟨o', by simp [alook, beqF e, h']⟩
theorem live_domK {objs : List (Nat × AO)} {k : Nat} (h : live objs k) : k ∈ domK objs := by
  induction objs with
  | nil => obtain ⟨o, h⟩ := h; simp [alook] at h
  | cons p r ih =>
    obtain ⟨q, o⟩ := p
    by_cases e : q = k
    · simp [domK, e]
    · obtain ⟨o', h'⟩ := h
      simp only [alook, beqF e, cond_false] at h'
      simp [domK, ih ⟨o', h'⟩]

/-- Behind a guard that holds, the guards of its slot hold. -/
theorem chain_ok (h : Rel B c s a) : ∀ {n t : Nat} {w : Bool}, a.tmps.getD t undef = .bool w → ChOk a (chainOf s n t w)
  | 0, t, w, ht => by
    intro t' w' hm
    simp [chainOf] at hm
    obtain ⟨rfl, rfl⟩ := hm; exact ht
  | n + 1, t, w, ht => by
    intro t' w' hm
    simp only [chainOf, List.mem_cons] at hm
    rcases hm with hm | hm
    · obtain ⟨rfl, rfl⟩ := hm; exact ht
    · cases hg : s.get t with
      | none => simp [hg] at hm
      | some u =>
        cases u with
        | grd tc wc u' =>
          simp only [hg] at hm
          have he := h.env t _ hg
          have : a.tmps.getD tc undef = .bool wc := by
            refine Classical.byContradiction fun hne => ?_
            have h2 := he.2 hne
            rw [ht] at h2
            exact undef_ne_bool w h2.symm
          exact chain_ok h this t' w' hm
        | _ => simp [hg] at hm

theorem holdsA_true (h : Rel B c s a) : ∀ {ch : Chain} {g : Bool}, ChOk a ch → holdsA s ch = some g → g = true
  | [], g, _, he => by simp [holdsA] at he; exact he
  | (t, w) :: r, g, hc, he => by
    have ht := hc t w (by simp)
    have hr : ChOk a r := fun t' w' hm => hc t' w' (List.mem_cons_of_mem _ hm)
    simp only [holdsA] at he
    cases hg : s.get t with
    | none => simp [hg] at he
    | some u =>
      have hE := h.env t _ hg
      cases u with
      | bool b =>
        simp only [hg] at he
        obtain ⟨g', h1, h2⟩ := opt_map he
        have := holdsA_true h hr h1
        subst this
        have hb : Rep c (.bool b) (a.tmps.getD t undef) := hE
        rw [ht] at hb
        cases hb
        simp at h2; exact h2
      | grd tc wc u' =>
        cases u' with
        | bool b =>
          simp only [hg] at he
          obtain ⟨g', h1, h2⟩ := opt_map he
          have := holdsA_true h hr h1
          subst this
          have hw : a.tmps.getD tc undef = .bool wc := by
            refine Classical.byContradiction fun hne => ?_
            have h2 := hE.2 hne
            rw [ht] at h2
            exact undef_ne_bool w h2.symm
          have hb : Rep c (.bool b) (a.tmps.getD t undef) := hE.1 hw
          rw [ht] at hb
          cases hb
          simp at h2; exact h2
        | _ => simp [hg] at he
      | _ => simp [hg] at he

/-- The operation with number i: what comes after it finds the next state. -/
def IStep (P : Program) (ops : Array Oper) (B : Base) (c : Cx) (a : Act) (i : Nat) (s' : St) : Prop :=
  ∀ (Q : Exit → Act → World → Prop) (K : Act → World → Prop), (∀ a' c', Rel B c' s' a' → K a' c'.w) → wpOp P ops Q i K a c.w

theorem OStep.istep {ops : Array Oper} {i : Nat} {o : Oper} {s' : St} (ho : ops[i]? = some o) (hg : o.guard = none) (h : OStep P B c a o s') : IStep P ops B c a i s' := by
  intro Q K hK
  unfold wpOp
  simp only [ho, Region.wanted, hg, if_true]
  exact .inl (Oper.wp_mono (fun a' w' => by rintro ⟨c', rfl, hr⟩; exact hK a' c' hr) (h Q))

theorem wanted_iff {ops : Array Oper} {o : Oper} {j t : Nat} {w : Bool} (hg : o.guard = some (j, w)) (ht : (ops[j]?).bind (·.dst) = some t) :
    Region.wanted o (yielded ops a.tmps) = true ↔ a.tmps.getD t undef = .bool w := by
  simp only [Region.wanted, hg, yielded, ht, Option.bind_some]
  rw [Array.getD_eq_getD_getElem?]
  cases ht' : a.tmps[t]? with
  | none => simp [undef]
  | some v =>
    cases v <;> simp

theorem ren_nil_aux : ∀ (o : Own) (m : Nat → Nat) (sz n : Nat) (get : Nat → List AV), (AV.sl o sz n get).keys = [] → (AV.sl o sz n get).ren m = .sl o sz n get := by
  intro o m sz n get h
  cases o <;> simp_all [AV.keys, AV.ren]
mutual
theorem ren_nil (m : Nat → Nat) : ∀ (v : AV), v.keys = [] → v.ren m = v
  | .sl o sz n get, h => ren_nil_aux o m sz n get h
  | .agg cs, h => by simp only [AV.ren]; rw [renL_nil m cs (by simpa [AV.keys] using h)]
  | .tup vs, h => by simp only [AV.ren]; rw [renL_nil m vs (by simpa [AV.keys] using h)]
  | .ref .., h | .aref .., h | .msl .., h => by simp [AV.keys] at h
  | .fn f p q, h => by
    simp only [AV.keys, List.append_eq_nil_iff] at h
    simp only [AV.ren]; rw [renL_nil m p h.1, renL_nil m q h.2]
  | .bool _, _ | .int .., _ | .str _, _ | .nilp, _ | .nilf, _ | .nilm, _ | .nili, _ | .undef, _ | .arr .., _ | .elt .., _ => rfl
  | .grd t w v, h => by simp only [AV.ren]; rw [ren_nil m v (by simpa [AV.keys] using h)]
theorem renL_nil (m : Nat → Nat) : ∀ (l : List AV), keysL l = [] → renL m l = l
  | [], _ => rfl
  | v :: r, h => by
    simp only [keysL, List.append_eq_nil_iff] at h
    simp only [renL]; rw [ren_nil m v h.1, renL_nil m r h.2]
end
theorem isNil_eq {α : Type} {l : List α} (h : isNil l = true) : l = [] := by cases l <;> simp_all [isNil]

theorem effG_pure {X : Cfg} {o : Oper} {t : Nat} {w : Bool} {v : AV} (he : effG X s o t w = some (true, v)) (hn : ∀ f args ts, o.op ≠ .call { callee := .value f, args, argTypes := ts }) :
    ∃ g b, holdsA s (chainOf s 4 t w) = some g ∧ pureA X.P ⟨s, X.G, chainOf s 4 t w⟩ o.op = some (b, v) ∧ (cond b true (!g)) = true ∧ subK v.keys (domK s.objs) = true := by
  have key : ((holdsA s (chainOf s 4 t w)).bind fun g => (pureA X.P ⟨s, X.G, chainOf s 4 t w⟩ o.op).bind fun r => guardO (subK r.2.keys (domK s.objs)) (some (cond r.1 true (!g), r.2))) = some (true, v) := by
    cases ho : o.op with
    | call q =>
      obtain ⟨callee, args, ts⟩ := q
      cases callee with
      | value f => exact absurd ho (hn f args ts)
      | _ => simpa only [effG, ho] using he
    | _ => simpa only [effG, ho] using he
  obtain ⟨g, h1, key⟩ := opt_bind key
  obtain ⟨⟨b, u⟩, h2, key⟩ := opt_bind key
  obtain ⟨h3, key⟩ := guardO_inv key
  simp only [Option.some.injEq, Prod.mk.injEq] at key
  obtain ⟨h4, rfl⟩ := key
  exact ⟨g, b, h1, h2, h4, h3⟩

theorem effG_sound {X : Cfg} (hX : CallsOk X) (hG : X.G = B.G) (h : Rel B c s a) {ops : Array Oper} {i j t d : Nat} {w : Bool} {o : Oper} (hoi : ops[i]? = some o) (hg : o.guard = some (j, w)) (ht : (ops[j]?).bind (·.dst) = some t)
    (hdst : o.dst = some d) (hdN : d < B.N) (hfree : FreeOf s d) (hdt : d ≠ t) {v : AV} (he : effG X s o t w = some (true, v)) : IStep X.P ops B c a i (s.put (some d) (.grd t w v)) := by
  intro Q K hK
  unfold wpOp
  simp only [hoi]
  have hkeys : ∀ k ∈ v.keys, live s.objs k := by
    intro k hk
    by_cases hc : ∃ f args ts, o.op = .call { callee := .value f, args, argTypes := ts }
    · obtain ⟨f, args, ts, ho⟩ := hc
      simp only [effG, ho] at he
      obtain ⟨q, _, he⟩ := opt_bind he
      obtain ⟨_, he⟩ := guardO_inv he
      obtain ⟨⟨r, os⟩, _, he⟩ := opt_bind he
      cases os with
      | nil =>
        dsimp only at he
        obtain ⟨hb, he⟩ := guardO_inv he
        simp only [Option.some.injEq, Prod.mk.injEq] at he
        obtain ⟨_, rfl⟩ := he
        simp only [Bool.and_eq_true] at hb
        rw [isNil_eq hb.1] at hk; simp at hk
      | cons _ _ => simp at he
    · obtain ⟨_, _, _, _, _, h5⟩ := effG_pure he (fun f args ts e => hc ⟨f, args, ts, e⟩)
      exact domK_live (subK_spec h5 k hk)
  by_cases hw : Region.wanted o (yielded ops a.tmps) = true
  · have hbool := (wanted_iff hg ht).1 hw
    have hch := chain_ok h (n := 4) hbool
    rw [if_pos hw]
    refine .inl ?_
    by_cases hc : ∃ f args ts, o.op = .call { callee := .value f, args, argTypes := ts }
    · obtain ⟨f, args, ts, ho⟩ := hc
      simp only [effG, ho] at he
      obtain ⟨⟨g, l⟩, h1, he⟩ := opt_bind he
      obtain ⟨hnil, he⟩ := guardO_inv he
      obtain ⟨⟨r, os⟩, h2, he⟩ := opt_bind he
      cases os with
      | cons _ _ => simp at he
      | nil =>
        dsimp only at he
        obtain ⟨hb, he⟩ := guardO_inv he
        simp only [Option.some.injEq, Prod.mk.injEq] at he
        obtain ⟨hpre, rfl⟩ := he
        simp only [Bool.and_eq_true] at hb
        have hl := isNil_eq hnil
        dsimp only at hl h2
        rw [hG] at h1
        obtain ⟨xs, hs, hrun⟩ := calleeA_sound (P := X.P) h hch ho h1
        obtain ⟨hok, fn, g1, g2, g3⟩ := hX _ _ _ _ _ hpre h2
        rw [hG] at hok
        have hcore := call_core (P := X.P) (f := g) (r := r) (ks := []) (os := []) (os' := []) h List.nodup_nil rfl (by simp [objKeys]) hs (by rw [hl]; simp) (by rw [renL_nil _ _ hl]; exact hok) rfl
        simp only [Oper.wp, hrun fn g1 g2 g3, Oper.upon]
        refine hcore.mono ?_
        rintro e w' ⟨c2, x, rfl, rfl, hr, hx⟩
        have hr' : Rel B c2 s a := hr
        have hx' : Rep c2 r x := by have := hx.rep; rw [ren_nil _ _ (isNil_eq hb.1)] at this; exact this
        refine hK _ _ ?_
        rw [hdst]
        exact hr'.putG hdN hdt (fun _ => hx') (fun hn => absurd hbool hn) hkeys hfree
    · obtain ⟨g, b, h1, h2, h3, _⟩ := effG_pure he (fun f args ts e => hc ⟨f, args, ts, e⟩)
      have := holdsA_true h hch h1
      subst this
      have hb : b = true := by cases b <;> simp_all
      subst hb
      rw [hG] at h2
      obtain ⟨x, c', e1, e2, e3, e4⟩ := pureA_sound h hch h2
      simp only [Oper.wp, e1, Oper.upon]
      refine hK _ _ ?_
      rw [hdst]
      exact (h.keep e2 e3).putG hdN hdt (fun _ => e4.rep) (fun hn => absurd hbool hn) hkeys hfree
  · have hbool : a.tmps.getD t undef ≠ .bool w := fun e => hw ((wanted_iff hg ht).2 e)
    rw [if_neg hw]
    refine hK _ _ ?_
    rw [hdst]
    exact h.putG hdN hdt (fun e => absurd e hbool) (fun _ => rfl) hkeys hfree

def NoGrd (s : St) : Prop := ∀ t v, s.get t = some v → v.isGrd = false

/-- What a step of one operation leaves: the state, and that it stands for the next world. -/
theorem stepA_inv {X : Cfg} {o : Oper} {k : St → Res} {r : AV × List AO} (he : stepA X s o k = some r) : ∃ v objs', effA X s o = some (true, v, objs') ∧ k (s.after o.dst v objs') = some r := by
  obtain ⟨⟨b, v, objs'⟩, h1, he⟩ := opt_bind he
  obtain ⟨rfl, he⟩ := guardO_inv he
  exact ⟨v, objs', h1, he⟩
theorem stepG_inv {X : Cfg} {o : Oper} {t : Nat} {w : Bool} {k : St → Res} {r : AV × List AO} (he : stepG X s o t w k = some r) :
    ∃ d v, o.dst = some d ∧ d ≠ t ∧ effG X s o t w = some (true, v) ∧ k (s.put (some d) (.grd t w v)) = some r := by
  unfold stepG at he
  cases hd : o.dst with
  | none => simp [hd] at he
  | some d =>
    simp only [hd] at he
    obtain ⟨h1, he⟩ := cond_none' he
    obtain ⟨⟨b, v⟩, h2, he⟩ := opt_bind he
    obtain ⟨rfl, he⟩ := guardO_inv he
    exact ⟨d, v, rfl, fun e => by subst e; simp at h1, h2, he⟩

/-- The slots that values wait for are not written again. -/
def GInv (s : St) (rest : List Oper) : Prop := ∀ t tc w v, s.get t = some (.grd tc w v) → ∀ o ∈ rest, o.dst ≠ some tc

theorem GInv.after {s : St} {o : Oper} {rest : List Oper} (h : GInv s (o :: rest)) {v : AV} (hv : v.isGrd = false) (objs : List (Nat × AO)) : GInv (s.after o.dst v objs) rest := by
  intro t tc w u hu q hq
  rw [get_after] at hu
  by_cases e : o.dst = some t
  · rw [if_pos e] at hu; cases hu; simp [AV.isGrd] at hv
  · rw [if_neg e] at hu; exact h t tc w u hu q (List.mem_cons_of_mem _ hq)

theorem GInv.putG {s : St} {o : Oper} {rest : List Oper} (h : GInv s (o :: rest)) {d t : Nat} {w : Bool} {v : AV} (hr : (rest.any fun q => q.dst == some t) = false) : GInv (s.put (some d) (.grd t w v)) rest := by
  intro t' tc w' u hu q hq
  rw [St.get_put] at hu
  by_cases e : d = t'
  · rw [if_pos e] at hu
    simp only [Option.some.injEq, AV.grd.injEq] at hu
    obtain ⟨rfl, _, _⟩ := hu
    have := List.any_eq_false.1 hr q hq
    simpa using this
  · rw [if_neg e] at hu; exact h t' tc w' u hu q (List.mem_cons_of_mem _ hq)

theorem runOps_sound {X : Cfg} (hX : CallsOk X) (hG : X.G = B.G) {ops : Array Oper} {k : St → Res} {r : AV × List AO} {Q : Exit → Act → World → Prop}  :
    ∀ (rest : List Oper) (i : Nat) (s : St) (c : Cx) (a : Act), (∀ j o, rest[j]? = some o → ops[i + j]? = some o) → runOps X ops rest s k = some r → Rel B c s a → (∀ o ∈ rest, ∀ d, o.dst = some d → d < B.N) → GInv s rest →
      (∀ s' c' a', k s' = some r → Rel B c' s' a' → (NoGrd s → anyGuard rest = false → NoGrd s') → Q .normal a' c'.w) → wpOps X.P ops Q (List.range' i rest.length) a c.w
  | [], i, s, c, a, _, he, h, _, _, hk => by
    simp only [List.length_nil, List.range'_zero, wpOps]
    exact hk s c a he h (fun hn _ => hn)
  | o :: rest, i, s, c, a, hops, he, h, hN, hI, hk => by
    have hoi : ops[i]? = some o := hops 0 o rfl
    have hrest : ∀ j q, rest[j]? = some q → ops[i + 1 + j]? = some q := fun j q hq => by
      have := hops (j + 1) q (by simpa using hq)
      rw [Nat.add_assoc, Nat.add_comm 1 j]; exact this
    have hN' : ∀ o ∈ rest, ∀ d, o.dst = some d → d < B.N := fun q hq => hN q (List.mem_cons_of_mem _ hq)
    simp only [List.length_cons, List.range'_succ]
    rw [wpOps_cons]
    cases hg : o.guard with
    | none =>
      simp only [runOps, hg] at he
      obtain ⟨v, objs', h1, h2⟩ := stepA_inv he
      have hfree : ∀ t, o.dst = some t → t < B.N ∧ FreeOf s t := fun t ht => ⟨hN o (by simp) t ht, fun t' tc w v' hgt e => hI t' tc w v' hgt o (by simp) (by rw [ht, e])⟩
      obtain ⟨hstep, hv⟩ := effA_sound hX hG h hfree h1
      refine hstep.istep hoi hg Q _ fun a' c' hr => ?_
      refine runOps_sound hX hG rest (i + 1) _ c' a' hrest h2 hr hN' (hI.after hv objs') fun s' c2 a2 e1 e2 e3 => hk s' c2 a2 e1 e2 fun hn hq => e3 (fun t u hu => ?_) (by simpa [anyGuard, hg] using hq)
      rw [get_after] at hu
      by_cases e : o.dst = some t
      · rw [if_pos e] at hu; cases hu; exact hv
      · rw [if_neg e] at hu; exact hn t u hu
    | some jw =>
      obtain ⟨j, w⟩ := jw
      simp only [runOps, hg] at he
      cases ht : (ops[j]?).bind (·.dst) with
      | none => simp [ht] at he
      | some t =>
        simp only [ht] at he
        obtain ⟨hany, he⟩ := cond_none' he
        obtain ⟨d, v, hd, hdt, h1, h2⟩ := stepG_inv he
        have hfree : FreeOf s d := fun t' tc w v' hgt e => hI t' tc w v' hgt o (by simp) (by rw [hd, e])
        refine effG_sound hX hG h hoi hg ht hd (hN o (by simp) d hd) hfree hdt h1 Q _ fun a' c' hr => ?_
        refine runOps_sound hX hG rest (i + 1) _ c' a' hrest h2 hr hN' (hI.putG hany) fun s' c2 a2 e1 e2 e3 => hk s' c2 a2 e1 e2 fun hn hq => ?_
        simp [anyGuard, hg] at hq

theorem alook_purge (env : List (Nat × AV)) (t : Nat) : alook (purge env) t = (alook env t).map fun v => cond v.isGrd .undef v := by
  induction env with
  | nil => rfl
  | cons p r ih =>
    obtain ⟨q, v⟩ := p
    simp only [purge, alook]
    cases Nat.beq q t <;> simp [ih]

theorem Rel.purge (h : Rel B c s a) : Rel B c { s with env := purge s.env } a := by
  refine ⟨h.good, h.frame, h.objs, fun t v hv => ?_, fun t v hv => ?_, h.mine, h.tmps, h.defers, h.kept⟩
  · simp only [St.get, alook_purge] at hv
    obtain ⟨u, h1, h2⟩ := opt_map hv
    cases hu : u.isGrd with
    | true => simp only [hu, cond_true] at h2; subst h2; exact EnvRep.of_rep rfl (.undef _)
    | false => simp only [hu, cond_false] at h2; subst h2; exact h.env t u h1
  · simp only [St.get, alook_purge] at hv
    obtain ⟨u, h1, h2⟩ := opt_map hv
    cases hu : u.isGrd with
    | true => simp only [hu, cond_true] at h2; subst h2; simp [AV.keys]
    | false => simp only [hu, cond_false] at h2; subst h2; exact h.closed t u h1
theorem NoGrd.purge (s : St) : NoGrd { s with env := Go.Ab.purge s.env } := by
  intro t v hv
  simp only [St.get, alook_purge] at hv
  obtain ⟨u, h1, h2⟩ := opt_map hv
  cases hu : u.isGrd with
  | true => simp only [hu, cond_true] at h2; subst h2; rfl
  | false => simp only [hu, cond_false] at h2; subst h2; exact hu

theorem NoGrd.ginv {s : St} (h : NoGrd s) (rest : List Oper) : GInv s rest := by
  intro t tc w v hv
  have := h t _ hv
  simp [AV.isGrd] at this

theorem runRegion_sound {X : Cfg} (hX : CallsOk X) (hG : X.G = B.G) {ops : Array Oper} {id : Nat} {k : St → Res} {r : AV × List AO} {Q : Exit → Act → World → Prop} (he : runRegion X ops s k = some r) (h : Rel B c s a) (hn : NoGrd s)
    (hN : ∀ o ∈ ops.toList, ∀ d, o.dst = some d → d < B.N) (hk : ∀ s' c' a', k s' = some r → Rel B c' s' a' → NoGrd s' → Q .normal a' c'.w) : (Code.region id ops false).wp X.P Q a c.w := by
  apply wp_region
  have hr : List.range ops.size = List.range' 0 ops.toList.length := by simp [List.range_eq_range']
  rw [hr]
  have hops : ∀ j o, ops.toList[j]? = some o → ops[0 + j]? = some o := fun j o ho => by simpa using ho
  unfold runRegion at he
  cases hb : anyGuard ops.toList with
  | true =>
    simp only [hb, cond_true] at he
    obtain ⟨_, he⟩ := cond_none he
    exact runOps_sound hX hG ops.toList 0 s c a hops he h hN (hn.ginv _) fun s' c' a' e1 e2 _ => hk _ c' a' e1 e2.purge (NoGrd.purge _)
  | false =>
    simp only [hb, cond_false] at he
    exact runOps_sound hX hG ops.toList 0 s c a hops he h hN (hn.ginv _) fun s' c' a' e1 e2 e3 => hk _ c' a' e1 e2 (e3 hn hb)
end Go.Ab
