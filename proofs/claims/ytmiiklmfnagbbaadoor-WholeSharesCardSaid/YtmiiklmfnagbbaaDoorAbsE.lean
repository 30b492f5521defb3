/- The evaluator, sound: what E answers is what the model's call comes to. -/
import Derived.Test.YtmiiklmfnagbbaaDoorAbsCode
namespace Go.Ab
open Go Go.RowKit

theorem alook_enterEnv : ∀ (l : List AV) (b k : Nat), alook (enterEnv l b) k = if b ≤ k then l[k - b]? else none
  | [], b, k => by simp [enterEnv, alook]
  | o :: r, b, k => by
    simp only [enterEnv, alook]
    by_cases h : b = k
    · subst h; simp
    · rw [beqF h, cond_false, alook_enterEnv r (b + 1) k]
      by_cases h1 : b + 1 ≤ k
      · rw [if_pos h1, if_pos (by omega)]
        have : k - b = (k - (b + 1)) + 1 := by omega
        rw [this]; simp
      · rw [if_neg h1, if_neg (by omega)]

theorem live_enter {os : List AO} {b k : Nat} (h : live (enterObjs os b) k) : b ≤ k ∧ k - b < os.length := by
  obtain ⟨o, ho⟩ := h
  rw [alook_enter] at ho
  by_cases hb : b ≤ k
  · rw [if_pos hb] at ho; exact ⟨hb, (List.getElem?_eq_some_iff.1 ho).1⟩
  · rw [if_neg hb] at ho; cases ho

def resF (tmps : Array Value) : ResultVar → Sem Value
  | .tmp t => pure (tmps.getD t undef)
  | .cell q t => do loadVar t (← asAddr (tmps.getD q undef))
theorem results_eq (fn : Func) (tmps : Array Value) : results fn tmps = (fn.results.mapM (resF tmps) >>= fun vs => pure (if h : vs.size = 1 then vs[0] else .tuple vs)) := by
  unfold results
  congr 1

theorem resultL_sound {B : Base} {c : Cx} {s : St} {a : Act} (X : Cfg) (h : Rel B c s a) (hn : NoGrd s) : ∀ {l : List ResultVar} {vs : List AV}, resultL X s l = some vs →
    ∃ xs : List Value, SeesL B c s vs xs ∧ (l.mapM (m := Sem) (resF a.tmps)).run X.P c.w = .ok xs c.w
  | [], vs, he => by simp [resultL] at he; subst he; exact ⟨[], ⟨rfl, fun i u hu => by simp at hu⟩, rfl⟩
  | r :: l, vs, he => by
    simp only [resultL] at he
    obtain ⟨v, h1, he⟩ := opt_bind he
    obtain ⟨us, h2, he⟩ := opt_map he
    subst he
    obtain ⟨xs, h3, h4⟩ := resultL_sound X h hn h2
    cases r with
    | cell q t =>
      simp only [resultA] at h1
      split at h1
      · rename_i k off hq
        obtain ⟨⟨b, u0⟩, hl, h1⟩ := opt_bind h1
        obtain ⟨hb, h1'⟩ := guardO_inv h1
        dsimp only at hb h1'
        simp only [Option.some.injEq] at h1'
        subst hb h1'
        have hE : Rep c (.ref k off) (a.tmps.getD q undef) := h.env q _ hq
        obtain ⟨x, g1, g2⟩ := loadA_still h hE hl
        generalize hV : a.tmps.getD q undef = V at hE g1
        cases hE
        rw [loadAt_addr] at g1
        refine ⟨x :: xs, ⟨by simp [h3.1], fun i u hu => ?_⟩, ?_⟩
        · cases i with
          | zero => simp at hu; subst hu; exact g2
          | succ i => simpa using h3.2 i u (by simpa using hu)
        · rw [List.mapM_cons]
          simp only [resF, hV, asAddr, pure_bind, Sem.run_bind, g1, h4, Result.andThen_ok, Sem.run_pure]
      · cases h1
    | tmp t =>
      simp only [resultA] at h1
      have hE := h.env t v h1
      have hg := hn t v h1
      have hr : Rep c v (a.tmps.getD t undef) := by cases v <;> first | exact hE | simp [AV.isGrd] at hg
      refine ⟨a.tmps.getD t undef :: xs, ⟨by simp [h3.1], fun i u hu => ?_⟩, ?_⟩
      · cases i with
        | zero => simp at hu; subst hu; exact ⟨hr, h.closed t v h1, hg⟩
        | succ i => simpa using h3.2 i u (by simpa using hu)
      · rw [List.mapM_cons]
        simp only [resF, pure_bind, Sem.run_bind, h4, Result.andThen_ok, Sem.run_pure]

theorem codeOk_mono {N M : Nat} (h : N ≤ M) : ∀ {c : Code}, codeOk N c = true → codeOk M c = true
  | .region _ ops _, hc => by
    simp only [codeOk] at hc ⊢
    rw [List.all_eq_true] at hc ⊢
    intro o ho
    have := hc o ho
    cases hd : o.dst with
    | none => rfl
    | some d => simp only [hd] at this ⊢; exact bltT (Nat.lt_of_lt_of_le (ltB this) h)
  | .seq a b, hc => by simp only [codeOk, Bool.and_eq_true] at hc ⊢; exact ⟨codeOk_mono h hc.1, codeOk_mono h hc.2⟩
  | .cond _ a b, hc => by simp only [codeOk, Bool.and_eq_true] at hc ⊢; exact ⟨codeOk_mono h hc.1, codeOk_mono h hc.2⟩
  | .block _ b, hc => by simp only [codeOk] at hc ⊢; exact codeOk_mono h hc
  | .loop b, hc => by simp only [codeOk] at hc ⊢; exact codeOk_mono h hc
  | .skip, _ | .exit _, _ | .ret, _ | .goto _, _ | .label _, _ | .scope _, _ | .rangeFunc .., _ | .refuse _, _ => by simp [codeOk]

theorem runF_sound {X : Cfg} (hX : CallsOk X) (hm : X.P.follows .mixedOrders = true) {f : FuncId} (hO : OracOk X f) {fn : Func} (hf : X.P.funcs[f]? = some fn) (hok : ∀ c, fn.body = some c → codeOk fn.ntmps c = true) {n : Nat} {args : List AV} {os : List AO}
    {r : AV} {os' : List AO} (he : runF X n f args os = some (r, os')) : CallOk X.P X.G f args os r os' := by
  unfold runF at he
  rw [hf] at he
  dsimp only at he
  cases hbody : fn.body with
  | none => simp [hbody] at he
  | some code =>
    simp only [hbody] at he
    have hcode := hok code hbody
    intro c0 vs hgood hobjs hsz hrep hkeys
    let a0 : Act := { tmps := vs ++ Array.replicate (fn.ntmps - vs.size) undef, defers := [] }
    let B : Base := { c0 := c0, D := held c0 (enterObjs os keyBase), K := live (enterObjs os keyBase), G := X.G, N := a0.tmps.size }
    let s0 : St := { env := enterEnv args 0, objs := enterObjs os keyBase }
    have hN : fn.ntmps ≤ B.N := by simp [B, a0]; omega
    have hcode' : codeOk B.N code = true := codeOk_mono hN hcode
    have hget : ∀ t v, s0.get t = some v → args[t]? = some v := fun t v hv => by
      have : alook (enterEnv args 0) t = some v := hv
      rw [alook_enterEnv, if_pos (Nat.zero_le _)] at this; simpa using this
    have hval : ∀ t v, args[t]? = some v → Rep c0 v (a0.tmps.getD t undef) := fun t v hv => by
      have hlt : t < vs.size := by rw [hsz]; exact (List.getElem?_eq_some_iff.1 hv).1
      have e : a0.tmps.getD t undef = vs.getD t undef := by
        simp only [a0, Array.getD_eq_getD_getElem?]
        rw [Array.getElem?_append_left hlt]
      rw [e]; exact hrep t v hv
    have hplain : ∀ t v, s0.get t = some v → v.isGrd = false := fun t v hv => by
      have := hval t v (hget t v hv)
      generalize a0.tmps.getD t undef = V at this
      cases this <;> rfl
    have h0 : Rel B c0 s0 a0 := by
      refine ⟨hgood, ⟨rfl, rfl, rfl, Nat.le_refl _, fun _ _ _ => rfl, Ext.refl _ _, fun _ _ _ _ hi => hi⟩, hobjs, fun t v hv => EnvRep.of_rep (hplain t v hv) (hval t v (hget t v hv)),
        fun t v hv k hk => hkeys k (keys_mem_of (hget t v hv) k hk), fun k o b ho hb => .inr ⟨k, o, ho, hb⟩, rfl, rfl, fun k hk => hk⟩
    refine calls_of_wp hf hbody ?_
    refine runC_sound (B := B) hX rfl hm (fun k hk => (live_enter hk).1) f hO code [] (by simp [bodyOf, subC, hf, hbody]) hcode' n s0 c0 a0 _ (r, os') _ he h0 hplain fun ex s' c' a' hex hr' hn' => ?_
    have hfin : finish X fn os.length s' = some (r, os') → a'.defers = [] ∧ ∃ v, (results fn a'.tmps).run X.P c'.w = .ok v c'.w ∧ ∃ c2 x, Ending.returned v = .returned x ∧ c2.w = c'.w ∧ Good X.G c2 ∧
      Frame { c0 := c0, D := held c0 (enterObjs os keyBase), K := live (enterObjs os keyBase), G := X.G, N := 0 } c2 ∧
      Objs c2 (enterObjs os' keyBase) ∧ Rep c2 r x ∧ (∀ k ∈ r.keys, live (enterObjs os' keyBase) k) ∧
      ∀ k o b, alook (enterObjs os' keyBase) k = some o → excl c2 k o = some b → c0.w.heap.size ≤ b ∨ held c0 (enterObjs os keyBase) b := by
      intro hfin
      refine ⟨hr'.defers, ?_⟩
      unfold finish at hfin
      obtain ⟨rs, h1, hfin⟩ := opt_bind hfin
      obtain ⟨⟨rs', o1⟩, h2, hfin⟩ := opt_bind hfin
      dsimp only at hfin
      obtain ⟨os1, h3, hfin⟩ := opt_bind hfin
      obtain ⟨hb, hfin⟩ := cond_none hfin
      simp only [Option.some.injEq, Prod.mk.injEq] at hfin
      obtain ⟨hres, rfl⟩ := hfin
      simp only [Bool.and_eq_true] at hb
      obtain ⟨xs, hs, hrun⟩ := resultL_sound X hr' hn' h1
      obtain ⟨c2, e1, e2, e3, e4, e5⟩ := freezeVs_sound hr' hs h2
      have hs2 := e3.shed
      have hfn := hs2.fn
      obtain ⟨hlen, hlook⟩ := getObjs_spec h3
      have hks : ∀ i, i < os.length → ((List.range os.length).map (keyBase + ·))[i]? = some (keyBase + i) := fun i hi => by simp [hi]
      have hl1 : os1.length = os.length := by rw [hlen]; simp
      have hsub : ∀ k o, alook (enterObjs os1 keyBase) k = some o → alook o1 k = some o := by
        intro k o ho
        rw [alook_enter] at ho
        by_cases hb : keyBase ≤ k
        · rw [if_pos hb] at ho
          have hlt := (List.getElem?_eq_some_iff.1 ho).1
          have := (hlook _ _ (hks (k - keyBase) (by omega))).1
          rw [Nat.add_sub_cancel' hb] at this
          rw [this]; exact ho
        · rw [if_neg hb] at ho; cases ho
      have hmem : ∀ k, k ∈ (List.range os.length).map (keyBase + ·) → live (enterObjs os1 keyBase) k := by
        intro k hk
        simp only [List.mem_map, List.mem_range] at hk
        obtain ⟨i, hi, rfl⟩ := hk
        refine ⟨os1[i]'(by omega), ?_⟩
        rw [alook_enter, if_pos (Nat.le_add_right _ _), Nat.add_sub_cancel_left]
        exact List.getElem?_eq_getElem _
      have hkk : ∀ k o, alook (enterObjs os1 keyBase) k = some o → k ∈ (List.range os.length).map (keyBase + ·) := by
        intro k o ho
        obtain ⟨h1, h2⟩ := live_enter ⟨o, ho⟩
        simp only [List.mem_map, List.mem_range]
        exact ⟨k - keyBase, by omega, by omega⟩
      obtain ⟨v, hv, hrv, hrk⟩ : ∃ v, (results fn a'.tmps).run X.P c'.w = .ok v c'.w ∧ Rep c2 r v ∧ ∀ k ∈ r.keys, k ∈ keysL (shedL rs') := by
        have hm' : (fn.results.mapM (m := Sem) (resF a'.tmps)).run X.P c'.w = .ok xs.toArray c'.w := by
          rw [Array.mapM_eq_mapM_toList]
          simp only [Sem.run_map]
          rw [hrun]; rfl
        have hres' : ∀ (v : Value), (if h : xs.toArray.size = 1 then xs.toArray[0] else Value.tuple xs.toArray) = v → (results fn a'.tmps).run X.P c'.w = .ok v c'.w := by
          intro v hv
          rw [results_eq]
          simp only [Sem.run_bind, hm', Result.andThen_ok]
          rw [hv]; rfl
        by_cases h1 : xs.length = 1
        · obtain ⟨x, rfl⟩ := List.length_eq_one_iff.1 h1
          have hl : (shedL rs').length = 1 := by rw [← hs2.1]; rfl
          obtain ⟨u, hu⟩ := List.length_eq_one_iff.1 hl
          rw [hu] at hres
          dsimp only at hres
          subst hres
          refine ⟨x, hres' x (by simp), (hs2.2 0 u (by rw [hu]; rfl)).rep, fun k hk => by rw [hu]; simpa [keysL] using hk⟩
        · have hl : (shedL rs').length ≠ 1 := by rw [← hs2.1]; exact h1
          have hr : r = .tup (shedL rs') := by
            rw [← hres]
            cases h : shedL rs' with
            | nil => rfl
            | cons u l => cases l with
              | nil => rw [h] at hl; simp at hl
              | cons _ _ => rfl
          subst hr
          refine ⟨.tuple xs.toArray, hres' _ (by rw [dif_neg]; simpa using h1), .tup _ _ hfn.1 hfn.2.1, fun k hk => by simpa [AV.keys] using hk⟩
      refine ⟨v, hv, c2, v, rfl, e1, e2.good, ⟨e2.frame.os, e2.frame.output, e2.frame.tape, e2.frame.size, e2.frame.block, e2.frame.ext, e2.frame.new⟩, ⟨fun k o ho => e2.objs.rep k o (hsub k o ho), fun k o k' o' b hk hk' => e2.objs.apart k o k' o' b (hsub k o hk) (hsub k' o' hk'), fun k o ho q hq => ?_⟩,
        hrv, fun k hk => hmem k (subK_spec hb.1 k (hrk k hk)), fun k o b ho hb' => e2.mine k o b (hsub k o ho) hb'⟩
      exact hmem q (subK_spec hb.2 q (objKeys_mem (hkk k o ho) (hsub k o ho) q hq))
    cases ex with
    | exit id => simp at hex
    | nor => exact hfin hex
    | ret => exact hfin hex

/-- The functions of a program are as the evaluator takes them to be. -/
def FuncsOk (P : Program) : Prop := ∀ (f : FuncId) (fn : Func), P.funcs[f]? = some fn → (fn.name == "runtime.NumGoroutine") = false ∧ ∀ c, fn.body = some c → codeOk fn.ntmps c = true

theorem E_sound {V : Env} (hm : V.P.follows .mixedOrders = true) (hP : FuncsOk V.P)
    (hext : ∀ f l os r os', V.isExt f = true → V.pre f l os = true → V.ext f l os = some (r, os') → CallOk V.P V.G f l os r os' ∧ ∃ fn, V.P.funcs[f]? = some fn ∧ (fn.name == "runtime.NumGoroutine") = false ∧ fn.body.isSome = true) :
    ∀ n, CallsOk (V.cfg (E V n))
  | 0 => fun f l os r os' _ h => by simp [E, Env.cfg] at h
  | n + 1 => fun f l os r os' hp h => by
    have h' : E V (n + 1) f l os = some (r, os') := h
    simp only [E] at h'
    cases he : V.isExt f with
    | true =>
      simp only [he, cond_true] at h'
      have hp' : cond (V.isExt f) (V.pre f l os) true = true := hp
      rw [he] at hp'
      exact hext f l os r os' he hp' h'
    | false =>
      simp only [he, cond_false] at h'
      have hX := E_sound hm hP hext n
      have hh := h'
      unfold runF at hh
      cases hf : (V.cfg (E V n)).P.funcs[f]? with
      | none => simp only [hf] at hh; cases hh
      | some fn =>
        have hf' : V.P.funcs[f]? = some fn := hf
        obtain ⟨h1, h2⟩ := hP f fn hf'
        refine ⟨runF_sound (X := V.cfg (E V n)) hX hm ⟨fun p g hg => (nomatch hg), fun p g hg => (nomatch hg), fun p g hg => (nomatch hg)⟩ hf h2 h', fn, hf', h1, ?_⟩
        cases hb : fn.body with
        | none => simp only [hf, hb] at hh; cases hh
        | some c => rfl
end Go.Ab
