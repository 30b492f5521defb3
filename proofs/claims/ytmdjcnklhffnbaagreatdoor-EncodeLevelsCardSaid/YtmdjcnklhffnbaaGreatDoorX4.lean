/- The evaluator, sound: what E answers is what the model's call comes to. Contracts: a function's run with its calls and loops known beforehand. Loops that look at one place after another and stop at the first that says so. Contracts for one list of arguments. Contracts and loops of which only some answer is told. Rounds of loops and runs, followed down their conditions. Rounds of loops and runs whose tree of conditions is read off the proof: the kernel alone holds it against the run. A function that hands back new objects: its contract by a run. Functions that hand back slices that may still be stored into. A view of a state in which less is told: variables' cells told in other words. A view in which a slice that was stored into is read alone from here on. A slice in a slot told as nobody's, its elements in other words. Slices in slots told as nobody's, whatever they hold; rows that grow by one. Views of slices that grow: their front sealed; the front of one under another key. From the evaluator to a row of the kit: a call of which E says the answer. -/
import Derived.Test.YtmdjcnklhffnbaaGreatDoorX3
import Derived.KernelRfl
namespace Go.Ab
open Go Go.RowKit

theorem alook_enterEnv : ∀ (l : List AV) (b k : Nat), alook (enterEnv l b) k = if b ≤ k then l[k - b]? else none
  | [], b, k => by simp [enterEnv, alook]
  | o :: r, b, k => by
    simp only [enterEnv, alook]
    by_cases h : b = k
    · subst h; simp
    · rw [beqF h, cond_false, alook_enterEnv r (b + 1) k]
      by_cases h1 : b + 1 ≤ k
      · rw [if_pos h1, if_pos (by omega)]
        have : k - b = (k - (b + 1)) + 1 := by omega
        rw [this]; simp
      · rw [if_neg h1, if_neg (by omega)]

theorem live_enter {os : List AO} {b k : Nat} (h : live (enterObjs os b) k) : b ≤ k ∧ k - b < os.length := by
  obtain ⟨o, ho⟩ := h
  rw [alook_enter] at ho
  by_cases hb : b ≤ k
  · rw [if_pos hb] at ho; exact ⟨hb, (List.getElem?_eq_some_iff.1 ho).1⟩
  · rw [if_neg hb] at ho; cases ho

def resF (tmps : Array Value) : ResultVar → Sem Value
  | .tmp t => pure (tmps.getD t undef)
  | .cell q t => do loadVar t (← asAddr (tmps.getD q undef))
theorem results_eq (fn : Func) (tmps : Array Value) : results fn tmps = (fn.results.mapM (resF tmps) >>= fun vs => pure (if h : vs.size = 1 then vs[0] else .tuple vs)) := by
  unfold results
  congr 1

theorem resultL_sound {B : Base} {c : Cx} {s : St} {a : Act} (X : Cfg) (h : Rel B c s a) (hn : NoGrd s) : ∀ {l : List ResultVar} {vs : List AV}, resultL X s l = some vs →
    ∃ xs : List Value, SeesL B c s vs xs ∧ (l.mapM (m := Sem) (resF a.tmps)).run X.P c.w = .ok xs c.w
  | [], vs, he => by simp [resultL] at he; subst he; exact ⟨[], ⟨rfl, fun i u hu => by simp at hu⟩, rfl⟩
  | r :: l, vs, he => by
    simp only [resultL] at he
    obtain ⟨v, h1, he⟩ := opt_bind he
    obtain ⟨us, h2, he⟩ := opt_map he
    subst he
    obtain ⟨xs, h3, h4⟩ := resultL_sound X h hn h2
    cases r with
    | cell q t =>
      simp only [resultA] at h1
      split at h1
      · rename_i k off hq
        obtain ⟨⟨b, u0⟩, hl, h1⟩ := opt_bind h1
        obtain ⟨hb, h1'⟩ := guardO_inv h1
        dsimp only at hb h1'
        simp only [Option.some.injEq] at h1'
        subst hb h1'
        have hE : Rep c (.ref k off) (a.tmps.getD q undef) := h.env q _ hq
        obtain ⟨x, g1, g2⟩ := loadA_still h hE hl
        generalize hV : a.tmps.getD q undef = V at hE g1
        cases hE
        rw [loadAt_addr] at g1
        refine ⟨x :: xs, ⟨by simp [h3.1], fun i u hu => ?_⟩, ?_⟩
        · cases i with
          | zero => simp at hu; subst hu; exact g2
          | succ i => simpa using h3.2 i u (by simpa using hu)
        · rw [List.mapM_cons]
          simp only [resF, hV, asAddr, pure_bind, Sem.run_bind, g1, h4, Result.andThen_ok, Sem.run_pure]
      · cases h1
    | tmp t =>
      simp only [resultA] at h1
      have hE := h.env t v h1
      have hg := hn t v h1
      have hr : Rep c v (a.tmps.getD t undef) := by cases v <;> first | exact hE | simp [AV.isGrd] at hg
      refine ⟨a.tmps.getD t undef :: xs, ⟨by simp [h3.1], fun i u hu => ?_⟩, ?_⟩
      · cases i with
        | zero => simp at hu; subst hu; exact ⟨hr, h.closed t v h1, hg⟩
        | succ i => simpa using h3.2 i u (by simpa using hu)
      · rw [List.mapM_cons]
        simp only [resF, pure_bind, Sem.run_bind, h4, Result.andThen_ok, Sem.run_pure]

theorem codeOk_mono {N M : Nat} (h : N ≤ M) : ∀ {c : Code}, codeOk N c = true → codeOk M c = true
  | .region _ ops _, hc => by
    simp only [codeOk] at hc ⊢
    rw [List.all_eq_true] at hc ⊢
    intro o ho
    have := hc o ho
    cases hd : o.dst with
    | none => rfl
    | some d => simp only [hd] at this ⊢; exact bltT (Nat.lt_of_lt_of_le (ltB this) h)
  | .seq a b, hc => by simp only [codeOk, Bool.and_eq_true] at hc ⊢; exact ⟨codeOk_mono h hc.1, codeOk_mono h hc.2⟩
  | .cond _ a b, hc => by simp only [codeOk, Bool.and_eq_true] at hc ⊢; exact ⟨codeOk_mono h hc.1, codeOk_mono h hc.2⟩
  | .block _ b, hc => by simp only [codeOk] at hc ⊢; exact codeOk_mono h hc
  | .loop b, hc => by simp only [codeOk] at hc ⊢; exact codeOk_mono h hc
  | .scope b, hc => by simp only [codeOk] at hc ⊢; exact codeOk_mono h hc
  | .skip, _ | .exit _, _ | .ret, _ | .goto _, _ | .label _, _ | .rangeFunc .., _ | .refuse _, _ => by simp [codeOk]

theorem runF_sound {X : Cfg} (hX : CallsOk X) (hm : X.P.follows .mixedOrders = true) {f : FuncId} (hO : OracOk X f) {fn : Func} (hf : X.P.funcs[f]? = some fn) (hok : ∀ c, fn.body = some c → codeOk fn.ntmps c = true) {n : Nat} {args : List AV} {os : List AO}
    {r : AV} {os' : List AO} (he : runF X n f args os = some (r, os')) : CallOk X.P X.G f args os r os' := by
  unfold runF at he
  rw [hf] at he
  dsimp only at he
  cases hbody : fn.body with
  | none => simp [hbody] at he
  | some code =>
    simp only [hbody] at he
    have hcode := hok code hbody
    intro c0 vs hgood hobjs hsz hrep hkeys
    let a0 : Act := { tmps := vs ++ Array.replicate (fn.ntmps - vs.size) undef, defers := [] }
    let B : Base := { c0 := c0, D := held c0 (enterObjs os keyBase), K := live (enterObjs os keyBase), G := X.G, N := a0.tmps.size }
    let s0 : St := { env := enterEnv args 0, objs := enterObjs os keyBase }
    have hN : fn.ntmps ≤ B.N := by simp [B, a0]; omega
    have hcode' : codeOk B.N code = true := codeOk_mono hN hcode
    have hget : ∀ t v, s0.get t = some v → args[t]? = some v := fun t v hv => by
      have : alook (enterEnv args 0) t = some v := hv
      rw [alook_enterEnv, if_pos (Nat.zero_le _)] at this; simpa using this
    have hval : ∀ t v, args[t]? = some v → Rep c0 v (a0.tmps.getD t undef) := fun t v hv => by
      have hlt : t < vs.size := by rw [hsz]; exact (List.getElem?_eq_some_iff.1 hv).1
      have e : a0.tmps.getD t undef = vs.getD t undef := by
        simp only [a0, Array.getD_eq_getD_getElem?]
        rw [Array.getElem?_append_left hlt]
      rw [e]; exact hrep t v hv
    have hplain : ∀ t v, s0.get t = some v → v.isGrd = false := fun t v hv => by
      have := hval t v (hget t v hv)
      generalize a0.tmps.getD t undef = V at this
      cases this <;> rfl
    have h0 : Rel B c0 s0 a0 := by
      refine ⟨hgood, ⟨rfl, rfl, rfl, Nat.le_refl _, fun _ _ _ => rfl, Ext.refl _ _, fun _ _ _ _ hi => hi⟩, hobjs, fun t v hv => EnvRep.of_rep (hplain t v hv) (hval t v (hget t v hv)),
        fun t v hv k hk => hkeys k (keys_mem_of (hget t v hv) k hk), fun k o b ho hb => .inr ⟨k, o, ho, hb⟩, rfl, rfl, fun k hk => hk⟩
    refine calls_of_wp hf hbody ?_
    refine runC_sound (B := B) hX rfl hm (fun k hk => (live_enter hk).1) f hO code [] (by simp [bodyOf, subC, hf, hbody]) hcode' n s0 c0 a0 _ (r, os') _ he h0 hplain fun ex s' c' a' hex hr' hn' => ?_
    have hfin : finish X fn os.length s' = some (r, os') → a'.defers = [] ∧ ∃ v, (results fn a'.tmps).run X.P c'.w = .ok v c'.w ∧ ∃ c2 x, Ending.returned v = .returned x ∧ c2.w = c'.w ∧ Good X.G c2 ∧
      Frame { c0 := c0, D := held c0 (enterObjs os keyBase), K := live (enterObjs os keyBase), G := X.G, N := 0 } c2 ∧
      Objs c2 (enterObjs os' keyBase) ∧ Rep c2 r x ∧ (∀ k ∈ r.keys, live (enterObjs os' keyBase) k) ∧
      ∀ k o b, alook (enterObjs os' keyBase) k = some o → excl c2 k o = some b → c0.w.heap.size ≤ b ∨ held c0 (enterObjs os keyBase) b := by
      intro hfin
      refine ⟨hr'.defers, ?_⟩
      unfold finish at hfin
      simp only [freezeVsK_eq] at hfin
      obtain ⟨rs, h1, hfin⟩ := opt_bind hfin
      obtain ⟨⟨rs', o1⟩, h2, hfin⟩ := opt_bind hfin
      dsimp only at hfin
      obtain ⟨os1, h3, hfin⟩ := opt_bind hfin
      obtain ⟨hb, hfin⟩ := cond_none hfin
      simp only [Option.some.injEq, Prod.mk.injEq] at hfin
      obtain ⟨hres, rfl⟩ := hfin
      simp only [Bool.and_eq_true] at hb
      obtain ⟨xs, hs, hrun⟩ := resultL_sound X hr' hn' h1
      obtain ⟨c2, e1, e2, e3, e4, e5⟩ := freezeVs_sound hr' hs h2
      have hs2 := e3.shed
      have hfn := hs2.fn
      obtain ⟨hlen, hlook⟩ := getObjs_spec h3
      have hks : ∀ i, i < os.length → ((List.range os.length).map (keyBase + ·))[i]? = some (keyBase + i) := fun i hi => by simp [hi]
      have hl1 : os1.length = os.length := by rw [hlen]; simp
      have hsub : ∀ k o, alook (enterObjs os1 keyBase) k = some o → alook o1 k = some o := by
        intro k o ho
        rw [alook_enter] at ho
        by_cases hb : keyBase ≤ k
        · rw [if_pos hb] at ho
          have hlt := (List.getElem?_eq_some_iff.1 ho).1
          have := (hlook _ _ (hks (k - keyBase) (by omega))).1
          rw [Nat.add_sub_cancel' hb] at this
          rw [this]; exact ho
        · rw [if_neg hb] at ho; cases ho
      have hmem : ∀ k, k ∈ (List.range os.length).map (keyBase + ·) → live (enterObjs os1 keyBase) k := by
        intro k hk
        simp only [List.mem_map, List.mem_range] at hk
        obtain ⟨i, hi, rfl⟩ := hk
        refine ⟨os1[i]'(by omega), ?_⟩
        rw [alook_enter, if_pos (Nat.le_add_right _ _), Nat.add_sub_cancel_left]
        exact List.getElem?_eq_getElem _
      have hkk : ∀ k o, alook (enterObjs os1 keyBase) k = some o → k ∈ (List.range os.length).map (keyBase + ·) := by
        intro k o ho
        obtain ⟨h1, h2⟩ := live_enter ⟨o, ho⟩
        simp only [List.mem_map, List.mem_range]
        exact ⟨k - keyBase, by omega, by omega⟩
      obtain ⟨v, hv, hrv, hrk⟩ : ∃ v, (results fn a'.tmps).run X.P c'.w = .ok v c'.w ∧ Rep c2 r v ∧ ∀ k ∈ r.keys, k ∈ keysL (shedL rs') := by
        have hm' : (fn.results.mapM (m := Sem) (resF a'.tmps)).run X.P c'.w = .ok xs.toArray c'.w := by
          rw [Array.mapM_eq_mapM_toList]
          simp only [Sem.run_map]
          rw [hrun]; rfl
        have hres' : ∀ (v : Value), (if h : xs.toArray.size = 1 then xs.toArray[0] else Value.tuple xs.toArray) = v → (results fn a'.tmps).run X.P c'.w = .ok v c'.w := by
          intro v hv
          rw [results_eq]
          simp only [Sem.run_bind, hm', Result.andThen_ok]
          rw [hv]; rfl
        by_cases h1 : xs.length = 1
        · obtain ⟨x, rfl⟩ := List.length_eq_one_iff.1 h1
          have hl : (shedL rs').length = 1 := by rw [← hs2.1]; rfl
          obtain ⟨u, hu⟩ := List.length_eq_one_iff.1 hl
          rw [hu] at hres
          dsimp only at hres
          subst hres
          refine ⟨x, hres' x (by simp), (hs2.2 0 u (by rw [hu]; rfl)).rep, fun k hk => by rw [hu]; simpa [keysL] using hk⟩
        · have hl : (shedL rs').length ≠ 1 := by rw [← hs2.1]; exact h1
          have hr : r = .tup (shedL rs') := by
            rw [← hres]
            cases h : shedL rs' with
            | nil => rfl
            | cons u l => cases l with
              | nil => rw [h] at hl; simp at hl
              | cons _ _ => rfl
          subst hr
          refine ⟨.tuple xs.toArray, hres' _ (by rw [dif_neg]; simpa using h1), .tup _ _ hfn.1 hfn.2.1, fun k hk => by simpa [AV.keys] using hk⟩
      refine ⟨v, hv, c2, v, rfl, e1, e2.good, ⟨e2.frame.os, e2.frame.output, e2.frame.tape, e2.frame.size, e2.frame.block, e2.frame.ext, e2.frame.new⟩, ⟨fun k o ho => e2.objs.rep k o (hsub k o ho), fun k o k' o' b hk hk' => e2.objs.apart k o k' o' b (hsub k o hk) (hsub k' o' hk'), fun k o ho q hq => ?_⟩,
        hrv, fun k hk => hmem k (subK_spec hb.1 k (hrk k hk)), fun k o b ho hb' => e2.mine k o b (hsub k o ho) hb'⟩
      exact hmem q (subK_spec hb.2 q (objKeys_mem (hkk k o ho) (hsub k o ho) q hq))
    cases ex with
    | exit id => simp at hex
    | nor => exact hfin hex
    | ret => exact hfin hex

/-- The functions of a program are as the evaluator takes them to be. -/
def FuncsOk (P : Program) : Prop := ∀ (f : FuncId) (fn : Func), P.funcs[f]? = some fn → (fn.name == "runtime.NumGoroutine") = false ∧ ∀ c, fn.body = some c → codeOk fn.ntmps c = true

theorem E_sound {V : Env} (hm : V.P.follows .mixedOrders = true) (hP : FuncsOk V.P)
    (hext : ∀ f l os r os', V.isExt f = true → V.pre f l os = true → V.ext f l os = some (r, os') → CallOk V.P V.G f l os r os' ∧ ∃ fn, V.P.funcs[f]? = some fn ∧ (fn.name == "runtime.NumGoroutine") = false ∧ fn.body.isSome = true) :
    ∀ n, CallsOk (V.cfg (EP V n))
  | 0 => fun f l os r os' _ h => by cases h
  | n + 1 => fun f l os r os' hp h => by
    have h' : E V (n + 1) f l os = some (r, os') := h
    rw [E_succ] at h'
    cases he : V.isExt f with
    | true =>
      simp only [he, cond_true] at h'
      have hp' : cond (V.isExt f) (V.pre f l os) true = true := hp
      rw [he] at hp'
      exact hext f l os r os' he hp' h'
    | false =>
      simp only [he, cond_false] at h'
      have hX := E_sound hm hP hext n
      have hh := h'
      unfold runF at hh
      cases hf : (V.cfg (EP V n)).P.funcs[f]? with
      | none => simp only [hf] at hh; cases hh
      | some fn =>
        have hf' : V.P.funcs[f]? = some fn := hf
        obtain ⟨h1, h2⟩ := hP f fn hf'
        refine ⟨runF_sound (X := V.cfg (EP V n)) hX hm ⟨fun p g hg => (by cases hg), fun p g hg => (by cases hg), fun p g hg => (by cases hg)⟩ hf h2 h', fn, hf', h1, ?_⟩
        cases hb : fn.body with
        | none => simp only [hf, hb] at hh; cases hh
        | some c => rfl
end Go.Ab

namespace Go.Ab
open Go Go.RowKit

/-- A function's contract. -/
def Ct (P : Program) (G : Nat → Option (List AV)) (f : FuncId) (l : List AV) (os : List AO) (r : AV × List AO) : Prop :=
  CallOk P G f l os r.1 r.2 ∧ ∃ fn, P.funcs[f]? = some fn ∧ (fn.name == "runtime.NumGoroutine") = false ∧ fn.body.isSome = true

/-- A callee: when it may be asked, and its answer. -/
structure Ent where
  f : FuncId
  pre : List AV → List AO → Bool
  ans : List AV → List AO → AV × List AO

def mkE {τ : Type} (f : FuncId) (g : List AV → List AO → Bool) (v : List AV → List AO → τ) (φ : τ → AV × List AO) : Ent := ⟨f, g, fun l os => φ (v l os)⟩

def tabGet : List Ent → FuncId → Option Ent
  | [], _ => none
  | e :: r, f => cond (Nat.beq e.f f) (some e) (tabGet r f)

abbrev Orc := St → (Ex → St → Res) → Res
abbrev Vw := St → (St → Res) → Res

def eqP : List Nat → List Nat → Bool
  | [], [] => true
  | a :: r, b :: q => Nat.beq a b && eqP r q
  | _, _ => false
def orGet {α : Type} : List (List Nat × α) → List Nat → Option α
  | [], _ => none
  | e :: r, p => cond (eqP e.1 p) (some e.2) (orGet r p)

def hn (k o : List Nat) (p : List (Nat × Nat × TypeId)) (c : List (Nat × Nat × Nat × TypeId)) : Hint := { keep := k, objs := o, promote := p, promoteCell := c }
def tr (p k o : List Nat) : List Nat × Hint := (p, { keep := k, objs := o })
def trGet : List (List Nat × Hint) → List Nat → Option Hint
  | [], _ => none
  | e :: r, p => cond (eqP e.1 p) (some e.2) (trGet r p)

/-- What is known of a loop or a cut: when, the value, what it comes to. -/
def mkO {τ : Type} (g : St → Bool) (v : St → τ) (out : τ → (Ex → St → Res) → Res) : Orc := fun s k => cond (g s) (out (v s) k) none

/-- A state in another form. -/
def mkV {τ : Type} (g : St → Bool) (v : St → τ) (S : τ → St) : Vw := fun s k => cond (g s) (k (S (v s))) none

def Env.tab (V : Env) (T : List Ent) : Env :=
  { V with ext := fun f l os => (tabGet T f).map fun e => e.ans l os, isExt := fun f => (tabGet T f).isSome, pre := fun f l os => match tabGet T f with | some e => e.pre l os | none => false }

/-- The run of function f: its callees by the table T, else entered d deep; its cuts and loops by C and L. -/
def Env.run (V : Env) (T : List Ent) (d : Nat) (C L : List (List Nat × Orc)) (W : List (List Nat × Vw)) (f : FuncId) : Cfg :=
  { (V.tab T).cfg (EP (V.tab T) d) with cutO := fun g p => cond (Nat.beq g f) (orGet C p) none, loopO := fun g p => cond (Nat.beq g f) (orGet L p) none, viewO := fun g p => cond (Nat.beq g f) (orGet W p) none }

def TabOk (V : Env) (T : List Ent) : Prop := ∀ e ∈ T, ∀ l os, e.pre l os = true → Ct V.P V.G e.f l os (e.ans l os)

theorem tabGet_mem {T : List Ent} {f : FuncId} {e : Ent} (h : tabGet T f = some e) : e ∈ T ∧ e.f = f := by
  induction T with
  | nil => simp [tabGet] at h
  | cons x r ih =>
    simp only [tabGet] at h
    cases hb : Nat.beq x.f f with
    | true => simp only [hb, cond_true, Option.some.injEq] at h; subst h; exact ⟨by simp, beqT hb⟩
    | false => simp only [hb, cond_false] at h; exact ⟨List.mem_cons_of_mem _ (ih h).1, (ih h).2⟩

theorem orGet_mem {α : Type} {C : List (List Nat × α)} {p : List Nat} {g : α} (h : orGet C p = some g) : (p, g) ∈ C := by
  have eqP_eq : ∀ {a b : List Nat}, eqP a b = true → a = b := by
    intro a
    induction a with
    | nil => intro b h; cases b <;> simp [eqP] at h ⊢
    | cons x r ih =>
      intro b h
      cases b with
      | nil => simp [eqP] at h
      | cons y q => simp only [eqP, Bool.and_eq_true] at h; rw [beqT h.1, ih h.2]
  induction C with
  | nil => simp [orGet] at h
  | cons x r ih =>
    simp only [orGet] at h
    cases hb : eqP x.1 p with
    | true => simp only [hb, cond_true, Option.some.injEq] at h; subst h; rw [← eqP_eq hb]; simp
    | false => simp only [hb, cond_false] at h; exact List.mem_cons_of_mem _ (ih h)

/-- Each known cut and loop is right. -/
def CutOk (X : Cfg) (f : FuncId) (p : List Nat) (g : Orc) : Prop := ∀ s k r, g s k = some r → ∃ n, runC X f n (subC (bodyOf X.P f) p) p s k = some r
def ViewOk (g : Vw) : Prop := ∀ s k r, g s k = some r → ∃ s', k s' = some r ∧ ∀ (B : Base) (c : Cx) (a : Act), Rel B c s a → NoGrd s → ∃ c', c'.w = c.w ∧ Rel B c' s' a ∧ NoGrd s'
def LoopOk (X : Cfg) (f : FuncId) (p : List Nat) (g : Orc) : Prop := ∀ s k r, g s k = some r → ∃ n m, loopR X f n m (subC (bodyOf X.P f) p) p s k = some r

theorem calls_tab {V : Env} {T : List Ent} (hm : V.P.follows .mixedOrders = true) (hP : FuncsOk V.P) (hT : TabOk V T) (d : Nat) (C L : List (List Nat × Orc)) (W : List (List Nat × Vw)) (f : FuncId) : CallsOk (V.run T d C L W f) := by
  have h := E_sound (V := V.tab T) hm hP (fun g l os r os' hi hp he => by
    simp only [Env.tab] at hi hp he
    cases hg : tabGet T g with
    | none => simp [hg] at hi
    | some e =>
      obtain ⟨hmem, hf⟩ := tabGet_mem hg
      simp only [hg] at hp
      simp only [hg, Option.map_some, Option.some.injEq] at he
      have := hT e hmem l os hp
      rw [hf, he] at this
      exact this) d
  exact h

theorem ct_of_run {V : Env} {T : List Ent} {d : Nat} {C L : List (List Nat × Orc)} {W : List (List Nat × Vw)} {f : FuncId} {n : Nat} {l : List AV} {os : List AO} {r : AV × List AO} (hm : V.P.follows .mixedOrders = true) (hP : FuncsOk V.P) (hT : TabOk V T)
    (hC : ∀ e ∈ C, CutOk (V.run T d C L W f) f e.1 e.2) (hL : ∀ e ∈ L, LoopOk (V.run T d C L W f) f e.1 e.2) (hW : ∀ e ∈ W, ViewOk e.2)
    (he : runF (V.run T d C L W f) n f l os = some r) : Ct V.P V.G f l os r := by
  have hO : OracOk (V.run T d C L W f) f := by
    refine ⟨fun p g hg => ?_, fun p g hg => ?_, fun p g hg => ?_⟩
    · simp only [Env.run, Nat.beq_refl, cond_true] at hg
      exact hC _ (orGet_mem hg)
    · simp only [Env.run, Nat.beq_refl, cond_true] at hg
      exact hW _ (orGet_mem hg)
    · simp only [Env.run, Nat.beq_refl, cond_true] at hg
      exact hL _ (orGet_mem hg)
  have hh := he
  unfold runF at hh
  cases hf : (V.run T d C L W f).P.funcs[f]? with
  | none => simp only [hf] at hh; cases hh
  | some fn =>
    have hf' : V.P.funcs[f]? = some fn := hf
    obtain ⟨h1, h2⟩ := hP f fn hf'
    refine ⟨runF_sound (X := V.run T d C L W f) (calls_tab hm hP hT d C L W f) hm hO hf h2 he, fn, hf', h1, ?_⟩
    cases hb : fn.body with
    | none => simp only [hf, hb] at hh; cases hh
    | some c => rfl

theorem tabOk_nil {V : Env} : TabOk V [] := fun _ h => (List.not_mem_nil h).elim
theorem tabOk_cons {V : Env} {e : Ent} {r : List Ent} (h : ∀ l os, e.pre l os = true → Ct V.P V.G e.f l os (e.ans l os)) (hr : TabOk V r) : TabOk V (e :: r) := fun x hx => by
  rcases List.mem_cons.1 hx with rfl | hx
  · exact h
  · exact hr x hx
def LoopsOk (X : Cfg) (f : FuncId) (L : List (List Nat × Orc)) : Prop := ∀ e ∈ L, LoopOk X f e.1 e.2
theorem loopsOk_nil {X : Cfg} {f : FuncId} : LoopsOk X f [] := fun _ h => (List.not_mem_nil h).elim
theorem loopsOk_cons {X : Cfg} {f : FuncId} {p : List Nat} {g : Orc} {r : List (List Nat × Orc)} (h : LoopOk X f p g) (hr : LoopsOk X f r) : LoopsOk X f ((p, g) :: r) := fun x hx => by
  rcases List.mem_cons.1 hx with rfl | hx
  · exact h
  · exact hr x hx
/-- A contract by a run with loops, without cuts and views. -/
theorem ct_loops {V : Env} {T : List Ent} {d : Nat} {L : List (List Nat × Orc)} {f : FuncId} {n : Nat} {l : List AV} {os : List AO} {r : AV × List AO} (hm : V.P.follows .mixedOrders = true) (hP : FuncsOk V.P) (hT : TabOk V T)
    (hL : LoopsOk (V.run T d [] L [] f) f L) (he : runF (V.run T d [] L [] f) n f l os = some r) : Ct V.P V.G f l os r :=
  ct_of_run hm hP hT (fun _ h => (List.not_mem_nil h).elim) hL (fun _ h => (List.not_mem_nil h).elim) he

/-- A contract by the evaluator alone. -/
theorem ct_of_E {V : Env} (hm : V.P.follows .mixedOrders = true) (hP : FuncsOk V.P) (hE : ∀ f, V.isExt f = false) {n : Nat} {f : FuncId} {l : List AV} {os : List AO} {r : AV × List AO} (he : E V n f l os = some r) : Ct V.P V.G f l os r :=
  E_sound hm hP (fun f _ _ _ _ h => by rw [hE f] at h; cases h) n f l os r.1 r.2 (by simp [Env.cfg, hE]) he

/-- A contract serves arguments of which more is known. -/
theorem Ct.args {P : Program} {G : Nat → Option (List AV)} {f : FuncId} {l l' : List AV} {os : List AO} {r : AV × List AO} (h : Ct P G f l os r) (hl : l'.length = l.length) (hk : keysL l = [])
    (hw : ∀ (i : Nat) (u u' : AV), l[i]? = some u → l'[i]? = some u' → ∀ c v, Rep c u' v → Rep c u v) : Ct P G f l' os r := by
  refine ⟨fun c0 vs hg ho hs hr _ => h.1 c0 vs hg ho (by rw [hs, hl]) (fun i u hu => ?_) (fun k hk' => by rw [hk] at hk'; simp at hk'), h.2⟩
  have hlt := (List.getElem?_eq_some_iff.1 hu).1
  have hu' : l'[i]? = some (l'[i]'(by omega)) := List.getElem?_eq_getElem _
  exact hw i u _ hu hu' c0 _ (hr i _ hu')
/-- A contract of which less is told. -/
theorem Ct.res {P : Program} {G : Nat → Option (List AV)} {f : FuncId} {l : List AV} {os os' : List AO} {r r' : AV} (h : Ct P G f l os (r, os')) (hk : r'.keys = []) (hw : ∀ c v, Rep c r v → Rep c r' v) : Ct P G f l os (r', os') := by
  refine ⟨fun c0 vs hg ho hs hr hl => (h.1 c0 vs hg ho hs hr hl).mono ?_, h.2⟩
  rintro e w' ⟨c', x, h1, h2, h3, h4, h5, h6, h7, h8⟩
  exact ⟨c', x, h1, h2, h3, h4, h5, hw _ _ h6, fun k hk' => by rw [hk] at hk'; simp at hk', h8⟩
/-- Are these cells of numbers, texts and bools the same. -/
def plainEq : List AV → List AV → Bool
  | [], [] => true
  | .int k n :: r, .int k' n' :: q => decide (k = k') && (n == n' && plainEq r q)
  | .str s :: r, .str s' :: q => s == s' && plainEq r q
  | .bool s :: r, .bool s' :: q => s == s' && plainEq r q
  | _, _ => false
theorem plainEq_eq : ∀ {a b : List AV}, plainEq a b = true → a = b
  | [], [], _ => rfl
  | .int k n :: r, .int k' n' :: q, h => by simp only [plainEq, Bool.and_eq_true, decide_eq_true_eq, beq_iff_eq] at h; rw [h.1, h.2.1, plainEq_eq h.2.2]
  | .str s :: r, .str s' :: q, h => by simp only [plainEq, Bool.and_eq_true, beq_iff_eq] at h; rw [h.1, plainEq_eq h.2]
  | .bool s :: r, .bool s' :: q, h => by simp only [plainEq, Bool.and_eq_true, beq_iff_eq] at h; rw [h.1, plainEq_eq h.2]
def rowsEq (n : Nat) (get get' : Nat → List AV) : Bool := (List.range n).all fun j => plainEq (get j) (get' j)
theorem rowsEq_eq {n : Nat} {get get' : Nat → List AV} (h : rowsEq n get get' = true) : ∀ j, j < n → get j = get' j := fun j hj =>
  plainEq_eq (List.all_eq_true.1 h j (List.mem_range.2 hj))
theorem Rep.slWeak {c : Cx} {o : Own} {sz n : Nat} {get get' : Nat → List AV} {v : Value} (he : ∀ j, j < n → get' j = get j) (h : Rep c (.sl o sz n get) v) : Rep c (.sl .no sz n get') v := by
  cases h with
  | slNil => exact .slNil .no sz get' trivial
  | sl _ _ _ _ a cap vals h1 h2 h3 h4 h5 h6 =>
    exact .sl .no sz n get' a cap vals h1 h2 trivial (fun j hj => by rw [he j hj]; exact h4 j hj) (fun j i u hj hu => h5 j i u hj (by rw [← he j hj]; exact hu)) (fun j i u hj hu => h6 j i u hj (by rw [← he j hj]; exact hu))

/-- The next rounds of a loop, from their head. -/
def nextR (X : Cfg) (f : FuncId) (n : Nat) (c : Code) (p : List Nat) (k : Ex → St → Res) : Nat → St → Res
  | 0, _ => none
  | m + 1, s => loopR X f n m c p s k

/-- One round of the loop at path p: kn is what stands behind the round. -/
def roundR (X : Cfg) (f : FuncId) (n : Nat) (p : List Nat) (s : St) (kn : St → Res) (k : Ex → St → Res) : Res :=
  runC X f n (subC (bodyOf X.P f) (p ++ [0])) (p ++ [0]) s fun e s' => match e with
    | .nor => (atHead X.P (X.hint f (tagOf (subC (bodyOf X.P f) (p ++ [0])))) s').bind kn
    | e => k e s'

theorem loop_run {X : Cfg} {f : FuncId} {n : Nat} {p : List Nat} {b : Code} {σ : Type} (S : σ → St) (Inv : σ → Prop) (μ : σ → Nat) (out : σ → (Ex → St → Res) → Res) (hb : subC (bodyOf X.P f) p = .loop b)
    (round : ∀ v, Inv v → ∀ (k : Ex → St → Res) (kn : St → Res), (∀ v', Inv v' → μ v' < μ v → kn (S v') = out v' k) → roundR X f n p (S v) kn k = out v k) :
    ∀ (m : Nat) (v : σ), Inv v → μ v ≤ m → ∀ k, loopR X f n m (subC (bodyOf X.P f) p) p (S v) k = out v k := by
  have hb0 : subC (bodyOf X.P f) (p ++ [0]) = b := by rw [subC_append, hb]; simp [subC]
  have hnext : ∀ (m : Nat) (s : St) (k : Ex → St → Res), loopN X.P (runC X f n b (p ++ [0])) (X.hint f (tagOf b)) m s k = (atHead X.P (X.hint f (tagOf b)) s).bind (nextR X f n (.loop b) p k m) := by
    intro m s k
    cases m with
    | zero =>
      simp only [loopN]
      cases atHead X.P (X.hint f (tagOf b)) s <;> rfl
    | succ m => rfl
  intro m
  induction m with
  | zero =>
    intro v hv hm k
    rw [hb]
    simp only [loopR, hnext]
    have := round v hv k (nextR X f n (.loop b) p k 0) (fun v' _ h => by omega)
    simp only [roundR, hb0] at this
    exact this
  | succ m ih =>
    intro v hv hm k
    rw [hb]
    simp only [loopR, hnext]
    have := round v hv k (nextR X f n (.loop b) p k (m + 1)) (fun v' hv' h => by
      have := ih v' hv' (by omega) k
      rw [hb] at this
      exact this)
    simp only [roundR, hb0] at this
    exact this

section
open Classical
variable {α τ : Type}
/-- When one of a family of states or arguments is met; which. -/
noncomputable def goodS (S : α → St) (Inv : α → Prop) (s : St) : Bool := decide (∃ v, Inv v ∧ S v = s)
noncomputable def valS [Inhabited τ] (S : α → St) (Inv : α → Prop) (w : α → τ) (s : St) : τ := if h : ∃ v, Inv v ∧ S v = s then w h.choose else default
noncomputable def goodA (A : α → List AV) (O : α → List AO) (Pre : α → Prop) (l : List AV) (os : List AO) : Bool := decide (∃ v, Pre v ∧ A v = l ∧ O v = os)
noncomputable def valA [Inhabited τ] (A : α → List AV) (O : α → List AO) (Pre : α → Prop) (w : α → τ) (l : List AV) (os : List AO) : τ := if h : ∃ v, Pre v ∧ A v = l ∧ O v = os then w h.choose else default

theorem goodS_eq {S : α → St} {Inv : α → Prop} {v : α} (h : Inv v) : goodS S Inv (S v) = true := decide_eq_true ⟨v, h, rfl⟩
theorem valS_eq [Inhabited τ] {S : α → St} {Inv : α → Prop} {w : α → τ} (hi : ∀ a b, Inv a → Inv b → S a = S b → w a = w b) {v : α} (h : Inv v) : valS S Inv w (S v) = w v := by
  have hx : ∃ u, Inv u ∧ S u = S v := ⟨v, h, rfl⟩
  unfold valS
  rw [dif_pos hx]
  exact hi _ _ hx.choose_spec.1 h hx.choose_spec.2
theorem goodA_eq {A : α → List AV} {O : α → List AO} {Pre : α → Prop} {v : α} (h : Pre v) : goodA A O Pre (A v) (O v) = true := decide_eq_true ⟨v, h, rfl, rfl⟩
theorem valA_eq [Inhabited τ] {A : α → List AV} {O : α → List AO} {Pre : α → Prop} {w : α → τ} (hi : ∀ a b, Pre a → Pre b → A a = A b → O a = O b → w a = w b) {v : α} (h : Pre v) : valA A O Pre w (A v) (O v) = w v := by
  have hx : ∃ u, Pre u ∧ A u = A v ∧ O u = O v := ⟨v, h, rfl, rfl⟩
  unfold valA
  rw [dif_pos hx]
  exact hi _ _ hx.choose_spec.1 h hx.choose_spec.2.1 hx.choose_spec.2.2

/-- A contract as an entry of the table. -/
noncomputable def entC [Inhabited τ] (f : FuncId) (A : α → List AV) (O : α → List AO) (Pre : α → Prop) (w : α → τ) (φ : τ → AV × List AO) : Ent := mkE f (goodA A O Pre) (valA A O Pre w) φ

theorem entC_ok [Inhabited τ] {V : Env} {f : FuncId} {A : α → List AV} {O : α → List AO} {Pre : α → Prop} {w : α → τ} {φ : τ → AV × List AO} (h : ∀ a, Pre a → Ct V.P V.G f (A a) (O a) (φ (w a))) :
    ∀ l os, (entC f A O Pre w φ).pre l os = true → Ct V.P V.G (entC f A O Pre w φ).f l os ((entC f A O Pre w φ).ans l os) := by
  intro l os hp
  have hx : ∃ v, Pre v ∧ A v = l ∧ O v = os := of_decide_eq_true hp
  show Ct V.P V.G f l os (φ (valA A O Pre w l os))
  unfold valA
  rw [dif_pos hx]
  have := h _ hx.choose_spec.1
  rw [hx.choose_spec.2.1, hx.choose_spec.2.2] at this
  exact this

/-- A loop whose rounds are known. -/
theorem loopOk_of [Inhabited τ] {X : Cfg} {f : FuncId} {p : List Nat} {b : Code} (S : α → St) (Inv : α → Prop) (μ : α → Nat) (w : α → τ) (out : τ → (Ex → St → Res) → Res) (hb : subC (bodyOf X.P f) p = .loop b) (n : Nat)
    (round : ∀ v, Inv v → ∀ (k : Ex → St → Res) (kn : St → Res), (∀ v', Inv v' → μ v' < μ v → kn (S v') = out (w v') k) → roundR X f n p (S v) kn k = out (w v) k) :
    LoopOk X f p (mkO (goodS S Inv) (valS S Inv w) out) := by
  intro s k r h
  unfold mkO at h
  obtain ⟨hg, h⟩ := cond_none h
  have hx : ∃ v, Inv v ∧ S v = s := of_decide_eq_true hg
  unfold valS at h
  rw [dif_pos hx] at h
  refine ⟨n, μ hx.choose, ?_⟩
  have := loop_run S Inv μ (fun v => out (w v)) hb round (μ hx.choose) hx.choose hx.choose_spec.1 (Nat.le_refl _) k
  rw [hx.choose_spec.2] at this
  rw [this]; exact h

theorem cutOk_of [Inhabited τ] {X : Cfg} {f : FuncId} {p : List Nat} (S : α → St) (Inv : α → Prop) (w : α → τ) (out : τ → (Ex → St → Res) → Res)
    (h : ∀ v, Inv v → ∃ n, ∀ k : Ex → St → Res, runC X f n (subC (bodyOf X.P f) p) p (S v) k = out (w v) k) : CutOk X f p (mkO (goodS S Inv) (valS S Inv w) out) := by
  intro s k r hr
  unfold mkO at hr
  obtain ⟨hg, hr⟩ := cond_none hr
  have hx : ∃ v, Inv v ∧ S v = s := of_decide_eq_true hg
  unfold valS at hr
  rw [dif_pos hx] at hr
  obtain ⟨n, hn⟩ := h _ hx.choose_spec.1
  refine ⟨n, ?_⟩
  have := hn k
  rw [hx.choose_spec.2] at this
  rw [this]; exact hr
end

open Classical in
theorem viewOk_of {α : Type} [Inhabited α] (S : α → St) (Inv : α → Prop) : ViewOk (mkV (goodS S Inv) (valS S Inv id) S) := by
  intro s k r h
  unfold mkV at h
  obtain ⟨hg, h⟩ := cond_none h
  have hx : ∃ v, Inv v ∧ S v = s := of_decide_eq_true hg
  unfold valS at h
  rw [dif_pos hx, id, hx.choose_spec.2] at h
  exact ⟨s, h, fun B c a h1 h2 => ⟨c, rfl, h1, h2⟩⟩

theorem wrap_i64 {x : Int} (h0 : -9223372036854775808 ≤ x) (h1 : x < 9223372036854775808) : IntKind.i64.wrap x = x := by
  simp [IntKind.wrap, IntKind.signed, IntKind.bits] <;> (try split) <;> omega
theorem within_of {x : Int} {n : Nat} (h0 : 0 ≤ x) (h1 : x < n) : within x n = true := by simp [within, h0, h1]
end Go.Ab

namespace Go.Ab
open Go

section
variable {τ : Type} [Inhabited τ]
/-- From place i on, below n, the first place at which stop answers. -/
def scan (n : Nat) (nxt : Nat → Nat) (stop : Nat → Option τ) : Nat → Nat → Bool × τ
  | 0, _ => (false, default)
  | d + 1, i => if i < n then (match stop i with
      | some t => (true, t)
      | none => scan n nxt stop d (nxt i)) else (false, default)
theorem scan_fuel {n : Nat} {nxt : Nat → Nat} {stop : Nat → Option τ} (hn : ∀ i, i < n → i < nxt i) : ∀ (d e i : Nat), n - i ≤ d → n - i ≤ e → scan n nxt stop d i = scan n nxt stop e i
  | 0, e, i, h, h' => by
    cases e with
    | zero => rfl
    | succ e => simp only [scan]; rw [if_neg (by omega)]
  | d + 1, 0, i, h, h' => by simp only [scan]; rw [if_neg (by omega)]
  | d + 1, e + 1, i, h, h' => by
    simp only [scan]
    by_cases hi : i < n
    · rw [if_pos hi, if_pos hi]
      have := hn i hi
      rw [scan_fuel hn d e (nxt i) (by omega) (by omega)]
    · rw [if_neg hi, if_neg hi]
/-- The scan from i on. -/
def scanAt (n : Nat) (nxt : Nat → Nat) (stop : Nat → Option τ) (i : Nat) : Bool × τ := scan n nxt stop (n - i) i
theorem scanAt_end (n : Nat) (nxt : Nat → Nat) (stop : Nat → Option τ) {i : Nat} (h : ¬ i < n) : scanAt n nxt stop i = (false, default) := by
  unfold scanAt
  rw [show n - i = 0 by omega]; rfl
theorem scanAt_step {n : Nat} {nxt : Nat → Nat} {stop : Nat → Option τ} (hn : ∀ i, i < n → i < nxt i) {i : Nat} (h : i < n) : scanAt n nxt stop i = (match stop i with
    | some t => (true, t)
    | none => scanAt n nxt stop (nxt i)) := by
  unfold scanAt
  obtain ⟨d, hd⟩ : ∃ d, n - i = d + 1 := ⟨n - i - 1, by omega⟩
  rw [hd]
  simp only [scan]
  rw [if_pos h]
  have := hn i h
  rw [scan_fuel hn d (n - nxt i) (nxt i) (by omega) (Nat.le_refl _)]
theorem scan_congr {n : Nat} {nxt nxt' : Nat → Nat} {stop stop' : Nat → Option τ} (hx : ∀ i, i < n → nxt i = nxt' i) (hs : ∀ i, i < n → stop i = stop' i) : ∀ d i, scan n nxt stop d i = scan n nxt' stop' d i
  | 0, _ => rfl
  | d + 1, i => by
    simp only [scan]
    by_cases h : i < n
    · rw [if_pos h, if_pos h, hx i h, hs i h, scan_congr hx hs d]
    · rw [if_neg h, if_neg h]
theorem scanAt_congr {n : Nat} {nxt : Nat → Nat} {stop stop' : Nat → Option τ} (hs : ∀ i, i < n → stop i = stop' i) (i : Nat) : scanAt n nxt stop i = scanAt n nxt stop' i := scan_congr (fun _ _ => rfl) hs _ _

theorem scan_val {n : Nat} {nxt : Nat → Nat} {stop : Nat → Option τ} {P : τ → Prop} (h : ∀ i t, i < n → stop i = some t → P t) : ∀ d i, (scan n nxt stop d i).1 = true → P (scan n nxt stop d i).2
  | 0, i, hs => by simp [scan] at hs
  | d + 1, i, hs => by
    simp only [scan] at hs ⊢
    by_cases hi : i < n
    · rw [if_pos hi] at hs ⊢
      cases ht : stop i with
      | some t => exact h i t hi ht
      | none => rw [ht] at hs; exact scan_val h d (nxt i) hs
    · rw [if_neg hi] at hs; simp at hs
theorem scanAt_val {n : Nat} {nxt : Nat → Nat} {stop : Nat → Option τ} {P : τ → Prop} (h : ∀ i t, i < n → stop i = some t → P t) (i : Nat) (hs : (scanAt n nxt stop i).1 = true) : P (scanAt n nxt stop i).2 := scan_val h _ _ hs
/-- A scan for a place that is bad. -/
def seek (n : Nat) (nxt : Nat → Nat) (bad : Nat → Bool) (t : τ) : Bool × τ := scanAt n nxt (fun i => bif bad i then some t else none) 0
theorem seek_val {n : Nat} {nxt : Nat → Nat} {bad : Nat → Bool} {t : τ} (h : (seek n nxt bad t).1 = true) : (seek n nxt bad t).2 = t :=
  scanAt_val (P := fun x => x = t) (fun i u _ hu => by cases hb : bad i <;> simp [hb] at hu; exact hu.symm) 0 h

/-- What stands behind a scan: it stopped with a value, or it came to the end. -/
def outB (outS : τ → (Ex → St → Res) → Res) (outE : (Ex → St → Res) → Res) (o : Bool × τ) (k : Ex → St → Res) : Res := cond o.1 (outS o.2 k) (outE k)

theorem loopOk_scan {X : Cfg} {f : FuncId} {p : List Nat} {b : Code} (S : Nat → St) (n : Nat) (nxt : Nat → Nat) (stop : Nat → Option τ) (outS : τ → (Ex → St → Res) → Res) (outE : (Ex → St → Res) → Res)
    (hb : subC (bodyOf X.P f) p = .loop b) (m : Nat) (hn : ∀ i, i < n → i < nxt i ∧ nxt i ≤ n)
    (hstep : ∀ i, i < n → ∀ kn k, roundR X f m p (S i) kn k = (match stop i with | some t => outS t k | none => kn (S (nxt i))))
    (hend : ∀ kn k, roundR X f m p (S n) kn k = outE k) :
    LoopOk X f p (mkO (goodS S (· ≤ n)) (valS S (· ≤ n) (scanAt n nxt stop)) (outB outS outE)) := by
  refine loopOk_of S (· ≤ n) (fun i => n - i) (scanAt n nxt stop) (outB outS outE) hb m fun i hi k kn hk => ?_
  have hi : i ≤ n := hi
  by_cases h : i < n
  · rw [hstep i h, scanAt_step (fun i hi => (hn i hi).1) h]
    have := hn i h
    cases hs : stop i with
    | some t => rfl
    | none => exact hk (nxt i) this.2 (by omega)
  · obtain rfl : i = n := by omega
    rw [hend, scanAt_end _ _ _ h]; rfl
end

/-- A scan for a bad place. -/
theorem loopOk_seek {τ : Type} [Inhabited τ] {X : Cfg} {f : FuncId} {p : List Nat} {b : Code} (S : Nat → St) (n : Nat) (nxt : Nat → Nat) (bad : Nat → Bool) (t : τ) (outS : τ → (Ex → St → Res) → Res) (outE : (Ex → St → Res) → Res)
    (hb : subC (bodyOf X.P f) p = .loop b) (m : Nat) (hn : ∀ i, i < n → i < nxt i ∧ nxt i ≤ n)
    (hstep : ∀ i, i < n → ∀ kn k, roundR X f m p (S i) kn k = cond (bad i) (outS t k) (kn (S (nxt i))))
    (hend : ∀ kn k, roundR X f m p (S n) kn k = outE k) :
    LoopOk X f p (mkO (goodS S (· ≤ n)) (valS S (· ≤ n) (scanAt n nxt (fun i => bif bad i then some t else none))) (outB outS outE)) :=
  loopOk_scan S n nxt _ outS outE hb m hn (fun i hi kn k => by rw [hstep i hi kn k]; cases bad i <;> rfl) hend
theorem seek_at {τ : Type} [Inhabited τ] (S : Nat → St) (n : Nat) (nxt : Nat → Nat) (bad : Nat → Bool) (t : τ) (hi : ∀ i j, S i = S j → i = j) :
    goodS S (· ≤ n) (S 0) = true ∧ valS S (· ≤ n) (scanAt n nxt (fun i => bif bad i then some t else none)) (S 0) = seek n nxt bad t :=
  ⟨goodS_eq (Nat.zero_le _), valS_eq (fun a b _ _ h => by rw [hi a b h]) (Nat.zero_le _)⟩
theorem wrap_next {i n : Nat} (h : i < n) (hn : n ≤ 4611686018427387904) : IntKind.wrap .i64 ((i : Int) + 1) = ((i + 1 : Nat) : Int) := by rw [wrap_i64 (by omega) (by omega)]; rfl
theorem lt_true {i n : Nat} (h : i < n) : decide ((i : Int) < (n : Int)) = true := decide_eq_true (by omega)
theorem lt_false {i n : Nat} (h : ¬ i < n) : decide ((i : Int) < (n : Int)) = false := decide_eq_false (by omega)
theorem within_lt {i n : Nat} (h : i < n) : within (i : Int) n = true := within_of (by omega) (by omega)

/-- A function's answer out of a loop. -/
def retI (t : Nat) (n : Int) (k : Ex → St → Res) : Res := k .ret { env := [(t, .int .i64 n)], objs := [] }
def retB (t : Nat) (b : Bool) (k : Ex → St → Res) : Res := k .ret { env := [(t, .bool b)], objs := [] }
end Go.Ab

namespace Go.Ab
open Go
section
variable {τ : Type} [Inhabited τ]
noncomputable def g1 (A : List AV) : List AV → List AO → Bool := goodA (fun _ : Unit => A) (fun _ => []) (fun _ => True)
noncomputable def v1 (A : List AV) (w : τ) : List AV → List AO → τ := valA (fun _ : Unit => A) (fun _ => []) (fun _ => True) (fun _ => w)
noncomputable def ent1 (f : FuncId) (A : List AV) (w : τ) (φ : τ → AV × List AO) : Ent := mkE f (g1 A) (v1 A w) φ
theorem g1_eq (A : List AV) : g1 A A [] = true := goodA_eq (A := fun _ : Unit => A) (v := ()) trivial
theorem v1_eq (A : List AV) (w : τ) : v1 A w A [] = w := valA_eq (A := fun _ : Unit => A) (v := ()) (fun _ _ _ _ _ _ => rfl) trivial
theorem ent1_ok {V : Env} {f : FuncId} {A : List AV} {w : τ} {φ : τ → AV × List AO} (h : Ct V.P V.G f A [] (φ w)) : ∀ l os, (ent1 f A w φ).pre l os = true → Ct V.P V.G (ent1 f A w φ).f l os ((ent1 f A w φ).ans l os) :=
  entC_ok (w := fun _ : Unit => w) (φ := φ) fun _ _ => h
/-- Contracts for a family of arguments that can be told apart. -/
noncomputable def gF {α : Type} (A : α → List AV) (Pre : α → Prop) : List AV → List AO → Bool := goodA A (fun _ => []) Pre
noncomputable def vF {α : Type} (A : α → List AV) (Pre : α → Prop) (w : α → τ) : List AV → List AO → τ := valA A (fun _ => []) Pre w
noncomputable def entF {α : Type} (f : FuncId) (A : α → List AV) (Pre : α → Prop) (w : α → τ) (φ : τ → AV × List AO) : Ent := mkE f (gF A Pre) (vF A Pre w) φ
theorem gF_eq {α : Type} {A : α → List AV} {Pre : α → Prop} {a : α} (h : Pre a) : gF A Pre (A a) [] = true := goodA_eq (A := A) h
theorem vF_eq {α : Type} {A : α → List AV} {Pre : α → Prop} {w : α → τ} (hi : ∀ a b, A a = A b → w a = w b) {a : α} (h : Pre a) : vF A Pre w (A a) [] = w a := valA_eq (A := A) (fun a b _ _ h _ => hi a b h) h
theorem entF_ok {V : Env} {α : Type} {f : FuncId} {A : α → List AV} {Pre : α → Prop} {w : α → τ} {φ : τ → AV × List AO} (h : ∀ a, Pre a → Ct V.P V.G f (A a) [] (φ (w a))) : ∀ l os, (entF f A Pre w φ).pre l os = true → Ct V.P V.G (entF f A Pre w φ).f l os ((entF f A Pre w φ).ans l os) :=
  entC_ok (w := w) (φ := φ) h
end
end Go.Ab

namespace Go.Ab
open Go
section
variable {α τ : Type} [Inhabited τ]
open Classical in
theorem ent_ex {V : Env} {f : FuncId} {A : α → List AV} {O : α → List AO} {Pre : α → Prop} {φ : τ → AV × List AO} {Post : α → τ → Prop} (h : ∀ a, Pre a → ∃ x, Post a x ∧ Ct V.P V.G f (A a) (O a) (φ x)) :
    ∃ w : α → τ, (∀ a, Pre a → Post a (w a)) ∧ ∀ l os, (entC f A O Pre w φ).pre l os = true → Ct V.P V.G (entC f A O Pre w φ).f l os ((entC f A O Pre w φ).ans l os) := by
  refine ⟨fun a => if ha : Pre a then (h a ha).choose else default, fun a ha => ?_, entC_ok fun a ha => ?_⟩
  · simp only [ha, dif_pos]; exact (h a ha).choose_spec.1
  · simp only [ha, dif_pos]; exact (h a ha).choose_spec.2
theorem valA_post {A : α → List AV} {O : α → List AO} {Pre : α → Prop} {w : α → τ} {Post : α → τ → Prop} (hw : ∀ a, Pre a → Post a (w a)) (hi : ∀ a b x, A a = A b → O a = O b → Post a x → Post b x) {a : α} (h : Pre a) : Post a (valA A O Pre w (A a) (O a)) := by
  have hx : ∃ u, Pre u ∧ A u = A a ∧ O u = O a := ⟨a, h, rfl, rfl⟩
  unfold valA
  rw [dif_pos hx]
  exact hi _ _ _ hx.choose_spec.2.1 hx.choose_spec.2.2 (hw _ hx.choose_spec.1)
theorem valS_post {S : α → St} {Inv : α → Prop} {w : α → τ} {Post : α → τ → Prop} (hw : ∀ a, Inv a → Post a (w a)) (hi : ∀ a b x, S a = S b → Post a x → Post b x) {a : α} (h : Inv a) : Post a (valS S Inv w (S a)) := by
  have hx : ∃ u, Inv u ∧ S u = S a := ⟨a, h, rfl⟩
  unfold valS
  rw [dif_pos hx]
  exact hi _ _ _ hx.choose_spec.2 (hw _ hx.choose_spec.1)
open Classical in
theorem loop_ex {ι : Type} {Xf : ι → Cfg} {f : FuncId} {p : List Nat} {b : Code} (S : α → St) (Inv : α → Prop) (μ : α → Nat) (out : τ → (Ex → St → Res) → Res) (Post : α → τ → Prop) (hb : ∀ i, subC (bodyOf (Xf i).P f) p = .loop b) (n : Nat)
    (round : ∀ v, Inv v → (∃ o, Post v o ∧ ∀ (i : ι) (k : Ex → St → Res) (kn : St → Res), roundR (Xf i) f n p (S v) kn k = out o k) ∨
      ∃ v', Inv v' ∧ μ v' < μ v ∧ (∀ o, Post v' o → Post v o) ∧ ∀ (i : ι) (k : Ex → St → Res) (kn : St → Res), roundR (Xf i) f n p (S v) kn k = kn (S v')) :
    ∃ w : α → τ, (∀ v, Inv v → Post v (w v)) ∧ ∀ i, LoopOk (Xf i) f p (mkO (goodS S Inv) (valS S Inv w) out) := by
  let F : (v : α) → ((v' : α) → μ v' < μ v → τ) → τ := fun v rec =>
    if hi : Inv v then
      if h1 : ∃ o, Post v o ∧ ∀ (i : ι) (k : Ex → St → Res) (kn : St → Res), roundR (Xf i) f n p (S v) kn k = out o k then h1.choose
      else if h2 : ∃ v', Inv v' ∧ μ v' < μ v ∧ (∀ o, Post v' o → Post v o) ∧ ∀ (i : ι) (k : Ex → St → Res) (kn : St → Res), roundR (Xf i) f n p (S v) kn k = kn (S v') then rec h2.choose h2.choose_spec.2.1
      else default
    else default
  let w : α → τ := WellFounded.fix (measure μ).wf F
  have hw : ∀ v, w v = F v fun v' _ => w v' := fun v => WellFounded.fix_eq (measure μ).wf F v
  have hpost : ∀ (m : Nat) (v : α), μ v ≤ m → Inv v → Post v (w v) := by
    intro m
    induction m with
    | zero =>
      intro v hm hi
      rw [hw]
      simp only [F]
      rw [dif_pos hi]
      by_cases h1 : ∃ o, Post v o ∧ ∀ (i : ι) (k : Ex → St → Res) (kn : St → Res), roundR (Xf i) f n p (S v) kn k = out o k
      · rw [dif_pos h1]; exact h1.choose_spec.1
      · obtain ⟨v', _, h, _⟩ := (round v hi).resolve_left h1
        omega
    | succ m ih =>
      intro v hm hi
      rw [hw]
      simp only [F]
      rw [dif_pos hi]
      by_cases h1 : ∃ o, Post v o ∧ ∀ (i : ι) (k : Ex → St → Res) (kn : St → Res), roundR (Xf i) f n p (S v) kn k = out o k
      · rw [dif_pos h1]; exact h1.choose_spec.1
      · have h2 := (round v hi).resolve_left h1
        rw [dif_neg h1, dif_pos h2]
        have := h2.choose_spec
        exact this.2.2.1 _ (ih _ (by omega) this.1)
  refine ⟨w, fun v hi => hpost _ v (Nat.le_refl _) hi, fun i => ?_⟩
  refine loopOk_of S Inv μ w out (hb i) n fun v hi k kn hk => ?_
  rw [hw]
  simp only [F]
  rw [dif_pos hi]
  by_cases h1 : ∃ o, Post v o ∧ ∀ (i : ι) (k : Ex → St → Res) (kn : St → Res), roundR (Xf i) f n p (S v) kn k = out o k
  · rw [dif_pos h1]; exact h1.choose_spec.2 i k kn
  · have h2 := (round v hi).resolve_left h1
    rw [dif_neg h1, dif_pos h2]
    have := h2.choose_spec
    rw [this.2.2.2 i k kn]
    exact hk _ this.1 this.2.1
end
section
variable {τ : Type}
/-- One call, its answer known. -/
noncomputable def entK (f : FuncId) (A : List AV) (O : List AO) (x : τ) (φ : τ → AV × List AO) : Ent := mkE f (goodA (fun _ : Unit => A) (fun _ => O) (fun _ => True)) (fun _ _ => x) φ
open Classical in
theorem entK_ok {V : Env} {f : FuncId} {A : List AV} {O : List AO} {x : τ} {φ : τ → AV × List AO} (h : Ct V.P V.G f A O (φ x)) : ∀ l os, (entK f A O x φ).pre l os = true → Ct V.P V.G (entK f A O x φ).f l os ((entK f A O x φ).ans l os) := by
  intro l os hp
  obtain ⟨_, _, h1, h2⟩ : ∃ v : Unit, True ∧ A = l ∧ O = os := of_decide_eq_true hp
  subst h1 h2
  exact h
theorem gK_eq (A : List AV) (O : List AO) : goodA (fun _ : Unit => A) (fun _ => O) (fun _ => True) A O = true := goodA_eq (A := fun _ : Unit => A) (O := fun _ => O) (v := ()) trivial
end
end Go.Ab

namespace Go.Ab
open Go
/-- Down a condition. -/
theorem cx {α : Type} {Q : α → Prop} {c : Bool} {A B : α} (h1 : c = true → Q A) (h2 : c = false → Q B) : Q (cond c A B) := by
  cases c
  · exact h2 rfl
  · exact h1 rfl
/-- A run comes to an answer with such properties. -/
def RunTo {τ : Type} (Post : τ → Prop) (φ : τ → AV × List AO) (e : Res) : Prop := ∃ x, Post x ∧ e = some (φ x)
theorem RunTo.c {τ : Type} {Post : τ → Prop} {φ : τ → AV × List AO} {c : Bool} {a b : Res} (h1 : c = true → RunTo Post φ a) (h2 : c = false → RunTo Post φ b) : RunTo Post φ (cond c a b) := cx (Q := RunTo Post φ) h1 h2
theorem RunTo.t {τ : Type} {Post : τ → Prop} {φ : τ → AV × List AO} {c : Bool} {a b : Res} (h : c = true) (h1 : RunTo Post φ a) : RunTo Post φ (cond c a b) := by subst h; exact h1
theorem RunTo.f {τ : Type} {Post : τ → Prop} {φ : τ → AV × List AO} {c : Bool} {a b : Res} (h : c = false) (h1 : RunTo Post φ b) : RunTo Post φ (cond c a b) := by subst h; exact h1
theorem RunTo.ret {τ : Type} {Post : τ → Prop} {φ : τ → AV × List AO} {r : AV × List AO} (x : τ) (h : Post x) (he : r = φ x) : RunTo Post φ (some r) := ⟨x, h, by rw [he]⟩
theorem RunTo.eq {τ : Type} {Post : τ → Prop} {φ : τ → AV × List AO} {e e' : Res} (h : e = e') (h1 : RunTo Post φ e') : RunTo Post φ e := by rw [h]; exact h1
theorem RunTo.mono {τ : Type} {Post Post' : τ → Prop} {φ : τ → AV × List AO} {e : Res} (h : ∀ x, Post x → Post' x) (h1 : RunTo Post φ e) : RunTo Post' φ e := by
  obtain ⟨x, h2, h3⟩ := h1; exact ⟨x, h x h2, h3⟩
section
variable {α τ ι : Type}
/-- A round comes to the loop's end, or to the next round. -/
def RT (S : α → St) (Inv : α → Prop) (μ : α → Nat) (out : τ → (Ex → St → Res) → Res) (Post : α → τ → Prop) (v : α) (e : ι → (Ex → St → Res) → (St → Res) → Res) : Prop :=
  (∃ o, Post v o ∧ ∀ (i : ι) (k : Ex → St → Res) (kn : St → Res), e i k kn = out o k) ∨
    ∃ v', Inv v' ∧ μ v' < μ v ∧ (∀ o, Post v' o → Post v o) ∧ ∀ (i : ι) (k : Ex → St → Res) (kn : St → Res), e i k kn = kn (S v')
variable {S : α → St} {Inv : α → Prop} {μ : α → Nat} {out : τ → (Ex → St → Res) → Res} {Post : α → τ → Prop} {v : α}
theorem RT.c {c : Bool} {a b : ι → (Ex → St → Res) → (St → Res) → Res} (h1 : c = true → RT S Inv μ out Post v a) (h2 : c = false → RT S Inv μ out Post v b) : RT S Inv μ out Post v (fun i k kn => cond c (a i k kn) (b i k kn)) := by
  cases c
  · exact h2 rfl
  · exact h1 rfl
theorem RT.t {c : Bool} {a b : ι → (Ex → St → Res) → (St → Res) → Res} (h : c = true) (h1 : RT S Inv μ out Post v a) : RT S Inv μ out Post v (fun i k kn => cond c (a i k kn) (b i k kn)) := by
  subst h; exact h1
theorem RT.f {c : Bool} {a b : ι → (Ex → St → Res) → (St → Res) → Res} (h : c = false) (h1 : RT S Inv μ out Post v b) : RT S Inv μ out Post v (fun i k kn => cond c (a i k kn) (b i k kn)) := by
  subst h; exact h1
theorem RT.eq {e e' : ι → (Ex → St → Res) → (St → Res) → Res} (h : ∀ i k kn, e i k kn = e' i k kn) (h1 : RT S Inv μ out Post v e') : RT S Inv μ out Post v e := by
  rcases h1 with ⟨o, h2, h3⟩ | ⟨v', h2, h3, h4, h5⟩
  · exact Or.inl ⟨o, h2, fun i k kn => (h i k kn).trans (h3 i k kn)⟩
  · exact Or.inr ⟨v', h2, h3, h4, fun i k kn => (h i k kn).trans (h5 i k kn)⟩
theorem RT.fin (o : τ) (h : Post v o) {e : ι → (Ex → St → Res) → (St → Res) → Res} (he : ∀ i k kn, e i k kn = out o k) : RT S Inv μ out Post v e := Or.inl ⟨o, h, he⟩
theorem RT.next (v' : α) (h : Inv v') (hm : μ v' < μ v) (hp : ∀ o, Post v' o → Post v o) {e : ι → (Ex → St → Res) → (St → Res) → Res} (he : ∀ i k kn, e i k kn = kn (S v')) : RT S Inv μ out Post v e := Or.inr ⟨v', h, hm, hp, he⟩
theorem loop_rt [Inhabited τ] {Xf : ι → Cfg} {f : FuncId} {p : List Nat} {b : Code} (S : α → St) (Inv : α → Prop) (μ : α → Nat) (out : τ → (Ex → St → Res) → Res) (Post : α → τ → Prop) (hb : ∀ i, subC (bodyOf (Xf i).P f) p = .loop b) (n : Nat)
    (round : ∀ v, Inv v → RT S Inv μ out Post v fun (i : ι) (k : Ex → St → Res) (kn : St → Res) => roundR (Xf i) f n p (S v) kn k) :
    ∃ w : α → τ, (∀ v, Inv v → Post v (w v)) ∧ ∀ i, LoopOk (Xf i) f p (mkO (goodS S Inv) (valS S Inv w) out) := loop_ex S Inv μ out Post hb n round
/-- The same, when and which hidden. -/
theorem loop_any [Inhabited τ] {Xf : ι → Cfg} {f : FuncId} {p : List Nat} {b : Code} (S : α → St) (Inv : α → Prop) (μ : α → Nat) (out : τ → (Ex → St → Res) → Res) (Post : α → τ → Prop) (hb : ∀ i, subC (bodyOf (Xf i).P f) p = .loop b) (n : Nat)
    (hi : ∀ a b x, S a = S b → Post a x → Post b x)
    (round : ∀ v, Inv v → RT S Inv μ out Post v fun (i : ι) (k : Ex → St → Res) (kn : St → Res) => roundR (Xf i) f n p (S v) kn k) :
    ∃ (u : St → Bool) (w : St → τ), (∀ a, Inv a → u (S a) = true ∧ Post a (w (S a))) ∧ ∀ i, LoopOk (Xf i) f p (mkO u w out) := by
  obtain ⟨w, hw, hl⟩ := loop_rt S Inv μ out Post hb n round
  exact ⟨goodS S Inv, valS S Inv w, fun a ha => ⟨goodS_eq ha, valS_post hw hi ha⟩, hl⟩
theorem ent_any [Inhabited τ] {V : Env} {f : FuncId} {A : α → List AV} {O : α → List AO} {Pre : α → Prop} {φ : τ → AV × List AO} (Post : α → τ → Prop) (hi : ∀ a b x, A a = A b → O a = O b → Post a x → Post b x) (h : ∀ a, Pre a → ∃ x, Post a x ∧ Ct V.P V.G f (A a) (O a) (φ x)) :
    ∃ (g : List AV → List AO → Bool) (w : List AV → List AO → τ), (∀ a, Pre a → g (A a) (O a) = true ∧ Post a (w (A a) (O a))) ∧ ∀ l os, (mkE f g w φ).pre l os = true → Ct V.P V.G (mkE f g w φ).f l os ((mkE f g w φ).ans l os) := by
  obtain ⟨w, hw, he⟩ := ent_ex h
  exact ⟨goodA A O Pre, valA A O Pre w, fun a ha => ⟨goodA_eq ha, valA_post hw hi ha⟩, he⟩
/-- A run's contract, its answer followed down. -/
theorem ct_to {V : Env} {T : List Ent} {d : Nat} {L : List (List Nat × Orc)} {f : FuncId} {n : Nat} {l : List AV} {os : List AO} {Post : τ → Prop} {φ : τ → AV × List AO} (hm : V.P.follows .mixedOrders = true) (hP : FuncsOk V.P) (hT : TabOk V T)
    (hL : LoopsOk (V.run T d [] L [] f) f L) (he : RunTo Post φ (runF (V.run T d [] L [] f) n f l os)) : ∃ x, Post x ∧ Ct V.P V.G f l os (φ x) := by
  obtain ⟨x, h1, h2⟩ := he
  exact ⟨x, h1, ct_loops hm hP hT hL h2⟩
end
end Go.Ab

namespace Go.Ab
open Go
section
variable {τ : Type} {Post : τ → Prop} {φ : τ → AV × List AO}
theorem RunTo.by {e e' : Res} (h1 : RunTo Post φ e') (h : e = e') : RunTo Post φ e := h ▸ h1
theorem RunTo.n {c : Bool} {a : Res} (h : c = true) (h1 : RunTo Post φ a) : RunTo Post φ (cond c a none) := RunTo.t h h1
theorem RunTo.r (x : τ) (h : Post x) : RunTo Post φ (some (φ x)) := RunTo.ret x h rfl
theorem RunTo.g {α : Type} {T : α → Res} (x : α) (h : ∀ t, x = t → RunTo Post φ (T t)) : RunTo Post φ (T x) := h x rfl
/-- A call that is known: it may be asked, its answer is such. -/
def Asks {α : Type} (g : List AV → List AO → Bool) (w : List AV → List AO → α) (A : List AV) (O : List AO) (Q : α → Prop) : Prop := g A O = true ∧ Q (w A O)
/-- A loop that is known. -/
def Loops {α : Type} (g : St → Bool) (w : St → α) (s : St) (Q : α → Prop) : Prop := g s = true ∧ Q (w s)
theorem RunTo.ask {α : Type} {g : List AV → List AO → Bool} {w : List AV → List AO → α} {A : List AV} {O : List AO} {Q : α → Prop} {T : α → Res} (h : Asks g w A O Q) (k : ∀ t, Q t → RunTo Post φ (T t)) : RunTo Post φ (cond (g A O) (T (w A O)) none) := RunTo.t h.1 (k _ h.2)
theorem RunTo.lp {α : Type} {g : St → Bool} {w : St → α} {s : St} {Q : α → Prop} {T : α → Res} (h : Loops g w s Q) (k : ∀ t, Q t → RunTo Post φ (T t)) : RunTo Post φ (cond (g s) (T (w s)) none) := RunTo.t h.1 (k _ h.2)
/-- Down a condition that is named. -/
theorem RunTo.b {a b : Res} (c : Bool) (h1 : c = true → RunTo Post φ a) (h2 : c = false → RunTo Post φ b) : RunTo Post φ (cond c a b) := RunTo.c h1 h2
end
section
variable {α τ ι : Type} {S : α → St} {Inv : α → Prop} {μ : α → Nat} {out : τ → (Ex → St → Res) → Res} {Post : α → τ → Prop} {v : α}
theorem RT.by {e e' : ι → (Ex → St → Res) → (St → Res) → Res} (h1 : RT S Inv μ out Post v e') (h : ∀ i k kn, e i k kn = e' i k kn) : RT S Inv μ out Post v e := RT.eq h h1
theorem RT.n {c : Bool} {a : ι → (Ex → St → Res) → (St → Res) → Res} (h : c = true) (h1 : RT S Inv μ out Post v a) : RT S Inv μ out Post v (fun i k kn => cond c (a i k kn) none) := RT.t h h1
theorem RT.b {a b : ι → (Ex → St → Res) → (St → Res) → Res} (c : Bool) (h1 : c = true → RT S Inv μ out Post v a) (h2 : c = false → RT S Inv μ out Post v b) : RT S Inv μ out Post v (fun i k kn => cond c (a i k kn) (b i k kn)) := RT.c h1 h2
theorem RT.nx (s : St) (v' : α) (h : Inv v') (hm : μ v' < μ v) (hp : ∀ o, Post v' o → Post v o) (hs : s = S v') : RT S Inv μ out Post v (fun (_ : ι) (_ : Ex → St → Res) (kn : St → Res) => kn s) := RT.next v' h hm hp fun _ _ _ => by rw [hs]
theorem RT.fi (o : τ) (h : Post v o) : RT S Inv μ out Post v (fun (_ : ι) (k : Ex → St → Res) (_ : St → Res) => out o k) := RT.fin o h fun _ _ _ => rfl
theorem RT.ask {β : Type} {g : List AV → List AO → Bool} {w : List AV → List AO → β} {A : List AV} {O : List AO} {Q : β → Prop} {T : β → ι → (Ex → St → Res) → (St → Res) → Res} (h : Asks g w A O Q) (k : ∀ t, Q t → RT S Inv μ out Post v (T t)) : RT S Inv μ out Post v (fun i k kn => cond (g A O) (T (w A O) i k kn) none) := RT.t h.1 (k _ h.2)
end
/-- What an entry of a table is. -/
def EntOk {τ : Type} (V : Env) (f : FuncId) (g : List AV → List AO → Bool) (w : List AV → List AO → τ) (φ : τ → AV × List AO) : Prop := ∀ l os, (mkE f g w φ).pre l os = true → Ct V.P V.G (mkE f g w φ).f l os ((mkE f g w φ).ans l os)
/-- A row and its length. -/
structure RW where
  n : Nat
  g : Nat → List AV
instance : Inhabited RW := ⟨⟨0, fun _ => []⟩⟩
/-- The bytes of a row. -/
def Byt (r : RW) (l : List UInt8) : Prop := r.n = l.length ∧ ∀ j, j < r.n → r.g j = rowOf l j
theorem Byt.app {n m : Nat} {g h : Nat → List AV} {a b : List UInt8} (h1 : Byt ⟨n, g⟩ a) (h2 : Byt ⟨m, h⟩ b) : Byt ⟨n + m, appGet n m g h⟩ (a ++ b) := by
  obtain ⟨a1, a2⟩ := h1
  obtain ⟨b1, b2⟩ := h2
  have a1 : n = a.length := a1
  have b1 : m = b.length := b1
  refine ⟨by show n + m = _; rw [List.length_append, a1, b1], fun j hj => ?_⟩
  have hj : j < n + m := hj
  show appGet n m g h j = _
  by_cases hn : j < n
  · rw [appGet_lt hn]
    refine (a2 j hn).trans ?_
    unfold rowOf
    rw [List.getD_eq_getElem?_getD, List.getD_eq_getElem?_getD, List.getElem?_append_left (by omega)]
  · rw [appGet_ge (by omega) hj]
    refine (b2 (j - n) (by show j - n < m; omega)).trans ?_
    unfold rowOf
    rw [List.getD_eq_getElem?_getD, List.getD_eq_getElem?_getD, List.getElem?_append_right (by omega), a1]
theorem byt_row (l : List UInt8) : Byt ⟨l.length, rowOf l⟩ l := ⟨rfl, fun _ _ => rfl⟩
theorem byt_nil {g : Nat → List AV} : Byt ⟨0, g⟩ [] := ⟨rfl, fun _ hj => absurd hj (Nat.not_lt_zero _)⟩
theorem byt_one {z : List AV} {n : Int} (h : 0 ≤ n ∧ n < 256) : Byt ⟨1, fillGet z [(0, .int .u8 n)]⟩ [UInt8.ofNat n.toNat] := by
  refine ⟨rfl, fun j hj => ?_⟩
  have hj : j < 1 := hj
  obtain rfl : j = 0 := by omega
  show [AV.int .u8 n] = [.int .u8 (UInt8.ofNat n.toNat).toNat]
  rw [UInt8.toNat_ofNat_of_lt' (by show n.toNat < 2 ^ 8; omega)]
  congr 2; omega
theorem roomy_le {b n : Nat} (h : n * b ≤ 140737488355328) : roomy b n = true := Nat.ble_eq_true_of_le h
theorem roomy_and {b n m : Nat} (h : n * b ≤ 140737488355328) : (roomy b n && Nat.beq m m) = true := by rw [roomy_le h, Nat.beq_refl]; rfl
end Go.Ab

namespace Go.Ab
open Go Go.RowKit
set_option linter.unusedVariables false
set_option linter.unusedSimpArgs false
/-- But for these keys. -/
def dropBase (base : List Nat) : List Nat → List Nat
  | [] => []
  | k :: r => cond (base.any (Nat.beq k)) (dropBase base r) (k :: dropBase base r)
theorem dropBase_mem {base : List Nat} : ∀ {l : List Nat} {k : Nat}, k ∈ dropBase base l → k ∈ l ∧ k ∉ base
  | [], k, h => by simp [dropBase] at h
  | q :: r, k, h => by
    simp only [dropBase] at h
    cases hb : base.any (Nat.beq q) with
    | true =>
      rw [hb] at h
      obtain ⟨h1, h2⟩ := dropBase_mem h
      exact ⟨List.mem_cons_of_mem _ h1, h2⟩
    | false =>
      rw [hb] at h
      rcases List.mem_cons.1 h with rfl | h
      · refine ⟨List.mem_cons_self .., fun hk => ?_⟩
        have := List.any_eq_false.1 hb k hk
        exact this (Nat.beq_refl k)
      · obtain ⟨h1, h2⟩ := dropBase_mem h
        exact ⟨List.mem_cons_of_mem _ h1, h2⟩
theorem dropBase_nodup {base : List Nat} : ∀ {l : List Nat}, l.Nodup → (dropBase base l).Nodup
  | [], _ => by simp [dropBase]
  | q :: r, h => by
    obtain ⟨h1, h2⟩ := List.nodup_cons.1 h
    simp only [dropBase]
    cases base.any (Nat.beq q) with
    | true => exact dropBase_nodup h2
    | false => exact List.nodup_cons.2 ⟨fun hq => h1 (dropBase_mem hq).1, dropBase_nodup h2⟩
theorem List.nodup_map_iff_of_injective_range (n : Nat) : ((List.range n).map (keyBase + ·)).Nodup := by
  rw [List.nodup_iff_pairwise_ne, List.pairwise_map]
  exact (List.nodup_iff_pairwise_ne.1 (List.nodup_range (n := n))).imp fun h e => h (by omega)
/-- What the function hands back: its results, frozen; the first m objects; the new ones. -/
def finishM (X : Cfg) (fn : Func) (m : Nat) (s : St) : Option (AV × List AO) :=
  (resultL X s fn.results.toList).bind fun vs => (freezeVs s.objs vs).bind fun a =>
    (getObjs a.2 ((List.range m).map (keyBase + ·) ++ dropBase ((List.range m).map (keyBase + ·)) (reachK a.2 ((List.range m).map (keyBase + ·) ++ keysL (shedL a.1))))).bind fun os =>
      cond (subK (keysL (shedL a.1)) ((List.range m).map (keyBase + ·) ++ dropBase ((List.range m).map (keyBase + ·)) (reachK a.2 ((List.range m).map (keyBase + ·) ++ keysL (shedL a.1)))) &&
        subK (objKeys a.2 ((List.range m).map (keyBase + ·) ++ dropBase ((List.range m).map (keyBase + ·)) (reachK a.2 ((List.range m).map (keyBase + ·) ++ keysL (shedL a.1))))) ((List.range m).map (keyBase + ·) ++ dropBase ((List.range m).map (keyBase + ·)) (reachK a.2 ((List.range m).map (keyBase + ·) ++ keysL (shedL a.1)))))
        (some ((match shedL a.1 with | [v] => v | vs => AV.tup vs).ren (fun k => keyBase + idxOf ((List.range m).map (keyBase + ·) ++ dropBase ((List.range m).map (keyBase + ·)) (reachK a.2 ((List.range m).map (keyBase + ·) ++ keysL (shedL a.1)))) k 0),
          os.map (AO.ren fun k => keyBase + idxOf ((List.range m).map (keyBase + ·) ++ dropBase ((List.range m).map (keyBase + ·)) (reachK a.2 ((List.range m).map (keyBase + ·) ++ keysL (shedL a.1)))) k 0))) none
def runFM (X : Cfg) (n : Nat) (f : FuncId) (args : List AV) (objs : List AO) : Option (AV × List AO) :=
  match X.P.funcs[f]? with
  | some fn => (match fn.body with
    | some c => runC X f n c [] { env := enterEnv args 0, objs := enterObjs objs keyBase } fun e s =>
        (match e with
        | .exit _ => none
        | _ => finishM X fn objs.length s)
    | none => none)
  | none => none
/-- Objects under new names. -/
theorem enter_ren {c : Cx} {objs : List (Nat × AO)} (ho : Objs c objs) {ks : List Nat} (hn : ks.Nodup) {os : List AO} (hos : getObjs objs ks = some os) (hcl : ∀ q ∈ objKeys objs ks, q ∈ ks) :
    Objs { w := c.w, I := c.I, β := fun q => c.β (nthD ks (q - keyBase)), κ := fun q => c.κ (nthD ks (q - keyBase)), fr := fun q => c.fr (nthD ks (q - keyBase)) } (enterObjs (os.map (AO.ren fun k => keyBase + idxOf ks k 0)) keyBase) ∧
    (∀ k ∈ ks, c.β (nthD ks (keyBase + idxOf ks k 0 - keyBase)) = c.β k ∧ ∀ n y, OwnRep c (.key k) n y → OwnRep { w := c.w, I := c.I, β := fun q => c.β (nthD ks (q - keyBase)), κ := fun q => c.κ (nthD ks (q - keyBase)), fr := fun q => c.fr (nthD ks (q - keyBase)) } (.key (keyBase + idxOf ks k 0)) n y) ∧
    (∀ q o, alook (enterObjs (os.map (AO.ren fun k => keyBase + idxOf ks k 0)) keyBase) q = some o → ∃ k o0, k ∈ ks ∧ q = keyBase + idxOf ks k 0 ∧ alook objs k = some o0 ∧ o = o0.ren fun k => keyBase + idxOf ks k 0) ∧
    (∀ k ∈ ks, live (enterObjs (os.map (AO.ren fun k => keyBase + idxOf ks k 0)) keyBase) (keyBase + idxOf ks k 0)) := by
  obtain ⟨hol, hoo⟩ := getObjs_spec hos
  let fwd := fun k => keyBase + idxOf ks k 0
  let bwd := fun k => nthD ks (k - keyBase)
  have hfb : ∀ k ∈ ks, bwd (fwd k) = k := fun k hk => by
    show nthD ks (keyBase + idxOf ks k 0 - keyBase) = k
    rw [Nat.add_sub_cancel_left]; exact nthD_spec (idxOf_spec 0 hk)
  have hbf : ∀ i k, ks[i]? = some k → bwd (keyBase + i) = k ∧ fwd k = keyBase + i := fun i k hk =>
    ⟨by show nthD ks (keyBase + i - keyBase) = k; rw [Nat.add_sub_cancel_left]; exact nthD_spec hk, by show keyBase + idxOf ks k 0 = _; rw [idx_eq hn hk]⟩
  -- the callee's context
  let c0 : Cx := { w := c.w, I := c.I, β := fun q => c.β (bwd q), κ := fun q => c.κ (bwd q), fr := fun q => c.fr (bwd q) }
  have hβ0 : ∀ k ∈ ks, c0.β (fwd k) = c.β k := fun k hk => by show c.β (bwd (fwd k)) = _; rw [hfb k hk]
  have hκ0 : ∀ k ∈ ks, c0.κ (fwd k) = c.κ k := fun k hk => by show c.κ (bwd (fwd k)) = _; rw [hfb k hk]
  have hf0 : ∀ k ∈ ks, c0.fr (fwd k) = c.fr k := fun k hk => by show c.fr (bwd (fwd k)) = _; rw [hfb k hk]
  have hown0 : ∀ k ∈ ks, ∀ n y, OwnRep c (.key k) n y → OwnRep c0 (.key (fwd k)) n y := fun k hk n y => by simp only [OwnRep, hκ0 k hk, hf0 k hk]; exact id
  have hfwd : ∀ k ∈ ks, c0.β (fwd k) = c.β k ∧ ∀ n y, OwnRep c (.key k) n y → OwnRep c0 (.key (fwd k)) n y := fun k hk => ⟨hβ0 k hk, hown0 k hk⟩
  have hlook : ∀ q o, alook (enterObjs (os.map (AO.ren fwd)) keyBase) q = some o → ∃ k o0, k ∈ ks ∧ q = fwd k ∧ alook objs k = some o0 ∧ o = o0.ren fwd := by
    intro q o hq
    rw [alook_enter] at hq
    by_cases hb : keyBase ≤ q
    · rw [if_pos hb, List.getElem?_map] at hq
      cases hi : os[q - keyBase]? with
      | none => simp [hi] at hq
      | some o0 =>
        simp [hi] at hq; subst hq
        have hlt := (List.getElem?_eq_some_iff.1 hi).1
        have hk : ks[q - keyBase]? = some (ks[q - keyBase]'(by omega)) := List.getElem?_eq_getElem _
        refine ⟨_, o0, List.mem_of_getElem? hk, ?_, by rw [(hoo _ _ hk).1, hi], rfl⟩
        rw [(hbf _ _ hk).2]; omega
    · rw [if_neg hb] at hq; simp at hq
  have hlook' : ∀ k ∈ ks, ∃ o0, alook objs k = some o0 ∧ alook (enterObjs (os.map (AO.ren fwd)) keyBase) (fwd k) = some (o0.ren fwd) := by
    intro k hk
    have hi := idxOf_spec 0 hk
    obtain ⟨h1, o0, h2⟩ := hoo _ _ hi
    refine ⟨o0, h2, ?_⟩
    rw [alook_enter, if_pos (Nat.le_add_right _ _)]
    show (os.map (AO.ren fwd))[keyBase + idxOf ks k 0 - keyBase]? = _
    rw [Nat.add_sub_cancel_left, List.getElem?_map, ← h1, h2]; rfl
  have hO0 : Objs c0 (enterObjs (os.map (AO.ren fwd)) keyBase) := by
    refine ⟨fun q o hq => ?_, fun q o q' o' b hq hq' hne hb => ?_, fun q o hq r hr => ?_⟩
    · obtain ⟨k, o0, hk, rfl, h1, rfl⟩ := hlook q o hq
      exact (ho.rep k o0 h1).ren rfl rfl (hβ0 k hk) (hκ0 k hk) (hf0 k hk) fun q hq => hfwd q (hcl q (objKeys_mem hk h1 q hq))
    · obtain ⟨k, o0, hk, rfl, h1, rfl⟩ := hlook q o hq
      obtain ⟨k', o0', hk', rfl, h1', rfl⟩ := hlook q' o' hq'
      rw [excl_ren (hβ0 k hk) (hκ0 k hk)] at hb
      rw [excl_ren (hβ0 k' hk') (hκ0 k' hk')]
      exact ho.apart k o0 k' o0' b h1 h1' (fun e => hne (by rw [e])) hb
    · obtain ⟨k, o0, hk, rfl, h1, rfl⟩ := hlook q o hq
      obtain ⟨q', hq', rfl⟩ := AO.ren_keys _ _ r hr
      obtain ⟨_, _, e⟩ := hlook' q' (hcl q' (objKeys_mem hk h1 q' hq'))
      exact ⟨_, e⟩
  exact ⟨hO0, hfwd, hlook, fun k hk => by obtain ⟨_, _, e⟩ := hlook' k hk; exact ⟨_, e⟩⟩
theorem runFM_sound {X : Cfg} (hX : CallsOk X) (hm : X.P.follows .mixedOrders = true) {f : FuncId} (hO : OracOk X f) {fn : Func} (hf : X.P.funcs[f]? = some fn) (hok : ∀ c, fn.body = some c → codeOk fn.ntmps c = true) {n : Nat} {args : List AV} {os : List AO}
    {r : AV} {os' : List AO} (he : runFM X n f args os = some (r, os')) : CallOk X.P X.G f args os r os' := by
  unfold runFM at he
  rw [hf] at he
  dsimp only at he
  cases hbody : fn.body with
  | none => simp [hbody] at he
  | some code =>
    simp only [hbody] at he
    have hcode := hok code hbody
    intro c0 vs hgood hobjs hsz hrep hkeys
    let a0 : Act := { tmps := vs ++ Array.replicate (fn.ntmps - vs.size) undef, defers := [] }
    let B : Base := { c0 := c0, D := held c0 (enterObjs os keyBase), K := live (enterObjs os keyBase), G := X.G, N := a0.tmps.size }
    let s0 : St := { env := enterEnv args 0, objs := enterObjs os keyBase }
    have hN : fn.ntmps ≤ B.N := by simp [B, a0]; omega
    have hcode' : codeOk B.N code = true := codeOk_mono hN hcode
    have hget : ∀ t v, s0.get t = some v → args[t]? = some v := fun t v hv => by
      have : alook (enterEnv args 0) t = some v := hv
      rw [alook_enterEnv, if_pos (Nat.zero_le _)] at this; simpa using this
    have hval : ∀ t v, args[t]? = some v → Rep c0 v (a0.tmps.getD t undef) := fun t v hv => by
      have hlt : t < vs.size := by rw [hsz]; exact (List.getElem?_eq_some_iff.1 hv).1
      have e : a0.tmps.getD t undef = vs.getD t undef := by
        simp only [a0, Array.getD_eq_getD_getElem?]
        rw [Array.getElem?_append_left hlt]
      rw [e]; exact hrep t v hv
    have hplain : ∀ t v, s0.get t = some v → v.isGrd = false := fun t v hv => by
      have := hval t v (hget t v hv)
      generalize a0.tmps.getD t undef = V at this
      cases this <;> rfl
    have h0 : Rel B c0 s0 a0 := by
      refine ⟨hgood, ⟨rfl, rfl, rfl, Nat.le_refl _, fun _ _ _ => rfl, Ext.refl _ _, fun _ _ _ _ hi => hi⟩, hobjs, fun t v hv => EnvRep.of_rep (hplain t v hv) (hval t v (hget t v hv)),
        fun t v hv k hk => hkeys k (keys_mem_of (hget t v hv) k hk), fun k o b ho hb => .inr ⟨k, o, ho, hb⟩, rfl, rfl, fun k hk => hk⟩
    refine calls_of_wp hf hbody ?_
    refine runC_sound (B := B) hX rfl hm (fun k hk => (live_enter hk).1) f hO code [] (by simp [bodyOf, subC, hf, hbody]) hcode' n s0 c0 a0 _ (r, os') _ he h0 hplain fun ex s' c' a' hex hr' hn' => ?_
    have hfin : finishM X fn os.length s' = some (r, os') → a'.defers = [] ∧ ∃ v, (results fn a'.tmps).run X.P c'.w = .ok v c'.w ∧ ∃ c2 x, Ending.returned v = .returned x ∧ c2.w = c'.w ∧ Good X.G c2 ∧
      Frame { c0 := c0, D := held c0 (enterObjs os keyBase), K := live (enterObjs os keyBase), G := X.G, N := 0 } c2 ∧
      Objs c2 (enterObjs os' keyBase) ∧ Rep c2 r x ∧ (∀ k ∈ r.keys, live (enterObjs os' keyBase) k) ∧
      ∀ k o b, alook (enterObjs os' keyBase) k = some o → excl c2 k o = some b → c0.w.heap.size ≤ b ∨ held c0 (enterObjs os keyBase) b := by
      intro hfin
      refine ⟨hr'.defers, ?_⟩
      unfold finishM at hfin
      obtain ⟨rs, h1, hfin⟩ := opt_bind hfin
      obtain ⟨⟨rs', o1⟩, h2, hfin⟩ := opt_bind hfin
      dsimp only at hfin
      obtain ⟨os1, h3, hfin⟩ := opt_bind hfin
      obtain ⟨hb, hfin⟩ := cond_none hfin
      simp only [Option.some.injEq, Prod.mk.injEq] at hfin
      obtain ⟨hres, rfl⟩ := hfin
      simp only [Bool.and_eq_true] at hb
      obtain ⟨xs, hs, hrun⟩ := resultL_sound X hr' hn' h1
      obtain ⟨c2, e1, e2, e3, e4, e5⟩ := freezeVs_sound hr' hs h2
      have hs2 := e3.shed
      have hfn := hs2.fn
      generalize hr0 : (match shedL rs' with | [v] => v | vs => AV.tup vs) = r0 at hres
      subst hres
      let ks := (List.range os.length).map (keyBase + ·)
      let all := ks ++ dropBase ks (reachK o1 (ks ++ keysL (shedL rs')))
      have hbase : ks.Nodup := (List.nodup_map_iff_of_injective_range os.length)
      have hall : all.Nodup := List.nodup_append.2 ⟨hbase, dropBase_nodup (reachK_spec _ _).1, fun x hx y hy e => (dropBase_mem hy).2 (e ▸ hx)⟩
      obtain ⟨hren, hkey, hlook, hlive⟩ := enter_ren e2.objs hall h3 (subK_spec hb.2)
      obtain ⟨v, hv, hrv, hrk⟩ : ∃ v, (results fn a'.tmps).run X.P c'.w = .ok v c'.w ∧ Rep c2 r0 v ∧ ∀ k ∈ r0.keys, k ∈ keysL (shedL rs') := by
        have hm' : (fn.results.mapM (m := Sem) (resF a'.tmps)).run X.P c'.w = .ok xs.toArray c'.w := by
          rw [Array.mapM_eq_mapM_toList]
          simp only [Sem.run_map]
          rw [hrun]; rfl
        have hres' : ∀ (v : Value), (if h : xs.toArray.size = 1 then xs.toArray[0] else Value.tuple xs.toArray) = v → (results fn a'.tmps).run X.P c'.w = .ok v c'.w := by
          intro v hv
          rw [results_eq]
          simp only [Sem.run_bind, hm', Result.andThen_ok]
          rw [hv]; rfl
        by_cases h1 : xs.length = 1
        · obtain ⟨x, rfl⟩ := List.length_eq_one_iff.1 h1
          have hl : (shedL rs').length = 1 := by rw [← hs2.1]; rfl
          obtain ⟨u, hu⟩ := List.length_eq_one_iff.1 hl
          have hres : u = r0 := by rw [← hr0, hu]
          subst hres
          refine ⟨x, hres' x (by simp), (hs2.2 0 u (by rw [hu]; rfl)).rep, fun k hk => by rw [hu]; simpa [keysL] using hk⟩
        · have hl : (shedL rs').length ≠ 1 := by rw [← hs2.1]; exact h1
          have hr : r0 = .tup (shedL rs') := by
            rw [← hr0]
            cases h : shedL rs' with
            | nil => rfl
            | cons u l => cases l with
              | nil => rw [h] at hl; simp at hl
              | cons _ _ => rfl
          rw [hr]
          refine ⟨.tuple xs.toArray, hres' _ (by rw [dif_neg]; simpa using h1), .tup _ _ hfn.1 hfn.2.1, fun k hk => by simpa [AV.keys] using hk⟩
      let c3 : Cx := { w := c2.w, I := c2.I, β := fun q => c2.β (nthD all (q - keyBase)), κ := fun q => c2.κ (nthD all (q - keyBase)), fr := fun q => c2.fr (nthD all (q - keyBase)) }
      have hb0 : ∀ k, live (enterObjs os keyBase) k → nthD all (k - keyBase) = k := by
        intro k hk
        obtain ⟨g1, g2⟩ := live_enter hk
        refine nthD_spec ?_
        show (ks ++ _)[k - keyBase]? = some k
        rw [List.getElem?_append_left (by simpa [ks] using g2)]
        simp [ks, g2]; omega
      have hown : ∀ k, live (enterObjs os keyBase) k → ∀ n y, OwnRep c2 (.key k) n y → OwnRep c3 (.key k) n y := fun k hk n y => by
        simp only [OwnRep, c3, hb0 k hk]; exact id
      refine ⟨v, hv, c3, v, rfl, e1, ⟨e2.good.there, fun g cs hg => (e2.good.globs g cs hg).ext (ks := fun _ => False) ⟨fun _ _ _ _ hv => hv, fun _ _ hi => hi, fun _ hk => hk.elim, fun _ hk => hk.elim⟩ (by simp [AV.keys])⟩,
        ⟨e2.frame.os, e2.frame.output, e2.frame.tape, e2.frame.size, e2.frame.block, ⟨e2.frame.ext.cell, e2.frame.ext.I, fun k hk => by show c2.β (nthD all (k - keyBase)) = _; rw [hb0 k hk]; exact e2.frame.ext.β k hk, fun k hk n y hy => hown k hk n y (e2.frame.ext.own k hk n y hy)⟩, e2.frame.new⟩,
        hren, Rep.ren (c := c2) (c' := c3) (fun _ _ _ _ hv => hv) (fun _ _ hi => hi) hrv fun q hq => hkey q (subK_spec hb.1 q (hrk q hq)), fun k hk => ?_, fun k o b ho hb' => ?_⟩
      · obtain ⟨q, hq, rfl⟩ := ren_keys _ _ k hk
        exact hlive q (subK_spec hb.1 q (hrk q hq))
      · obtain ⟨q, o0, hq, rfl, g1, rfl⟩ := hlook k o ho
        have : excl c3 (keyBase + idxOf all q 0) (o0.ren fun k => keyBase + idxOf all k 0) = excl c2 q o0 := excl_ren (by show c2.β (nthD all (keyBase + idxOf all q 0 - keyBase)) = _; rw [Nat.add_sub_cancel_left, nthD_spec (idxOf_spec 0 hq)]) (by show c2.κ (nthD all (keyBase + idxOf all q 0 - keyBase)) = _; rw [Nat.add_sub_cancel_left, nthD_spec (idxOf_spec 0 hq)])
        rw [this] at hb'
        exact e2.mine q o0 b g1 hb'
    cases ex with
    | exit id => simp at hex
    | nor => exact hfin hex
    | ret => exact hfin hex


/-- Its contract, by a run with loops. -/
theorem ct_newM {V : Env} {T : List Ent} {d : Nat} {L : List (List Nat × Orc)} {W : List (List Nat × Vw)} {f : FuncId} {n : Nat} {l : List AV} {os : List AO} {r : AV × List AO} (hm : V.P.follows .mixedOrders = true) (hP : FuncsOk V.P) (hT : TabOk V T)
    (hL : ∀ e ∈ L, LoopOk (V.run T d [] L W f) f e.1 e.2) (hW : ∀ e ∈ W, ViewOk e.2) (he : runFM (V.run T d [] L W f) n f l os = some r) : Ct V.P V.G f l os r := by
  have hO : OracOk (V.run T d [] L W f) f := by
    refine ⟨fun p g hg => ?_, fun p g hg => ?_, fun p g hg => ?_⟩
    · simp only [Env.run, Nat.beq_refl, cond_true] at hg
      exact absurd (orGet_mem hg) (List.not_mem_nil)
    · simp only [Env.run, Nat.beq_refl, cond_true] at hg
      exact hW _ (orGet_mem hg)
    · simp only [Env.run, Nat.beq_refl, cond_true] at hg
      exact hL _ (orGet_mem hg)
  have hh := he
  unfold runFM at hh
  cases hf : (V.run T d [] L W f).P.funcs[f]? with
  | none => simp only [hf] at hh; cases hh
  | some fn =>
    have hf' : V.P.funcs[f]? = some fn := hf
    obtain ⟨h1, h2⟩ := hP f fn hf'
    refine ⟨runFM_sound (X := V.run T d [] L W f) (calls_tab hm hP hT d [] L W f) hm hO hf h2 he, fn, hf', h1, ?_⟩
    cases hb : fn.body with
    | none => simp only [hf, hb] at hh; cases hh
    | some c => rfl
end Go.Ab

namespace Go.Ab
open Go Go.RowKit
def finishW (X : Cfg) (fn : Func) (m : Nat) (s : St) : Option (AV × List AO) :=
  (resultL X s fn.results.toList).bind fun vs => (some (vs, s.objs)).bind fun a =>
    (getObjs a.2 ((List.range m).map (keyBase + ·) ++ dropBase ((List.range m).map (keyBase + ·)) (reachK a.2 ((List.range m).map (keyBase + ·) ++ keysL (a.1))))).bind fun os =>
      cond (subK (keysL (a.1)) ((List.range m).map (keyBase + ·) ++ dropBase ((List.range m).map (keyBase + ·)) (reachK a.2 ((List.range m).map (keyBase + ·) ++ keysL (a.1)))) &&
        subK (objKeys a.2 ((List.range m).map (keyBase + ·) ++ dropBase ((List.range m).map (keyBase + ·)) (reachK a.2 ((List.range m).map (keyBase + ·) ++ keysL (a.1))))) ((List.range m).map (keyBase + ·) ++ dropBase ((List.range m).map (keyBase + ·)) (reachK a.2 ((List.range m).map (keyBase + ·) ++ keysL (a.1)))))
        (some ((match a.1 with | [v] => v | vs => AV.tup vs).ren (fun k => keyBase + idxOf ((List.range m).map (keyBase + ·) ++ dropBase ((List.range m).map (keyBase + ·)) (reachK a.2 ((List.range m).map (keyBase + ·) ++ keysL (a.1)))) k 0),
          os.map (AO.ren fun k => keyBase + idxOf ((List.range m).map (keyBase + ·) ++ dropBase ((List.range m).map (keyBase + ·)) (reachK a.2 ((List.range m).map (keyBase + ·) ++ keysL (a.1)))) k 0))) none
def runFW (X : Cfg) (n : Nat) (f : FuncId) (args : List AV) (objs : List AO) : Option (AV × List AO) :=
  match X.P.funcs[f]? with
  | some fn => (match fn.body with
    | some c => runC X f n c [] { env := enterEnv args 0, objs := enterObjs objs keyBase } fun e s =>
        (match e with
        | .exit _ => none
        | _ => finishW X fn objs.length s)
    | none => none)
  | none => none
/-- Objects under new names. -/
theorem runFW_sound {X : Cfg} (hX : CallsOk X) (hm : X.P.follows .mixedOrders = true) {f : FuncId} (hO : OracOk X f) {fn : Func} (hf : X.P.funcs[f]? = some fn) (hok : ∀ c, fn.body = some c → codeOk fn.ntmps c = true) {n : Nat} {args : List AV} {os : List AO}
    {r : AV} {os' : List AO} (he : runFW X n f args os = some (r, os')) : CallOk X.P X.G f args os r os' := by
  unfold runFW at he
  rw [hf] at he
  dsimp only at he
  cases hbody : fn.body with
  | none => simp [hbody] at he
  | some code =>
    simp only [hbody] at he
    have hcode := hok code hbody
    intro c0 vs hgood hobjs hsz hrep hkeys
    let a0 : Act := { tmps := vs ++ Array.replicate (fn.ntmps - vs.size) undef, defers := [] }
    let B : Base := { c0 := c0, D := held c0 (enterObjs os keyBase), K := live (enterObjs os keyBase), G := X.G, N := a0.tmps.size }
    let s0 : St := { env := enterEnv args 0, objs := enterObjs os keyBase }
    have hN : fn.ntmps ≤ B.N := by simp [B, a0]; omega
    have hcode' : codeOk B.N code = true := codeOk_mono hN hcode
    have hget : ∀ t v, s0.get t = some v → args[t]? = some v := fun t v hv => by
      have : alook (enterEnv args 0) t = some v := hv
      rw [alook_enterEnv, if_pos (Nat.zero_le _)] at this; simpa using this
    have hval : ∀ t v, args[t]? = some v → Rep c0 v (a0.tmps.getD t undef) := fun t v hv => by
      have hlt : t < vs.size := by rw [hsz]; exact (List.getElem?_eq_some_iff.1 hv).1
      have e : a0.tmps.getD t undef = vs.getD t undef := by
        simp only [a0, Array.getD_eq_getD_getElem?]
        rw [Array.getElem?_append_left hlt]
      rw [e]; exact hrep t v hv
    have hplain : ∀ t v, s0.get t = some v → v.isGrd = false := fun t v hv => by
      have := hval t v (hget t v hv)
      generalize a0.tmps.getD t undef = V at this
      cases this <;> rfl
    have h0 : Rel B c0 s0 a0 := by
      refine ⟨hgood, ⟨rfl, rfl, rfl, Nat.le_refl _, fun _ _ _ => rfl, Ext.refl _ _, fun _ _ _ _ hi => hi⟩, hobjs, fun t v hv => EnvRep.of_rep (hplain t v hv) (hval t v (hget t v hv)),
        fun t v hv k hk => hkeys k (keys_mem_of (hget t v hv) k hk), fun k o b ho hb => .inr ⟨k, o, ho, hb⟩, rfl, rfl, fun k hk => hk⟩
    refine calls_of_wp hf hbody ?_
    refine runC_sound (B := B) hX rfl hm (fun k hk => (live_enter hk).1) f hO code [] (by simp [bodyOf, subC, hf, hbody]) hcode' n s0 c0 a0 _ (r, os') _ he h0 hplain fun ex s' c' a' hex hr' hn' => ?_
    have hfin : finishW X fn os.length s' = some (r, os') → a'.defers = [] ∧ ∃ v, (results fn a'.tmps).run X.P c'.w = .ok v c'.w ∧ ∃ c2 x, Ending.returned v = .returned x ∧ c2.w = c'.w ∧ Good X.G c2 ∧
      Frame { c0 := c0, D := held c0 (enterObjs os keyBase), K := live (enterObjs os keyBase), G := X.G, N := 0 } c2 ∧
      Objs c2 (enterObjs os' keyBase) ∧ Rep c2 r x ∧ (∀ k ∈ r.keys, live (enterObjs os' keyBase) k) ∧
      ∀ k o b, alook (enterObjs os' keyBase) k = some o → excl c2 k o = some b → c0.w.heap.size ≤ b ∨ held c0 (enterObjs os keyBase) b := by
      intro hfin
      refine ⟨hr'.defers, ?_⟩
      unfold finishW at hfin
      obtain ⟨rs, h1, hfin⟩ := opt_bind hfin
      obtain ⟨⟨rs', o1⟩, h2, hfin⟩ := opt_bind hfin
      dsimp only at hfin
      obtain ⟨os1, h3, hfin⟩ := opt_bind hfin
      obtain ⟨hb, hfin⟩ := cond_none hfin
      simp only [Option.some.injEq, Prod.mk.injEq] at hfin
      obtain ⟨hres, rfl⟩ := hfin
      simp only [Bool.and_eq_true] at hb
      obtain ⟨xs, hs, hrun⟩ := resultL_sound X hr' hn' h1
      obtain ⟨c2, e1, e2, e3, e4, e5⟩ : ∃ c2 : Cx, c2.w = c'.w ∧ Rel B c2 (s'.with o1) a' ∧ SeesL B c2 (s'.with o1) rs' xs ∧ (∀ k, live s'.objs k → live o1 k) ∧ Ext c' c2 (live s'.objs) := by
        obtain ⟨q1, q2⟩ := Prod.mk.inj (Option.some.inj h2)
        subst q1 q2
        exact ⟨c', rfl, hr', hs, fun _ h => h, Ext.refl _ _⟩
      have hs2 := e3
      have hfn := hs2.fn
      generalize hr0 : (match rs' with | [v] => v | vs => AV.tup vs) = r0 at hres
      subst hres
      let ks := (List.range os.length).map (keyBase + ·)
      let all := ks ++ dropBase ks (reachK o1 (ks ++ keysL (rs')))
      have hbase : ks.Nodup := (List.nodup_map_iff_of_injective_range os.length)
      have hall : all.Nodup := List.nodup_append.2 ⟨hbase, dropBase_nodup (reachK_spec _ _).1, fun x hx y hy e => (dropBase_mem hy).2 (e ▸ hx)⟩
      obtain ⟨hren, hkey, hlook, hlive⟩ := enter_ren e2.objs hall h3 (subK_spec hb.2)
      obtain ⟨v, hv, hrv, hrk⟩ : ∃ v, (results fn a'.tmps).run X.P c'.w = .ok v c'.w ∧ Rep c2 r0 v ∧ ∀ k ∈ r0.keys, k ∈ keysL (rs') := by
        have hm' : (fn.results.mapM (m := Sem) (resF a'.tmps)).run X.P c'.w = .ok xs.toArray c'.w := by
          rw [Array.mapM_eq_mapM_toList]
          simp only [Sem.run_map]
          rw [hrun]; rfl
        have hres' : ∀ (v : Value), (if h : xs.toArray.size = 1 then xs.toArray[0] else Value.tuple xs.toArray) = v → (results fn a'.tmps).run X.P c'.w = .ok v c'.w := by
          intro v hv
          rw [results_eq]
          simp only [Sem.run_bind, hm', Result.andThen_ok]
          rw [hv]; rfl
        by_cases h1 : xs.length = 1
        · obtain ⟨x, rfl⟩ := List.length_eq_one_iff.1 h1
          have hl : (rs').length = 1 := by rw [← hs2.1]; rfl
          obtain ⟨u, hu⟩ := List.length_eq_one_iff.1 hl
          have hres : u = r0 := by rw [← hr0, hu]
          subst hres
          refine ⟨x, hres' x (by simp), (hs2.2 0 u (by rw [hu]; rfl)).rep, fun k hk => by rw [hu]; simpa [keysL] using hk⟩
        · have hl : (rs').length ≠ 1 := by rw [← hs2.1]; exact h1
          have hr : r0 = .tup (rs') := by
            rw [← hr0]
            cases h : rs' with
            | nil => rfl
            | cons u l => cases l with
              | nil => rw [h] at hl; simp at hl
              | cons _ _ => rfl
          rw [hr]
          refine ⟨.tuple xs.toArray, hres' _ (by rw [dif_neg]; simpa using h1), .tup _ _ hfn.1 hfn.2.1, fun k hk => by simpa [AV.keys] using hk⟩
      let c3 : Cx := { w := c2.w, I := c2.I, β := fun q => c2.β (nthD all (q - keyBase)), κ := fun q => c2.κ (nthD all (q - keyBase)), fr := fun q => c2.fr (nthD all (q - keyBase)) }
      have hb0 : ∀ k, live (enterObjs os keyBase) k → nthD all (k - keyBase) = k := by
        intro k hk
        obtain ⟨g1, g2⟩ := live_enter hk
        refine nthD_spec ?_
        show (ks ++ _)[k - keyBase]? = some k
        rw [List.getElem?_append_left (by simpa [ks] using g2)]
        simp [ks, g2]; omega
      have hown : ∀ k, live (enterObjs os keyBase) k → ∀ n y, OwnRep c2 (.key k) n y → OwnRep c3 (.key k) n y := fun k hk n y => by
        simp only [OwnRep, c3, hb0 k hk]; exact id
      refine ⟨v, hv, c3, v, rfl, e1, ⟨e2.good.there, fun g cs hg => (e2.good.globs g cs hg).ext (ks := fun _ => False) ⟨fun _ _ _ _ hv => hv, fun _ _ hi => hi, fun _ hk => hk.elim, fun _ hk => hk.elim⟩ (by simp [AV.keys])⟩,
        ⟨e2.frame.os, e2.frame.output, e2.frame.tape, e2.frame.size, e2.frame.block, ⟨e2.frame.ext.cell, e2.frame.ext.I, fun k hk => by show c2.β (nthD all (k - keyBase)) = _; rw [hb0 k hk]; exact e2.frame.ext.β k hk, fun k hk n y hy => hown k hk n y (e2.frame.ext.own k hk n y hy)⟩, e2.frame.new⟩,
        hren, Rep.ren (c := c2) (c' := c3) (fun _ _ _ _ hv => hv) (fun _ _ hi => hi) hrv fun q hq => hkey q (subK_spec hb.1 q (hrk q hq)), fun k hk => ?_, fun k o b ho hb' => ?_⟩
      · obtain ⟨q, hq, rfl⟩ := ren_keys _ _ k hk
        exact hlive q (subK_spec hb.1 q (hrk q hq))
      · obtain ⟨q, o0, hq, rfl, g1, rfl⟩ := hlook k o ho
        have : excl c3 (keyBase + idxOf all q 0) (o0.ren fun k => keyBase + idxOf all k 0) = excl c2 q o0 := excl_ren (by show c2.β (nthD all (keyBase + idxOf all q 0 - keyBase)) = _; rw [Nat.add_sub_cancel_left, nthD_spec (idxOf_spec 0 hq)]) (by show c2.κ (nthD all (keyBase + idxOf all q 0 - keyBase)) = _; rw [Nat.add_sub_cancel_left, nthD_spec (idxOf_spec 0 hq)])
        rw [this] at hb'
        exact e2.mine q o0 b g1 hb'
    cases ex with
    | exit id => simp at hex
    | nor => exact hfin hex
    | ret => exact hfin hex


/-- Its contract, by a run with loops. -/
theorem ct_newW {V : Env} {T : List Ent} {d : Nat} {L : List (List Nat × Orc)} {W : List (List Nat × Vw)} {f : FuncId} {n : Nat} {l : List AV} {os : List AO} {r : AV × List AO} (hm : V.P.follows .mixedOrders = true) (hP : FuncsOk V.P) (hT : TabOk V T)
    (hL : ∀ e ∈ L, LoopOk (V.run T d [] L W f) f e.1 e.2) (hW : ∀ e ∈ W, ViewOk e.2) (he : runFW (V.run T d [] L W f) n f l os = some r) : Ct V.P V.G f l os r := by
  have hO : OracOk (V.run T d [] L W f) f := by
    refine ⟨fun p g hg => ?_, fun p g hg => ?_, fun p g hg => ?_⟩
    · simp only [Env.run, Nat.beq_refl, cond_true] at hg
      exact absurd (orGet_mem hg) (List.not_mem_nil)
    · simp only [Env.run, Nat.beq_refl, cond_true] at hg
      exact hW _ (orGet_mem hg)
    · simp only [Env.run, Nat.beq_refl, cond_true] at hg
      exact hL _ (orGet_mem hg)
  have hh := he
  unfold runFW at hh
  cases hf : (V.run T d [] L W f).P.funcs[f]? with
  | none => simp only [hf] at hh; cases hh
  | some fn =>
    have hf' : V.P.funcs[f]? = some fn := hf
    obtain ⟨h1, h2⟩ := hP f fn hf'
    refine ⟨runFW_sound (X := V.run T d [] L W f) (calls_tab hm hP hT d [] L W f) hm hO hf h2 he, fn, hf', h1, ?_⟩
    cases hb : fn.body with
    | none => simp only [hf, hb] at hh; cases hh
    | some c => rfl
end Go.Ab

namespace Go.Ab
open Go Go.RowKit
variable {B : Base} {c : Cx} {s : St} {a : Act}
/-- One list of cells may be told as another. -/
def Told (cs cs' : List AV) : Prop := cs'.length = cs.length ∧ keysL cs' = [] ∧ ∀ (i : Nat) (u u' : AV), cs[i]? = some u → cs'[i]? = some u' → u'.one = true ∧ ∀ c x, Rep c u x → Rep c u' x
inductive ObjLe : AO → AO → Prop
  | same (o) : ObjLe o o
  | cells (cs cs') : Told cs cs' → ObjLe (.cells cs) (.cells cs')
  | grw (q sz n get get') : (∀ j, j < n → get' j = get j) → ObjLe (.grw q sz n get) (.grw q sz n get')
inductive ObjsLe : List (Nat × AO) → List (Nat × AO) → Prop
  | nil : ObjsLe [] []
  | cons (k o o' r r') : ObjLe o o' → ObjsLe r r' → ObjsLe ((k, o) :: r) ((k, o') :: r')
theorem ObjsLe.look {l l' : List (Nat × AO)} (h : ObjsLe l l') (k : Nat) : (alook l k = none ∧ alook l' k = none) ∨ ∃ o o', alook l k = some o ∧ alook l' k = some o' ∧ ObjLe o o' := by
  induction h with
  | nil => exact .inl ⟨rfl, rfl⟩
  | cons q o o' r r' h1 _ ih =>
    simp only [alook]
    cases hb : Nat.beq q k with
    | true => exact .inr ⟨o, o', rfl, rfl, h1⟩
    | false => exact ih
theorem ObjLe.excl {o o' : AO} (h : ObjLe o o') (k : Nat) : excl c k o' = excl c k o := by cases h <;> rfl
theorem ObjLe.keys {o o' : AO} (h : ObjLe o o') : o' = o ∨ o'.keys = [] := by
  cases h with
  | same => exact .inl rfl
  | cells cs cs' h => exact .inr h.2.1
  | grw sq sz n get get' h => exact .inr rfl
theorem ObjLe.rep {o o' : AO} (h : ObjLe o o') {k : Nat} (hr : ObjRep c k o) : ObjRep c k o' := by
  cases h with
  | same => exact hr
  | cells cs cs' h =>
    obtain ⟨⟨⟨vs, t, hh, hs, hv⟩, h1⟩, hI, hf⟩ := hr
    have hg : ∀ (i : Nat) (u' : AV), cs'[i]? = some u' → ∃ u, cs[i]? = some u := fun i u' hu => by
      have := (List.getElem?_eq_some_iff.1 hu).1
      rw [h.1] at this
      exact ⟨_, List.getElem?_eq_getElem this⟩
    refine ⟨⟨⟨vs, t, hh, by rw [h.1]; exact hs, fun i u' hu => ?_⟩, fun i u' hu => ?_⟩, hI, hf⟩
    · obtain ⟨u, hu0⟩ := hg i u' hu
      exact (h.2.2 i u u' hu0 hu).2 _ _ (hv i u hu0)
    · obtain ⟨u, hu0⟩ := hg i u' hu
      exact (h.2.2 i u u' hu0 hu).1
  | grw sq sz n get get' h =>
    obtain ⟨h0, hfr, hm⟩ := hr
    refine ⟨h0, hfr, ?_⟩
    cases hc : c.κ k with
    | none => simp only [hc] at hm; exact hm
    | some p =>
      obtain ⟨a, cap⟩ := p
      simp only [hc] at hm ⊢
      refine ⟨hm.1, fun hlt => ?_⟩
      obtain ⟨⟨vs, t, hh, hs, hv⟩, had, hl, h1, hfree⟩ := hm.2 hlt
      exact ⟨⟨vs, t, hh, hs, fun j i u hj hu => hv j i u hj (by rwa [h j hj] at hu)⟩, had, fun j hj => by rw [h j hj]; exact hl j hj, fun j i u hj hu => h1 j i u hj (by rwa [h j hj] at hu), hfree⟩
theorem Rel.weak (h : Rel B c s a) {objs' : List (Nat × AO)} (hw : ObjsLe s.objs objs') : Rel B c { env := s.env, objs := objs' } a := by
  have hlive : ∀ k, live s.objs k → live objs' k := fun k hk => by
    obtain ⟨o, hk⟩ := hk
    rcases hw.look k with ⟨h1, _⟩ | ⟨_, o', _, h2, _⟩
    · rw [h1] at hk; cases hk
    · exact ⟨o', h2⟩
  have hback : ∀ {k o'}, alook objs' k = some o' → ∃ o, alook s.objs k = some o ∧ ObjLe o o' := fun {k o'} hk => by
    rcases hw.look k with ⟨_, h1⟩ | ⟨o, o2, h1, h2, h3⟩
    · rw [h1] at hk; cases hk
    · rw [h2] at hk; cases hk; exact ⟨o, h1, h3⟩
  refine ⟨h.good, h.frame, ⟨fun k o' hk => ?_, fun k o' q o2 b hk hq hne hb => ?_, fun k o' hk q hq => ?_⟩, h.env, fun t v hv k hk => hlive k (h.closed t v hv k hk), fun k o' b hk hb => ?_, h.tmps, h.defers, fun k hk => hlive k (h.kept k hk)⟩
  · obtain ⟨o, h1, h2⟩ := hback hk
    exact h2.rep (h.objs.rep k o h1)
  · obtain ⟨o, h1, h2⟩ := hback hk
    obtain ⟨o3, h3, h4⟩ := hback hq
    rw [h4.excl]
    rw [h2.excl] at hb
    exact h.objs.apart k o q o3 b h1 h3 hne hb
  · obtain ⟨o, h1, h2⟩ := hback hk
    rcases h2.keys with rfl | h0
    · exact hlive q (h.objs.closed k _ h1 q hq)
    · rw [h0] at hq; cases hq
  · obtain ⟨o, h1, h2⟩ := hback hk
    rw [h2.excl] at hb
    exact h.mine k o b h1 hb
open Classical in
/-- States of a family told in other words. -/
theorem viewOk_weak {α : Type} [Inhabited α] (S S' : α → St) (Inv : α → Prop) (hS : ∀ v, Inv v → (S' v).env = (S v).env ∧ ObjsLe (S v).objs (S' v).objs) : ViewOk (mkV (goodS S Inv) (valS S Inv id) S') := by
  intro s k r h
  unfold mkV at h
  obtain ⟨hg, h⟩ := cond_none h
  have hx : ∃ v, Inv v ∧ S v = s := of_decide_eq_true hg
  unfold valS at h
  rw [dif_pos hx, id] at h
  obtain ⟨h1, h2⟩ := hx.choose_spec
  obtain ⟨e1, e2⟩ := hS _ h1
  refine ⟨_, h, fun B c a hr hn => ⟨c, rfl, ?_, ?_⟩⟩
  · rw [h2] at e1 e2
    have := hr.weak e2
    rw [← e1] at this
    exact this
  · intro t v hv
    refine hn t v ?_
    rw [← h2]
    show alook (S hx.choose).env t = some v
    rw [← e1]; exact hv
end Go.Ab

namespace Go.Ab
open Go Go.RowKit
variable {B : Base} {c : Cx} {s : St} {a : Act}
/-- The slice in slot t, frozen. -/
def fzSlot (s : St) (t : Nat) : Option St := (s.get t).bind fun v => (freezeA s.objs v).map fun r => ({ env := s.env, objs := r.2 } : St).put (some t) r.1
/-- The slice in a cell of a variable, frozen. -/
def fzCell (s : St) (ob off : Nat) : Option St :=
  match s.obj ob with
  | some (.cells cs) => (cs[off]?).bind fun v => (freezeA s.objs v).bind fun r => (match alook r.2 ob with
    | some (.cells cs') => some { env := s.env, objs := aput r.2 ob (.cells (cs'.set off r.1)) }
    | _ => none)
  | _ => none
theorem fzSlot_sound {t : Nat} {s' : St} (h : Rel B c s a) (hn : NoGrd s) (he : fzSlot s t = some s') : ∃ c', c'.w = c.w ∧ Rel B c' s' a ∧ NoGrd s' := by
  unfold fzSlot at he
  obtain ⟨v, hv, he⟩ := opt_bind he
  obtain ⟨⟨v', objs'⟩, hf, rfl⟩ := opt_map he
  have hp := hn t v hv
  have hr : Rep c v (a.tmps.getD t undef) := by
    have := h.env t v hv
    cases v <;> first | exact this | simp [AV.isGrd] at hp
  obtain ⟨c', e1, e2, e3, _, _⟩ := freezeA_sound h ⟨hr, h.closed t v hv, hp⟩ hf
  have hn' : NoGrd { env := s.env, objs := objs' } := fun q u hu => hn q u hu
  exact ⟨c', e1, e2.reslot e3 hn', hn'.put e3.plain⟩
theorem freezeA_keep {objs objs' : List (Nat × AO)} {v v' : AV} (h : freezeA objs v = some (v', objs')) {ob : Nat} {cs : List AV} (ho : alook objs ob = some (.cells cs)) : alook objs' ob = some (.cells cs) := by
  cases v with
  | msl k sz off n =>
    simp only [freezeA] at h
    split at h
    · rename_i hk
      obtain ⟨_, h⟩ := guardO_inv h
      simp only [Option.some.injEq, Prod.mk.injEq] at h
      rw [← h.2, alook_aput]
      by_cases e : k = ob
      · subst e; rw [hk] at ho; cases ho
      · rw [if_neg e]; exact ho
    · obtain ⟨_, h⟩ := guardO_inv h
      simp only [Option.some.injEq, Prod.mk.injEq] at h
      rw [← h.2]; exact ho
    · cases h
  | gsl k sz n =>
    simp only [freezeA] at h
    split at h
    · rename_i hk
      obtain ⟨_, h⟩ := guardO_inv h
      simp only [Option.some.injEq, Prod.mk.injEq] at h
      rw [← h.2, alook_aput]
      by_cases e : k = ob
      · subst e; rw [hk] at ho; cases ho
      · rw [if_neg e]; exact ho
    · cases h
  | _ => simp only [freezeA, Option.some.injEq, Prod.mk.injEq] at h; rw [← h.2]; exact ho
theorem fzCell_sound {ob off : Nat} {s' : St} (h : Rel B c s a) (hn : NoGrd s) (he : fzCell s ob off = some s') : ∃ c', c'.w = c.w ∧ Rel B c' s' a ∧ NoGrd s' := by
  unfold fzCell at he
  split at he
  · rename_i cs hob
    obtain ⟨v, hg, he⟩ := opt_bind he
    obtain ⟨⟨v', objs'⟩, hf, he⟩ := opt_bind he
    have hob1 := freezeA_keep hf hob
    simp only [hob1, Option.some.injEq] at he
    subst he
    obtain ⟨⟨⟨vs, t, hh, hs, hv⟩, h1⟩, hI, hfr⟩ := h.objs.rep ob _ hob
    have hsee : Sees B c s v (vs.getD off undef) := ⟨hv off v hg, fun k hk => h.objs.closed ob _ hob k (by simpa [AO.keys] using keys_mem_of hg k hk), (hv off v hg).plain⟩
    obtain ⟨c1, e1, e2, e3, _, e6⟩ := freezeA_sound h hsee hf
    obtain ⟨⟨⟨vs1, t1, hh1, hs1, hv1⟩, h11⟩, hI1, hfr1⟩ := e2.objs.rep ob _ hob1
    have hβ : c1.β ob = c.β ob := e6.β ob ⟨_, hob⟩
    rw [e1, hβ, hh] at hh1
    simp only [Option.some.injEq, Obj.cells.injEq] at hh1
    obtain ⟨rfl, rfl, _⟩ := hh1
    have hoff : off < cs.length := (List.getElem?_eq_some_iff.1 hg).1
    have hget : ∀ (i : Nat) (u : AV), (cs.set off v')[i]? = some u → (i = off ∧ u = v') ∨ cs[i]? = some u := by
      intro i u hu
      rw [List.getElem?_set] at hu
      by_cases e : off = i
      · subst e; simp [hoff] at hu; exact .inl ⟨rfl, hu.symm⟩
      · rw [if_neg e] at hu; exact .inr hu
    let s1 : St := { env := s.env, objs := objs' }
    have hrel : Rel B c1 (s1.setObj ob (.cells (cs.set off v'))) a := by
      refine e2.obj (k := ob) ((Keeps.refl c1 s1.objs).but ob) (Grow.refl e2.good) ⟨⟨⟨vs, t, by rw [e1, hβ]; exact hh, by rw [hs, List.length_set], fun i u hu => ?_⟩, fun i u hu => ?_⟩, hI1, hfr1⟩
        (fun q o' b hq hne' hb' e => e2.objs.apart q o' ob _ b hq hob1 hne' hb' e) (fun q hq => ?_) (fun b hb' => e2.mine ob _ b hob1 hb')
      · rcases hget i u hu with ⟨rfl, rfl⟩ | hu
        · exact e3.rep
        · exact hv1 i u hu
      · rcases hget i u hu with ⟨rfl, rfl⟩ | hu
        · rw [freezeA_one hf]; exact h1 _ _ hg
        · exact h1 i u hu
      · simp only [AO.keys] at hq
        rcases keysL_set q hq with hq | hq
        · exact .inr (e3.live q hq)
        · exact .inr (e2.objs.closed ob _ hob1 q (by simpa [AO.keys] using hq))
    exact ⟨c1, e1, hrel, fun q u hu => hn q u hu⟩
  · cases he
open Classical in
/-- A family of states, each told as another one. -/
theorem viewOk_step {α : Type} [Inhabited α] (S S' : α → St) (Inv : α → Prop) (hS : ∀ v, Inv v → ∀ (B : Base) (c : Cx) (a : Act), Rel B c (S v) a → NoGrd (S v) → ∃ c', c'.w = c.w ∧ Rel B c' (S' v) a ∧ NoGrd (S' v)) : ViewOk (mkV (goodS S Inv) (valS S Inv id) S') := by
  intro s k r h
  unfold mkV at h
  obtain ⟨hg, h⟩ := cond_none h
  have hx : ∃ v, Inv v ∧ S v = s := of_decide_eq_true hg
  unfold valS at h
  rw [dif_pos hx, id] at h
  obtain ⟨h1, h2⟩ := hx.choose_spec
  exact ⟨_, h, fun B c a hr hn => hS _ h1 B c a (by rw [h2]; exact hr) (by rw [h2]; exact hn)⟩
end Go.Ab

namespace Go.Ab
open Go
variable {B : Base} {c : Cx} {s : St} {a : Act}
theorem rep_tell {o : Own} {sz n : Nat} {get get' : Nat → List AV} {x : Value} (h : Rep c (.sl o sz n get) x) (hg : ∀ j, j < n → get' j = get j) : Rep c (.sl .no sz n get') x := by
  cases h with
  | slNil _ _ _ _ => exact .slNil .no _ _ trivial
  | sl _ _ _ _ ad cap vals h1 h2 h3 h4 h5 h6 =>
    exact .sl .no sz n get' ad cap vals h1 h2 trivial (fun j hj => by rw [hg j hj]; exact h4 j hj) (fun j i u hj => by rw [hg j hj]; exact h5 j i u hj) (fun j i u hj => by rw [hg j hj]; exact h6 j i u hj)
theorem tell_slot (h : Rel B c s a) (hn : NoGrd s) {t : Nat} {o : Own} {sz n : Nat} {get get' : Nat → List AV} (hv : s.get t = some (.sl o sz n get)) (hg : ∀ j, j < n → get' j = get j) :
    Rel B c (s.put (some t) (.sl .no sz n get')) a ∧ NoGrd (s.put (some t) (.sl .no sz n get')) := by
  have hr : Rep c (.sl o sz n get) (a.tmps.getD t undef) := h.env t _ hv
  have e : Sees B c s (.sl .no sz n get') (a.tmps.getD t undef) := ⟨rep_tell hr hg, fun k hk => by simp [AV.keys] at hk, rfl⟩
  exact ⟨h.reslot e hn, hn.put e.plain⟩
theorem rep_nil {o : Own} {sz sz' : Nat} {get get' : Nat → List AV} {x : Value} (h : Rep c (.sl o sz 0 get) x) : Rep c (.sl .no sz' 0 get') x := by
  cases h with
  | slNil _ _ _ _ => exact .slNil .no _ _ trivial
  | sl _ _ _ _ ad cap vals h1 h2 h3 h4 h5 h6 =>
    exact .sl .no sz' 0 get' ad cap vals h1 h2 trivial (fun j hj => absurd hj (Nat.not_lt_zero _)) (fun j i u hj => absurd hj (Nat.not_lt_zero _)) (fun j i u hj => absurd hj (Nat.not_lt_zero _))
theorem tell_nil (h : Rel B c s a) (hn : NoGrd s) {t : Nat} {o : Own} {sz sz' : Nat} {get get' : Nat → List AV} (hv : s.get t = some (.sl o sz 0 get)) :
    Rel B c (s.put (some t) (.sl .no sz' 0 get')) a ∧ NoGrd (s.put (some t) (.sl .no sz' 0 get')) := by
  have hr : Rep c (.sl o sz 0 get) (a.tmps.getD t undef) := h.env t _ hv
  have e : Sees B c s (.sl .no sz' 0 get') (a.tmps.getD t undef) := ⟨rep_nil hr, fun k hk => by simp [AV.keys] at hk, rfl⟩
  exact ⟨h.reslot e hn, hn.put e.plain⟩
/-- States of a family told in other words; others stay. -/
def mkU {τ : Type} (g : St → Bool) (v : St → τ) (S : τ → St) : Vw := fun s k => cond (g s) (k (S (v s))) (k s)
open Classical in
theorem viewOk_tell {α : Type} [Inhabited α] (S S' : α → St) (Inv : α → Prop) (hS : ∀ v, Inv v → ∀ (B : Base) (c : Cx) (a : Act), Rel B c (S v) a → NoGrd (S v) → Rel B c (S' v) a ∧ NoGrd (S' v)) : ViewOk (mkU (goodS S Inv) (valS S Inv id) S') := by
  intro s k r h
  unfold mkU at h
  cases hg : goodS S Inv s with
  | false => rw [hg] at h; exact ⟨s, h, fun B c a hr hn => ⟨c, rfl, hr, hn⟩⟩
  | true =>
    rw [hg] at h
    have hx : ∃ v, Inv v ∧ S v = s := of_decide_eq_true hg
    unfold valS at h
    rw [dif_pos hx, id] at h
    obtain ⟨h1, h2⟩ := hx.choose_spec
    exact ⟨_, h, fun B c a hr hn => ⟨c, rfl, hS _ h1 B c a (by rw [h2]; exact hr) (by rw [h2]; exact hn)⟩⟩
open Classical in
theorem viewOk_tell2 {α : Type} [Inhabited α] (S S' : α → St) (Inv : α → Prop) (hS : ∀ v, Inv v → ∀ (B : Base) (c : Cx) (a : Act), Rel B c (S v) a → NoGrd (S v) → ∃ c', c'.w = c.w ∧ Rel B c' (S' v) a ∧ NoGrd (S' v)) : ViewOk (mkU (goodS S Inv) (valS S Inv id) S') := by
  intro s k r h
  unfold mkU at h
  cases hg : goodS S Inv s with
  | false => rw [hg] at h; exact ⟨s, h, fun B c a hr hn => ⟨c, rfl, hr, hn⟩⟩
  | true =>
    rw [hg] at h
    have hx : ∃ v, Inv v ∧ S v = s := of_decide_eq_true hg
    unfold valS at h
    rw [dif_pos hx, id] at h
    obtain ⟨h1, h2⟩ := hx.choose_spec
    exact ⟨_, h, fun B c a hr hn => hS _ h1 B c a (by rw [h2]; exact hr) (by rw [h2]; exact hn)⟩
/-- States of a family told in other words; those that a test picks stay. -/
def mkX {τ : Type} (p : St → Bool) (g : St → Bool) (v : St → τ) (S : τ → St) : Vw := fun s k => cond (p s) (k s) (cond (g s) (k (S (v s))) none)
open Classical in
theorem viewOk_pick {α : Type} [Inhabited α] (p : St → Bool) (S S' : α → St) (Inv : α → Prop) (hS : ∀ v, Inv v → ∀ (B : Base) (c : Cx) (a : Act), Rel B c (S v) a → NoGrd (S v) → ∃ c', c'.w = c.w ∧ Rel B c' (S' v) a ∧ NoGrd (S' v)) : ViewOk (mkX p (goodS S Inv) (valS S Inv id) S') := by
  intro s k r h
  unfold mkX at h
  cases hp : p s with
  | true => rw [hp] at h; exact ⟨s, h, fun B c a hr hn => ⟨c, rfl, hr, hn⟩⟩
  | false =>
    rw [hp] at h
    obtain ⟨hg, h⟩ := cond_none h
    have hx : ∃ v, Inv v ∧ S v = s := of_decide_eq_true hg
    unfold valS at h
    rw [dif_pos hx, id] at h
    obtain ⟨h1, h2⟩ := hx.choose_spec
    exact ⟨_, h, fun B c a hr hn => hS _ h1 B c a (by rw [h2]; exact hr) (by rw [h2]; exact hn)⟩
open Classical in
theorem goodS_no {α : Type} {S : α → St} {Inv : α → Prop} {s : St} (h : ∀ v, Inv v → S v ≠ s) : goodS S Inv s = false := by
  unfold goodS
  exact decide_eq_false fun ⟨v, h1, h2⟩ => h v h1 h2
end Go.Ab

namespace Go.Ab
open Go
/-- The slice in a slot as nobody's. -/
def shedS (s : St) (t : Nat) : St :=
  match s.get t with
  | some (.sl _ sz n get) => s.put (some t) (.sl .no sz n get)
  | _ => s
def shedT : List Nat → St → St
  | [], s => s
  | t :: r, s => shedT r (shedS s t)
def shedV (ts : List Nat) : Vw := fun s k => k (shedT ts s)
theorem shedS_ok {B : Base} {c : Cx} {s : St} {a : Act} (h : Rel B c s a) (hn : NoGrd s) (t : Nat) : Rel B c (shedS s t) a ∧ NoGrd (shedS s t) := by
  unfold shedS
  split
  · rename_i o sz n get hv
    exact tell_slot h hn hv fun _ _ => rfl
  · exact ⟨h, hn⟩
theorem shedT_ok {B : Base} {c : Cx} {a : Act} : ∀ (ts : List Nat) (s : St), Rel B c s a → NoGrd s → Rel B c (shedT ts s) a ∧ NoGrd (shedT ts s)
  | [], s, h, hn => ⟨h, hn⟩
  | t :: r, s, h, hn => by
    have := shedS_ok h hn t
    exact shedT_ok r _ this.1 this.2
theorem shedV_ok (ts : List Nat) : ViewOk (shedV ts) := fun s k r h => ⟨shedT ts s, h, fun B c a hr hn => ⟨c, rfl, shedT_ok ts s hr hn⟩⟩
theorem blt_of {a b : Nat} (h : a < b) : Nat.blt a b = true := Nat.ble_eq_true_of_le h
theorem of_blt {a b : Nat} (h : Nat.blt a b = true) : a < b := Nat.le_of_ble_eq_true h
/-- A row with elements of one kind behind its end. -/
def fixG (z : List AV) (n : Nat) (get : Nat → List AV) : Nat → List AV := fun j => cond (Nat.blt j n) (get j) z
/-- A slot's slice as nobody's, with elements of sz cells, z behind its end; nil as an empty one. -/
def tellS (s : St) (t sz : Nat) (z : List AV) : St :=
  match s.get t with
  | some (.sl _ sz0 n get) => cond (Nat.beq sz0 sz) (s.put (some t) (.sl .no sz0 n (fixG z n get))) (match n with
    | 0 => s.put (some t) (.sl .no sz 0 fun _ => z)
    | _ + 1 => s)
  | _ => s
def tellT : List (Nat × Nat × List AV) → St → St
  | [], s => s
  | t :: r, s => tellT r (tellS s t.1 t.2.1 t.2.2)
def tellV (ts : List (Nat × Nat × List AV)) : Vw := fun s k => k (tellT ts s)
theorem tellS_ok {B : Base} {c : Cx} {s : St} {a : Act} (h : Rel B c s a) (hn : NoGrd s) (t sz : Nat) (z : List AV) : Rel B c (tellS s t sz z) a ∧ NoGrd (tellS s t sz z) := by
  unfold tellS
  split
  · rename_i o sz0 n get hv
    cases hb : Nat.beq sz0 sz with
    | true => exact tell_slot h hn hv fun j hj => by unfold fixG; rw [blt_of hj]; rfl
    | false =>
      cases n with
      | zero => exact tell_nil h hn hv
      | succ n => exact ⟨h, hn⟩
  · exact ⟨h, hn⟩
theorem tellT_ok {B : Base} {c : Cx} {a : Act} : ∀ (ts : List (Nat × Nat × List AV)) (s : St), Rel B c s a → NoGrd s → Rel B c (tellT ts s) a ∧ NoGrd (tellT ts s)
  | [], s, h, hn => ⟨h, hn⟩
  | t :: r, s, h, hn => by
    have := tellS_ok h hn t.1 t.2.1 t.2.2
    exact tellT_ok r _ this.1 this.2
theorem tellV_ok (ts : List (Nat × Nat × List AV)) : ViewOk (tellV ts) := fun s k r h => ⟨tellT ts s, h, fun B c a hr hn => ⟨c, rfl, tellT_ok ts s hr hn⟩⟩
/-- Rows of one kind. -/
theorem fixG_eq {T : Type} (R : T → List AV) (z : T) {n : Nat} {get : Nat → List AV} (g : Nat → T) (h : ∀ j, j < n → get j = R (g j)) : fixG (R z) n get = fun j => R (bif Nat.blt j n then g j else z) := by
  funext j
  unfold fixG
  cases hb : Nat.blt j n with
  | true => exact h j (of_blt hb)
  | false => rfl
/-- One element of a row changed. -/
def setF {T : Type} (f : Nat → T) (n : Nat) (x : T) : Nat → T := fun j => bif Nat.beq j n then x else f j
theorem setF_at {T : Type} (f : Nat → T) (n : Nat) (x : T) : setF f n x n = x := by unfold setF; rw [Nat.beq_refl]; rfl
theorem setF_ne {T : Type} (f : Nat → T) {n j : Nat} (x : T) (h : j ≠ n) : setF f n x j = f j := by
  unfold setF
  cases hb : Nat.beq j n with
  | false => rfl
  | true => exact absurd (Nat.eq_of_beq_eq_true hb) h
/-- A row with one element more. -/
theorem app_one {T : Type} (R : T → List AV) (n : Nat) (f : Nat → T) (h : Nat → List AV) (x : T) (hx : h 0 = R x) : appGet n 1 (fun j => R (f j)) h = fun j => R (setF f n x j) := by
  funext j
  unfold appGet
  by_cases h1 : j < n
  · rw [show Nat.blt j n = true from blt_of h1, setF_ne f x (by omega)]; rfl
  · have b1 : Nat.blt j n = false := by
      cases hb : Nat.blt j n with
      | false => rfl
      | true => exact absurd (of_blt hb) h1
    rw [b1]
    by_cases h2 : j = n
    · subst h2
      rw [setF_at, show Nat.blt j (j + 1) = true from blt_of (Nat.lt_succ_self j), Nat.sub_self, hx]; rfl
    · have b2 : Nat.blt j (n + 1) = false := by
        cases hb : Nat.blt j (n + 1) with
        | false => rfl
        | true => exact absurd (of_blt hb) (by omega)
      rw [b2, setF_ne f x h2]; rfl
/-- A row followed by another one. -/
def appF {T : Type} (n m : Nat) (f g : Nat → T) : Nat → T := fun j => bif Nat.blt j n then f j else bif Nat.blt j (n + m) then g (j - n) else f j
theorem app_row {T : Type} (R : T → List AV) (n m : Nat) (f g : Nat → T) : appGet n m (fun j => R (f j)) (fun j => R (g j)) = fun j => R (appF n m f g j) := by
  funext j
  unfold appGet appF
  cases Nat.blt j n <;> cases Nat.blt j (n + m) <;> rfl
theorem appF_lt {T : Type} {n m : Nat} (f g : Nat → T) {j : Nat} (h : j < n) : appF n m f g j = f j := by
  unfold appF; rw [show Nat.blt j n = true from blt_of h]; rfl
theorem appF_ge {T : Type} {n m : Nat} (f g : Nat → T) {j : Nat} (h : j < m) : appF n m f g (n + j) = g j := by
  have b1 : Nat.blt (n + j) n = false := by
    cases hb : Nat.blt (n + j) n with
    | false => rfl
    | true => exact absurd (of_blt hb) (by omega)
  unfold appF; rw [b1, show Nat.blt (n + j) (n + m) = true from blt_of (by omega), Nat.add_sub_cancel_left]; rfl
end Go.Ab

namespace Go.Ab
open Go
variable {B : Base} {c : Cx} {s : St} {a : Act}
/-- From here on what key k holds is sealed where a call is handed it. -/
def sealS (s : St) (k : Nat) : St :=
  match s.obj k with
  | some (.grw 0 sz n get) => s.setObj k (.grw 1 sz n get)
  | _ => s
def sealV (k : Nat) : Vw := fun s f => f (sealS s k)
theorem sealS_ok (h : Rel B c s a) (hn : NoGrd s) (k : Nat) : Rel B c (sealS s k) a ∧ NoGrd (sealS s k) := by
  unfold sealS
  split
  · rename_i sz n get hk
    have hr0 := h.objs.rep k _ hk
    have hr : ObjRep c k (.grw 1 sz n get) := by
      refine ⟨⟨hr0.1.1, Nat.zero_le _⟩, hr0.2.1, ?_⟩
      have hx := hr0.2.2
      cases hκ : c.κ k with
      | none => rw [hκ] at hx; exact hx
      | some p =>
        obtain ⟨ad, cap⟩ := p
        rw [hκ] at hx
        refine ⟨hx.1, fun h0 => ?_⟩
        have g := hx.2 h0
        exact ⟨g.row, g.addr, g.len, g.one, g.free⟩
    refine ⟨h.obj (k := k) (o := .grw 1 sz n get) ((Keeps.refl c s.objs).but k) (Grow.refl h.good) hr (fun q o' b hq hne hb e => ?_) (by simp [AO.keys]) (fun b hb => h.mine k _ b hk hb), fun t v ht => hn t v ht⟩
    exact h.objs.apart q o' k _ b hq hk hne hb e
  · exact ⟨h, hn⟩
theorem sealV_ok (k : Nat) : ViewOk (sealV k) := fun s f r h => ⟨sealS s k, h, fun B c a hr hn => ⟨c, rfl, sealS_ok hr hn k⟩⟩
/-- A cell of a variable that holds the front of what a key holds: the front under another key, K2 where it was K1, K1 else. -/
def rekV (oi ci K1 K2 : Nat) : Vw := fun s f =>
  match s.obj oi with
  | some (.cells cs) =>
    (match cs[ci]? with
    | some (.gsub k sz n 0 h) =>
      (match s.obj k, s.obj (cond (Nat.beq k K1) K2 K1) with
      | some (.grw q sz' n' get), none =>
        cond (Nat.beq sz sz' && (Nat.beq n n' && (sealOk q h && (Nat.ble h n && !(Nat.beq k oi) && !(Nat.beq (cond (Nat.beq k K1) K2 K1) oi)))))
          (f { env := s.env, objs := aput (aput (aput s.objs k .gone) (cond (Nat.beq k K1) K2 K1) (.grw q sz h get)) oi (.cells (cs.set ci (.gsl (cond (Nat.beq k K1) K2 K1) sz h))) }) none
      | _, _ => f s)
    | _ => f s)
  | _ => f s
theorem rek_ok (h : Rel B c s a) (hn : NoGrd s) {oi ci k K q sz n m : Nat} {cs : List AV} {get : Nat → List AV} {u0 : AV} (ho : s.obj oi = some (.cells cs)) (hc : cs[ci]? = some u0) (hu0 : ∀ x, Rep c u0 x → Rep c (.gsub k sz n 0 m) x) (hk : s.obj k = some (.grw q sz n get)) (hK : s.obj K = none) (hq : q - 1 ≤ m) (hm : m ≤ n) (h1 : k ≠ oi) (h2 : K ≠ oi) :
    ∃ c', c'.w = c.w ∧ Rel B c' ({ env := s.env, objs := aput (aput (aput s.objs k .gone) K (.grw q sz m get)) oi (.cells (cs.set ci (.gsl K sz m))) } : St) a ∧ NoGrd ({ env := s.env, objs := aput (aput (aput s.objs k .gone) K (.grw q sz m get)) oi (.cells (cs.set ci (.gsl K sz m))) } : St) := by
  obtain ⟨⟨⟨vs, t, hh, hvs, hr⟩, hone⟩, hI, hfr⟩ := h.objs.rep oi _ ho
  obtain ⟨c1, e1, e2, e3, e4, e5⟩ := rekey h hk hK (hu0 _ (hr ci _ hc)) hm hq
  have hci : ci < cs.length := (List.getElem?_eq_some_iff.1 hc).1
  have ho1 : ((s.setObj k .gone).setObj K (.grw q sz m get)).obj oi = some (.cells cs) := by
    rw [St.obj_setObj, if_neg h2, St.obj_setObj, if_neg h1]; exact ho
  obtain ⟨⟨⟨vs', t', hh', hvs', hr'⟩, hone'⟩, hI', hfr'⟩ := e2.objs.rep oi _ ho1
  have hβ : c1.β oi = c.β oi := e3.β oi ⟨_, ho⟩
  have hvv : vs' = vs := by
    rw [hβ, e1] at hh'
    rw [hh] at hh'
    simp only [Option.some.injEq, Obj.cells.injEq] at hh'
    exact hh'.1.symm
  subst hvv
  have hX : Rep c1 (.gsl K sz m) (vs'.getD ci undef) := by
    generalize vs'.getD ci undef = X at e4 e5
    rcases e5 with ⟨rfl, rfl⟩ | ⟨b, o, sp, cap, _, rfl, hle, _⟩
    · exact .gslNil _ _ e4
    · exact .gsl _ _ _ _ _ hle e4
  have hrow : RowAt c1 (c1.β oi) (cs.set ci (.gsl K sz m)) := by
    refine ⟨⟨vs', t', hh', by rw [List.length_set]; exact hvs', fun i u hu => ?_⟩, fun i u hu => ?_⟩
    · rw [List.getElem?_set] at hu
      by_cases e : ci = i
      · subst e; rw [if_pos rfl, if_pos hci] at hu; cases hu; exact hX
      · rw [if_neg e] at hu; exact hr' i u hu
    · rw [List.getElem?_set] at hu
      by_cases e : ci = i
      · subst e; rw [if_pos rfl, if_pos hci] at hu; cases hu; rfl
      · rw [if_neg e] at hu; exact hone' i u hu
  refine ⟨c1, e1, e2.obj (k := oi) (o := .cells (cs.set ci (.gsl K sz m))) ((Keeps.refl c1 _).but oi) (Grow.refl e2.good) ⟨hrow, hI', hfr'⟩ (fun p o' b hp hne hb e => ?_) (fun r hr => ?_) (fun b hb => e2.mine oi _ b ho1 hb), fun t v ht => hn t v ht⟩
  · exact e2.objs.apart p o' oi _ b hp ho1 hne hb e
  · have hr : r ∈ keysL (cs.set ci (.gsl K sz m)) := hr
    rcases keysL_set r hr with hr | hr
    · simp [AV.keys] at hr; subst hr
      exact .inr live_aput_self
    · exact .inr (e2.objs.closed oi _ ho1 r hr)
theorem rekV_ok (oi ci K1 K2 : Nat) : ViewOk (rekV oi ci K1 K2) := by
  intro s f r h
  unfold rekV at h
  split at h
  · rename_i cs ho
    split at h
    · rename_i k sz n m hc
      split at h
      · rename_i q sz' n' get hk hK
        obtain ⟨hb, h2⟩ := cond_none h
        clear h
        simp only [Bool.and_eq_true] at hb
        obtain ⟨b1, b2, b3, ⟨b4, b5⟩, b6⟩ := hb
        have b1 := beqT b1
        have b2 := beqT b2
        subst b1 b2
        refine ⟨_, h2, fun B c a hr hn => rek_ok hr hn ho hc (fun _ h => h) hk hK (sealOk_le b3) (Nat.le_of_ble_eq_true b4) (fun e => ?_) (fun e => ?_)⟩
        · rw [e, Nat.beq_refl] at b5; cases b5
        · rw [e, Nat.beq_refl] at b6; cases b6
      · exact ⟨s, h, fun B c a hr hn => ⟨c, rfl, hr, hn⟩⟩
    · exact ⟨s, h, fun B c a hr hn => ⟨c, rfl, hr, hn⟩⟩
  · exact ⟨s, h, fun B c a hr hn => ⟨c, rfl, hr, hn⟩⟩
/-- A slice that grows, in a cell of a variable, frozen: its length is asked. -/
def frzV (oi ci : Nat) : Vw := fun s f =>
  match s.obj oi with
  | some (.cells cs) =>
    (match cs[ci]? with
    | some (.gsl k sz n) =>
      (match s.obj k with
      | some (.grw q sz' n' get) => cond (Nat.beq sz sz' && Nat.beq n n') (f { env := s.env, objs := aput (aput s.objs k (frzO q sz n get)) oi (.cells (cs.set ci (.sl .no sz n get))) }) none
      | _ => f s)
    | _ => f s)
  | _ => f s
theorem frzV_ok (oi ci : Nat) : ViewOk (frzV oi ci) := by
  intro s f r h
  unfold frzV at h
  split at h
  · rename_i cs ho
    split at h
    · rename_i k sz n hc
      split at h
      · rename_i q sz' n' get hk
        obtain ⟨hb, h2⟩ := cond_none h
        refine ⟨_, h2, fun B c a hr hn => fzCell_sound (ob := oi) (off := ci) hr hn ?_⟩
        have hf : freezeA s.objs (.gsl k sz n) = some (.sl .no sz n get, aput s.objs k (frzO q sz n get)) := by
          have hk' : alook s.objs k = some (.grw q sz' n' get) := hk
          simp only [freezeA, hk', guardO, hb, cond_true]
        unfold fzCell
        rw [ho]
        simp only [hc, Option.bind_some, hf, freezeA_keep hf ho]
      · exact ⟨s, h, fun B c a hr hn => ⟨c, rfl, hr, hn⟩⟩
    · exact ⟨s, h, fun B c a hr hn => ⟨c, rfl, hr, hn⟩⟩
  · exact ⟨s, h, fun B c a hr hn => ⟨c, rfl, hr, hn⟩⟩
/-- One view after another one. -/
def thenV (v w : Vw) : Vw := fun s f => v s fun s' => w s' f
theorem thenV_ok {v w : Vw} (hv : ViewOk v) (hw : ViewOk w) : ViewOk (thenV v w) := fun s f r h => by
  obtain ⟨s1, h1, h2⟩ := hv s (fun s' => w s' f) r h
  obtain ⟨s2, h3, h4⟩ := hw s1 f r h1
  refine ⟨s2, h3, fun B c a hr hn => ?_⟩
  obtain ⟨c1, e1, e2, e3⟩ := h2 B c a hr hn
  obtain ⟨c2, f1, f2, f3⟩ := h4 B c1 a e2 e3
  exact ⟨c2, f1.trans e1, f2, f3⟩
/-- A slice that grows, in a slot, frozen: its length is asked. -/
def fzT (t : Nat) : Vw := fun s f =>
  match s.get t with
  | some (.gsl k sz n) =>
    (match s.obj k with
    | some (.grw q sz' n' get) => cond (Nat.beq sz sz' && Nat.beq n n') (f (({ env := s.env, objs := aput s.objs k (frzO q sz n get) } : St).put (some t) (.sl .no sz n get))) none
    | _ => f s)
  | _ => f s
theorem fzT_ok (t : Nat) : ViewOk (fzT t) := by
  intro s f r h
  unfold fzT at h
  split at h
  · rename_i k sz n hv
    split at h
    · rename_i q sz' n' get hk
      obtain ⟨hb, h2⟩ := cond_none h
      refine ⟨_, h2, fun B c a hr hn => fzSlot_sound (t := t) hr hn ?_⟩
      have hk' : alook s.objs k = some (.grw q sz' n' get) := hk
      unfold fzSlot
      simp only [hv, Option.bind_some, freezeA, hk', guardO, hb, cond_true, Option.map_some]
    · exact ⟨s, h, fun B c a hr hn => ⟨c, rfl, hr, hn⟩⟩
  · exact ⟨s, h, fun B c a hr hn => ⟨c, rfl, hr, hn⟩⟩
/-- The front of what a key holds, in a slot, under another key. -/
def rekT (t K1 K2 : Nat) : Vw := fun s f =>
  match s.get t with
  | some (.gsub k sz n 0 h) =>
    (match s.obj k, s.obj (cond (Nat.beq k K1) K2 K1) with
    | some (.grw q sz' n' get), none =>
      cond (Nat.beq sz sz' && (Nat.beq n n' && (sealOk q h && Nat.ble h n)))
        (f (({ env := s.env, objs := aput (aput s.objs k .gone) (cond (Nat.beq k K1) K2 K1) (.grw q sz h get) } : St).put (some t) (.gsl (cond (Nat.beq k K1) K2 K1) sz h))) none
    | _, _ => f s)
  | _ => f s
theorem rekT_ok (t K1 K2 : Nat) : ViewOk (rekT t K1 K2) := by
  intro s f r h
  unfold rekT at h
  split at h
  · rename_i k sz n m hv
    split at h
    · rename_i q sz' n' get hk hK
      obtain ⟨hb, h2⟩ := cond_none h
      clear h
      simp only [Bool.and_eq_true] at hb
      obtain ⟨b1, b2, b3, b4⟩ := hb
      have b1 := beqT b1
      have b2 := beqT b2
      subst b1 b2
      refine ⟨_, h2, fun B c a hr hn => ?_⟩
      have hp := hn t _ hv
      have hx : Rep c (.gsub k sz n 0 m) (a.tmps.getD t undef) := hr.env t _ hv
      obtain ⟨c1, e1, e2, e3, e4, e5⟩ := rekey hr hk hK hx (Nat.le_of_ble_eq_true b4) (sealOk_le b3)
      have hX : Rep c1 (.gsl (cond (Nat.beq k K1) K2 K1) sz m) (a.tmps.getD t undef) := by
        generalize a.tmps.getD t undef = X at e4 e5
        rcases e5 with ⟨rfl, rfl⟩ | ⟨b, o, sp, cap, _, rfl, hle, _⟩
        · exact .gslNil _ _ e4
        · exact .gsl _ _ _ _ _ hle e4
      have hs : Sees B c1 ((s.setObj k .gone).setObj (cond (Nat.beq k K1) K2 K1) (.grw q sz m get)) (.gsl (cond (Nat.beq k K1) K2 K1) sz m) (a.tmps.getD t undef) := ⟨hX, fun p hp' => by
        simp [AV.keys] at hp'; subst hp'; exact live_aput_self, rfl⟩
      have hn' : NoGrd ((s.setObj k .gone).setObj (cond (Nat.beq k K1) K2 K1) (.grw q sz m get)) := fun x u hu => hn x u hu
      exact ⟨c1, e1, e2.reslot hs hn', hn'.put hs.plain⟩
    · exact ⟨s, h, fun B c a hr hn => ⟨c, rfl, hr, hn⟩⟩
  · exact ⟨s, h, fun B c a hr hn => ⟨c, rfl, hr, hn⟩⟩
/-- A slice that grows is all of what its key holds. -/
theorem gsl_sub {c : Cx} {k sz n : Nat} {x : Value} (h : Rep c (.gsl k sz n) x) : Rep c (.gsub k sz n 0 n) x := by
  cases h with
  | gslNil _ _ ho => exact .gsubNil k sz ho
  | gsl _ _ _ a cap hle ho => exact .gsub k sz n 0 n a cap a cap hle ho (by omega) rfl (fun _ => rfl) (fun _ => by rw [Nat.zero_mul]; cases a; rfl)
/-- A slice that grows, in a cell of a variable, under the key K. -/
def regV (oi ci K : Nat) : Vw := fun s f =>
  match s.obj oi with
  | some (.cells cs) =>
    (match cs[ci]? with
    | some (.gsl k sz n) =>
      (match s.obj k, s.obj K with
      | some (.grw q sz' n' get), none =>
        cond (Nat.beq sz sz' && (Nat.beq n n' && (sealOk q n && (!(Nat.beq k oi) && !(Nat.beq K oi)))))
          (f { env := s.env, objs := aput (aput (aput s.objs k .gone) K (.grw q sz n get)) oi (.cells (cs.set ci (.gsl K sz n))) }) none
      | _, _ => f s)
    | _ => f s)
  | _ => f s
theorem regV_ok (oi ci K : Nat) : ViewOk (regV oi ci K) := by
  intro s f r h
  unfold regV at h
  split at h
  · rename_i cs ho
    split at h
    · rename_i k sz n hc
      split at h
      · rename_i q sz' n' get hk hK
        obtain ⟨hb, h2⟩ := cond_none h
        clear h
        simp only [Bool.and_eq_true] at hb
        obtain ⟨b1, b2, b3, b5, b6⟩ := hb
        have b1 := beqT b1
        have b2 := beqT b2
        subst b1 b2
        refine ⟨_, h2, fun B c a hr hn => rek_ok hr hn ho hc (fun _ h => gsl_sub h) hk hK (sealOk_le b3) (Nat.le_refl _) (fun e => ?_) (fun e => ?_)⟩
        · rw [e, Nat.beq_refl] at b5; cases b5
        · rw [e, Nat.beq_refl] at b6; cases b6
      · exact ⟨s, h, fun B c a hr hn => ⟨c, rfl, hr, hn⟩⟩
    · exact ⟨s, h, fun B c a hr hn => ⟨c, rfl, hr, hn⟩⟩
  · exact ⟨s, h, fun B c a hr hn => ⟨c, rfl, hr, hn⟩⟩
end Go.Ab

namespace Go.Ab
open Go Go.RowKit

/-- The context at a row's start: all that is there is never written again. -/
def startCx (w : World) : Cx := { w := w, I := fun b o => ∃ v, w.cell? ⟨b, o, none⟩ = some v, β := fun _ => 0, κ := fun _ => none, fr := fun _ => none }

theorem startCx_good (w : World) : Good (fun _ => none) (startCx w) := ⟨fun _ _ h => h, fun _ _ h => by cases h⟩
theorem startCx_objs (w : World) : Objs (startCx w) [] := ⟨fun _ _ h => by simp [alook] at h, fun _ _ _ _ _ h => by simp [alook] at h, fun _ _ h => by simp [alook] at h⟩

/-- What the values of a row's arguments stand for. -/
def Stand (w : World) : List AV → List Value → Prop
  | [], [] => True
  | u :: l, x :: xs => (Rep (startCx w) u x ∧ u.keys = []) ∧ Stand w l xs
  | _, _ => False

theorem Stand.spec {w : World} : ∀ {l : List AV} {xs : List Value}, Stand w l xs → xs.length = l.length ∧ keysL l = [] ∧ ∀ (i : Nat) (u : AV), l[i]? = some u → Rep (startCx w) u (xs.getD i undef)
  | [], [], _ => ⟨rfl, rfl, by simp⟩
  | u :: l, x :: xs, h => by
    obtain ⟨⟨h1, h2⟩, h3⟩ := h
    obtain ⟨e1, e2, e3⟩ := h3.spec
    refine ⟨by simp [e1], by simp [keysL, h2, e2], fun i v hv => ?_⟩
    cases i with
    | zero => simp at hv; subst hv; exact h1
    | succ i => simpa using e3 i v (by simpa using hv)

theorem calls_of_ct {P : Program} {f : FuncId} {l : List AV} {r : AV × List AO} (h : Ct P (fun _ => none) f l [] r) {xs : List Value} {w : World} (hs : Stand w l xs) :
    Calls P f xs.toArray w fun e w' => ∃ c' x, e = .returned x ∧ c'.w = w' ∧ Rep c' r.1 x ∧ Below w.heap.size w w' := by
  obtain ⟨h1, h2, h3⟩ := hs.spec
  refine (h.1 (startCx w) xs.toArray (startCx_good w) (startCx_objs w) (by simpa using h1) (fun i u hu => ?_) (by rw [h2]; simp)).mono ?_
  · have := h3 i u hu
    simpa [Array.getD_eq_getD_getElem?, List.getD_eq_getElem?_getD] using this
  · rintro e w' ⟨c', x, rfl, rfl, _, hF, _, hr, _, _⟩
    refine ⟨c', x, rfl, rfl, hr, ⟨hF.os, hF.tape, hF.output, hF.size, fun b hb => hF.block b hb ?_⟩⟩
    rintro ⟨k, o, ho, _⟩
    simp [enterObjs, alook] at ho

/-- A call that answers true. -/
theorem calls_true {P : Program} {f : FuncId} {l : List AV} {os : List AO} (h : Ct P (fun _ => none) f l [] (.bool true, os)) {xs : List Value} {w : World} (hs : Stand w l xs) :
    Calls P f xs.toArray w fun e w' => e = .returned (.bool true) ∧ Below w.heap.size w w' := by
  refine (calls_of_ct h hs).mono ?_
  rintro e w' ⟨c', x, rfl, _, hr, hb⟩
  cases hr
  exact ⟨rfl, hb⟩

/-- The check of a whole program. -/
def funcsOkB (P : Program) : Bool := P.funcs.toList.all fun fn => !(fn.name == "runtime.NumGoroutine") && (match fn.body with
  | none => true
  | some c => codeOk fn.ntmps c)
theorem funcsOk_of {P : Program} (h : funcsOkB P = true) : FuncsOk P := by
  intro f fn hf
  have := List.all_eq_true.1 h fn (by simpa using Array.mem_of_getElem? hf)
  simp only [Bool.and_eq_true, Bool.not_eq_true'] at this
  refine ⟨this.1, fun c hc => ?_⟩
  have h2 := this.2
  rw [hc] at h2; exact h2
end Go.Ab
