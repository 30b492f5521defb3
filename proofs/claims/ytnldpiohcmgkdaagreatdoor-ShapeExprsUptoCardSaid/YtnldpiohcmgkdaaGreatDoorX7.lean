/- The draws: an experiment that is spoilt: its contract. A function that hands back a pointer to a new object: its contract by a run. New and Mod (for the laws of the spoilt draws). The draws: Serve, and a Serve that is spoilt: equations. The draws: Serve, a Serve that is spoilt, Keys, long: contracts. The draws: Expr with segments: equations. The draws: Expr with segments: its loop. The draws: Expr with segments: its contract. ShapeExprs: equations. ShapeExprs: the law answers true. Reading a row's data as abstract values: numbers, texts, bools, slices, structs, to any depth. ShapeFlags: the row's data as flags, segments, layers, experiments. The package variables that a row lists, as the evaluator's globals. The Shape seat's globals out of a row's list; a slice's and a struct's arguments. Listed variables that hold slices of texts. The globals of the draws out of a row's list; a slice of bytes that came in. -/
import Derived.Test.YtnldpiohcmgkdaaGreatDoorX6
import Derived.ChangeArms
import Derived.ChangeShapes
import Derived.FnData
import Derived.MakeChecks
import Derived.Test.YtnldpiohcmgkdaaGreatDoorCards
import Derived.Test.YtnldpiohcmgkdaaGreatDoorTie
namespace Go.SH
open Go Go.Ab Go.Proofs
set_option linter.unusedVariables false
set_option linter.unusedSimpArgs false
theorem Ct.args {P : Program} {G : Nat → Option (List AV)} {f : FuncId} {l l' : List AV} {os : List AO} {r : AV × List AO} (hl : l.length = l'.length) (hk : keysL l' = keysL l) (hr : ∀ (i : Nat) (u u' : AV), l[i]? = some u → l'[i]? = some u' → ∀ c x, Rep c u x → Rep c u' x) (h : Ct P G f l' os r) : Ct P G f l os r := by
  refine ⟨fun c0 vs hg ho h1 h2 h3 => h.1 c0 vs hg ho (by rw [h1, hl]) (fun i u' hu => ?_) (fun k hk' => h3 k (by rw [← hk]; exact hk')), h.2⟩
  have hi : i < l.length := by rw [hl]; exact (List.getElem?_eq_some_iff.1 hu).1
  exact hr i l[i] u' (List.getElem?_eq_getElem hi) hu c0 _ (h2 i _ (List.getElem?_eq_getElem hi))
def sdec : List AV → Int × Int
  | [.int _ a, .int _ b] => (a, b)
  | _ => (0, 0)
def rowS (a : List AV) : Prop := a = spnC (sdec a)
def φEx (x : EXPT × CODES) : AV × List AO := (.agg x.1.c, [codO x.2])
def exPost (x : EXPT × CODES) : Prop := x.1.claims.length ≤ 20 ∧ x.1.arms.length ≤ 20 ∧ x.2.Ok
abbrev ESt := CODES ⊕ XO
def eS (l : List RG) : ESt → St
  | .inl C => XS0' l C
  | .inr x => XSm l x.m x.get x.C x.m
def eI : ESt → Prop
  | .inl C => C.Ok
  | .inr x => x.C.Ok ∧ 1 ≤ x.m ∧ x.m ≤ 17 ∧ ∀ j, j < x.m → rowS (x.get j)
def eM : ESt → Nat
  | .inl _ => 20
  | .inr x => 18 - x.m
def eZ (x : XO) : Prop := x.C.Ok ∧ x.m ≤ 17 ∧ ∀ j, j < x.m → rowS (x.get j)
def xA5 (x : (Int × Int) × List RG × CODES) : List AV := [.ref keyBase 0, .agg (xC [] [] [] [] 0 (.sl .no 2 1 (spA x.1)) (rngL x.2.1) zE)]
def xO5 (x : (Int × Int) × List RG × CODES) : List AO := [codO x.2.2]
def rA5 (x : List RG × CODES) : List AV := [.ref keyBase 0, rngL x.1]
def rO5 (x : List RG × CODES) : List AO := [codO x.2]
end Go.SH

namespace Go.Ab
open Go Go.RowKit
def finishN (X : Cfg) (fn : Func) (s : St) : Option (AV × List AO) :=
  match resultL X s fn.results.toList with
  | some [.ref k off] => (match alook s.objs k with
    | some o => cond (isNil o.keys) (some (.ref keyBase off, [o.ren fun _ => keyBase])) none
    | none => none)
  | _ => none
def runFN (X : Cfg) (n : Nat) (f : FuncId) (args : List AV) : Option (AV × List AO) :=
  match X.P.funcs[f]? with
  | some fn => (match fn.body with
    | some c => runC X f n c [] { env := enterEnv args 0, objs := enterObjs [] keyBase } fun e s =>
        (match e with
        | .exit _ => none
        | _ => finishN X fn s)
    | none => none)
  | none => none
theorem runFN_sound {X : Cfg} (hX : CallsOk X) (hm : X.P.follows .mixedOrders = true) {f : FuncId} (hO : OracOk X f) {fn : Func} (hf : X.P.funcs[f]? = some fn) (hok : ∀ c, fn.body = some c → codeOk fn.ntmps c = true) {n : Nat} {args : List AV}
    {r : AV} {os' : List AO} (he : runFN X n f args = some (r, os')) : CallOk X.P X.G f args [] r os' := by
  unfold runFN at he
  rw [hf] at he
  dsimp only at he
  cases hbody : fn.body with
  | none => simp [hbody] at he
  | some code =>
    simp only [hbody] at he
    have hcode := hok code hbody
    intro c0 vs hgood hobjs hsz hrep hkeys
    let a0 : Act := { tmps := vs ++ Array.replicate (fn.ntmps - vs.size) undef, defers := [] }
    let B : Base := { c0 := c0, D := held c0 (enterObjs [] keyBase), K := live (enterObjs [] keyBase), G := X.G, N := a0.tmps.size }
    let s0 : St := { env := enterEnv args 0, objs := enterObjs [] keyBase }
    have hN : fn.ntmps ≤ B.N := by simp [B, a0]; omega
    have hcode' : codeOk B.N code = true := codeOk_mono hN hcode
    have hget : ∀ t v, s0.get t = some v → args[t]? = some v := fun t v hv => by
      have : alook (enterEnv args 0) t = some v := hv
      rw [alook_enterEnv, if_pos (Nat.zero_le _)] at this; simpa using this
    have hval : ∀ t v, args[t]? = some v → Rep c0 v (a0.tmps.getD t undef) := fun t v hv => by
      have hlt : t < vs.size := by rw [hsz]; exact (List.getElem?_eq_some_iff.1 hv).1
      have e : a0.tmps.getD t undef = vs.getD t undef := by
        simp only [a0, Array.getD_eq_getD_getElem?]
        rw [Array.getElem?_append_left hlt]
      rw [e]; exact hrep t v hv
    have hplain : ∀ t v, s0.get t = some v → v.isGrd = false := fun t v hv => by
      have := hval t v (hget t v hv)
      generalize a0.tmps.getD t undef = V at this
      cases this <;> rfl
    have h0 : Rel B c0 s0 a0 := by
      refine ⟨hgood, ⟨rfl, rfl, rfl, Nat.le_refl _, fun _ _ _ => rfl, Ext.refl _ _, fun _ _ _ _ hi => hi⟩, hobjs, fun t v hv => EnvRep.of_rep (hplain t v hv) (hval t v (hget t v hv)),
        fun t v hv k hk => hkeys k (keys_mem_of (hget t v hv) k hk), fun k o b ho hb => .inr ⟨k, o, ho, hb⟩, rfl, rfl, fun k hk => hk⟩
    refine calls_of_wp hf hbody ?_
    refine runC_sound (B := B) hX rfl hm (fun k hk => (live_enter hk).1) f hO code [] (by simp [bodyOf, subC, hf, hbody]) hcode' n s0 c0 a0 _ (r, os') _ he h0 hplain fun ex s' c' a' hex hr' hn' => ?_
    have hfin : finishN X fn s' = some (r, os') → a'.defers = [] ∧ ∃ v, (results fn a'.tmps).run X.P c'.w = .ok v c'.w ∧ ∃ c2 x, Ending.returned v = .returned x ∧ c2.w = c'.w ∧ Good X.G c2 ∧
      Frame { c0 := c0, D := held c0 (enterObjs [] keyBase), K := live (enterObjs [] keyBase), G := X.G, N := 0 } c2 ∧
      Objs c2 (enterObjs os' keyBase) ∧ Rep c2 r x ∧ (∀ k ∈ r.keys, live (enterObjs os' keyBase) k) ∧
      ∀ k o b, alook (enterObjs os' keyBase) k = some o → excl c2 k o = some b → c0.w.heap.size ≤ b ∨ held c0 (enterObjs [] keyBase) b := by
      intro hfin
      refine ⟨hr'.defers, ?_⟩
      unfold finishN at hfin
      cases h1 : resultL X s' fn.results.toList with
      | none => simp [h1] at hfin
      | some rs =>
      rw [h1] at hfin
      split at hfin
      · rename_i k off hrs
        simp only [Option.some.injEq] at hrs
        subst hrs
        cases ho : alook s'.objs k with
        | none => simp [ho] at hfin
        | some o =>
        simp only [ho] at hfin
        obtain ⟨hb, hfin⟩ := cond_none hfin
        simp only [Option.some.injEq, Prod.mk.injEq] at hfin
        obtain ⟨rfl, rfl⟩ := hfin
        have hnil : o.keys = [] := by cases hk : o.keys with | nil => rfl | cons q l => simp [hk, isNil] at hb
        obtain ⟨xs, hs, hrun⟩ := resultL_sound X hr' hn' h1
        have hl : xs.length = 1 := by rw [hs.1]; rfl
        obtain ⟨x, rfl⟩ := List.length_eq_one_iff.1 hl
        have hx : Rep c' (.ref k off) x := (hs.2 0 (.ref k off) rfl).rep
        have hm' : (fn.results.mapM (m := Sem) (resF a'.tmps)).run X.P c'.w = .ok [x].toArray c'.w := by
          rw [Array.mapM_eq_mapM_toList]
          simp only [Sem.run_map]
          rw [hrun]; rfl
        have hres : (results fn a'.tmps).run X.P c'.w = .ok x c'.w := by
          rw [results_eq]
          simp only [Sem.run_bind, hm', Result.andThen_ok]
          rfl
        let c2 : Cx := { w := c'.w, I := c'.I, β := fun _ => c'.β k, κ := fun _ => c'.κ k, fr := fun _ => c'.fr k }
        have hone : ∀ q o', alook (enterObjs [o.ren fun _ => keyBase] keyBase) q = some o' → q = keyBase ∧ o' = o.ren fun _ => keyBase := by
          intro q o' h
          simp only [enterObjs, alook] at h
          cases hq : Nat.beq keyBase q with
          | true => rw [hq] at h; simp at h; exact ⟨(beqT hq).symm, h.symm⟩
          | false => rw [hq] at h; simp at h
        have hlive : live (enterObjs [o.ren fun _ => keyBase] keyBase) keyBase := ⟨_, rfl⟩
        have hno : ∀ q, ¬ live (enterObjs [] keyBase) q := by rintro q ⟨o', h⟩; cases h
        refine ⟨x, hres, c2, x, rfl, rfl, ⟨hr'.good.there, fun g cs hg => (hr'.good.globs g cs hg).ext (ks := fun _ => False) ⟨fun _ _ _ _ hv => hv, fun _ _ hi => hi, fun _ hk => hk.elim, fun _ hk => hk.elim⟩ (by simp [AV.keys])⟩,
          ⟨hr'.frame.os, hr'.frame.output, hr'.frame.tape, hr'.frame.size, hr'.frame.block, ⟨hr'.frame.ext.cell, hr'.frame.ext.I, fun q hq => absurd hq (hno q), fun q hq => absurd hq (hno q)⟩, hr'.frame.new⟩,
          ⟨fun q o' h => ?_, fun q o1 q' o2 b h h' hne => ?_, fun q o' h p hp => ?_⟩, ?_, fun q hq => ?_, fun q o' b h hb' => ?_⟩
        · obtain ⟨rfl, rfl⟩ := hone q o' h
          exact (hr'.objs.rep k o ho).ren rfl rfl rfl rfl rfl fun q hq => by rw [hnil] at hq; cases hq
        · obtain ⟨e1, _⟩ := hone q o1 h
          obtain ⟨e2, _⟩ := hone q' o2 h'
          exact absurd (e1.trans e2.symm) hne
        · obtain ⟨rfl, rfl⟩ := hone q o' h
          obtain ⟨q', hq', _⟩ := AO.ren_keys _ _ p hp
          rw [hnil] at hq'; cases hq'
        · exact Rep.ren (c := c') (c' := c2) (m := fun _ => keyBase) (fun _ _ _ _ hv => hv) (fun _ _ hi => hi) hx fun q hq => by
            have : q = k := by simpa [AV.keys] using hq
            subst this; exact ⟨rfl, fun _ _ h => h⟩
        · have : q = keyBase := by simpa [AV.keys] using hq
          subst this; exact hlive
        · obtain ⟨rfl, rfl⟩ := hone q o' h
          rw [show excl c2 keyBase (o.ren fun _ => keyBase) = excl c' k o from excl_ren rfl rfl] at hb'
          exact hr'.mine k o b ho hb'
      · cases hfin
    cases ex with
    | exit id => simp at hex
    | nor => exact hfin hex
    | ret => exact hfin hex
theorem ct_new {V : Env} {T : List Ent} {d : Nat} {f : FuncId} {n : Nat} {l : List AV} {r : AV × List AO} (hm : V.P.follows .mixedOrders = true) (hP : FuncsOk V.P) (hT : TabOk V T)
    (he : runFN (V.run T d [] [] [] f) n f l = some r) : Ct V.P V.G f l [] r := by
  have hO : OracOk (V.run T d [] [] [] f) f := by
    refine ⟨fun p g hg => ?_, fun p g hg => ?_, fun p g hg => ?_⟩
    all_goals
      simp only [Env.run, Nat.beq_refl, cond_true] at hg
      exact absurd (orGet_mem hg) (List.not_mem_nil)
  have hh := he
  unfold runFN at hh
  cases hf : (V.run T d [] [] [] f).P.funcs[f]? with
  | none => simp only [hf] at hh; cases hh
  | some fn =>
    have hf' : V.P.funcs[f]? = some fn := hf
    obtain ⟨h1, h2⟩ := hP f fn hf'
    refine ⟨runFN_sound (X := V.run T d [] [] [] f) (calls_tab hm hP hT d [] [] [] f) hm hO hf h2 he, fn, hf', h1, ?_⟩
    cases hb : fn.body with
    | none => simp only [hf, hb] at hh; cases hh
    | some c => rfl
end Go.Ab

namespace Go.SH
open Go Go.Ab Go.Proofs
set_option linter.unusedVariables false
set_option linter.unusedSimpArgs false
def φNew (C : CODES) : AV × List AO := (.ref keyBase 0, [codO C])
set_option maxRecDepth 100000 in
theorem new_m (n : Nat) (g : Nat → Int) (m : Int)  : runFN (V2.run [] 3 [] [] [] 12) 9 12 [.sl .no 1 n fun j => [.int .u8 (g j)], .int .i64 m] =
  cond (decide ((↑n : Int) > m)) (cond (decide (0 ≤ (↑0 : Int)) && (decide ((↑0 : Int) ≤ m) && decide (m ≤ (↑n : Int)))) (some ((.ref 1000000 0, [.cells [.sl .no 1 (Int.toNat m - Int.toNat (↑0 : Int)) fun j => [.int .u8 (g (Int.toNat (↑0 : Int) + j))], .int .i64 0] ]))) (none)) (some ((.ref 1000000 0, [.cells [.sl .no 1 n fun j => [.int .u8 (g j)], .int .i64 0] ]))) := by kernel_rfl
theorem new_ok {n : Nat} {g : Nat → Int} (hg : ∀ j, j < n → 0 ≤ g j ∧ g j < 256) {m : Int} (h0 : 0 ≤ m) (h1 : m ≤ 1000) : ∃ C : CODES, C.Ok ∧ Ct V2.P V2.G 12 [.sl .no 1 n fun j => [.int .u8 (g j)], .int .i64 m] [] (φNew C) := by
  have e := new_m n g m
  by_cases h : (n : Int) > m
  · rw [decide_eq_true h, decide_eq_true (show (0 : Int) ≤ 0 from Int.le_refl _), decide_eq_true (show (0 : Int) ≤ m from h0), decide_eq_true (show m ≤ (n : Int) by omega)] at e
    have hz : (fun j => [AV.int .u8 (g (Int.toNat 0 + j))]) = fun j => [AV.int .u8 (g j)] := by
      funext j; rw [show Int.toNat 0 = 0 from rfl, Nat.zero_add]
    rw [hz] at e
    exact ⟨⟨m.toNat, g, 0⟩, ⟨Nat.zero_le _, by show m.toNat ≤ _; omega, fun j hj => hg j (by have : j < m.toNat := hj; omega)⟩, ct_new mixed2 funcs2 tabOk_nil e⟩
  · rw [decide_eq_false h] at e
    exact ⟨⟨n, g, 0⟩, ⟨Nat.zero_le _, by show n ≤ _; omega, hg⟩, ct_new mixed2 funcs2 tabOk_nil e⟩
def mA (x : Int × Int) : List AV := [.int .i64 x.1, .int .i64 x.2]
def mP (x : Int × Int) : Prop := 1 ≤ x.2 ∧ x.2 ≤ 1000000
def mPost (x : Int × Int) (z : Int) : Prop := 0 ≤ z ∧ z < x.2
end Go.SH

namespace Go.SH
open Go Go.Ab Go.Proofs
set_option linter.unusedVariables false
set_option linter.unusedSimpArgs false
def φSv (x : SERVE × CODES) : AV × List AO := (.agg x.1.c, [codO x.2])
def getS (l : List (List UInt8)) (j : Nat) : List AV := [.str (l.getD j [])]
def L620 (n : Int) : St := { env := [(0, .int .i64 n), (3, .sl (.key 24) 1 0 fun _ => [.str [] ]), (4, .int .i64 0)], objs := [(24, .own 1 0)] }
def L62 (n : Int) (m : Nat) (get : Nat → List AV) (i : Int) : St := { env := [(0, .int .i64 n), (3, .sl (.key 24) 1 m get), (4, .int .i64 i)], objs := [(24, .own 1 m)] }
structure LO where
  m : Nat
  get : Nat → List AV
instance : Inhabited LO := ⟨⟨0, fun _ => []⟩⟩
def out62 (x : LO) (k : Ex → St → Res) : Res := k (.exit 0) { env := [(3, .sl (.key 24) 1 x.m x.get)], objs := [(24, .own 1 x.m)] }
def L610 (a : Int) (C : CODES) : St := { env := [(0, .ref keyBase 0), (3, .int .i64 a), (4, .sl (.key 25) 1 0 fun _ => [.str [] ]), (5, .int .i64 0)], objs := [(keyBase, codO C), (25, .own 1 0)] }
def L61 (a : Int) (m : Nat) (get : Nat → List AV) (C : CODES) (i : Int) : St := { env := [(0, .ref keyBase 0), (3, .int .i64 a), (4, .sl (.key 25) 1 m get), (5, .int .i64 i)], objs := [(25, .own 1 m), (keyBase, codO C)] }
def out61 (x : List (List UInt8) × CODES) (k : Ex → St → Res) : Res := k (.exit 0) { env := [(4, .sl (.key 25) 1 x.1.length (getS x.1))], objs := [(25, .own 1 x.1.length), (keyBase, codO x.2)] }
def L61b (l : List (List UInt8)) (C : CODES) (i : Int) : St := { env := [(4, .sl (.key 25) 1 l.length (getS l)), (6, .int .i64 i)], objs := [(25, .own 1 l.length), (keyBase, codO C)] }
def out61b (l : List (List UInt8)) (C : CODES) (x : Bool × Int) (k : Ex → St → Res) : Res := cond x.1 (k .ret { env := [(2, .sl .no 1 (Int.toNat x.2 - 0) fun j => getS l (0 + j))], objs := [(25, .own 1 l.length), (keyBase, codO C)] }) (k (.exit 2) { env := [(4, .sl (.key 25) 1 l.length (getS l))], objs := [(25, .own 1 l.length), (keyBase, codO C)] })
def φS1 (x : LO) : AV × List AO := (.sl .no 1 x.m x.get, [])
def φKs (x : LO × CODES) : AV × List AO := (.sl .no 1 x.1.m x.1.get, [codO x.2])
end Go.SH

namespace Go.SH
open Go Go.Ab Go.Proofs
set_option linter.unusedVariables false
set_option linter.unusedSimpArgs false
instance : Inhabited SERVE := ⟨⟨0, [], [], [], []⟩⟩
instance : Inhabited (SERVE × CODES) := ⟨(default, default)⟩
def svP (x : CODES × Int) : Prop := x.1.Ok ∧ 1 ≤ x.2 ∧ x.2 ≤ 8
def svPost (x : CODES × Int) (y : SERVE × CODES) : Prop := (serveE y.1 x.2 = 0 ∧ y.1.split.length ≤ 4 ∧ y.1.Ok) ∧ y.2.Ok
theorem lenS_small {s : List UInt8} (h : s.length ≤ 100) : lenS s := by unfold lenS maxS; omega
def svA5 (x : SERVE × CODES) : List AV := [.ref keyBase 0, .agg x.1.c]
def svO5 (x : SERVE × CODES) : List AO := [codO x.2]
def svI (x : SERVE × CODES) : Prop := (x.1.Ok ∧ x.1.split.length ≤ 5) ∧ x.2.Ok
def svZ (x : SERVE × CODES) : Prop := (x.1.Ok ∧ x.1.split.length ≤ 17) ∧ x.2.Ok
abbrev LSt := Unit ⊕ LO
def lS (n : Int) : LSt → St
  | .inl _ => L620 n
  | .inr x => L62 n x.m x.get x.m
def lI (n : Int) : LSt → Prop
  | .inl _ => True
  | .inr x => 1 ≤ x.m ∧ (x.m : Int) ≤ n
def lM : LSt → Nat
  | .inl _ => 100
  | .inr x => 60 - x.m
def lA (n : Int) : List AV := [.int .i64 n]
abbrev KSt := CODES ⊕ (List (List UInt8) × CODES)
def ykS (a : Int) : KSt → St
  | .inl C => L610 a C
  | .inr (l, C) => L61 a l.length (getS l) C l.length
def ykI : KSt → Prop
  | .inl C => C.Ok
  | .inr (l, C) => C.Ok ∧ 1 ≤ l.length ∧ l.length ≤ 3
def ykM : KSt → Nat
  | .inl _ => 5
  | .inr (l, _) => 4 - l.length
def ykZ (x : List (List UInt8) × CODES) : Prop := x.1.length ≤ 3 ∧ x.2.Ok
instance : Inhabited (List (List UInt8) × CODES) := ⟨([], default)⟩
def kbS (l : List (List UInt8)) (C : CODES) (i : Nat) : St := L61b l C (i : Int)
instance : Inhabited (LO × CODES) := ⟨(default, default)⟩
end Go.SH

namespace Go.SH
open Go Go.Ab Go.Proofs
set_option linter.unusedVariables false
set_option linter.unusedSimpArgs false
def segA (s : List (List UInt8)) : AV := .sl .no 1 s.length (getS s)
def ZS0 (s : List (List UInt8)) (op lv n : Int) (C : CODES) : St := { env := [(0, .ref keyBase 0), (1, segA s), (2, .int .i64 lv), (6, .ref 6 0), (8, .int .i64 op), (9, .ref 9 0), (10, .int .i64 n), (11, .int .i64 0)], objs := [(6, .cells ex0), (9, .cells (exK op (.sl (.key 81) 5 0 fun _ => ex0))), (keyBase, codO C), (81, .own 5 0)] }
def ZS (s : List (List UInt8)) (op lv n : Int) (m : Nat) (get : Nat → List AV) (C : CODES) (i : Nat) : St := { env := [(0, .ref keyBase 0), (1, segA s), (2, .int .i64 lv), (6, .ref 6 0), (8, .int .i64 op), (9, .ref 9 0), (10, .int .i64 n), (11, .int .i64 i)], objs := [(6, .cells ex0), (9, .cells (exK op (.sl (.key 81) 5 m get))), (81, .own 5 m), (keyBase, codO C)] }
set_option maxRecDepth 100000 in
theorem sxp_r0 (ge gx : List AV → List AO → Bool) (ve : List AV → List AO → Int × CODES) (vx : List AV → List AO → EXP × CODES) (T : List Ent) (L : List (List Nat × Orc)) (m : Nat) (op lv n : Int) (C : CODES) (kn : St → Res) (k : Ex → St → Res) (s : List (List UInt8)) {t1 : EXP × CODES} (h_t1 : vx [.ref 1000000 0, segA s, .int .i64 (IntKind.wrap IntKind.i64 (lv - 1))] [codO C] = t1) : roundR (V2.run (mkE 19 ge ve φX :: mkE 13 gx vx φC :: T) 3 [] L [] 13) 13 m [1, 1, 1, 0, 1, 0, 1, 1, 1, 1, 1, 1, 1, 0, 1, 1, 1, 0, 1, 0] (ZS0 s op lv n C) kn k =
  cond (decide (0 < n)) (cond (gx [.ref 1000000 0, segA s, .int .i64 (IntKind.wrap IntKind.i64 (lv - 1))] [codO C]) (cond (EXP.op (Prod.fst t1) == op) (kn (ZS s op lv n 1 (appGet 0 1 (fun x => exK 0 (.sl .fit 0 0 fun x => [])) (fillGet (exK 0 (.sl .fit 0 0 fun x => [])) [(0, .agg (exK 4 (.sl .fit 5 1 (fillGet (exK 0 (.sl .fit 0 0 fun x => [])) [(0, .agg (eC (Prod.fst t1)))]))))])) (Prod.snd t1) ((0 + 1) % Int.natAbs (2 ^ IntKind.bits IntKind.i64)))) (kn (ZS s op lv n 1 (appGet 0 1 (fun x => exK 0 (.sl .fit 0 0 fun x => [])) (fillGet (exK 0 (.sl .fit 0 0 fun x => [])) [(0, .agg (eC (Prod.fst t1)))])) (Prod.snd t1) ((0 + 1) % Int.natAbs (2 ^ IntKind.bits IntKind.i64))))) (none)) (k (.exit 1) (XE op 0 (fun x => exK 0 (.sl .fit 0 0 fun x => [])) C)) := by subst h_t1; kernel_rfl
set_option maxRecDepth 100000 in
theorem sxp_r (ge gx : List AV → List AO → Bool) (ve : List AV → List AO → Int × CODES) (vx : List AV → List AO → EXP × CODES) (T : List Ent) (L : List (List Nat × Orc)) (m : Nat) (op lv n : Int) (q : Nat) (get : Nat → List AV) (C : CODES) (i : Nat) (kn : St → Res) (k : Ex → St → Res) (s : List (List UInt8)) {t1 : EXP × CODES} (h_t1 : vx [.ref 1000000 0, segA s, .int .i64 (IntKind.wrap IntKind.i64 (lv - 1))] [codO C] = t1) : roundR (V2.run (mkE 19 ge ve φX :: mkE 13 gx vx φC :: T) 3 [] L [] 13) 13 m [1, 1, 1, 0, 1, 0, 1, 1, 1, 1, 1, 1, 1, 0, 1, 1, 1, 0, 1, 0] (ZS s op lv n (q + 1) get C i) kn k =
  cond (decide ((↑i : Int) < n)) (cond (gx [.ref 1000000 0, segA s, .int .i64 (IntKind.wrap IntKind.i64 (lv - 1))] [codO C]) (cond (EXP.op (Prod.fst t1) == op) (cond (roomy (88) (q + 1 + 1) && Nat.beq (q + 1) (q + 1)) (kn ({ env := [(0, .ref 1000000 0), (1, segA s), (2, .int .i64 lv), (6, .ref 6 0), (8, .int .i64 op), (9, .ref 9 0), (10, .int .i64 n), (11, .int .i64 (IntKind.wrap IntKind.i64 ((↑i : Int) + 1)))], objs := [(6, .cells (exK 0 (.sl .fit 0 0 fun x => []))), (9, .cells (exK op (.sl (.key 81) 5 (q + 1 + 1) (appGet (q + 1) 1 get (fillGet (exK 0 (.sl .fit 0 0 fun x => [])) [(0, .agg (exK 4 (.sl .fit 5 1 (fillGet (exK 0 (.sl .fit 0 0 fun x => [])) [(0, .agg (eC (Prod.fst t1)))]))))]))))), (81, .own 5 (q + 1 + 1)), (1000000, codO (Prod.snd t1))] })) (none)) (cond (roomy (88) (q + 1 + 1) && Nat.beq (q + 1) (q + 1)) (kn ({ env := [(0, .ref 1000000 0), (1, segA s), (2, .int .i64 lv), (6, .ref 6 0), (8, .int .i64 op), (9, .ref 9 0), (10, .int .i64 n), (11, .int .i64 (IntKind.wrap IntKind.i64 ((↑i : Int) + 1)))], objs := [(6, .cells (exK 0 (.sl .fit 0 0 fun x => []))), (9, .cells (exK op (.sl (.key 81) 5 (q + 1 + 1) (appGet (q + 1) 1 get (fillGet (exK 0 (.sl .fit 0 0 fun x => [])) [(0, .agg (eC (Prod.fst t1)))]))))), (81, .own 5 (q + 1 + 1)), (1000000, codO (Prod.snd t1))] })) (none))) (none)) (k (.exit 1) (XE op (q + 1) get C)) := by subst h_t1; kernel_rfl
set_option maxRecDepth 100000 in
theorem sxp_e (ge gx gt : List AV → List AO → Bool) (ve : List AV → List AO → Int × CODES) (vx vt : List AV → List AO → EXP × CODES) (w : St → Bool) (v : St → List KID × CODES) (o lv : Int) (C : CODES) (s : List (List UInt8)) {t1 : Int × CODES} (h_t1 : ve [.ref 1000000 0, .int .i64 8] [codO C] = t1) {t2 : Int × CODES} (h_t2 : ve [.ref 1000000 0, .int .i64 (↑(List.length s) : Int)] [codO (Prod.snd t1)] = t2) {t3 : EXP × CODES} (h_t3 : vt [.ref 1000000 0] [codO (Prod.snd t1)] = t3) {t4 : EXP × CODES} (h_t4 : vx [.ref 1000000 0, segA s, .int .i64 (IntKind.wrap IntKind.i64 (lv - 1))] [codO (Prod.snd t1)] = t4) {t5 : Int × CODES} (h_t5 : ve [.ref 1000000 0, .int .i64 2] [codO (Prod.snd t1)] = t5) {t6 : Int × CODES} (h_t6 : ve [.ref 1000000 0, .int .i64 2] [codO (Prod.snd t5)] = t6) {t7 : List KID × CODES} (h_t7 : v (ZS0 s (IntKind.wrap IntKind.i64 (2 + Prod.fst t5)) lv (IntKind.wrap IntKind.i64 (2 + Prod.fst t6)) (Prod.snd t6)) = t7) : runF (V2.run [mkE 19 ge ve φX, mkE 13 gx vx φC, mkE 47 gt vt φC] 3 [] [([1, 1, 1, 0, 1, 0, 1, 1, 1, 1, 1, 1, 1, 0, 1, 1, 1, 0, 1, 0], mkO w v (outX o))] [] 13) 9 13 [.ref keyBase 0, segA s, .int .i64 lv] [codO C] =
  cond (ge [.ref 1000000 0, .int .i64 8] [codO C]) (cond (bif decide (lv ≤ 1) then decide (Prod.fst t1 ≥ 4) else false) (cond (IntKind.wrap IntKind.i64 (Prod.fst t1 - 4) == 0) (some ((.agg (exK 1 (.sl .fit 0 0 fun x => [])), [codO (Prod.snd t1)]))) (cond (IntKind.wrap IntKind.i64 (Prod.fst t1 - 4) == 3) (cond (decide ((↑(List.length s) : Int) > 0)) (cond (ge [.ref 1000000 0, .int .i64 (↑(List.length s) : Int)] [codO (Prod.snd t1)]) (cond (within (Prod.fst t2) (List.length s)) (some ((.agg [.int .i64 5, .str [], .str (List.getD s (Int.toNat (Prod.fst t2)) []), .sl .fit 0 0 fun x => [], .sl .fit 0 0 fun x => [] ], [codO (Prod.snd t2)]))) (none)) (none)) (cond (gt [.ref 1000000 0] [codO (Prod.snd t1)]) (some ((.agg (eC (Prod.fst t3)), [codO (Prod.snd t3)]))) (none))) (cond (IntKind.wrap IntKind.i64 (Prod.fst t1 - 4) == 4) (cond (gx [.ref 1000000 0, segA s, .int .i64 (IntKind.wrap IntKind.i64 (lv - 1))] [codO (Prod.snd t1)]) (some ((.agg (exK 4 (.sl .fit 5 1 (fillGet (exK 0 (.sl .fit 0 0 fun x => [])) [(0, .agg (eC (Prod.fst t4)))]))), [codO (Prod.snd t4)]))) (none)) (cond (IntKind.wrap IntKind.i64 (Prod.fst t1 - 4) == 5) (cond (IntKind.wrap IntKind.i64 (Prod.fst t1 - 4) == 5) (cond (ge [.ref 1000000 0, .int .i64 2] [codO (Prod.snd t1)]) (cond (ge [.ref 1000000 0, .int .i64 2] [codO (Prod.snd t5)]) (cond (w (ZS0 s (IntKind.wrap IntKind.i64 (2 + Prod.fst t5)) lv (IntKind.wrap IntKind.i64 (2 + Prod.fst t6)) (Prod.snd t6))) (some ((.agg (exK o (.sl .no 5 (List.length (Prod.fst t7)) (getX (Prod.fst t7)))), [codO (Prod.snd t7)]))) (none)) (none)) (none)) (cond (gt [.ref 1000000 0] [codO (Prod.snd t1)]) (some ((.agg (eC (Prod.fst t3)), [codO (Prod.snd t3)]))) (none))) (cond (IntKind.wrap IntKind.i64 (Prod.fst t1 - 4) == 6) (cond (ge [.ref 1000000 0, .int .i64 2] [codO (Prod.snd t1)]) (cond (ge [.ref 1000000 0, .int .i64 2] [codO (Prod.snd t5)]) (cond (w (ZS0 s (IntKind.wrap IntKind.i64 (2 + Prod.fst t5)) lv (IntKind.wrap IntKind.i64 (2 + Prod.fst t6)) (Prod.snd t6))) (some ((.agg (exK o (.sl .no 5 (List.length (Prod.fst t7)) (getX (Prod.fst t7)))), [codO (Prod.snd t7)]))) (none)) (none)) (none)) (cond (gt [.ref 1000000 0] [codO (Prod.snd t1)]) (some ((.agg (eC (Prod.fst t3)), [codO (Prod.snd t3)]))) (none))))))) (cond (Prod.fst t1 == 0) (some ((.agg (exK 1 (.sl .fit 0 0 fun x => [])), [codO (Prod.snd t1)]))) (cond (Prod.fst t1 == 3) (cond (decide ((↑(List.length s) : Int) > 0)) (cond (ge [.ref 1000000 0, .int .i64 (↑(List.length s) : Int)] [codO (Prod.snd t1)]) (cond (within (Prod.fst t2) (List.length s)) (some ((.agg [.int .i64 5, .str [], .str (List.getD s (Int.toNat (Prod.fst t2)) []), .sl .fit 0 0 fun x => [], .sl .fit 0 0 fun x => [] ], [codO (Prod.snd t2)]))) (none)) (none)) (cond (gt [.ref 1000000 0] [codO (Prod.snd t1)]) (some ((.agg (eC (Prod.fst t3)), [codO (Prod.snd t3)]))) (none))) (cond (Prod.fst t1 == 4) (cond (gx [.ref 1000000 0, segA s, .int .i64 (IntKind.wrap IntKind.i64 (lv - 1))] [codO (Prod.snd t1)]) (some ((.agg (exK 4 (.sl .fit 5 1 (fillGet (exK 0 (.sl .fit 0 0 fun x => [])) [(0, .agg (eC (Prod.fst t4)))]))), [codO (Prod.snd t4)]))) (none)) (cond (Prod.fst t1 == 5) (cond (Prod.fst t1 == 5) (cond (ge [.ref 1000000 0, .int .i64 2] [codO (Prod.snd t1)]) (cond (ge [.ref 1000000 0, .int .i64 2] [codO (Prod.snd t5)]) (cond (w (ZS0 s (IntKind.wrap IntKind.i64 (2 + Prod.fst t5)) lv (IntKind.wrap IntKind.i64 (2 + Prod.fst t6)) (Prod.snd t6))) (some ((.agg (exK o (.sl .no 5 (List.length (Prod.fst t7)) (getX (Prod.fst t7)))), [codO (Prod.snd t7)]))) (none)) (none)) (none)) (cond (gt [.ref 1000000 0] [codO (Prod.snd t1)]) (some ((.agg (eC (Prod.fst t3)), [codO (Prod.snd t3)]))) (none))) (cond (Prod.fst t1 == 6) (cond (ge [.ref 1000000 0, .int .i64 2] [codO (Prod.snd t1)]) (cond (ge [.ref 1000000 0, .int .i64 2] [codO (Prod.snd t5)]) (cond (w (ZS0 s (IntKind.wrap IntKind.i64 (2 + Prod.fst t5)) lv (IntKind.wrap IntKind.i64 (2 + Prod.fst t6)) (Prod.snd t6))) (some ((.agg (exK o (.sl .no 5 (List.length (Prod.fst t7)) (getX (Prod.fst t7)))), [codO (Prod.snd t7)]))) (none)) (none)) (none)) (cond (gt [.ref 1000000 0] [codO (Prod.snd t1)]) (some ((.agg (eC (Prod.fst t3)), [codO (Prod.snd t3)]))) (none)))))))) (none) := by subst h_t7 h_t6 h_t5 h_t4 h_t3 h_t2 h_t1; kernel_rfl
end Go.SH

namespace Go.SH
open Go Go.Ab Go.Proofs
set_option linter.unusedVariables false
set_option linter.unusedSimpArgs false
def zA (s : List (List UInt8)) (lv : Int) (_ : CODES) : List AV := [.ref keyBase 0, segA s, .int .i64 lv]
def zPost (q z : Nat) (x : EXP × CODES) : Prop := ((VE q x.1 ∧ x.1.Ok) ∧ x.1.size ≤ z) ∧ x.2.Ok
def okKz (op : Int) (q z : Nat) (k : KID) : Prop := okK op q k ∧ k.e.size ≤ z + 1
def zS (s : List (List UInt8)) (op lv : Int) (n : Nat) : XSt → St
  | .inl C => ZS0 s op lv n C
  | .inr (l, C) => ZS s op lv n l.length (getX l) C l.length
def zI (op : Int) (q z n : Nat) : XSt → Prop
  | .inl C => C.Ok
  | .inr (l, C) => C.Ok ∧ 1 ≤ l.length ∧ l.length ≤ n ∧ ∀ k ∈ l, okKz op q z k
def zZ (op : Int) (q z n : Nat) (y : List KID × CODES) : Prop := y.1.length = n ∧ (∀ k ∈ y.1, okKz op q z k) ∧ y.2.Ok
theorem notX_size (e : EXP) : (notX e).size = 1 + e.size := by
  rw [EXP.size_eq]
  show 1 + sizeL [e] = _
  simp only [sizeL]
  omega
theorem kidOf_okz {op : Int} {q z : Nat} {x : EXP × CODES} (hop : op = 2 ∨ op = 3) (h : zPost q z x) : okKz op q z (kidOf op x.1) := by
  refine ⟨kidOf_ok hop ⟨h.1.1, h.2⟩, ?_⟩
  have := h.1.2
  unfold kidOf
  cases (x.1.op == op) with
  | true => show (notX x.1).size ≤ z + 1; rw [notX_size]; omega
  | false => show x.1.size ≤ z + 1; omega
theorem zA_good {s : List (List UInt8)} {lv : Int} {C : CODES} (h : C.Ok) : goodA (zA s lv) cO CODES.Ok [.ref 1000000 0, segA s, .int .i64 lv] [codO C] = true := goodA_eq (A := zA s lv) (O := cO) (v := C) h
theorem zA_post {s : List (List UInt8)} {lv : Int} {q z : Nat} {wx : CODES → EXP × CODES} (hwx : ∀ C, C.Ok → zPost q z (wx C)) {C : CODES} (h : C.Ok) : zPost q z (valA (zA s lv) cO CODES.Ok wx [.ref 1000000 0, segA s, .int .i64 lv] [codO C]) := valA_post (A := zA s lv) (O := cO) (a := C) (Post := fun (_ : CODES) (x : EXP × CODES) => zPost q z x) hwx (fun _ _ _ _ _ h => h) h
theorem sexpr_loop (s : List (List UInt8)) (op lv : Int) (n q z : Nat) (hop : op = 2 ∨ op = 3) (h2 : 2 ≤ n) (h3 : n ≤ 3) (ge : List AV → List AO → Bool) (ve : List AV → List AO → Int × CODES)
    (wx : CODES → EXP × CODES) (hwx : ∀ C, C.Ok → zPost q z (wx C)) (T : List Ent) :
    ∃ w : XSt → List KID × CODES, (∀ v, zI op q z n v → zZ op q z n (w v)) ∧ ∀ L, LoopOk (V2.run (mkE 19 ge ve φX :: entC 13 (zA s (IntKind.wrap .i64 (lv - 1))) cO CODES.Ok wx φC :: T) 3 [] L [] 13) 13 [1, 1, 1, 0, 1, 0, 1, 1, 1, 1, 1, 1, 1, 0, 1, 1, 1, 0, 1, 0] (mkO (goodS (zS s op lv n) (zI op q z n)) (valS (zS s op lv n) (zI op q z n) w) (outX op)) := by
  refine loop_ex (Xf := fun L => V2.run (mkE 19 ge ve φX :: entC 13 (zA s (IntKind.wrap .i64 (lv - 1))) cO CODES.Ok wx φC :: T) 3 [] L [] 13) (b := subC (bodyOf V2.P 13) ([1, 1, 1, 0, 1, 0, 1, 1, 1, 1, 1, 1, 1, 0, 1, 1, 1, 0, 1, 0] ++ [0])) (zS s op lv n) (zI op q z n) xM (outX op) (fun _ => zZ op q z n) (fun _ => by kernel_rfl) 9 fun v hv => ?_
  have hgv : ∀ C : CODES, C.Ok → goodA (zA s (IntKind.wrap .i64 (lv - 1))) cO CODES.Ok [.ref 1000000 0, segA s, .int .i64 (IntKind.wrap .i64 (lv - 1))] [codO C] = true := fun C hC => zA_good hC
  have hvv : ∀ C : CODES, C.Ok → zPost q z (valA (zA s (IntKind.wrap .i64 (lv - 1))) cO CODES.Ok wx [.ref 1000000 0, segA s, .int .i64 (IntKind.wrap .i64 (lv - 1))] [codO C]) := fun C hC => zA_post hwx hC
  cases v with
  | inl C =>
    have hC : C.Ok := hv
    have hp := hvv C hC
    have hk := kidOf_okz hop hp
    have hn : (0 : Int) < (n : Int) := by omega
    refine .inr ⟨.inr ([kidOf op (valA (zA s (IntKind.wrap .i64 (lv - 1))) cO CODES.Ok wx [.ref 1000000 0, segA s, .int .i64 (IntKind.wrap .i64 (lv - 1))] [codO C]).1], (valA (zA s (IntKind.wrap .i64 (lv - 1))) cO CODES.Ok wx [.ref 1000000 0, segA s, .int .i64 (IntKind.wrap .i64 (lv - 1))] [codO C]).2), ?_, by show 4 - 1 < 5; omega, fun _ h => h, fun L k kn => ?_⟩
    · exact ⟨hp.2, by show 1 ≤ 1; omega, by show 1 ≤ n; omega, fun v hv => by simp at hv; subst hv; exact hk⟩
    · refine (sxp_r0 ge _ ve _ T L _ op lv n C kn k s rfl).trans ?_
      rw [hgv C hC, decide_eq_true hn]
      revert hp hk
      generalize valA (zA s (IntKind.wrap .i64 (lv - 1))) cO CODES.Ok wx [.ref 1000000 0, segA s, .int .i64 (IntKind.wrap .i64 (lv - 1))] [codO C] = x
      intro hp hk
      have h1 := getX_app [] (kidOf op x.1)
      have h0 : (fun _ : Nat => ex0) = getX [] := by funext j; rfl
      unfold kidOf at h1 ⊢
      cases hb : (x.1.op == op) with
      | true =>
        rw [hb] at h1
        show kn _ = kn (ZS s op lv n 1 (getX [.neg x.1]) x.2 1)
        congr 1
        show ZS s op lv n 1 (appGet 0 1 (fun _ => ex0) (fillGet ex0 [(0, .agg (KID.c (.neg x.1)))])) x.2 1 = _
        rw [h0]; exact congrArg (fun g => ZS s op lv n 1 g x.2 1) h1
      | false =>
        rw [hb] at h1
        show kn _ = kn (ZS s op lv n 1 (getX [.plain x.1]) x.2 1)
        congr 1
        show ZS s op lv n 1 (appGet 0 1 (fun _ => ex0) (fillGet ex0 [(0, .agg (KID.c (.plain x.1)))])) x.2 1 = _
        rw [h0]; exact congrArg (fun g => ZS s op lv n 1 g x.2 1) h1
  | inr y =>
    obtain ⟨l, C⟩ := y
    obtain ⟨hC, l1, l3, lv'⟩ := hv
    obtain ⟨m, hm⟩ : ∃ m, l.length = m + 1 := ⟨l.length - 1, by omega⟩
    have hp := hvv C hC
    have hk := kidOf_okz hop hp
    by_cases hi : (l.length : Int) < (n : Int)
    · refine .inr ⟨.inr (l ++ [kidOf op (valA (zA s (IntKind.wrap .i64 (lv - 1))) cO CODES.Ok wx [.ref 1000000 0, segA s, .int .i64 (IntKind.wrap .i64 (lv - 1))] [codO C]).1], (valA (zA s (IntKind.wrap .i64 (lv - 1))) cO CODES.Ok wx [.ref 1000000 0, segA s, .int .i64 (IntKind.wrap .i64 (lv - 1))] [codO C]).2), ?_, ?_, fun _ h => h, fun L k kn => ?_⟩
      · refine ⟨hp.2, by simp, by simp; omega, fun v hv => ?_⟩
        rcases List.mem_append.1 hv with hv | hv
        · exact lv' v hv
        · simp at hv; subst hv; exact hk
      · show 4 - (l ++ [_]).length < 4 - l.length
        rw [List.length_append, List.length_singleton]; omega
      · have := sxp_r ge (goodA (zA s (IntKind.wrap .i64 (lv - 1))) cO CODES.Ok) ve (valA (zA s (IntKind.wrap .i64 (lv - 1))) cO CODES.Ok wx) T L 9 op lv n m (getX l) C l.length kn k s rfl
        rw [← hm] at this
        refine this.trans ?_
        rw [decide_eq_true hi, hgv C hC, wrap_next (n := 4) (by omega) (by omega)]
        have hr : (roomy 88 (l.length + 1) && Nat.beq l.length l.length) = true := by
          have : l.length = 1 ∨ l.length = 2 ∨ l.length = 3 := by omega
          rcases this with e | e | e <;> rw [e] <;> rfl
        rw [hr]
        revert hp hk
        generalize valA (zA s (IntKind.wrap .i64 (lv - 1))) cO CODES.Ok wx [.ref 1000000 0, segA s, .int .i64 (IntKind.wrap .i64 (lv - 1))] [codO C] = x
        intro hp hk
        have h1 := getX_app l (kidOf op x.1)
        show _ = kn (ZS s op lv n (l ++ [_]).length (getX (l ++ [_])) _ (l ++ [_]).length)
        rw [List.length_append, List.length_singleton, ← h1]
        unfold kidOf
        cases hb : (x.1.op == op) with
        | true => rfl
        | false => rfl
    · refine .inl ⟨(l, C), ⟨by show l.length = n; omega, lv', hC⟩, fun L k kn => ?_⟩
      have := sxp_r ge (goodA (zA s (IntKind.wrap .i64 (lv - 1))) cO CODES.Ok) ve (valA (zA s (IntKind.wrap .i64 (lv - 1))) cO CODES.Ok wx) T L 9 op lv n m (getX l) C l.length kn k s rfl
      rw [← hm] at this
      refine this.trans ?_
      rw [decide_eq_false hi]; rfl
end Go.SH

namespace Go.SH
open Go Go.Ab Go.Proofs
set_option linter.unusedVariables false
set_option linter.unusedSimpArgs false
set_option linter.unusedSectionVars false
def zs : Nat → Nat
  | 0 => 1
  | d + 1 => 1 + 3 * (zs d + 1)
theorem zs_pos (d : Nat) : 1 ≤ zs d := by cases d with | zero => exact Nat.le_refl _ | succ d => unfold zs; omega
def segsOk (s : List (List UInt8)) : Prop := s.length ≤ 20 ∧ ∀ k ∈ s, keyB k = true ∧ k.length ≤ 100
theorem sizeL_le {m : Nat} : ∀ {l : List EXP}, (∀ k ∈ l, k.size ≤ m) → sizeL l ≤ l.length * m
  | [], _ => by simp [sizeL]
  | k :: l, h => by
    have h1 := h k (List.mem_cons_self ..)
    have h2 := sizeL_le (l := l) fun x hx => h x (List.mem_cons_of_mem _ hx)
    rw [sizeL, List.length_cons, Nat.succ_mul]
    omega
theorem pairX_size {op : Int} {ks : List EXP} {m : Nat} (hl : ks.length ≤ 3) (h : ∀ k ∈ ks, k.size ≤ m) : (pairX op ks).size ≤ 1 + 3 * m := by
  rw [EXP.size_eq]
  have h1 := sizeL_le h
  have h2 : ks.length * m ≤ 3 * m := Nat.mul_le_mul_right m hl
  show 1 + sizeL ks ≤ _
  omega
theorem tPost.z {x : EXP × CODES} (h : tPost x) (d z : Nat) (hz : 1 ≤ z) : zPost (2 * d + 1) z x := by
  refine ⟨⟨(h.x d).1, ?_⟩, h.2⟩
  have hk : x.1.kids = [] := h.1.2.1
  rw [EXP.size_eq, hk]
  exact hz
theorem seg_ve {nm : List UInt8} (h : keyB nm = true) : VE 1 (.mk 5 [] nm [] []) := by
  refine .mk _ _ ?_ fun k hk => by cases hk
  have h1 : countB (EXP.part (.mk 5 [] nm [] [])) = true := by
    unfold countB
    cases nm <;> rfl
  unfold partE
  rw [h1, show (EXP.part (.mk 5 [] nm [] [])).name = nm from rfl, h]
  rfl
theorem segx_ok {nm : List UInt8} (h : nm.length ≤ 100) : (EXP.mk 5 [] nm [] []).Ok := .mk _ (by show 0 ≤ maxS; unfold maxS; omega) (lenS_small h) ⟨by show 0 ≤ _; omega, by intro v hv; cases hv⟩ (by show 0 ≤ _; omega) (by intro v hv; cases hv)
theorem tells_seg {nm : List UInt8} : Tells [.int .i64 5, .str [], .str nm, .sl .fit 0 0 fun _ => [], .sl .fit 0 0 fun _ => [] ] (eC (.mk 5 [] nm [] [])) := fun i u u' hu hu' => by
  have hu' : (expC 5 [] nm [] 0 (EXP.row []))[i]? = some u' := hu'
  unfold expC at hu'
  match i with
  | 0 => simp only [List.getElem?_cons_zero, Option.some.injEq] at hu hu'; subst hu hu'; exact ⟨rfl, fun _ x h => h⟩
  | 1 => simp only [List.getElem?_cons_succ, List.getElem?_cons_zero, Option.some.injEq] at hu hu'; subst hu hu'; exact ⟨rfl, fun _ x h => h⟩
  | 2 => simp only [List.getElem?_cons_succ, List.getElem?_cons_zero, Option.some.injEq] at hu hu'; subst hu hu'; exact ⟨rfl, fun _ x h => h⟩
  | 3 => simp only [List.getElem?_cons_succ, List.getElem?_cons_zero, Option.some.injEq] at hu hu'; subst hu hu'; exact ⟨rfl, fun _ => sl_fit⟩
  | 4 => simp only [List.getElem?_cons_succ, List.getElem?_cons_zero, Option.some.injEq] at hu hu'; subst hu hu'; exact ⟨rfl, fun _ => sl_fit⟩
  | i + 5 => simp at hu
theorem seg_tail {s : List (List UInt8)} (hs : segsOk s) {D : CODES} (hD : D.Ok) {A : List AV} {O : List AO} {d z : Nat} (hz : 1 ≤ z) {t : EXP × CODES} (ht : tPost t) (gt : Bool) (hgt : gt = true)
    (h : ∀ r, cond (decide ((s.length : Int) > 0)) (cond (gN [.ref 1000000 0, .int .i64 (s.length : Int)] [codO D]) (cond (within (vN [.ref 1000000 0, .int .i64 (s.length : Int)] [codO D]).1 s.length) (some ((AV.agg [.int .i64 5, .str [], .str (List.getD s (Int.toNat (vN [.ref 1000000 0, .int .i64 (s.length : Int)] [codO D]).1) []), .sl .fit 0 0 fun x => [], .sl .fit 0 0 fun x => [] ], [codO (vN [.ref 1000000 0, .int .i64 (s.length : Int)] [codO D]).2]))) none) none) (cond gt (some ((.agg (eC t.1), [codO t.2]))) none) = some r → Ct V2.P V2.G 13 A O r) :
    ∃ x, zPost (2 * d + 1) z x ∧ Ct V2.P V2.G 13 A O (φC x) := by
  by_cases h0 : (s.length : Int) > 0
  · obtain ⟨u0, u1, uD⟩ := nextR_ok hD (m := (s.length : Int)) (by omega)
    have hv := vN_eq hD (m := (s.length : Int)) (by omega)
    have hlt : (nextR D (s.length : Int)).1.toNat < s.length := by omega
    have hm : s.getD (nextR D (s.length : Int)).1.toNat [] ∈ s := by
      rw [List.getD_eq_getElem?_getD, List.getElem?_eq_getElem hlt]; exact List.getElem_mem hlt
    obtain ⟨k1, k2⟩ := hs.2 _ hm
    have hc := h _ ((cT (decide_eq_true h0)).trans ((cT (gN_eq hD (by omega))).trans (cT (by rw [hv]; exact within_of u0 u1))))
    rw [hv] at hc
    refine ⟨(.mk 5 [] (s.getD (nextR D (s.length : Int)).1.toNat []) [] [], (nextR D (s.length : Int)).2), ⟨⟨⟨(seg_ve k1).le (by omega), segx_ok k2⟩, ?_⟩, uD⟩, tells_ct rfl tells_seg hc⟩
    rw [EXP.size_eq]; exact hz
  · exact ⟨t, ht.z d z hz, h _ ((cF (decide_eq_false h0)).trans (cT hgt))⟩
section
variable {s : List (List UInt8)} (hs : segsOk s) {C : CODES} (hC : C.Ok) {wt : CODES → EXP × CODES} (hwt : ∀ C, C.Ok → tPost (wt C)) (htt : ∀ l os, (entC 47 cA cO CODES.Ok wt φC).pre l os = true → Ct V2.P V2.G (entC 47 cA cO CODES.Ok wt φC).f l os ((entC 47 cA cO CODES.Ok wt φC).ans l os))
include hs hC hwt htt
theorem sxpr_ex0 : ∃ x, zPost 1 1 x ∧ Ct V2.P V2.G 13 (zA s 1 C) (cO C) (φC x) := by
  obtain ⟨h0, h1, h2⟩ := nextR_ok hC (m := 8) (by omega)
  cases h8 : nextR C 8 with
  | mk r D =>
  rw [h8] at h0 h1 h2
  have h0 : 0 ≤ r := h0
  have h1 : r < 8 := h1
  have h2 : D.Ok := h2
  have hg8 : gN [.ref 1000000 0, .int .i64 8] [codO C] = true := gN_eq hC (by omega)
  have hgt : goodA cA cO CODES.Ok [.ref 1000000 0] [codO D] = true := goodA_eq (A := cA) (O := cO) (v := D) h2
  have hp : tPost (valA cA cO CODES.Ok wt [.ref 1000000 0] [codO D]) := valA_post (A := cA) (O := cO) (a := D) (Post := fun (_ : CODES) (x : EXP × CODES) => tPost x) hwt (fun _ _ _ _ _ h => h) h2
  generalize ht : valA cA cO CODES.Ok wt [.ref 1000000 0] [codO D] = t at hp
  have hc := fun r he => ct_loops (V := V2) (f := 13) (l := zA s 1 C) (os := cO C) (r := r) (n := 9) (d := 3) (T := [entN, mkE 13 (fun _ _ => false) (fun _ _ => (default : EXP × CODES)) φC, entC 47 cA cO CODES.Ok wt φC]) (L := [([1, 1, 1, 0, 1, 0, 1, 1, 1, 1, 1, 1, 1, 0, 1, 1, 1, 0, 1, 0], mkO (fun _ => false) (fun _ => (default : List KID × CODES)) (outX 0))]) mixed2 funcs2 (tabOk_cons entN_ok (tabOk_cons (fun _ _ h => by cases h) (tabOk_cons htt tabOk_nil))) (loopsOk_cons (fun _ _ _ h => by cases h) loopsOk_nil) he
  have e := sxp_e gN (fun _ _ => false) (goodA cA cO CODES.Ok) vN (fun _ _ => default) (valA cA cO CODES.Ok wt) (fun _ => false) (fun _ => default) 0 1 C s (t1 := (r, D)) ((vN_eq hC (by omega)).trans h8) (t2 := vN [.ref 1000000 0, .int .i64 (s.length : Int)] [codO D]) rfl (t3 := t) ht rfl rfl rfl rfl
  have e := e.trans (cT hg8)
  have hT : ∀ {z : Nat}, 1 ≤ z → zPost 1 z t := fun hz => hp.z 0 _ hz
  have tr : zPost 1 1 ((.mk 1 [] [] [] [] : EXP), D) := ⟨⟨⟨true_ve, nul_ok 1⟩, by rw [EXP.size_eq]; exact Nat.le_refl _⟩, h2⟩
  have hr : r = 0 ∨ r = 1 ∨ r = 2 ∨ r = 3 ∨ r = 4 ∨ r = 5 ∨ r = 6 ∨ r = 7 := by omega
  rcases hr with rfl | rfl | rfl | rfl | rfl | rfl | rfl | rfl
  · exact ⟨_, tr, tells_ct (a := exK 1 (.sl .fit 0 0 fun _ => [])) rfl tells_ex0 (hc _ (e.trans rfl))⟩
  · exact ⟨t, hT (Nat.le_refl _), hc _ ((e.trans rfl).trans (cT hgt))⟩
  · exact ⟨t, hT (Nat.le_refl _), hc _ ((e.trans rfl).trans (cT hgt))⟩
  · exact seg_tail hs h2 (d := 0) (Nat.le_refl _) hp (goodA cA cO CODES.Ok [.ref 1000000 0] [codO D]) hgt fun r hr => hc r ((e.trans rfl).trans hr)
  · exact ⟨_, tr, tells_ct (a := exK 1 (.sl .fit 0 0 fun _ => [])) rfl tells_ex0 (hc _ (e.trans rfl))⟩
  · exact ⟨t, hT (Nat.le_refl _), hc _ ((e.trans rfl).trans (cT hgt))⟩
  · exact ⟨t, hT (Nat.le_refl _), hc _ ((e.trans rfl).trans (cT hgt))⟩
  · exact seg_tail hs h2 (d := 0) (Nat.le_refl _) hp (goodA cA cO CODES.Ok [.ref 1000000 0] [codO D]) hgt fun r hr => hc r ((e.trans rfl).trans hr)
variable {d : Nat} (hd : 1 ≤ d) (hd3 : d ≤ 3) {z : Nat} (hz : 1 ≤ z) {wx : CODES → EXP × CODES} (hwx : ∀ C, C.Ok → zPost (2 * d - 1) z (wx C)) (htx : ∀ l os, (entC 13 (zA s d) cO CODES.Ok wx φC).pre l os = true → Ct V2.P V2.G (entC 13 (zA s d) cO CODES.Ok wx φC).f l os ((entC 13 (zA s d) cO CODES.Ok wx φC).ans l os))
include hd hd3 hz hwx htx
theorem sxpr_exS : ∃ x, zPost (2 * d + 1) (1 + 3 * (z + 1)) x ∧ Ct V2.P V2.G 13 (zA s ((d : Int) + 1) C) (cO C) (φC x) := by
  have hlv : IntKind.wrap .i64 ((d : Int) + 1 - 1) = (d : Int) := by rw [wrap_i64 (by omega) (by omega)]; omega
  obtain ⟨h0, h1, h2⟩ := nextR_ok hC (m := 8) (by omega)
  cases h8 : nextR C 8 with
  | mk r D =>
  rw [h8] at h0 h1 h2
  have h0 : 0 ≤ r := h0
  have h1 : r < 8 := h1
  have h2 : D.Ok := h2
  obtain ⟨p0, p1, p2⟩ := nextR_ok h2 (m := 2) (by omega)
  cases h4 : nextR D 2 with
  | mk u D2 =>
  rw [h4] at p0 p1 p2
  have p0 : 0 ≤ u := p0
  have p1 : u < 2 := p1
  have p2 : D2.Ok := p2
  obtain ⟨s0, s1, s2⟩ := nextR_ok p2 (m := 2) (by omega)
  cases h5 : nextR D2 2 with
  | mk n' D3 =>
  rw [h5] at s0 s1 s2
  have s0 : 0 ≤ n' := s0
  have s1 : n' < 2 := s1
  have s2 : D3.Ok := s2
  obtain ⟨n, hn⟩ : ∃ n : Nat, 2 + n' = (n : Int) := ⟨(2 + n').toNat, by omega⟩
  obtain ⟨w, hw, hl⟩ := sexpr_loop s (2 + u) ((d : Int) + 1) n (2 * d - 1) z (by omega) (by omega) (by omega) gN vN wx hwx [entC 47 cA cO CODES.Ok wt φC]
  rw [hlv] at hl
  have hc := fun r he => ct_loops (V := V2) (f := 13) (l := zA s ((d : Int) + 1) C) (os := cO C) (r := r) (n := 9) (d := 3) (T := [entN, entC 13 (zA s d) cO CODES.Ok wx φC, entC 47 cA cO CODES.Ok wt φC]) mixed2 funcs2 (tabOk_cons entN_ok (tabOk_cons htx (tabOk_cons htt tabOk_nil))) (loopsOk_cons (hl _) loopsOk_nil) he
  have hg8 : gN [.ref 1000000 0, .int .i64 8] [codO C] = true := gN_eq hC (by omega)
  have hgD : gN [.ref 1000000 0, .int .i64 2] [codO D] = true := gN_eq h2 (by omega)
  have hgD2 : gN [.ref 1000000 0, .int .i64 2] [codO D2] = true := gN_eq p2 (by omega)
  have hgt : goodA cA cO CODES.Ok [.ref 1000000 0] [codO D] = true := goodA_eq (A := cA) (O := cO) (v := D) h2
  have hp : tPost (valA cA cO CODES.Ok wt [.ref 1000000 0] [codO D]) := valA_post (A := cA) (O := cO) (a := D) (Post := fun (_ : CODES) (x : EXP × CODES) => tPost x) hwt (fun _ _ _ _ _ h => h) h2
  have hgx : goodA (zA s d) cO CODES.Ok [.ref 1000000 0, segA s, .int .i64 (d : Int)] [codO D] = true := zA_good h2
  have hpx : zPost (2 * d - 1) z (valA (zA s d) cO CODES.Ok wx [.ref 1000000 0, segA s, .int .i64 (d : Int)] [codO D]) := zA_post hwx h2
  have w2 : IntKind.wrap .i64 (2 + u) = 2 + u := wrap_i64 (by omega) (by omega)
  have w3 : IntKind.wrap .i64 (2 + n') = (n : Int) := by rw [hn]; exact wrap_i64 (by omega) (by omega)
  have hz0 : goodS (zS s (2 + u) ((d : Int) + 1) n) (zI (2 + u) (2 * d - 1) z n) (ZS0 s (2 + u) ((d : Int) + 1) n D3) = true := goodS_eq (S := zS s (2 + u) ((d : Int) + 1) n) (v := Sum.inl D3) s2
  have hzp : zZ (2 + u) (2 * d - 1) z n (valS (zS s (2 + u) ((d : Int) + 1) n) (zI (2 + u) (2 * d - 1) z n) w (ZS0 s (2 + u) ((d : Int) + 1) n D3)) := valS_post (S := zS s (2 + u) ((d : Int) + 1) n) (a := Sum.inl D3) (Post := fun (_ : XSt) (x : List KID × CODES) => zZ (2 + u) (2 * d - 1) z n x) hw (fun _ _ _ _ h => h) s2
  have hlt : (bif decide ((d : Int) + 1 ≤ 1) then decide (r ≥ 4) else false) = false := by rw [decide_eq_false (by omega)]; rfl
  generalize hv : valS (zS s (2 + u) ((d : Int) + 1) n) (zI (2 + u) (2 * d - 1) z n) w (ZS0 s (2 + u) ((d : Int) + 1) n D3) = zz at hzp
  generalize hy : valA (zA s d) cO CODES.Ok wx [.ref 1000000 0, segA s, .int .i64 (d : Int)] [codO D] = y at hpx
  generalize ht : valA cA cO CODES.Ok wt [.ref 1000000 0] [codO D] = t at hp
  have e := sxp_e gN (goodA (zA s d) cO CODES.Ok) (goodA cA cO CODES.Ok) vN (valA (zA s d) cO CODES.Ok wx) (valA cA cO CODES.Ok wt) (goodS (zS s (2 + u) ((d : Int) + 1) n) (zI (2 + u) (2 * d - 1) z n)) (valS (zS s (2 + u) ((d : Int) + 1) n) (zI (2 + u) (2 * d - 1) z n) w) (2 + u) ((d : Int) + 1) C s (t1 := (r, D)) ((vN_eq hC (by omega)).trans h8) (t2 := vN [.ref 1000000 0, .int .i64 (s.length : Int)] [codO D]) rfl (t3 := t) ht (t4 := y) (by rw [hlv]; exact hy) (t5 := (u, D2)) ((vN_eq h2 (by omega)).trans h4) (t6 := (n', D3)) ((vN_eq p2 (by omega)).trans h5) (t7 := zz) (by rw [show (2 : Int) + Prod.fst (u, D2) = 2 + u from rfl, show (2 : Int) + Prod.fst (n', D3) = 2 + n' from rfl, w2, w3]; exact hv)
  have e := (e.trans (cT hg8)).trans (cF hlt)
  obtain ⟨z1, z2, z3⟩ := hzp
  have hpair : zPost (2 * d + 1) (1 + 3 * (z + 1)) (pairX (2 + u) (zz.1.map KID.e), zz.2) := by
    refine ⟨⟨⟨(VE.pair (l := 2 * d - 1 + 1) (by omega) (by rw [List.length_map]; omega) (by rw [List.length_map]; omega) (fun k hk => ?_) fun k hk => ?_).le (by omega), pair_ok (by rw [List.length_map]; omega) fun k hk => ?_⟩, pairX_size (by rw [List.length_map]; omega) fun k hk => ?_⟩, z3⟩
    all_goals
      obtain ⟨q, hq, rfl⟩ := List.mem_map.1 hk
    · exact (z2 q hq).1.2.1
    · exact (z2 q hq).1.1
    · exact (z2 q hq).1.2.2
    · exact (z2 q hq).2
  have tr : zPost (2 * d + 1) (1 + 3 * (z + 1)) ((.mk 1 [] [] [] [] : EXP), D) := ⟨⟨⟨true_ve.le (by omega), nul_ok 1⟩, by rw [EXP.size_eq]; show 1 + 0 ≤ _; omega⟩, h2⟩
  have hT : zPost (2 * d + 1) (1 + 3 * (z + 1)) t := hp.z d _ (by omega)
  have hN : zPost (2 * d + 1) (1 + 3 * (z + 1)) (notX y.1, y.2) := ⟨⟨⟨hpx.1.1.1.not.le (by omega), notX_ok hpx.1.1.2⟩, by show (notX y.1).size ≤ _; rw [notX_size]; have := hpx.1.2; omega⟩, hpx.2⟩
  have hzz : ∀ o : AV × List AO, cond (gN [.ref 1000000 0, .int .i64 2] [codO D]) (cond (gN [.ref 1000000 0, .int .i64 2] [codO D2]) (cond (goodS (zS s (2 + u) ((d : Int) + 1) n) (zI (2 + u) (2 * d - 1) z n) (ZS0 s (IntKind.wrap .i64 (2 + u)) ((d : Int) + 1) (IntKind.wrap .i64 (2 + n')) D3)) (some o) none) none) none = some o := fun o => (cT hgD).trans ((cT hgD2).trans (cT (by rw [w2, w3]; exact hz0)))
  have hgx' : goodA (zA s d) cO CODES.Ok [.ref 1000000 0, segA s, .int .i64 (IntKind.wrap .i64 ((d : Int) + 1 - 1))] [codO D] = true := by rw [hlv]; exact hgx
  have hr : r = 0 ∨ r = 1 ∨ r = 2 ∨ r = 3 ∨ r = 4 ∨ r = 5 ∨ r = 6 ∨ r = 7 := by omega
  rcases hr with rfl | rfl | rfl | rfl | rfl | rfl | rfl | rfl
  · exact ⟨_, tr, tells_ct (a := exK 1 (.sl .fit 0 0 fun _ => [])) rfl tells_ex0 (hc _ (e.trans rfl))⟩
  · exact ⟨t, hT, hc _ ((e.trans rfl).trans (cT hgt))⟩
  · exact ⟨t, hT, hc _ ((e.trans rfl).trans (cT hgt))⟩
  · exact seg_tail hs h2 (d := d) (by omega) hp (goodA cA cO CODES.Ok [.ref 1000000 0] [codO D]) hgt fun r hr => hc r ((e.trans rfl).trans hr)
  · exact ⟨_, hN, tells_ct (a := exK 4 (.sl .fit 5 1 (fillGet ex0 [(0, .agg (eC y.1))]))) rfl (tells_not y.1) (hc _ ((e.trans rfl).trans (cT hgx')))⟩
  · exact ⟨_, hpair, tells_ct (a := exK (2 + u) (.sl .no 5 zz.1.length (getX zz.1))) rfl (tells_pair (2 + u) zz.1) (hc _ ((e.trans rfl).trans (hzz _)))⟩
  · exact ⟨_, hpair, tells_ct (a := exK (2 + u) (.sl .no 5 zz.1.length (getX zz.1))) rfl (tells_pair (2 + u) zz.1) (hc _ ((e.trans rfl).trans (hzz _)))⟩
  · exact ⟨t, hT, hc _ ((e.trans rfl).trans (cT hgt))⟩
end
theorem sxpr_ex {s : List (List UInt8)} (hs : segsOk s) : ∀ d : Nat, d ≤ 3 → ∀ C : CODES, C.Ok → ∃ x, zPost (2 * d + 1) (zs d) x ∧ Ct V2.P V2.G 13 (zA s ((d : Int) + 1) C) (cO C) (φC x)
  | 0, _, C, hC => by
    obtain ⟨wt, hwt, htt⟩ := ent_ex (V := V2) (f := 47) (A := cA) (O := cO) (Pre := CODES.Ok) (φ := φC) (Post := fun (_ : CODES) (x : EXP × CODES) => tPost x) testC_ex
    exact sxpr_ex0 hs hC hwt htt
  | d + 1, hd, C, hC => by
    obtain ⟨wt, hwt, htt⟩ := ent_ex (V := V2) (f := 47) (A := cA) (O := cO) (Pre := CODES.Ok) (φ := φC) (Post := fun (_ : CODES) (x : EXP × CODES) => tPost x) testC_ex
    obtain ⟨wx, hwx, htx⟩ := ent_ex (V := V2) (f := 13) (A := zA s ((d : Int) + 1)) (O := cO) (Pre := CODES.Ok) (φ := φC) (Post := fun (_ : CODES) (x : EXP × CODES) => zPost (2 * d + 1) (zs d) x) (sxpr_ex hs d (by omega))
    exact sxpr_exS hs hC hwt htt (d := d + 1) (by omega) hd (zs_pos d) (wx := wx) hwx htx
end Go.SH

namespace Go.SH
open Go Go.Ab Go.Proofs
set_option linter.unusedVariables false
set_option linter.unusedSimpArgs false
def alB : List UInt8 := [97, 108, 112, 104, 97]
def beB : List UInt8 := [98, 101, 116, 97]
def segF : AV := .sl .fit 1 2 (fillGet [.str [] ] [(0, .str alB), (1, .str beB)])
structure ZE3 where
  e : EXP
  y : EXP
  z : EXP
instance : Inhabited ZE3 := ⟨⟨default, default, default⟩⟩
def EX3 (z : ZE3) (i : Int) : St := { env := [(32, .sl .fit 5 3 (fillGet ex0 [(0, .agg (eC z.e)), (1, .agg (eC z.y)), (2, .agg (eC z.z))])), (33, .int .i64 3), (34, .int .i64 i)], objs := [] }
def outE3 (z : ZE3) (k : Ex → St → Res) : Res := k (.exit 0) { env := [], objs := [] }
set_option maxRecDepth 100000 in
theorem ex_0 (ge gf gn gm : List AV → List AO → Bool) (ve vf : List AV → List AO → Int) (vn vm : List AV → List AO → Bool) (T : List Ent) (L : List (List Nat × Orc)) (m : Nat) (z : ZE3) (kn : St → Res) (k : Ex → St → Res) {t1 : Int} (h_t1 : ve [.agg (eC (ZE3.e z))] [] = t1) {t2 : Int} (h_t2 : vf [.agg (eC (ZE3.e z))] [] = t2) : roundR (V2.run (mkE 15 ge ve φE :: mkE 16 gf vf φE :: mkE 17 gn vn φB :: mkE 18 gm vm φB :: T) 1 [] L [] 3) 3 m [1, 1, 1, 1, 1, 1, 1, 1, 0, 1, 0] (EX3 z 0) kn k =
  cond (ge [.agg (eC (ZE3.e z))] []) (cond (gf [.agg (eC (ZE3.e z))] []) (cond (gn [.agg (eC (ZE3.e z))] []) (cond (gm [.agg (eC (ZE3.e z))] []) (cond (bif t1 != t2 then true else !vn [.agg (eC (ZE3.e z))] [] == vm [.agg (eC (ZE3.e z))] []) (k (.ret) ({ env := [(4, .bool false)], objs := [] })) (kn (EX3 z (IntKind.wrap IntKind.i64 (0 + 1))))) (none)) (none)) (none)) (none) := by subst h_t2 h_t1; kernel_rfl
set_option maxRecDepth 100000 in
theorem ex_1 (ge gf gn gm : List AV → List AO → Bool) (ve vf : List AV → List AO → Int) (vn vm : List AV → List AO → Bool) (T : List Ent) (L : List (List Nat × Orc)) (m : Nat) (z : ZE3) (kn : St → Res) (k : Ex → St → Res) {t1 : Int} (h_t1 : ve [.agg (eC (ZE3.y z))] [] = t1) {t2 : Int} (h_t2 : vf [.agg (eC (ZE3.y z))] [] = t2) : roundR (V2.run (mkE 15 ge ve φE :: mkE 16 gf vf φE :: mkE 17 gn vn φB :: mkE 18 gm vm φB :: T) 1 [] L [] 3) 3 m [1, 1, 1, 1, 1, 1, 1, 1, 0, 1, 0] (EX3 z 1) kn k =
  cond (ge [.agg (eC (ZE3.y z))] []) (cond (gf [.agg (eC (ZE3.y z))] []) (cond (gn [.agg (eC (ZE3.y z))] []) (cond (gm [.agg (eC (ZE3.y z))] []) (cond (bif t1 != t2 then true else !vn [.agg (eC (ZE3.y z))] [] == vm [.agg (eC (ZE3.y z))] []) (k (.ret) ({ env := [(4, .bool false)], objs := [] })) (kn (EX3 z (IntKind.wrap IntKind.i64 (1 + 1))))) (none)) (none)) (none)) (none) := by subst h_t2 h_t1; kernel_rfl
set_option maxRecDepth 100000 in
theorem ex_2 (ge gf gn gm : List AV → List AO → Bool) (ve vf : List AV → List AO → Int) (vn vm : List AV → List AO → Bool) (T : List Ent) (L : List (List Nat × Orc)) (m : Nat) (z : ZE3) (kn : St → Res) (k : Ex → St → Res) {t1 : Int} (h_t1 : ve [.agg (eC (ZE3.z z))] [] = t1) {t2 : Int} (h_t2 : vf [.agg (eC (ZE3.z z))] [] = t2) : roundR (V2.run (mkE 15 ge ve φE :: mkE 16 gf vf φE :: mkE 17 gn vn φB :: mkE 18 gm vm φB :: T) 1 [] L [] 3) 3 m [1, 1, 1, 1, 1, 1, 1, 1, 0, 1, 0] (EX3 z 2) kn k =
  cond (ge [.agg (eC (ZE3.z z))] []) (cond (gf [.agg (eC (ZE3.z z))] []) (cond (gn [.agg (eC (ZE3.z z))] []) (cond (gm [.agg (eC (ZE3.z z))] []) (cond (bif t1 != t2 then true else !vn [.agg (eC (ZE3.z z))] [] == vm [.agg (eC (ZE3.z z))] []) (k (.ret) ({ env := [(4, .bool false)], objs := [] })) (kn (EX3 z (IntKind.wrap IntKind.i64 (2 + 1))))) (none)) (none)) (none)) (none) := by subst h_t2 h_t1; kernel_rfl
set_option maxRecDepth 100000 in
theorem ex_3 (T : List Ent) (L : List (List Nat × Orc)) (m : Nat) (z : ZE3) (kn : St → Res) (k : Ex → St → Res)  : roundR (V2.run T 1 [] L [] 3) 3 m [1, 1, 1, 1, 1, 1, 1, 1, 0, 1, 0] (EX3 z 3) kn k =
  k (.exit 0) ({ env := [], objs := [] }) := by kernel_rfl
set_option maxRecDepth 100000 in
theorem ex_m (ge gf g17 g18 gb gaw gn gx gc : List AV → List AO → Bool) (ve vf : List AV → List AO → Int) (v17 v18 vb vaw : List AV → List AO → Bool) (vn : List AV → List AO → CODES) (vx vc : List AV → List AO → EXP × CODES) (T : List Ent) (g1 : St → Bool) (v1 : St → ZE3) (e : EXP) (n : Nat) (g : Nat → Int) {t1 : CODES} (h_t1 : vn [.sl .no 1 n fun j => [.int .u8 (g j)], .int .i64 120] [] = t1) {t2 : EXP × CODES} (h_t2 : vx [.ref 1000000 0, segF, .int .i64 3] [.cells [.sl .no 1 (CODES.n t1) fun j => [.int .u8 (CODES.g t1 j)], .int .i64 (↑(CODES.at' t1) : Int)] ] = t2) {t3 : EXP × CODES} (h_t3 : vc [.ref 1000000 0, .agg (eC (Prod.fst t2))] [codO (Prod.snd t2)] = t3) {t4 : EXP × CODES} (h_t4 : vc [.ref 1000000 0, .agg (eC (Prod.fst t3))] [codO (Prod.snd t3)] = t4) {t5 : Int} (h_t5 : ve [.agg (eC (Prod.fst t2))] [] = t5) {t6 : ZE3} (h_t6 : v1 { env := [(32, .sl .fit 5 3 (fillGet (exK 0 (.sl .fit 0 0 fun x => [])) [(0, .agg (eC e)), (1, .agg (eC (Prod.fst t3))), (2, .agg (eC (Prod.fst t4)))])), (33, .int .i64 (↑3 : Int)), (34, .int .i64 0)], objs := [] } = t6) : runF (V2.run (mkE 15 ge ve φE :: mkE 16 gf vf φE :: mkE 17 g17 v17 φB :: mkE 18 g18 v18 φB :: mkE 11 gb vb φB :: mkE 10 gaw vaw φB :: mkE 12 gn vn φNew :: mkE 13 gx vx φC :: mkE 14 gc vc φC :: T) 1 [] [([1, 1, 1, 1, 1, 1, 1, 1, 0, 1, 0], mkO g1 v1 outE3)] [] 3) 9 3 [.agg (eC e), .sl .no 1 n fun j => [.int .u8 (g j)] ] [] =
  cond (gaw [] []) (cond (!vaw [] []) (some ((.bool false, []))) (cond (gb [.agg (eC e)] []) (cond (vb [.agg (eC e)] []) (some ((.bool true, []))) (cond (gn [.sl .no 1 n fun j => [.int .u8 (g j)], .int .i64 120] []) (cond (gx [.ref 1000000 0, segF, .int .i64 3] [.cells [.sl .no 1 (CODES.n t1) fun j => [.int .u8 (CODES.g t1 j)], .int .i64 (↑(CODES.at' t1) : Int)] ]) (cond (gc [.ref 1000000 0, .agg (eC (Prod.fst t2))] [codO (Prod.snd t2)]) (cond (gc [.ref 1000000 0, .agg (eC (Prod.fst t3))] [codO (Prod.snd t3)]) (cond (ge [.agg (eC (Prod.fst t2))] []) (cond (t5 != 0) (some ((.bool false, []))) (cond (g1 { env := [(32, .sl .fit 5 3 (fillGet (exK 0 (.sl .fit 0 0 fun x => [])) [(0, .agg (eC e)), (1, .agg (eC (Prod.fst t3))), (2, .agg (eC (Prod.fst t4)))])), (33, .int .i64 (↑3 : Int)), (34, .int .i64 0)], objs := [] }) (some ((.bool true, []))) (none))) (none)) (none)) (none)) (none)) (none))) (none))) (none) := by subst h_t6 h_t5 h_t4 h_t3 h_t2 h_t1; kernel_rfl
end Go.SH

namespace Go.SH
open Go Go.Ab Go.Proofs
set_option linter.unusedVariables false
set_option linter.unusedSimpArgs false
theorem Ct.args2 {P : Program} {G : Nat → Option (List AV)} {f : FuncId} {l l' : List AV} {os : List AO} {r : AV × List AO} (h : Ct P G f l os r) (hl : l'.length = l.length) (hk : ∀ k ∈ keysL l, k ∈ keysL l')
    (hw : ∀ (i : Nat) (u u' : AV), l[i]? = some u → l'[i]? = some u' → ∀ c v, Rep c u' v → Rep c u v) : Ct P G f l' os r := by
  refine ⟨fun c0 vs hg ho hs hr hlv => h.1 c0 vs hg ho (by rw [hs, hl]) (fun i u hu => ?_) (fun k hk' => hlv k (hk k hk')), h.2⟩
  have hlt := (List.getElem?_eq_some_iff.1 hu).1
  have hu' : l'[i]? = some (l'[i]'(by omega)) := List.getElem?_eq_getElem _
  exact hw i u _ hu hu' c0 _ (hr i _ hu')
def eyA (e : EXP) : List AV := [.agg (eC e)]
theorem eyA_eq (e : EXP) : eyA e = expA e := by unfold eyA expA eC; rw [e.c_eq]
theorem eyA_inj {τ : Type} (w : EXP → τ) (a b : EXP) (h : eyA a = eyA b) : w a = w b := by rw [eyA_eq, eyA_eq] at h; exact expA_inj w a b h
theorem eC_c (e : EXP) : eC e = e.c := by rw [e.c_eq]; rfl
theorem ey_15 (e : EXP) (h : e.Ok) : Ct V2.P V2.G 15 (eyA e) [] (φE (exprE e)) := by
  have := Ct.v2 (exp15_x e h)
  unfold exA at this
  rw [EXP.x_eq] at this
  rw [eyA_eq]; exact this
theorem ey_16 (e : EXP) (h : e.Ok) : Ct V2.P V2.G 16 (eyA e) [] (φE (exprE e)) := by
  have := Ct.v2 (exp16_x e h)
  unfold exA at this
  rw [EXP.x_eq] at this
  rw [eyA_eq]; exact this
theorem ey_17 (e : EXP) (h : e.Ok) : Ct V2.P V2.G 17 (eyA e) [] (φB (noneB e)) := by rw [eyA_eq]; exact Ct.v2 (none_ok e)
theorem ey_18 (e : EXP) (h : e.Ok) : Ct V2.P V2.G 18 (eyA e) [] (φB (noneB e)) := by rw [eyA_eq]; exact Ct.v2 (rnone_ok e)
theorem ey_11 (e : EXP) (h : e.Ok) : Ct V2.P V2.G 11 (eyA e) [] (φB (bigB e)) := by rw [eyA_eq]; exact Ct.v2 (big_ok e h)
theorem gEy_eq {e : EXP} (h : e.Ok) : gF eyA EXP.Ok [.agg (eC e)] [] = true := gF_eq (A := eyA) h
theorem vEy_eq {τ : Type} [Inhabited τ] {w : EXP → τ} {e : EXP} (h : e.Ok) : vF eyA EXP.Ok w [.agg (eC e)] [] = w e := vF_eq (A := eyA) (eyA_inj w) h
noncomputable abbrev gEy : List AV → List AO → Bool := gF eyA EXP.Ok
theorem ey_ne (a : Int) (b : Bool) : (bif a != a then true else !b == b) = false := by
  have : (a != a) = false := by simp
  rw [this]; simp
theorem loopE {z : ZE3} (he : z.e.Ok) (hy : z.y.Ok) (hz : z.z.Ok) (T : List Ent) : ∀ L : List (List Nat × Orc), LoopOk (V2.run (entF 15 eyA EXP.Ok exprE φE :: entF 16 eyA EXP.Ok exprE φE :: entF 17 eyA EXP.Ok noneB φB :: entF 18 eyA EXP.Ok noneB φB :: T) 1 [] L [] 3) 3 [1, 1, 1, 1, 1, 1, 1, 1, 0, 1, 0] (mkO (goodS (fun i : Nat => EX3 z (i : Int)) (· ≤ 3)) (valS (fun i : Nat => EX3 z (i : Int)) (· ≤ 3) fun _ => z) outE3) := fun L =>
  loopOk_of (X := V2.run (entF 15 eyA EXP.Ok exprE φE :: entF 16 eyA EXP.Ok exprE φE :: entF 17 eyA EXP.Ok noneB φB :: entF 18 eyA EXP.Ok noneB φB :: T) 1 [] L [] 3) (b := subC (bodyOf V2.P 3) ([1, 1, 1, 1, 1, 1, 1, 1, 0, 1, 0] ++ [0])) (fun i : Nat => EX3 z (i : Int)) (· ≤ 3) (fun i => 3 - i) (fun _ => z) outE3 (by kernel_rfl) 9 fun i hi k kn hk => by
    match i, hi with
    | 0, _ =>
      refine (ex_0 gEy gEy gEy gEy (vF eyA EXP.Ok exprE) (vF eyA EXP.Ok exprE) (vF eyA EXP.Ok noneB) (vF eyA EXP.Ok noneB) T L 9 z kn k (vEy_eq he) (vEy_eq he)).trans ?_
      refine ((((cT (gEy_eq he)).trans (cT (gEy_eq he))).trans (cT (gEy_eq he))).trans (cT (gEy_eq he))).trans ?_
      refine (cF (by rw [vEy_eq he]; exact ey_ne _ _)).trans ?_
      exact hk 1 (by show 1 ≤ 3; omega) (by show 3 - 1 < 3 - 0; omega)
    | 1, _ =>
      refine (ex_1 gEy gEy gEy gEy (vF eyA EXP.Ok exprE) (vF eyA EXP.Ok exprE) (vF eyA EXP.Ok noneB) (vF eyA EXP.Ok noneB) T L 9 z kn k (vEy_eq hy) (vEy_eq hy)).trans ?_
      refine ((((cT (gEy_eq hy)).trans (cT (gEy_eq hy))).trans (cT (gEy_eq hy))).trans (cT (gEy_eq hy))).trans ?_
      refine (cF (by rw [vEy_eq hy]; exact ey_ne _ _)).trans ?_
      exact hk 2 (by show 2 ≤ 3; omega) (by show 3 - 2 < 3 - 1; omega)
    | 2, _ =>
      refine (ex_2 gEy gEy gEy gEy (vF eyA EXP.Ok exprE) (vF eyA EXP.Ok exprE) (vF eyA EXP.Ok noneB) (vF eyA EXP.Ok noneB) T L 9 z kn k (vEy_eq hz) (vEy_eq hz)).trans ?_
      refine ((((cT (gEy_eq hz)).trans (cT (gEy_eq hz))).trans (cT (gEy_eq hz))).trans (cT (gEy_eq hz))).trans ?_
      refine (cF (by rw [vEy_eq hz]; exact ey_ne _ _)).trans ?_
      exact hk 3 (by show 3 ≤ 3; omega) (by show 3 - 3 < 3 - 2; omega)
    | 3, _ => exact ex_3 _ L 9 z kn k
def sg2 : List (List UInt8) := [alB, beB]
theorem sg2_ok : segsOk sg2 := ⟨by decide, fun k hk => by
  rcases List.mem_cons.1 hk with rfl | hk
  · exact ⟨by kernel_rfl, by decide⟩
  rcases List.mem_cons.1 hk with rfl | hk
  · exact ⟨by kernel_rfl, by decide⟩
  cases hk⟩
def sgA (_ : CODES) : List AV := [.ref keyBase 0, segF, .int .i64 3]
theorem sexpr2 (C : CODES) (hC : C.Ok) : ∃ x, zPost 5 25 x ∧ Ct V2.P V2.G 13 (sgA C) (cO C) (φC x) := by
  obtain ⟨x, hx, hc⟩ := sxpr_ex sg2_ok 2 (by omega) C hC
  refine ⟨x, hx, Ct.args2 hc rfl (fun k hk => hk) fun i u u' hu hu' c v hr => ?_⟩
  match i with
  | 0 => simp only [zA, sgA, List.getElem?_cons_zero, Option.some.injEq] at hu hu'; subst hu hu'; exact hr
  | 1 =>
    simp only [zA, sgA, List.getElem?_cons_succ, List.getElem?_cons_zero, Option.some.injEq] at hu hu'; subst hu hu'
    refine Rep.slWeak (fun j hj => ?_) hr
    match j, hj with
    | 0, _ => rfl
    | 1, _ => rfl
    | j + 2, hj => exact absurd hj (by show ¬ j + 2 < 2; omega)
  | 2 => simp only [zA, sgA, List.getElem?_cons_succ, List.getElem?_cons_zero, Option.some.injEq] at hu hu'; subst hu hu'; exact hr
  | i + 3 => simp [zA] at hu
def cdP (x : EXP × CODES) : Prop := Fit 31 x.1 ∧ x.2.Ok
def cdPost (x y : EXP × CODES) : Prop := (Fit 20 x.1 → ccPost 20 y) ∧ ccPost 31 y
theorem cond2 (x : EXP × CODES) (hx : cdP x) : ∃ y, cdPost x y ∧ Ct V2.P V2.G 14 (kA x) (kO x) (φC y) := by
  by_cases h : Fit 20 x.1
  · obtain ⟨y, hy, hc⟩ := cond_ex 20 (by omega) (by omega) x ⟨h, hx.2⟩
    exact ⟨y, ⟨fun _ => hy, hy.1.mono (by omega), hy.2⟩, hc⟩
  · obtain ⟨y, hy, hc⟩ := cond_ex 31 (by omega) (by omega) x hx
    exact ⟨y, ⟨fun hf => absurd hf h, hy⟩, hc⟩
theorem cdPost_kind (a b x : EXP × CODES) (h : kA a = kA b) (_ : kO a = kO b) (hp : cdPost a x) : cdPost b x := by
  have : eyA a.1 = eyA b.1 := by
    simp only [kA, List.cons.injEq, AV.agg.injEq, true_and, and_true] at h
    unfold eyA; rw [h]
  have hf : Fit 20 a.1 = Fit 20 b.1 := eyA_inj (Fit 20) _ _ this
  exact ⟨fun hb => hp.1 (hf ▸ hb), hp.2⟩
theorem exprs_ok {n : Nat} {g : Nat → Int} (hg : ∀ j, j < n → 0 ≤ g j ∧ g j < 256) (e : EXP) (he : e.Ok) : Ct V2.P V2.G 3 [.agg (eC e), .sl .no 1 n fun j => [.int .u8 (g j)] ] [] (φB true) := by
  obtain ⟨C0, hC0, hnew⟩ := new_ok hg (m := 120) (by omega) (by omega)
  obtain ⟨wx, hwx, htx⟩ := ent_ex (V := V2) (f := 13) (A := sgA) (O := cO) (Pre := CODES.Ok) (φ := φC) (Post := fun (_ : CODES) (x : EXP × CODES) => zPost 5 25 x) sexpr2
  obtain ⟨wc, hwc, htc⟩ := ent_ex (V := V2) (f := 14) (A := kA) (O := kO) (Pre := cdP) (φ := φC) (Post := cdPost) cond2
  have gx : goodA sgA cO CODES.Ok [.ref 1000000 0, segF, .int .i64 3] [codO C0] = true := goodA_eq (A := sgA) (O := cO) (v := C0) hC0
  have px : zPost 5 25 (valA sgA cO CODES.Ok wx [.ref 1000000 0, segF, .int .i64 3] [codO C0]) := valA_post (A := sgA) (O := cO) (a := C0) (Post := fun (_ : CODES) (x : EXP × CODES) => zPost 5 25 x) hwx (fun _ _ _ _ _ h => h) hC0
  generalize hx : valA sgA cO CODES.Ok wx [.ref 1000000 0, segF, .int .i64 3] [codO C0] = x at px
  obtain ⟨x, C1⟩ := x
  obtain ⟨⟨⟨pv, pe⟩, pz⟩, hC1⟩ := px
  have pv : VE 5 x := pv
  have pe : x.Ok := pe
  have pz : x.size ≤ 25 := pz
  have hC1 : C1.Ok := hC1
  have f20 : Fit 20 x := VE.fit pv pe
  have hP1 : cdP (x, C1) := ⟨f20.mono (by omega), hC1⟩
  have g1' : goodA kA kO cdP [.ref 1000000 0, .agg (eC x)] [codO C1] = true := goodA_eq (A := kA) (O := kO) (v := (x, C1)) hP1
  have p1 : cdPost (x, C1) (valA kA kO cdP wc [.ref 1000000 0, .agg (eC x)] [codO C1]) := valA_post (A := kA) (O := kO) (a := (x, C1)) (Post := cdPost) hwc cdPost_kind hP1
  generalize hy : valA kA kO cdP wc [.ref 1000000 0, .agg (eC x)] [codO C1] = y at p1
  obtain ⟨y, C2⟩ := y
  obtain ⟨f31, hC2⟩ := p1.1 f20
  have f31 : Fit 31 y := f31
  have hC2 : C2.Ok := hC2
  have hP2 : cdP (y, C2) := ⟨f31, hC2⟩
  have g2' : goodA kA kO cdP [.ref 1000000 0, .agg (eC y)] [codO C2] = true := goodA_eq (A := kA) (O := kO) (v := (y, C2)) hP2
  have p2 : cdPost (y, C2) (valA kA kO cdP wc [.ref 1000000 0, .agg (eC y)] [codO C2]) := valA_post (A := kA) (O := kO) (a := (y, C2)) (Post := cdPost) hwc cdPost_kind hP2
  generalize hz : valA kA kO cdP wc [.ref 1000000 0, .agg (eC y)] [codO C2] = w at p2
  obtain ⟨w, C3⟩ := w
  have hwo : w.Ok := p2.2.1.ok (by omega)
  have hyo : y.Ok := f31.ok (by omega)
  let z : ZE3 := ⟨e, y, w⟩
  let T : List Ent := [entF 17 eyA EXP.Ok noneB φB, entF 18 eyA EXP.Ok noneB φB, entF 16 eyA EXP.Ok exprE φE]
  have hg1 : goodS (fun i : Nat => EX3 z (i : Int)) (· ≤ 3) (EX3 z 0) = true := goodS_eq (S := fun i : Nat => EX3 z (i : Int)) (v := 0) (Nat.zero_le _)
  have hv1 : valS (fun i : Nat => EX3 z (i : Int)) (· ≤ 3) (fun _ => z) (EX3 z 0) = z := valS_eq (S := fun i : Nat => EX3 z (i : Int)) (v := 0) (fun _ _ _ _ _ => rfl) (Nat.zero_le _)
  have hc := fun r he' => ct_loops (V := V2) (f := 3) (l := [.agg (eC e), .sl .no 1 n fun j => [.int .u8 (g j)] ]) (os := []) (r := r) (n := 9) (d := 1) (L := [([1, 1, 1, 1, 1, 1, 1, 1, 0, 1, 0], mkO (goodS (fun i : Nat => EX3 z (i : Int)) (· ≤ 3)) (valS (fun i : Nat => EX3 z (i : Int)) (· ≤ 3) fun _ => z) outE3)])
    (T := entF 15 eyA EXP.Ok exprE φE :: entF 16 eyA EXP.Ok exprE φE :: entF 17 eyA EXP.Ok noneB φB :: entF 18 eyA EXP.Ok noneB φB :: [entF 11 eyA EXP.Ok bigB φB, ent1 10 [] true φB, ent1 12 [.sl .no 1 n fun j => [.int .u8 (g j)], .int .i64 120] C0 φNew, entC 13 sgA cO CODES.Ok wx φC, entC 14 kA kO cdP wc φC])
    mixed2 funcs2 (tabOk_cons (entF_ok ey_15) (tabOk_cons (entF_ok ey_16) (tabOk_cons (entF_ok ey_17) (tabOk_cons (entF_ok ey_18) (tabOk_cons (entF_ok ey_11) (tabOk_cons (ent1_ok (Ct.v2 awake_ok)) (tabOk_cons (ent1_ok hnew) (tabOk_cons htx (tabOk_cons htc tabOk_nil)))))))))
    (loopsOk_cons (loopE he hyo hwo _ _) loopsOk_nil) he'
  have h := ex_m gEy gEy gEy gEy gEy (g1 []) (g1 [.sl .no 1 n fun j => [.int .u8 (g j)], .int .i64 120]) (goodA sgA cO CODES.Ok) (goodA kA kO cdP) (vF eyA EXP.Ok exprE) (vF eyA EXP.Ok exprE) (vF eyA EXP.Ok noneB) (vF eyA EXP.Ok noneB) (vF eyA EXP.Ok bigB) (v1 [] true) (v1 [.sl .no 1 n fun j => [.int .u8 (g j)], .int .i64 120] C0) (valA sgA cO CODES.Ok wx) (valA kA kO cdP wc) []
    (goodS (fun i : Nat => EX3 z (i : Int)) (· ≤ 3)) (valS (fun i : Nat => EX3 z (i : Int)) (· ≤ 3) fun _ => z) e n g (t1 := C0) (v1_eq _ _) (t2 := (x, C1)) hx (t3 := (y, C2)) hy (t4 := (w, C3)) hz (t5 := exprE x) (vEy_eq pe) (t6 := z) hv1
  have hgood : (exprE x != 0) = false := by
    have := expr_good pv (by omega)
    rw [decide_eq_true (by omega : x.size ≤ 60)] at this
    simp only [bne, this, Bool.not_true]
  refine hc _ (h.trans ?_)
  refine (cT (g1_eq [])).trans ?_
  refine (cF (by rw [v1_eq]; rfl)).trans ?_
  refine (cT (gEy_eq he)).trans ?_
  cases hb : bigB e with
  | true => exact cT ((vEy_eq he).trans hb)
  | false =>
    refine (cF ((vEy_eq he).trans hb)).trans ?_
    refine (cT (g1_eq _)).trans ?_
    refine (cT gx).trans ?_
    refine (cT g1').trans ?_
    refine (cT g2').trans ?_
    refine (cT (gEy_eq pe)).trans ?_
    refine (cF hgood).trans ?_
    exact cT hg1
end Go.SH

namespace Go.Ab
open Go Go.RowKit Go.ChangeShapes
mutual
def bulkD {H : Type} : DataW H → Nat
  | .lit (.string bytes) => bytes.length + 1
  | .lit _ => 1
  | .nil => 1
  | .ptr d => bulkD d + 1
  | .slice elems spare => bulkL elems + bulkL spare + 1
  | .agg parts => bulkL parts + 1
  | .iface _ d => bulkD d + 1
  | .map entries => bulkM entries + 1
  | .held _ => 1
def bulkL {H : Type} : List (DataW H) → Nat
  | [] => 0
  | d :: r => bulkD d + bulkL r
def bulkM {H : Type} : List (Lit × DataW H) → Nat
  | [] => 0
  | x :: r => bulkE x + bulkM r
def bulkE {H : Type} : Lit × DataW H → Nat
  | (.string bytes, d) => bytes.length + bulkD d + 1
  | (_, d) => bulkD d + 1
end
theorem bulkD_pos {H : Type} (d : DataW H) : 1 ≤ bulkD d := by
  cases d with
  | lit l => cases l <;> simp [bulkD]
  | _ => simp [bulkD]
theorem bulkL_len {H : Type} : ∀ l : List (DataW H), l.length ≤ bulkL l
  | [] => by simp [bulkL]
  | d :: r => by have := bulkD_pos d; have := bulkL_len r; simp only [List.length_cons, bulkL]; omega
theorem bulkL_at {H : Type} : ∀ {l : List (DataW H)} {i : Nat} {d : DataW H}, l[i]? = some d → bulkD d ≤ bulkL l
  | [], _, _, h => by simp at h
  | e :: r, 0, d, h => by simp at h; subst h; simp only [bulkL]; omega
  | e :: r, i + 1, d, h => by have := bulkL_at (l := r) (i := i) (by simpa using h); simp only [bulkL]; omega
structure CellsR (c : Cx) (us : List AV) (vs : List Value) : Prop where
  len : vs.length = us.length
  one : ∀ u ∈ us, u.one = true ∧ u.keys = []
  rep : ∀ (i : Nat) (u : AV), us[i]? = some u → Rep c u (vs.getD i undef)
theorem keysL_nil : ∀ {us : List AV}, (∀ u ∈ us, u.keys = []) → keysL us = []
  | [], _ => rfl
  | u :: r, h => by rw [keysL, h u (by simp), keysL_nil fun v hv => h v (List.mem_cons_of_mem _ hv)]; rfl
theorem CellsR.nil (c : Cx) : CellsR c [] [] := ⟨rfl, fun _ h => by simp at h, fun i u h => by simp at h⟩
theorem CellsR.append {c : Cx} {us us' : List AV} {vs vs' : List Value} (h : CellsR c us vs) (h' : CellsR c us' vs') : CellsR c (us ++ us') (vs ++ vs') := by
  refine ⟨by simp [h.len, h'.len], fun u hu => ?_, fun i u hu => ?_⟩
  · rcases List.mem_append.1 hu with hu | hu
    · exact h.one u hu
    · exact h'.one u hu
  · by_cases hi : i < us.length
    · rw [List.getElem?_append_left hi] at hu
      have := h.rep i u hu
      rw [List.getD_eq_getElem?_getD] at this ⊢
      rwa [List.getElem?_append_left (by rw [h.len]; exact hi)]
    · rw [List.getElem?_append_right (by omega)] at hu
      have := h'.rep _ u hu
      rw [List.getD_eq_getElem?_getD] at this ⊢
      rw [List.getElem?_append_right (by rw [h.len]; omega), h.len]
      exact this
theorem CellsR.one1 {c : Cx} {u : AV} {v : Value} (h1 : u.one = true) (h2 : u.keys = []) (h : Rep c u v) : CellsR c [u] [v] :=
  ⟨rfl, fun x hx => by simp at hx; subst hx; exact ⟨h1, h2⟩, fun i x hx => by
    cases i with
    | zero => simp at hx; subst hx; exact h
    | succ i => simp at hx⟩
theorem CellsR.agg {c : Cx} {us : List AV} {vs : Array Value} (h : CellsR c us vs.toList) : Rep c (.agg us) (.agg vs) ∧ (AV.agg us).keys = [] := by
  refine ⟨.agg _ _ (by simpa using h.len) (fun i u hu => (h.one u (List.mem_of_getElem? hu)).1) (fun i u hu => ?_), ?_⟩
  · have := h.rep i u hu
    rw [List.getD_eq_getElem?_getD] at this
    rw [Array.getD_eq_getD_getElem?]
    simpa using this
  · simp only [AV.keys]
    exact keysL_nil fun u hu => (h.one u hu).2
section
variable {H : Type} (enc : TypeId × Value → H) (P : Program) (w : World) (N : Nat)
variable {α β : Type}
def Reads (n : Nat) (t : TypeId) (cl : α → List AV) (Ok : α → Prop) : Prop :=
  ∀ cs x, DataW.trod enc P w 0 (fun _ => true) true n t cs = some x → bulkD x.1 ≤ N → ∃ a, CellsR (startCx w) (cl a) cs ∧ Ok a
def ReadsF (n : Nat) (fs : List Field) (off len : Nat) (cl : α → List AV) (Ok : α → Prop) : Prop :=
  ∀ (cs : List Value) (xs : List (DataW H × List MemPlace)), xs.length = fs.length → off + len ≤ cs.length →
    (∀ (i : Nat) (f : Field), fs[i]? = some f → DataW.trod enc P w 0 (fun _ => true) true n f.type ((cs.drop f.offset).take (P.cellsOf f.type)) = xs[i]?) →
    bulkL (xs.map (·.1)) ≤ N → ∃ a, CellsR (startCx w) (cl a) ((cs.drop off).take len) ∧ Ok a
variable {enc P w N}
theorem Reads.map {n : Nat} {t : TypeId} {cl : α → List AV} {Ok : α → Prop} {cl' : β → List AV} {Ok' : β → Prop} (h : Reads enc P w N n t cl Ok) (g : α → β) (hc : ∀ a, cl' (g a) = cl a) (ho : ∀ a, Ok a → Ok' (g a)) : Reads enc P w N n t cl' Ok' := fun cs x hx hb => by
  obtain ⟨a, h1, h2⟩ := h cs x hx hb
  exact ⟨g a, by rw [hc]; exact h1, ho a h2⟩
theorem reads_int {n : Nat} {t : TypeId} {k : IntKind} (ht : P.underlying t = some (.int k)) : Reads enc P w N n t (fun z : Int => [.int k z]) (fun z => (Lit.int k z).wf = true) := fun cs x hx hb => by
  obtain ⟨z, rfl, rfl, hw⟩ := DataW.trod_int ht hx
  exact ⟨z, .one1 rfl rfl (.int _ _), hw⟩
theorem reads_str {n : Nat} {t : TypeId} (ht : P.underlying t = some .string) : Reads enc P w N n t (fun s : List UInt8 => [.str s]) (fun s => s.length ≤ maxLen ∧ s.length + 1 ≤ N) := fun cs x hx hb => by
  obtain ⟨s, rfl, rfl, hs⟩ := DataW.trod_string ht hx
  simp only [bulkD] at hb
  refine ⟨s.data.toList, .one1 rfl rfl ?_, by rw [Array.length_toList]; exact hs, hb⟩
  have := Rep.str (c := startCx w) s.data.toList
  rwa [Array.toArray_toList] at this
theorem readsF_nil {n off : Nat} : ReadsF enc P w N n [] off 0 (fun _ : Unit => []) (fun _ => True) := fun cs xs _ _ _ _ => ⟨(), by rw [List.take_zero]; exact .nil _, trivial⟩
theorem readsF_cons {n off n1 n2 : Nat} {f : Field} {fs : List Field} {cl1 : α → List AV} {Ok1 : α → Prop} {cl2 : β → List AV} {Ok2 : β → Prop} (h1 : Reads enc P w N n f.type cl1 Ok1) (ho : f.offset = off) (hn : P.cellsOf f.type = n1)
    (h2 : ReadsF enc P w N n fs (off + n1) n2 cl2 Ok2) : ReadsF enc P w N n (f :: fs) off (n1 + n2) (fun p : α × β => cl1 p.1 ++ cl2 p.2) (fun p => Ok1 p.1 ∧ Ok2 p.2) := fun cs xs hl hlen hx hb => by
  cases xs with
  | nil => simp at hl
  | cons x xs =>
    simp only [List.map_cons, bulkL] at hb
    have hx0 := hx 0 f rfl
    rw [ho, hn] at hx0
    obtain ⟨a, e1, e2⟩ := h1 _ x (by simpa using hx0) (by omega)
    obtain ⟨b, g1, g2⟩ := h2 cs xs (by simpa using hl) (by omega) (fun i f' hf => by simpa using hx (i + 1) f' (by simpa using hf)) (by omega)
    refine ⟨(a, b), ?_, e2, g2⟩
    rw [List.take_add, List.drop_drop]
    exact e1.append g1
theorem reads_struct {n : Nat} {t : TypeId} {fs : Array Field} {sz : Nat} {cl : α → List AV} {Ok : α → Prop} (ht : P.underlying t = some (.struct fs)) (hz : P.cellsOf t = sz) (h : ∀ m, n = m + 1 → ReadsF enc P w N m fs.toList 0 sz cl Ok) : Reads enc P w N n t cl Ok := fun cs x hx hb => by
  obtain ⟨xs, m, rfl, rfl, hl, hxl, hf⟩ := DataW.trod_struct ht hx
  simp only [bulkD] at hb
  obtain ⟨a, h1, h2⟩ := h m rfl cs xs (by simpa using hxl) (by omega) (fun i f hi => hf i f (by simpa using hi)) (by omega)
  refine ⟨a, ?_, h2⟩
  rw [List.drop_zero, List.take_of_length_le (by omega)] at h1
  exact h1
theorem mapM_at {γ δ : Type} {f : γ → Option δ} : ∀ {l : List γ} {r : List δ}, l.mapM f = some r → r.length = l.length ∧ ∀ (i : Nat) (a : γ), l[i]? = some a → f a = r[i]?
  | [], r, h => by simp at h; subst h; simp
  | x :: l, r, h => by
    simp only [List.mapM_cons, Option.bind_eq_bind, Option.bind_eq_some_iff, Option.pure_def, Option.some.injEq] at h
    obtain ⟨y, hy, ys, hys, rfl⟩ := h
    obtain ⟨h1, h2⟩ := mapM_at hys
    refine ⟨by simp [h1], fun i a ha => ?_⟩
    cases i with
    | zero => simp at ha; subst ha; simpa using hy
    | succ i => simpa using h2 i a (by simpa using ha)
theorem cells?_at {a : Addr} {n : Nat} {cs : List Value} (h : w.cells? 0 a n = some cs) : cs.length = n ∧ ∀ i, i < n → w.cell? (a.add i) = cs[i]? := by
  unfold World.cells? at h
  rw [if_pos (Nat.zero_le _)] at h
  obtain ⟨h1, h2⟩ := mapM_at h
  refine ⟨by simpa using h1, fun i hi => ?_⟩
  exact h2 i i (by simp [hi])
open Classical in
theorem reads_slice {n : Nat} {t e : TypeId} {sz : Nat} [Inhabited α] {cl : α → List AV} {Ok : α → Prop} (get : List α → Nat → List AV) (ht : P.underlying t = some (.slice e)) (hz : P.cellsOf e = sz) (hp : 0 < sz) (hlen : ∀ a, (cl a).length = sz)
    (hget : ∀ (l : List α) j, j < l.length → get l j = cl (l.getD j default)) (h : ∀ m, n = m + 1 → Reads enc P w N m e cl Ok) :
    Reads enc P w N n t (fun l : List α => [.sl .no sz l.length (get l)]) (fun l => l.length ≤ maxLen ∧ l.length + 1 ≤ N ∧ ∀ a ∈ l, Ok a) := fun cs x hx hb => by
  rcases DataW.trod_slice ht hx with ⟨rfl, rfl⟩ | ⟨ad, len, cap, elems, rest, m, rfl, rfl, rfl, _, hle, hcap, hel, hat, hsp, _⟩
  · refine ⟨[], .one1 rfl rfl ?_, by simp, by simpa [bulkD] using hb, by simp⟩
    exact .slNil .no sz _ trivial
  · simp only [bulkD] at hb
    rw [hz] at hat hsp
    have hb1 : elems.length ≤ bulkL (elems.map (·.1)) := by have := bulkL_len (elems.map (·.1)); simpa using this
    have hel1 : ∀ i, i < len → ∃ vs y a, elems[i]? = some y ∧ w.cells? 0 (ad.add (i * sz)) sz = some vs ∧ CellsR (startCx w) (cl a) vs ∧ Ok a := by
      intro i hi
      have hi' : i < elems.length := by omega
      have := hat i hi
      rw [List.getElem?_eq_getElem hi', Option.bind_eq_some_iff] at this
      obtain ⟨vs, h1, h2⟩ := this
      have hbi : bulkD (elems[i]).1 ≤ bulkL (elems.map (·.1)) := bulkL_at (i := i) (by simp [List.getElem?_eq_getElem hi'])
      obtain ⟨a, h3, h4⟩ := h m rfl vs _ h2 (by omega)
      exact ⟨vs, _, a, List.getElem?_eq_getElem hi', h1, h3, h4⟩
    have hspot : 0 < cap → ad.spot = none := by
      intro hc
      have : ∃ vs, w.cells? 0 (ad.add (0 * sz)) sz = some vs := by
        by_cases h0 : 0 < len
        · obtain ⟨vs, _, _, _, h2, _⟩ := hel1 0 h0
          exact ⟨vs, h2⟩
        · obtain rfl : len = 0 := by omega
          have h1 := (hsp rfl).2 0 (by omega)
          have h2 := (hsp rfl).1
          cases hr : rest with
          | nil => rw [hr] at h2; simp at h2; omega
          | cons y r =>
            rw [hr] at h1
            simp only [List.getElem?_cons_zero, Option.bind_eq_some_iff] at h1
            obtain ⟨vs, h3, _⟩ := h1
            exact ⟨vs, by simpa using h3⟩
      obtain ⟨vs, h2⟩ := this
      obtain ⟨h3, h4⟩ := cells?_at h2
      have h5 := h4 0 hp
      rw [Nat.zero_mul] at h5
      have e0 : ((ad.add 0).add 0) = ad := by unfold Addr.add; simp
      rw [e0, List.getElem?_eq_getElem (by omega)] at h5
      exact World.cell?_spot h5
    let l : List α := (List.range len).map fun i => if hi : i < len then (hel1 i hi).choose_spec.choose_spec.choose else default
    have hl : l.length = len := by simp [l]
    have hli : ∀ i (hi : i < len), ∃ vs, w.cells? 0 (ad.add (i * sz)) sz = some vs ∧ CellsR (startCx w) (cl (l.getD i default)) vs ∧ Ok (l.getD i default) := by
      intro i hi
      have e : l.getD i default = (hel1 i hi).choose_spec.choose_spec.choose := by
        simp [l, List.getD, hi]
      rw [e]
      exact ⟨_, (hel1 i hi).choose_spec.choose_spec.choose_spec.2⟩
    have hadd : ∀ i, i < len → ∀ q, q < sz → (ad.add (i * sz)).add q = ⟨ad.block, ad.off + (i * sz + q), none⟩ := by
      intro i hi q _
      have hs := hspot (by omega)
      obtain ⟨b, o, sp⟩ := ad
      simp only at hs
      subst hs
      unfold Addr.add
      by_cases c1 : i * sz = 0
      · by_cases c2 : q = 0 <;> simp [c1, c2]
      · by_cases c2 : q = 0 <;> simp [c1, c2, Nat.add_assoc]
    refine ⟨l, .one1 rfl rfl ?_, by omega, by omega, fun a ha => ?_⟩
    · rw [hl]
      have hgl : ∀ j, j < len → get l j = cl (l.getD j default) := fun j hj => hget l j (by omega)
      have hcell : ∀ (j i : Nat) (u : AV), j < len → (get l j)[i]? = some u → ∃ v, w.cell? ⟨ad.block, ad.off + (j * sz + i), none⟩ = some v ∧ Rep (startCx w) u v := by
        intro j i u hj hu
        rw [hgl j hj] at hu
        obtain ⟨vs, h1, h2, _⟩ := hli j hj
        obtain ⟨g1, g2⟩ := cells?_at h1
        have hi : i < sz := by have := (List.getElem?_eq_some_iff.1 hu).1; rw [hlen] at this; exact this
        have g3 := g2 i hi
        rw [hadd j hj i hi, List.getElem?_eq_getElem (by omega)] at g3
        refine ⟨_, g3, ?_⟩
        have := h2.rep i u hu
        rwa [List.getD_eq_getElem?_getD, List.getElem?_eq_getElem (by omega)] at this
      refine .sl .no sz len (get l) ad cap (fun j i => (w.cell? ⟨ad.block, ad.off + (j * sz + i), none⟩).getD undef) hspot hle trivial (fun j hj => ?_) (fun j i u hj hu => ?_) (fun j i u hj hu => ?_)
      · rw [hgl j hj]
        obtain ⟨vs, _, h2, _⟩ := hli j hj
        exact ⟨hlen _, keysL_nil fun u hu => (h2.one u hu).2⟩
      · obtain ⟨v, h1, _⟩ := hcell j i u hj hu
        have hone : u.one = true := by
          rw [hgl j hj] at hu
          obtain ⟨vs, _, h2, _⟩ := hli j hj
          exact (h2.one u (List.mem_of_getElem? hu)).1
        refine ⟨hone, ?_, v, h1⟩
        show w.cell? _ = _
        rw [h1]; rfl
      · obtain ⟨v, h1, h2⟩ := hcell j i u hj hu
        rw [h1]; exact h2
    · obtain ⟨i, hi, rfl⟩ := List.getElem_of_mem ha
      obtain ⟨_, _, _, h4⟩ := hli i (by omega)
      rwa [List.getD_eq_getElem?_getD, List.getElem?_eq_getElem hi] at h4
end
end Go.Ab

namespace Go.SH
open Go Go.Ab Go.Proofs Go.RowKit
set_option linter.unusedVariables false
set_option linter.unusedSimpArgs false
section
variable {H : Type} {enc : TypeId × Value → H} {w : World}
theorem rdInt (n : Nat) : Reads enc Tryz.prog w 1048576 n 3 (fun z : Int => [.int .i64 z]) (fun _ => True) := (reads_int Tryz.underlying3).map id (fun _ => rfl) fun _ _ => trivial
def txt (s : List UInt8) : Prop := s.length ≤ 1048575
theorem rdStr (n : Nat) : Reads enc Tryz.prog w 1048576 n 9 (fun s : List UInt8 => [.str s]) txt := (reads_str Tryz.underlying9).map id (fun _ => rfl) fun s h => by have := h.2; unfold txt; show s.length ≤ _; omega
theorem rdStrs (n : Nat) : Reads enc Tryz.prog w 1048576 n 32 (fun l : List (List UInt8) => [strsA l]) (okL txt) :=
  (reads_slice (e := 9) (sz := 1) (α := List UInt8) (cl := fun s => [.str s]) (Ok := txt) (fun l j => [.str (l.getD j [])]) Tryz.underlying32 (by kernel_rfl) (by omega) (fun _ => rfl) (fun _ _ _ => rfl) (fun m _ => rdStr m)).map id (fun _ => rfl) fun l h => ⟨by have := h.2.1; show l.length ≤ _; omega, h.2.2⟩
theorem txt.len {s : List UInt8} (h : txt s) : lenS s := by unfold txt at h; unfold lenS maxS; omega
theorem okL.strs {l : List (List UInt8)} (h : okL txt l) : strsOk l := ⟨h.big, fun s hs => (h.2 s hs).len⟩
theorem rdVal (n : Nat) : Reads enc Tryz.prog w 1048576 n 58 VAL.c VAL.Ok :=
  (reads_struct (sz := 1 + (1 + (1 + (1 + 0)))) Tryz.underlying58 (by kernel_rfl) fun m _ => readsF_cons (rdInt m) rfl (by kernel_rfl) (readsF_cons (rdInt m) rfl (by kernel_rfl) (readsF_cons (rdStr m) rfl (by kernel_rfl) (readsF_cons (rdStrs m) rfl (by kernel_rfl) readsF_nil)))).map
    (fun p => (⟨p.1, p.2.1, p.2.2.1, p.2.2.2.1⟩ : VAL)) (fun _ => rfl) fun p h => ⟨by have := h.2.2.1; unfold txt at this; show p.2.2.1.length ≤ _; omega, h.2.2.2.1.strs⟩
theorem rdList {α : Type} [Inhabited α] {t e sz : Nat} {cl : α → List AV} {Ok : α → Prop} (n : Nat) (ht : Tryz.prog.underlying t = some (.slice e)) (hz : Tryz.prog.cellsOf e = sz) (hp : 0 < sz) (hl : ∀ a, (cl a).length = sz) (h : ∀ m, Reads enc Tryz.prog w 1048576 m e cl Ok) :
    Reads enc Tryz.prog w 1048576 n t (fun l : List α => [.sl .no sz l.length fun j => cl (l.getD j default)]) (okL Ok) :=
  (reads_slice (fun l j => cl (l.getD j default)) ht hz hp hl (fun _ _ _ => rfl) (fun m _ => h m)).map id (fun _ => rfl) fun l h => ⟨by have := h.2.1; show l.length ≤ _; omega, h.2.2⟩
theorem rdVals (n : Nat) : Reads enc Tryz.prog w 1048576 n 22 (fun l : List VAL => [valL l]) (okL VAL.Ok) := rdList n Tryz.underlying22 (by kernel_rfl) (by omega) (fun _ => rfl) rdVal
theorem EXP.c_len (e : EXP) : e.c.length = 5 := by rw [e.c_eq]; rfl
theorem rdExp : ∀ n : Nat, Reads enc Tryz.prog w 1048576 n 25 EXP.c EXP.Ok := by
  intro n
  induction n using Nat.strongRecOn with
  | ind n ih =>
  have hk : ∀ m, n = m + 1 → Reads enc Tryz.prog w 1048576 m 23 (fun l : List EXP => [.sl .no 5 l.length (EXP.row l)]) (okL EXP.Ok) := fun m hm =>
    (reads_slice (e := 25) (sz := 5) (cl := EXP.c) (Ok := EXP.Ok) EXP.row Tryz.underlying23 (by kernel_rfl) (by omega) EXP.c_len (fun l j h => EXP.row_at h) (fun m' hm' => ih m' (by omega))).map id (fun _ => rfl) fun l h => ⟨by have := h.2.1; show l.length ≤ _; omega, h.2.2⟩
  refine (reads_struct (sz := 1 + (1 + (1 + (1 + (1 + 0))))) Tryz.underlying25 (by kernel_rfl) fun m hm => readsF_cons (rdInt m) rfl (by kernel_rfl) (readsF_cons (rdStr m) rfl (by kernel_rfl) (readsF_cons (rdStr m) rfl (by kernel_rfl) (readsF_cons (rdVals m) rfl (by kernel_rfl) (readsF_cons (hk m hm) rfl (by kernel_rfl) readsF_nil))))).map
    (fun p => EXP.mk p.1 p.2.1 p.2.2.1 p.2.2.2.1 p.2.2.2.2.1) (fun p => by rw [EXP.c_eq]; rfl) fun p h => ?_
  obtain ⟨_, h2, h3, h4, h5, _⟩ := h
  exact .mk _ h2.len h3.len ⟨h4.big, h4.2⟩ h5.1 h5.2
end
end Go.SH

namespace Go.Ab
open Go Go.RowKit
section
variable {H : Type} (enc : TypeId × Value → H) (P : Program) (w : World) (held : Bool)
def RX (t : TypeId) (d : DataW H) (us : List AV) : Prop :=
  us.length = P.cellsOf t ∧ ∀ n cs p, DataW.trod enc P w 0 (fun _ => true) held n t cs = some (d, p) → CellsR (startCx w) us cs
variable {enc P w held}
theorem rx_int {t : TypeId} {k : IntKind} {z : Int} (ht : P.underlying t = some (.int k)) (hc : P.cellsOf t = 1) : RX enc P w held t (.lit (.int k z)) [.int k z] := ⟨hc.symm, fun n cs p h => by
  obtain ⟨z', rfl, hx, _⟩ := DataW.trod_int ht h
  simp only [Prod.mk.injEq, DataW.lit.injEq, Lit.int.injEq, true_and] at hx
  obtain ⟨rfl, _⟩ := hx
  exact .one1 rfl rfl (.int _ _)⟩
theorem rx_str {t : TypeId} {s : List UInt8} (ht : P.underlying t = some .string) (hc : P.cellsOf t = 1) : RX enc P w held t (.lit (.string s)) [.str s] := ⟨hc.symm, fun n cs p h => by
  obtain ⟨z, rfl, hx, _⟩ := DataW.trod_string ht h
  simp only [Prod.mk.injEq, DataW.lit.injEq, Lit.string.injEq] at hx
  obtain ⟨rfl, _⟩ := hx
  refine .one1 rfl rfl ?_
  have := Rep.str (c := startCx w) z.data.toList
  rwa [Array.toArray_toList] at this⟩
theorem rx_iface {t : TypeId} {ms : Array (String × TypeId)} {nm : String} {d : DataW H} (ht : P.underlying t = some (.interface ms)) (hc : P.cellsOf t = 1) : RX enc P w held t (.iface nm d) [.nni] := ⟨hc.symm, fun n cs p h => by
  cases n with
  | zero => simp [DataW.trod] at h
  | succ n =>
    unfold DataW.trod at h
    rw [ht] at h
    split at h <;> simp_all
    exact .one1 rfl rfl (.nni _ _)⟩
theorem rx_flat {c : Cx} {cs : List Value} {sz : Nat} : ∀ (us : List (List AV)) (k : Nat), (∀ (i : Nat) (u : List AV), us[i]? = some u → CellsR c u ((cs.drop ((k + i) * sz)).take sz) ∧ u.length = sz) → cs.length = (k + us.length) * sz → CellsR c us.flatten (cs.drop (k * sz))
  | [], k, _, hl => by
    rw [List.drop_eq_nil_of_le (by simp at hl; omega)]
    exact .nil _
  | u :: us, k, h, hl => by
    have h0 := h 0 u rfl
    have ih := rx_flat us (k + 1) (fun i v hv => by
      have := h (i + 1) v (by simpa using hv)
      rwa [show k + (i + 1) = k + 1 + i by omega] at this) (by rw [hl]; simp only [List.length_cons]; congr 1; omega)
    have e : cs.drop (k * sz) = (cs.drop (k * sz)).take sz ++ cs.drop ((k + 1) * sz) := by
      rw [show (k + 1) * sz = k * sz + sz by rw [Nat.add_mul, Nat.one_mul], ← List.drop_drop, List.take_append_drop]
    rw [e, List.flatten_cons]
    exact h0.1.append ih
theorem rx_array {t e : TypeId} {m sz : Nat} {ds : List (DataW H)} {us : List (List AV)} (ht : P.underlying t = some (.array m e)) (he : P.cellsOf e = sz) (hc : P.cellsOf t = m * sz) (hl : us.length = m)
    (h : ∀ (i : Nat) (d : DataW H) (u : List AV), ds[i]? = some d → us[i]? = some u → RX enc P w held e d u) (hd : ds.length = m) : RX enc P w held t (.agg ds) us.flatten := by
  have hu : ∀ (i : Nat) (u : List AV), us[i]? = some u → u.length = sz := fun i u hi => by
    have hlt := (List.getElem?_eq_some_iff.1 hi).1
    rw [(h i (ds[i]'(by omega)) u (List.getElem?_eq_getElem _) hi).1, he]
  refine ⟨?_, fun n cs p hx => ?_⟩
  · rw [hc, List.length_flatten, ← hl]
    have : ∀ l : List (List AV), (∀ (i : Nat) (u : List AV), l[i]? = some u → u.length = sz) → (l.map List.length).sum = l.length * sz := by
      intro l
      induction l with
      | nil => intro _; simp
      | cons a r ih =>
        intro h
        have h0 := h 0 a rfl
        have h1 := ih fun i u hi => h (i + 1) u (by simpa using hi)
        simp only [List.map_cons, List.sum_cons, h1, h0, List.length_cons, Nat.add_mul, Nat.one_mul]; omega
    exact this us hu
  · cases n with
    | zero => simp [DataW.trod] at hx
    | succ n =>
      simp only [DataW.trod, ht, he, hc] at hx
      split at hx
      · rename_i hcl
        obtain ⟨xs, hm, hxe⟩ := Option.map_eq_some_iff.1 hx
        have hxs : xs.map (·.1) = ds := by
          have := congrArg Prod.fst hxe
          simpa using this
        obtain ⟨hxl, hat⟩ := mapM_at hm
        have hxl : xs.length = m := by simpa using hxl
        have := rx_flat (c := startCx w) (cs := cs) (sz := sz) us 0 (fun i u hi => by
          have hlt := (List.getElem?_eq_some_iff.1 hi).1
          have hlt2 : i < xs.length := by omega
          have hf := hat i i (List.getElem?_range (by omega))
          rw [List.getElem?_eq_getElem hlt2] at hf
          have hdi : ds[i]? = some (xs[i]'hlt2).1 := by
            have := congrArg (·[i]?) hxs
            simp only [List.getElem?_map, List.getElem?_eq_getElem hlt2, Option.map_some] at this
            exact this.symm
          refine ⟨?_, hu i u hi⟩
          rw [Nat.zero_add]
          exact (h i _ u hdi hi).2 n _ (xs[i]'hlt2).2 hf) (by rw [hcl, Nat.zero_add, hl])
        simpa using this
      · cases hx
theorem rx_two {t : TypeId} {f0 f1 : Field} {d0 d1 : DataW H} {u0 u1 : List AV} (ht : P.underlying t = some (.struct #[f0, f1])) (h0 : RX enc P w held f0.type d0 u0) (h1 : RX enc P w held f1.type d1 u1) (o0 : f0.offset = 0) (o1 : f1.offset = P.cellsOf f0.type) (hc : P.cellsOf t = P.cellsOf f0.type + P.cellsOf f1.type) :
    RX enc P w held t (.agg [d0, d1]) (u0 ++ u1) := by
  refine ⟨by rw [List.length_append, h0.1, h1.1, hc], fun n cs p hx => ?_⟩
  obtain ⟨xs, m, rfl, hxe, hl, hxl, hf⟩ := DataW.trod_struct ht hx
  match xs, hxl with
  | [y0, y1], _ =>
    simp only [List.map_cons, List.map_nil, Prod.mk.injEq, DataW.agg.injEq, List.cons.injEq, and_true] at hxe
    obtain ⟨⟨rfl, rfl⟩, _⟩ := hxe
    have a0 := hf 0 f0 rfl
    have a1 := hf 1 f1 rfl
    rw [o0, List.drop_zero] at a0
    rw [o1] at a1
    have b0 := h0.2 m _ y0.2 a0
    have b1 := h1.2 m _ y1.2 a1
    have e : cs = cs.take (P.cellsOf f0.type) ++ (cs.drop (P.cellsOf f0.type)).take (P.cellsOf f1.type) := by
      rw [List.take_of_length_le (l := cs.drop (P.cellsOf f0.type)) (by rw [List.length_drop]; omega), List.take_append_drop]
    rw [e]
    exact b0.append b1
theorem rx_ints {t e : TypeId} {m : Nat} {k : IntKind} {zs : List Int} (ht : P.underlying t = some (.array m e)) (he : P.underlying e = some (.int k)) (hc : P.cellsOf e = 1) (hct : P.cellsOf t = m) (hl : zs.length = m) :
    RX enc P w held t (.agg (zs.map fun z => .lit (.int k z))) (zs.map fun z => .int k z) := by
  have := rx_array (enc := enc) (P := P) (w := w) (held := held) (ds := zs.map fun z => (.lit (.int k z) : DataW H)) (us := zs.map fun z => [AV.int k z]) ht hc (by rw [hct, Nat.mul_one]) (by simpa using hl) (fun i d u hd hu => by
    rw [List.getElem?_map, Option.map_eq_some_iff] at hd hu
    obtain ⟨z, hz, rfl⟩ := hd
    obtain ⟨z', hz', rfl⟩ := hu
    obtain rfl : z = z' := by rw [hz] at hz'; exact Option.some.inj hz'
    exact rx_int he hc) (by simpa using hl)
  rwa [show (zs.map fun z => [AV.int k z]).flatten = zs.map fun z => AV.int k z by induction zs with
    | nil => rfl
    | cons a r ih => rw [List.map_cons, List.flatten_cons, List.map_cons, List.singleton_append]; congr 1; clear hl this ih; induction r with
      | nil => rfl
      | cons b q ih => rw [List.map_cons, List.flatten_cons, ih]; rfl] at this
end
theorem laid_at {P : Program} {w : World} : ∀ {laid : List (String × DataW Unit)} {ps : List MemPlace}, DataW.LaidVars P w laid ps → ∀ {nm : String} {d : DataW Unit}, (nm, d) ∈ laid →
    ∃ g t cs fuel p, P.globalNamed nm = some g ∧ (P.globals[g]?).map (·.type) = some t ∧ w.var? P nm = some cs ∧ DataW.trod (fun _ => ()) P w 0 (fun _ => true) false fuel t cs.toList = some (d, p)
  | [], _, _, _, _, hm => by simp at hm
  | (n0, d0) :: r, ps, h, nm, d, hm => by
    obtain ⟨g, t, cs, fuel, p, q, h1, h2, h3, h4, h5, _⟩ := h
    rcases List.mem_cons.1 hm with e | hm
    · simp only [Prod.mk.injEq] at e
      obtain ⟨rfl, rfl⟩ := e
      exact ⟨g, t, cs, fuel, p, h1, h2, h3, h4⟩
    · exact laid_at h5 hm
theorem rep_cells {w : World} {g : Nat} {us : List AV} {cs : Array Value} (hv : ∀ i, w.cell? ⟨g, i, none⟩ = cs[i]?) (h : CellsR (startCx w) us cs.toList) : Rep (startCx w) (.elt us 0) (.pointer (some ⟨g, 0, none⟩)) := by
  have hi : ∀ (i : Nat) (u : AV), us[i]? = some u → ∃ v, cs[i]? = some v ∧ Rep (startCx w) u v := fun i u hu => by
    have hlt := (List.getElem?_eq_some_iff.1 hu).1
    have hlt' : i < cs.size := by have := h.len; simp at this; omega
    refine ⟨cs[i], Array.getElem?_eq_getElem hlt', ?_⟩
    have := h.rep i u hu
    rwa [List.getD_eq_getElem?_getD, Array.getElem?_toList, Array.getElem?_eq_getElem hlt'] at this
  refine .elt us 0 g 0 (fun i => (cs[i]?).getD undef) (keysL_nil fun u hu => (h.one u hu).2) (fun i u hu => ?_) (fun i u hu => ?_)
  · obtain ⟨v, h1, h2⟩ := hi i u hu
    rw [Nat.zero_add]
    refine ⟨(h.one u (List.mem_of_getElem? hu)).1, ?_, v, ?_⟩
    · show w.cell? _ = _
      rw [hv, h1]; rfl
    · rw [hv, h1]
  · obtain ⟨v, h1, h2⟩ := hi i u hu
    rw [h1]; exact h2
theorem rep_glob {P : Program} {w : World} {laid : List (String × DataW Unit)} (h : laidMet P laid w) {nm : String} {d : DataW Unit} {g : Nat} {t : TypeId} {us : List AV} (hm : (nm, d) ∈ laid) (hg : P.globalNamed nm = some g) (ht : (P.globals[g]?).map (·.type) = some t)
    (hr : RX (fun _ => ()) P w false t d us) : Rep (startCx w) (.elt us 0) (.pointer (some ⟨g, 0, none⟩)) := by
  obtain ⟨ps, hl, _⟩ := h
  obtain ⟨g', t', cs, fuel, p, h1, h2, h3, h4⟩ := laid_at hl hm
  obtain rfl := Option.some.inj (hg.symm.trans h1)
  obtain rfl := Option.some.inj (ht.symm.trans h2)
  exact rep_cells (fun i => World.var?_cell h1 h3 i) (hr.2 fuel _ p h4)
theorem calls_true_of {P : Program} {G : Nat → Option (List AV)} {f : FuncId} {l : List AV} {os : List AO} {xs : List Value} {w : World} (hg : ∀ g cs, G g = some cs → Rep (startCx w) (.elt cs 0) (.pointer (some ⟨g, 0, none⟩))) (h : Ct P G f l [] (.bool true, os)) (hs : Stand w l xs) :
    Calls P f xs.toArray w fun e w' => e = .returned (.bool true) ∧ Below w.heap.size w w' := by
  obtain ⟨h1, h2, h3⟩ := hs.spec
  refine (h.1 (startCx w) xs.toArray ⟨fun _ _ h => h, hg⟩ (startCx_objs w) (by simpa using h1) (fun i u hu => ?_) (by rw [h2]; simp)).mono ?_
  · have := h3 i u hu
    simpa [Array.getD_eq_getD_getElem?, List.getD_eq_getElem?_getD] using this
  · rintro e w' ⟨c', x, rfl, rfl, _, hF, _, hr, _, _⟩
    cases hr
    refine ⟨rfl, hF.os, hF.tape, hF.output, hF.size, fun b hb => hF.block b hb ?_⟩
    rintro ⟨k, o, ho, _⟩
    simp [enterObjs, alook] at ho
end Go.Ab

namespace Go.SH
open Go Go.Ab Go.Proofs Go.RowKit Go.Proofs.YtnldpiohcmgkdaaGreatDoor
set_option linter.unusedVariables false
set_option linter.unusedSimpArgs false
mutual
theorem bulk_eq {H : Type} : ∀ d : DataW H, Rows.uptoBulk d = bulkD d
  | .lit (.string _) => by simp only [Rows.uptoBulk, bulkD]
  | .lit (.int _ _) => by simp only [Rows.uptoBulk, bulkD]
  | .lit (.bool _) => by simp only [Rows.uptoBulk, bulkD]
  | .lit (.float _ _) => by simp only [Rows.uptoBulk, bulkD]
  | .lit .nil => by simp only [Rows.uptoBulk, bulkD]
  | .nil => by simp only [Rows.uptoBulk, bulkD]
  | .ptr d => by simp only [Rows.uptoBulk, bulkD, bulk_eq d]
  | .slice a b => by simp only [Rows.uptoBulk, bulkD, bulkAll_eq a, bulkAll_eq b]
  | .agg a => by simp only [Rows.uptoBulk, bulkD, bulkAll_eq a]
  | .iface _ d => by simp only [Rows.uptoBulk, bulkD, bulk_eq d]
  | .map a => by simp only [Rows.uptoBulk, bulkD, bulkM_eq a]
  | .held _ => by simp only [Rows.uptoBulk, bulkD]
theorem bulkAll_eq {H : Type} : ∀ l : List (DataW H), Rows.uptoBulkAll l = bulkL l
  | [] => by simp only [Rows.uptoBulkAll, bulkL]
  | d :: r => by simp only [Rows.uptoBulkAll, bulkL, bulk_eq d, bulkAll_eq r]
theorem bulkM_eq {H : Type} : ∀ l : List (Lit × DataW H), Rows.uptoBulkEntries l = bulkM l
  | [] => by simp only [Rows.uptoBulkEntries, bulkM]
  | d :: r => by simp only [Rows.uptoBulkEntries, bulkM, bulkE_eq d, bulkM_eq r]
theorem bulkE_eq {H : Type} : ∀ x : Lit × DataW H, Rows.uptoBulkEntry x = bulkE x
  | (.string _, d) => by simp only [Rows.uptoBulkEntry, bulkE, bulk_eq d]
  | (.int _ _, d) => by simp only [Rows.uptoBulkEntry, bulkE, bulk_eq d]
  | (.bool _, d) => by simp only [Rows.uptoBulkEntry, bulkE, bulk_eq d]
  | (.float _ _, d) => by simp only [Rows.uptoBulkEntry, bulkE, bulk_eq d]
  | (.nil, d) => by simp only [Rows.uptoBulkEntry, bulkE, bulk_eq d]
end
def dints : List (DataW Unit) → List Int
  | .lit (.int _ z) :: r => z :: dints r
  | _ => []
def dpairs : List (DataW Unit) → List (Int × Int)
  | .agg [.lit (.int _ y), .lit (.int _ z)] :: r => (y, z) :: dpairs r
  | _ => []
def parts : DataW Unit → List (DataW Unit)
  | .agg ds => ds
  | _ => []
theorem rxSpace {w : World} {d : DataW Unit} (hd : d = .agg ((dints (parts d)).map fun z => .lit (.int .u8 z))) (hl : (dints (parts d)).length = 256) (hc : dcells d = (dints (parts d)).map fun z => .int .u8 z) : RX (fun _ => ()) Tryz.prog w false 179 d (dcells d) := by
  rw [hc]
  have := rx_ints (enc := fun _ => ()) (P := Tryz.prog) (w := w) (held := false) (t := 179) (e := 5) (m := 256) (k := .u8) (zs := dints (parts d)) Tryz.underlying179 Tryz.underlying5 (by kernel_rfl) (by kernel_rfl) hl
  rwa [← hd] at this
theorem rxAccept {w : World} {d : DataW Unit} (hd : d = .agg ((dpairs (parts d)).map fun p => .agg [.lit (.int .u8 p.1), .lit (.int .u8 p.2)])) (hl : (dpairs (parts d)).length = 16) (hc : dcells d = ((dpairs (parts d)).map fun p => [AV.int .u8 p.1] ++ [AV.int .u8 p.2]).flatten) : RX (fun _ => ()) Tryz.prog w false 185 d (dcells d) := by
  rw [hc]
  have := rx_array (enc := fun _ => ()) (P := Tryz.prog) (w := w) (held := false) (t := 185) (e := 184) (m := 16) (sz := 2) (ds := (dpairs (parts d)).map fun p => .agg [.lit (.int .u8 p.1), .lit (.int .u8 p.2)]) (us := (dpairs (parts d)).map fun p => [AV.int .u8 p.1] ++ [AV.int .u8 p.2]) Tryz.underlying185 (by kernel_rfl) (by kernel_rfl) (by simpa using hl) (fun i d u hd hu => by
    rw [List.getElem?_map, Option.map_eq_some_iff] at hd hu
    obtain ⟨z, hz, rfl⟩ := hd
    obtain ⟨z', hz', rfl⟩ := hu
    obtain rfl : z = z' := by rw [hz] at hz'; exact Option.some.inj hz'
    exact rx_two Tryz.underlying184 (rx_int Tryz.underlying5 (by kernel_rfl)) (rx_int Tryz.underlying5 (by kernel_rfl)) rfl (by kernel_rfl) (by kernel_rfl)) (by simpa using hl)
  rwa [← hd] at this
set_option maxRecDepth 100000 in
theorem maxLen_cell {w : World} (h : w.ShapedOpen Tryz.prog) : Rep (startCx w) (.elt [.num .i64] 0) (.pointer (some ⟨7, 0, none⟩)) := by
  obtain ⟨cs, h1, h2, h3⟩ := h.1 7 #[.int .i64 0] 3 (of_decide_eq_true (by kernel_rfl)) (by kernel_rfl)
  obtain ⟨ts, e1, e2, e3⟩ := h3 (by kernel_rfl)
  have e0 : Tryz.prog.cellTypes Tryz.prog.depth 3 = some [3] := by kernel_rfl
  rw [e0] at e1
  obtain rfl := Option.some.inj e1
  have hlt : 0 < cs.size := by rw [h2]; decide
  obtain ⟨u, hu, hok⟩ := e3 0 cs[0] (Array.getElem?_eq_getElem hlt)
  simp only [List.length_singleton, Nat.mod_one, List.getElem?_cons_zero, Option.some.injEq] at hu
  subst hu
  unfold Cell.ok at hok
  rw [show Tryz.prog.underlying 3 = some (.int .i64) from Tryz.underlying3] at hok
  have hcell : ∀ i, w.cell? ⟨7, i, none⟩ = cs[i]? := fun i => by
    unfold World.cell?
    simp [h1]
  refine rep_cells hcell ⟨by simpa using h2, fun u hu => by simp at hu; subst hu; exact ⟨rfl, rfl⟩, fun i u hu => ?_⟩
  cases i with
  | succ i => simp at hu
  | zero =>
    simp at hu; subst hu
    rw [List.getD_eq_getElem?_getD, Array.getElem?_toList, Array.getElem?_eq_getElem hlt]
    show Rep _ _ cs[0]
    generalize cs[0] = v at hok ⊢
    cases v with
    | int k n => obtain ⟨rfl, _⟩ := hok; exact .num _ _
    | _ => simp at hok
theorem globs_of {w : World} {laid : List (String × DataW Unit)} (h : laidMet Tryz.prog laid w) (ho : w.ShapedOpen Tryz.prog)
    (m3 : ("strings.asciiSpace", Rows.laid_strings_asciiSpace) ∈ laid) (m4 : ("unicode/utf8.first", Rows.laid_unicode_utf8_first) ∈ laid) (m5 : ("unicode/utf8.acceptRanges", Rows.laid_unicode_utf8_acceptRanges) ∈ laid)
    (m8 : ("strconv.ErrSyntax", Rows.laid_strconv_ErrSyntax) ∈ laid) (m9 : ("strconv.ErrRange", Rows.laid_strconv_ErrRange) ∈ laid) :
    ∀ g cs, V.G g = some cs → Rep (startCx w) (.elt cs 0) (.pointer (some ⟨g, 0, none⟩)) := by
  intro g cs hg
  have hg : globs g = some cs := hg
  unfold globs at hg
  by_cases h3 : g = 3
  · subst h3
    obtain rfl := Option.some.inj hg
    exact rep_glob h m3 (by kernel_rfl) (by kernel_rfl) (rxSpace (by kernel_rfl) (by kernel_rfl) (by kernel_rfl))
  rw [beqF h3, cond_false] at hg
  by_cases h4 : g = 4
  · subst h4
    obtain rfl := Option.some.inj hg
    exact rep_glob h m4 (by kernel_rfl) (by kernel_rfl) (rxSpace (by kernel_rfl) (by kernel_rfl) (by kernel_rfl))
  rw [beqF h4, cond_false] at hg
  by_cases h5 : g = 5
  · subst h5
    obtain rfl := Option.some.inj hg
    exact rep_glob h m5 (by kernel_rfl) (by kernel_rfl) (rxAccept (by kernel_rfl) (by kernel_rfl) (by kernel_rfl))
  rw [beqF h5, cond_false] at hg
  by_cases h7 : g = 7
  · subst h7
    obtain rfl := Option.some.inj hg
    exact maxLen_cell ho
  rw [beqF h7, cond_false] at hg
  by_cases h8 : g = 8
  · subst h8
    obtain rfl := Option.some.inj hg
    exact rep_glob h m8 (by kernel_rfl) (by kernel_rfl) (rx_iface Tryz.underlying219 (by kernel_rfl))
  rw [beqF h8, cond_false] at hg
  by_cases h9 : g = 9
  · subst h9
    obtain rfl := Option.some.inj hg
    exact rep_glob h m9 (by kernel_rfl) (by kernel_rfl) (rx_iface Tryz.underlying219 (by kernel_rfl))
  rw [beqF h9, cond_false] at hg
  cases hg
end Go.SH

namespace Go.Ab
open Go Go.RowKit
section
variable {H : Type} {enc : TypeId × Value → H} {P : Program} {w : World} {held : Bool}
theorem rx_strs {t e : TypeId} {l : List (List UInt8)} (ht : P.underlying t = some (.slice e)) (he : P.underlying e = some .string) (hc : P.cellsOf e = 1) (hct : P.cellsOf t = 1) :
    RX enc P w held t (.slice (l.map fun s => .lit (.string s)) []) [.sl .no 1 l.length fun j => [.str (l.getD j [])]] := ⟨hct.symm, fun n cs p h => by
  rcases DataW.trod_slice ht h with ⟨_, hx⟩ | ⟨ad, len, cap, elems, rest, m, rfl, rfl, hx, _, hle, hcap, hel, hat, hsp, _⟩
  · simp at hx
  simp only [Prod.mk.injEq, DataW.slice.injEq] at hx
  obtain ⟨⟨h1, h2⟩, _⟩ := hx
  have h2 : rest = [] := by cases rest with | nil => rfl | cons => simp at h2
  subst h2
  have hcl : cap = len := by have := (hsp rfl).1; simp at this; omega
  subst hcl
  have hll : l.length = cap := by have := congrArg List.length h1; simp at this; omega
  subst hll
  have hel1 : ∀ i, i < l.length → ∃ v, w.cells? 0 (ad.add (i * 1)) 1 = some [v] ∧ Rep (startCx w) (.str (l.getD i [])) v := by
    intro i hi
    have hi' : i < elems.length := by omega
    have := hat i hi
    rw [hc, List.getElem?_eq_getElem hi', Option.bind_eq_some_iff] at this
    obtain ⟨vs, g1, g2⟩ := this
    have e1 : elems[i].1 = .lit (.string (l.getD i [])) := by
      have := congrArg (fun q => q[i]?) h1
      simp [hi, hi'] at this
      rw [← this]; simp [List.getD, hi]
    obtain ⟨y, hy⟩ : ∃ y, elems[i] = (DataW.lit (.string (l.getD i [])), y) := ⟨elems[i].2, by rw [← e1]⟩
    rw [hy] at g2
    have g3 := (rx_str (enc := enc) (P := P) (w := w) (held := held) he hc).2 m vs y g2
    have g4 : vs.length = 1 := by have := g3.len; simpa using this
    obtain ⟨v, rfl⟩ := List.length_eq_one_iff.1 g4
    exact ⟨v, g1, by simpa using g3.rep 0 _ rfl⟩
  have hspot : 0 < l.length → ad.spot = none := by
    intro h0
    obtain ⟨v, g1, _⟩ := hel1 0 h0
    obtain ⟨h3, h4⟩ := cells?_at g1
    have h5 := h4 0 (by omega)
    rw [Nat.zero_mul] at h5
    have e0 : ((ad.add 0).add 0) = ad := by unfold Addr.add; simp
    rw [e0] at h5
    exact World.cell?_spot h5
  have hadd : ∀ i, i < l.length → (ad.add (i * 1)).add 0 = ⟨ad.block, ad.off + (i * 1 + 0), none⟩ := by
    intro i hi
    have hs := hspot (by omega)
    obtain ⟨b, o, sp⟩ := ad
    simp only at hs
    subst hs
    by_cases c1 : i = 0
    · subst c1; rfl
    · have e1 : (⟨b, o, none⟩ : Addr).add (i * 1) = ⟨b, o + i * 1, none⟩ := by
        unfold Addr.add
        rw [if_neg (show ¬ i * 1 = 0 by omega)]
      rw [e1]; rfl
  have hcell : ∀ (j i : Nat) (u : AV), j < l.length → [AV.str (l.getD j [])][i]? = some u → ∃ v, w.cell? ⟨ad.block, ad.off + (j * 1 + i), none⟩ = some v ∧ Rep (startCx w) u v := by
    intro j i u hj hu
    cases i with
    | succ i => simp at hu
    | zero =>
      simp at hu; subst hu
      obtain ⟨v, g1, g2⟩ := hel1 j hj
      obtain ⟨h3, h4⟩ := cells?_at g1
      have h5 := h4 0 (by omega)
      rw [hadd j hj] at h5
      exact ⟨v, h5, by simpa [List.getD] using g2⟩
  refine .one1 rfl rfl (.sl .no 1 l.length _ ad l.length (fun j i => (w.cell? ⟨ad.block, ad.off + (j * 1 + i), none⟩).getD undef) hspot (Nat.le_refl _) trivial (fun j hj => ⟨rfl, rfl⟩) (fun j i u hj hu => ?_) (fun j i u hj hu => ?_))
  · obtain ⟨v, g1, _⟩ := hcell j i u hj hu
    refine ⟨?_, ?_, v, g1⟩
    · cases i with
      | zero => simp at hu; subst hu; rfl
      | succ i => simp at hu
    · show w.cell? _ = _
      rw [g1]; rfl
  · obtain ⟨v, g1, g2⟩ := hcell j i u hj hu
    rw [g1]; exact g2⟩
end
end Go.Ab

namespace Go.SH
open Go Go.Ab Go.Proofs Go.RowKit Go.Proofs.YtnldpiohcmgkdaaGreatDoor
set_option linter.unusedVariables false
set_option linter.unusedSimpArgs false
def dstrs : List (DataW Unit) → List (List UInt8)
  | .lit (.string s) :: r => s :: dstrs r
  | _ => []
def dlists : List (DataW Unit) → List (List (List UInt8))
  | .slice es _ :: r => dstrs es :: dlists r
  | _ => []
theorem rx_texts {w : World} {t m : Nat} {d : DataW Unit} (ht : Tryz.prog.underlying t = some (.array m 9)) (hc : Tryz.prog.cellsOf t = m * 1) (hd : d = .agg ((dstrs (parts d)).map fun s => .lit (.string s))) (hl : (dstrs (parts d)).length = m) (he : tcells d = (dstrs (parts d)).map fun s => .str s) : RX (fun _ => ()) Tryz.prog w false t d (tcells d) := by
  rw [he]
  have := rx_array (enc := fun _ => ()) (P := Tryz.prog) (w := w) (held := false) (t := t) (e := 9) (m := m) (sz := 1) (ds := (dstrs (parts d)).map fun s => .lit (.string s)) (us := (dstrs (parts d)).map fun s => [AV.str s]) ht (by kernel_rfl) hc (by simpa using hl) (fun i d u hd hu => by
    rw [List.getElem?_map, Option.map_eq_some_iff] at hd hu
    obtain ⟨z, hz, rfl⟩ := hd
    obtain ⟨z', hz', rfl⟩ := hu
    obtain rfl : z = z' := by rw [hz] at hz'; exact Option.some.inj hz'
    exact rx_str Tryz.underlying9 (by kernel_rfl)) (by simpa using hl)
  rw [← hd] at this
  have hf : ∀ l : List (List UInt8), (l.map fun s => [AV.str s]).flatten = l.map fun s => AV.str s := fun l => by induction l with | nil => rfl | cons s r ih => simp [ih]
  rwa [hf] at this
theorem rx_lists {w : World} {t m : Nat} {d : DataW Unit} (ht : Tryz.prog.underlying t = some (.array m 32)) (hc : Tryz.prog.cellsOf t = m * 1) (hd : d = .agg ((dlists (parts d)).map fun l => .slice (l.map fun s => .lit (.string s)) [])) (hl : (dlists (parts d)).length = m) (he : tcells d = (dlists (parts d)).map fun l => strsA l) : RX (fun _ => ()) Tryz.prog w false t d (tcells d) := by
  rw [he]
  have := rx_array (enc := fun _ => ()) (P := Tryz.prog) (w := w) (held := false) (t := t) (e := 32) (m := m) (sz := 1) (ds := (dlists (parts d)).map fun l => .slice (l.map fun s => .lit (.string s)) []) (us := (dlists (parts d)).map fun l => [strsA l]) ht (by kernel_rfl) hc (by simpa using hl) (fun i d u hd hu => by
    rw [List.getElem?_map, Option.map_eq_some_iff] at hd hu
    obtain ⟨z, hz, rfl⟩ := hd
    obtain ⟨z', hz', rfl⟩ := hu
    obtain rfl : z = z' := by rw [hz] at hz'; exact Option.some.inj hz'
    exact rx_strs Tryz.underlying32 Tryz.underlying9 (by kernel_rfl) (by kernel_rfl)) (by simpa using hl)
  rw [← hd] at this
  have hf : ∀ l : List (List (List UInt8)), (l.map fun s => [strsA s]).flatten = l.map fun s => strsA s := fun l => by induction l with | nil => rfl | cons s r ih => simp [ih]
  rwa [hf] at this
theorem globs2_of {w : World} {laid : List (String × DataW Unit)} (h : laidMet Tryz.prog laid w) (ho : w.ShapedOpen Tryz.prog)
    (m0 : ("flagstone/flagstonedraw.versions", Rows.laid_flagstone_flagstonedraw_versions) ∈ laid) (m1 : ("flagstone/flagstonedraw.lists", Rows.laid_flagstone_flagstonedraw_lists) ∈ laid) (m2 : ("flagstone/flagstonedraw.texts", Rows.laid_flagstone_flagstonedraw_texts) ∈ laid)
    (m3 : ("strings.asciiSpace", Rows.laid_strings_asciiSpace) ∈ laid) (m4 : ("unicode/utf8.first", Rows.laid_unicode_utf8_first) ∈ laid) (m5 : ("unicode/utf8.acceptRanges", Rows.laid_unicode_utf8_acceptRanges) ∈ laid)
    (m8 : ("strconv.ErrSyntax", Rows.laid_strconv_ErrSyntax) ∈ laid) (m9 : ("strconv.ErrRange", Rows.laid_strconv_ErrRange) ∈ laid) :
    ∀ g cs, V2.G g = some cs → Rep (startCx w) (.elt cs 0) (.pointer (some ⟨g, 0, none⟩)) := by
  intro g cs hg
  have hg : globs2 g = some cs := hg
  unfold globs2 at hg
  by_cases h0 : g = 0
  · subst h0
    obtain rfl := Option.some.inj hg
    exact rep_glob h m0 (by kernel_rfl) (by kernel_rfl) (rx_texts (m := 6) (t := 156) (by kernel_rfl) (by kernel_rfl) (by kernel_rfl) (by kernel_rfl) (by kernel_rfl))
  rw [beqF h0, cond_false] at hg
  by_cases h1 : g = 1
  · subst h1
    obtain rfl := Option.some.inj hg
    exact rep_glob h m1 (by kernel_rfl) (by kernel_rfl) (rx_lists (m := 5) (t := 157) (by kernel_rfl) (by kernel_rfl) (by kernel_rfl) (by kernel_rfl) (by kernel_rfl))
  rw [beqF h1, cond_false] at hg
  by_cases h2 : g = 2
  · subst h2
    obtain rfl := Option.some.inj hg
    exact rep_glob h m2 (by kernel_rfl) (by kernel_rfl) (rx_texts (m := 11) (t := 158) (by kernel_rfl) (by kernel_rfl) (by kernel_rfl) (by kernel_rfl) (by kernel_rfl))
  rw [beqF h2, cond_false] at hg
  exact globs_of h ho m3 m4 m5 m8 m9 g cs hg
section
variable {H : Type} {enc : TypeId × Value → H} {w : World} {N : Nat}
def byteI (z : Int) : Prop := 0 ≤ z ∧ z < 256
theorem rdByte (n : Nat) : Reads enc Tryz.prog w N n 5 (fun z : Int => [.int .u8 z]) byteI := (reads_int Tryz.underlying5).map id (fun _ => rfl) fun z h => by
  simp [Lit.wf, IntKind.min, IntKind.max, IntKind.signed, IntKind.bits] at h
  exact ⟨h.1, by show z < 256; omega⟩
def byteS (l : List Int) : AV := .sl .no 1 l.length fun j => [.int .u8 (l.getD j 0)]
theorem rdBytes (n : Nat) : Reads enc Tryz.prog w N n 26 (fun l : List Int => [byteS l]) (fun l => ∀ z ∈ l, byteI z) :=
  (reads_slice (e := 5) (sz := 1) (α := Int) (cl := fun z => [.int .u8 z]) (Ok := byteI) (fun l j => [.int .u8 (l.getD j 0)]) Tryz.underlying26 (by kernel_rfl) (by omega) (fun _ => rfl) (fun _ _ _ => rfl) (fun m _ => rdByte m)).map id (fun _ => rfl) fun l h => h.2.2
end
theorem slice_rep {P : Program} {H : Type} {enc : TypeId × Value → H} {W : World} {base : Nat} {t e : TypeId} {v : Value} {d : DataW H} {p : List MemPlace} {α : Type} {cl : α → AV} {Ok : α → Prop} (hs : P.underlying t = some (.slice e))
    (hv : Value.okWide P W .any base t v) (h : DataW.Trod enc P W 0 (fun _ => true) true t v d p) {N : Nat} (hr : ∀ n, Reads enc P W N n t (fun a => [cl a]) Ok) (hb : bulkD d ≤ N) :
    ∃ a, Ok a ∧ Rep (startCx W) (cl a) v ∧ (cl a).keys = [] := by
  obtain ⟨a, len, cap, rfl⟩ := Go.WideShapes.okWide_slice hs hv
  obtain ⟨n, hn⟩ := h
  obtain ⟨x, h1, h2⟩ := hr n (Value.slice a len cap).cells.toList (d, p) hn hb
  refine ⟨x, h2, ?_, (h1.one _ (by simp)).2⟩
  simpa [Value.cells] using h1.rep 0 _ rfl
end Go.SH
