/- The draws: Condition: how its answers are told; its loops and views. The draws: Condition: its loops and views. The draws: Condition: its contract. The draws: Condition: its contract, any condition. The draws: an experiment that is spoilt: equations. The draws: an experiment that is spoilt: its contract. A function that hands back a pointer to a new object: its contract by a run. New and Mod (for the laws of the spoilt draws). ShapeSplits: equations. ShapeSplits: the law answers true (the whole run). ShapeSplits: the law answers true. Reading a row's data as abstract values: numbers, texts, bools, slices, structs, to any depth. ShapeFlags: the row's data as flags, segments, layers, experiments. The package variables that a row lists, as the evaluator's globals. The Shape seat's globals out of a row's list; a slice's and a struct's arguments. Listed variables that hold slices of texts. The globals of the draws out of a row's list; a slice of bytes that came in. -/
import Derived.Test.YtnldpiohcmgkdaaGreatDoorX5
import Derived.ChangeArms
import Derived.ChangeShapes
import Derived.FnData
import Derived.MakeChecks
import Derived.Test.YtnldpiohcmgkdaaGreatDoorCards
import Derived.Test.YtnldpiohcmgkdaaGreatDoorTie
namespace Go.SH
open Go Go.Ab Go.Proofs
set_option linter.unusedVariables false
set_option linter.unusedSimpArgs false
theorem mixed4 : V4.P.follows .mixedOrders = true := mixed
theorem funcs4 : FuncsOk V4.P := funcs
theorem list_of {α : Type} [Inhabited α] {P : Nat → α → Prop} : ∀ n, (∀ j, j < n → ∃ x, P j x) → ∃ l : List α, l.length = n ∧ ∀ j, j < n → P j (l.getD j default)
  | 0, _ => ⟨[], rfl, fun j hj => absurd hj (by omega)⟩
  | n + 1, h => by
    obtain ⟨l, hl, hP⟩ := list_of n fun j hj => h j (by omega)
    obtain ⟨x, hx⟩ := h n (by omega)
    refine ⟨l ++ [x], by simp [hl], fun j hj => ?_⟩
    by_cases hj' : j < n
    · rw [show (l ++ [x]).getD j default = l.getD j default by simp [List.getD, List.getElem?_append_left (by omega : j < l.length)]]
      exact hP j hj'
    · obtain rfl : j = n := by omega
      rw [show (l ++ [x]).getD j default = x by simp [List.getD, ← hl]]
      exact hx
inductive Fit (b : Nat) : EXP → Prop
  | mk (e : EXP) : lenS e.kind → lenS e.name → e.vals.length ≤ b → (∀ v ∈ e.vals, v.Ok) → e.kids.length ≤ b → (∀ k ∈ e.kids, Fit b k) → Fit b e
theorem Fit.ok {b : Nat} (hb : b ≤ 1048576) {e : EXP} (h : Fit b e) : e.Ok := by
  induction h with
  | mk e h1 h2 h3 h4 h5 _ ih => exact .mk e h1 h2 ⟨by omega, h4⟩ (Nat.le_trans h5 hb) ih
theorem Fit.mono {b b' : Nat} (hb : b ≤ b') {e : EXP} (h : Fit b e) : Fit b' e := by
  induction h with
  | mk e h1 h2 h3 h4 h5 _ ih => exact .mk e h1 h2 (Nat.le_trans h3 hb) h4 (Nat.le_trans h5 hb) ih
theorem VE.fit {l : Nat} {e : EXP} (h : VE l e) (ho : e.Ok) : Fit 20 e := by
  induction h with
  | mk l e h1 h2 ih =>
    cases ho with
    | mk _ o1 o2 o3 o4 o5 =>
      have hp : e.part.n ≤ 12 ∧ e.part.vals.length ≤ 20 := by
        unfold partE at h1
        by_cases hc : (decide (e.part.n > 12) || decide (e.part.vals.length > 20)) = true
        · rw [hc] at h1
          cases h5 : (decide (e.part.op < 1) || decide (e.part.op > 15)) <;> cases h6 : !countB e.part <;> simp [h5, h6] at h1
        · simp only [Bool.or_eq_true, decide_eq_true_eq, not_or] at hc
          omega
      exact .mk e o1 o2 hp.2 o3.2 (show e.part.n ≤ 20 by omega) fun k hk => ih k hk (o5 k hk)
def TA (u u' : AV) : Prop := u'.one = true ∧ ∀ c x, Rep c u x → Rep c u' x
def rowV (a : List AV) : Prop := ∃ v : VAL, v.Ok ∧ Tells a v.c
def rowX (b : Nat) (a : List AV) : Prop := ∃ e : EXP, Fit b e ∧ Tells a (eC e)
theorem tells_same (a : List AV) (h : ∀ (i : Nat) (u : AV), a[i]? = some u → u.one = true) : Tells a a := fun i u u' h1 h2 => by
  rw [h1] at h2
  simp only [Option.some.injEq] at h2
  subst h2
  exact ⟨h i _ h1, fun _ _ h => h⟩
theorem valC_one {v : VAL} {i : Nat} {u : AV} (h : v.c[i]? = some u) : u.one = true := by
  match i with
  | 0 => simp [VAL.c] at h; subst h; rfl
  | 1 => simp [VAL.c] at h; subst h; rfl
  | 2 => simp [VAL.c] at h; subst h; rfl
  | 3 => simp [VAL.c] at h; subst h; rfl
  | i + 4 => simp [VAL.c] at h
theorem rowV_c {v : VAL} (h : v.Ok) : rowV v.c := ⟨v, h, tells_same _ fun i u => valC_one⟩
theorem rowX_c {b : Nat} {e : EXP} (h : Fit b e) : rowX b (eC e) := ⟨e, h, tells_refl e⟩
theorem slV {o : Own} {m : Nat} {gv : Nat → List AV} (h : ∀ j, j < m → rowV (gv j)) : ∃ l : List VAL, l.length = m ∧ (∀ v ∈ l, v.Ok) ∧ TA (.sl o 4 m gv) (valL l) := by
  obtain ⟨l, hl, hP⟩ := list_of (P := fun j (v : VAL) => v.Ok ∧ Tells (gv j) v.c) m h
  subst hl
  refine ⟨l, rfl, fun v hv => ?_, rfl, fun c => sl_map (fun j hj => ⟨rfl, valC_keys _⟩) fun j i u u' hj h1 h2 => ⟨((hP j hj).2 i u u' h1 h2).1, fun x => ((hP j hj).2 i u u' h1 h2).2 c x⟩⟩
  obtain ⟨j, hj, rfl⟩ := List.getElem_of_mem hv
  have := (hP j hj).1
  rw [List.getD_eq_getElem?_getD, List.getElem?_eq_getElem hj] at this
  exact this
theorem slV0 {g : Nat → List AV} : TA (.sl .fit 0 0 g) (valL []) := ⟨rfl, fun _ => sl_fit⟩
theorem slX {b : Nat} {o : Own} {n : Nat} {g : Nat → List AV} (h : ∀ j, j < n → rowX b (g j)) : ∃ l : List EXP, l.length = n ∧ (∀ v ∈ l, Fit b v) ∧ TA (.sl o 5 n g) (.sl .no 5 l.length (EXP.row l)) := by
  obtain ⟨l, hl, hP⟩ := list_of (P := fun j (v : EXP) => Fit b v ∧ Tells (g j) (eC v)) n h
  subst hl
  refine ⟨l, rfl, fun v hv => ?_, rfl, fun c => sl_map (fun j hj => by rw [row_eC hj]; exact ⟨rfl, expC_keys _ _ _ _ _ _⟩) fun j i u u' hj h1 h2 => by
    rw [row_eC hj] at h2
    exact ⟨((hP j hj).2 i u u' h1 h2).1, fun x => ((hP j hj).2 i u u' h1 h2).2 c x⟩⟩
  obtain ⟨j, hj, rfl⟩ := List.getElem_of_mem hv
  have := (hP j hj).1
  rw [List.getD_eq_getElem?_getD, List.getElem?_eq_getElem hj] at this
  exact this
theorem tells_x {op : Int} {kd nm : List UInt8} {a b : AV} {l : List VAL} {ks : List EXP} (ha : TA a (valL l)) (hb : TA b (.sl .no 5 ks.length (EXP.row ks))) : Tells [.int .i64 op, .str kd, .str nm, a, b] (eC (.mk op kd nm l ks)) := fun i u u' hu hu' => by
  unfold eC expC at *
  match i with
  | 0 => simp only [List.getElem?_cons_zero, Option.some.injEq] at hu hu'; subst hu hu'; exact ⟨rfl, fun _ x h => h⟩
  | 1 => simp only [List.getElem?_cons_succ, List.getElem?_cons_zero, Option.some.injEq] at hu hu'; subst hu hu'; exact ⟨rfl, fun _ x h => h⟩
  | 2 => simp only [List.getElem?_cons_succ, List.getElem?_cons_zero, Option.some.injEq] at hu hu'; subst hu hu'; exact ⟨rfl, fun _ x h => h⟩
  | 3 => simp only [List.getElem?_cons_succ, List.getElem?_cons_zero, Option.some.injEq] at hu hu'; subst hu hu'; exact ha
  | 4 => simp only [List.getElem?_cons_succ, List.getElem?_cons_zero, Option.some.injEq] at hu hu'; subst hu hu'; exact hb
  | i + 5 => simp at hu
def ccPost (b : Nat) (x : EXP × CODES) : Prop := Fit (b + 11) x.1 ∧ x.2.Ok
def kA (x : EXP × CODES) : List AV := [.ref keyBase 0, .agg (eC x.1)]
def kO (x : EXP × CODES) : List AO := [codO x.2]
theorem c_fin {b : Nat} {A : List AV} {O : List AO} {op : Int} {kd nm : List UInt8} {a3 a4 : AV} {l : List VAL} {ks : List EXP} {D : CODES} (hk : lenS kd) (hn : lenS nm) (hl : l.length ≤ b + 11) (hv : ∀ v ∈ l, v.Ok) (hks : ks.length ≤ b + 11) (hx : ∀ k ∈ ks, Fit (b + 11) k) (ha : TA a3 (valL l)) (hb : TA a4 (.sl .no 5 ks.length (EXP.row ks))) (hD : D.Ok)
    (h : Ct V2.P V2.G 14 A O (.agg [.int .i64 op, .str kd, .str nm, a3, a4], [codO D])) : ∃ x, ccPost b x ∧ Ct V2.P V2.G 14 A O (φC x) :=
  ⟨(.mk op kd nm l ks, D), ⟨.mk _ hk hn hl hv hks hx, hD⟩, tells_ct rfl (tells_x ha hb) h⟩
theorem c_finX {b : Nat} {A : List AV} {O : List AO} {op : Int} {kd nm : List UInt8} {m n : Nat} {gv g : Nat → List AV} {D : CODES} (hk : lenS kd) (hn : lenS nm) (hm : m ≤ b + 11) (hv : ∀ j, j < m → rowV (gv j)) (hn' : n ≤ b + 11) (hx : ∀ j, j < n → rowX (b + 11) (g j)) (hD : D.Ok)
    (h : Ct V2.P V2.G 14 A O (.agg (xc op kd nm m gv n g), [codO D])) : ∃ x, ccPost b x ∧ Ct V2.P V2.G 14 A O (φC x) := by
  obtain ⟨l, hl, hlo, hlt⟩ := slV (o := .no) hv
  obtain ⟨ks, hks, hko, hkt⟩ := slX (o := .no) hx
  exact c_fin hk hn (by omega) hlo (by omega) hko hlt hkt hD h
def gVl (l : List VAL) (j : Nat) : List AV := (l.getD j default).c
theorem eC_xc {e : EXP} {n : Nat} (h : e.kids.length = n) : eC e = xc e.op e.kind e.name e.vals.length (gVl e.vals) n (EXP.row e.kids) := by subst h; rfl
theorem rowsV {b : Nat} {e : EXP} (he : Fit b e) : ∀ j, j < e.vals.length → rowV (gVl e.vals j) := fun j hj => by
  cases he with
  | mk _ _ _ _ h4 _ _ =>
    unfold gVl
    rw [List.getD_eq_getElem?_getD, List.getElem?_eq_getElem hj]
    exact rowV_c (h4 _ (List.getElem_mem hj))
theorem rowsX {b : Nat} {e : EXP} (he : Fit b e) : ∀ j, j < e.kids.length → rowX b (EXP.row e.kids j) := fun j hj => by
  cases he with
  | mk _ _ _ _ _ _ h6 =>
    rw [row_eC hj, List.getD_eq_getElem?_getD, List.getElem?_eq_getElem hj]
    exact rowX_c (h6 _ (List.getElem_mem hj))
theorem rowX.mono {b b' : Nat} (h : b ≤ b') {a : List AV} (hr : rowX b a) : rowX b' a := by
  obtain ⟨e, h1, h2⟩ := hr
  exact ⟨e, h1.mono h, h2⟩
theorem rows_app {P : List AV → Prop} {m : Nat} {get : Nat → List AV} {z a : List AV} (h : ∀ j, j < m → P (get j)) (ha : P (fillGet z [(0, .agg a)] 0)) : ∀ j, j < m + 1 → P (appGet m 1 get (fillGet z [(0, .agg a)]) j) := by
  intro j hj
  by_cases hm : j < m
  · rw [appGet_lt hm]; exact h j hm
  · obtain rfl : j = m := by omega
    rw [appGet_ge (Nat.le_refl _) (by omega), Nat.sub_self]
    exact ha
theorem rows_cp {P : List AV → Prop} {m : Nat} {get : Nat → List AV} (h : ∀ j, j < m → P (get j)) : ∀ j, j < 0 + m → P (appGet 0 m (fun _ => []) get j) := by
  intro j hj
  rw [appGet_ge (Nat.zero_le _) (by omega), Nat.sub_zero]
  exact h j (by omega)
theorem any_ex (C : CODES) (hC : C.Ok) : ∃ x : VAL × CODES, (x.1.Ok ∧ x.2.Ok) ∧ Ct V2.P V2.G 29 (cA C) (cO C) (φV x) := by
  obtain ⟨wv, hwv, htv⟩ := ent_ex (V := V2) (f := 58) (A := vA) (O := vO) (Pre := vP) (φ := φV) (Post := vPost) value_ex
  obtain ⟨h0, h1, h2⟩ := nextR_ok hC (m := 5) (by omega)
  have hw : IntKind.wrap .i64 (1 + (nextR C 5).1) = 1 + (nextR C 5).1 := wrap_i64 (by omega) (by omega)
  have hP : vP ((nextR C 5).2, 1 + (nextR C 5).1) := ⟨h2, by show 1 ≤ 1 + (nextR C 5).1; omega, by show 1 + (nextR C 5).1 ≤ 5; omega⟩
  have hp : vPost ((nextR C 5).2, 1 + (nextR C 5).1) (valA vA vO vP wv (vA ((nextR C 5).2, 1 + (nextR C 5).1)) (vO ((nextR C 5).2, 1 + (nextR C 5).1))) := valA_post hwv vA_kind hP
  have e := any_m gN (goodA vA vO vP) vN (valA vA vO vP wv) C (t1 := nextR C 5) (vN_eq hC (by omega)) (t2 := valA vA vO vP wv (vA ((nextR C 5).2, 1 + (nextR C 5).1)) (vO ((nextR C 5).2, 1 + (nextR C 5).1))) (by rw [hw]; rfl)
  rw [hw] at e
  have e := (e.trans (cT (gN_eq hC (by omega)))).trans (cT (goodA_eq (A := vA) (O := vO) hP))
  exact ⟨_, ⟨hp.1.2.2, hp.2⟩, ct_loops (V := V2) (f := 29) (n := 9) (d := 3) (L := []) (T := [entN, entC 58 vA vO vP wv φV]) mixed2 funcs2 (tabOk_cons entN_ok (tabOk_cons htv tabOk_nil)) loopsOk_nil e⟩
end Go.SH

namespace Go.SH
open Go Go.Ab Go.Proofs
set_option linter.unusedVariables false
set_option linter.unusedSimpArgs false
def PA : List Nat := [1, 0, 1, 0, 1]
def nB (x : EXP × CODES × Int) : St := { env := [(0, .ref keyBase 0), (3, .ref 3 0), (4, .ref 4 0), (6, .int .i64 x.2.2)], objs := [(3, .cells (exK 4 (.sl .fit 5 1 (fillGet ex0 [(0, .agg (eC x.1))])))), (4, .cells ex0), (keyBase, codO x.2.1)] }
def nBI (b : Nat) (x : EXP × CODES × Int) : Prop := Fit b x.1
theorem notX_fit {b : Nat} (hb : 1 ≤ b) {e : EXP} (h : Fit b e) : Fit b (notX e) := .mk _ (by show 0 ≤ maxS; unfold maxS; omega) (by show 0 ≤ maxS; unfold maxS; omega) (Nat.zero_le _) (by intro v hv; cases hv) hb (by
  intro k hk
  have hk : k ∈ [e] := hk
  simp at hk; subst hk; exact h)
noncomputable def vwN (b : Nat) (s : St) : EXP × CODES × Int := (notX (valS nB (nBI b) id s).1, (valS nB (nBI b) id s).2)
instance : Inhabited (EXP × CODES × Int) := ⟨(default, default, 0)⟩
theorem viewN_ok (b : Nat) : ViewOk (mkV (goodS nB (nBI b)) (vwN b) SN) := by
  have := viewOk_weak nB (fun x => SN (notX x.1, x.2)) (nBI b) fun x _ => by
    exact ⟨rfl, .cons _ _ _ _ _ (.cells _ _ ⟨rfl, expC_keys _ _ _ _ _ _, tells_not x.1⟩) (.cons _ _ _ _ _ (.same _) (.cons _ _ _ _ _ (.same _) .nil))⟩
  exact this
theorem vwN_post {b : Nat} {x : EXP × CODES × Int} (h : nBI b x) : Fit b (valS nB (nBI b) id (nB x)).1 ∧ (valS nB (nBI b) id (nB x)).2 = x.2 :=
  valS_post (S := nB) (Inv := nBI b) (w := id) (Post := fun a y => Fit b y.1 ∧ y.2 = a.2) (fun a ha => ⟨ha, rfl⟩) (fun a c y hac hy => by
    refine ⟨hy.1, hy.2.trans ?_⟩
    obtain ⟨e, C, i⟩ := a
    obtain ⟨e', C', i'⟩ := c
    simp only [nB, St.mk.injEq, List.cons.injEq, Prod.mk.injEq, AV.int.injEq, true_and, and_true] at hac
    obtain ⟨h1, _, h3⟩ := hac
    rw [h1, codO_inj h3]) h
def nS (x : EXP × CODES × Nat) : St := NL x.1 x.2.1 (x.2.2 : Int)
def nI (b : Nat) (x : EXP × CODES × Nat) : Prop := Fit b x.1 ∧ x.2.1.Ok ∧ x.2.2 ≤ 12
instance : Inhabited (EXP × CODES × Nat) := ⟨(default, default, 0)⟩
theorem nots_loop (b : Nat) (hb : 1 ≤ b) (ge : List AV → List AO → Bool) (ve : List AV → List AO → Int × CODES) (hge : ∀ C : CODES, C.Ok → ge [.ref 1000000 0, .int .i64 3] [codO C] = true) (hve : ∀ C : CODES, C.Ok → ve [.ref 1000000 0, .int .i64 3] [codO C] = nextR C 3) (T : List Ent) :
    ∃ w : EXP × CODES × Nat → EXP × CODES, (∀ v, nI b v → Fit b (w v).1 ∧ (w v).2.Ok) ∧ ∀ L : List (List Nat × Orc), LoopOk (V4.run (mkE 19 ge ve φX :: T) 1 [] L [([1, 0, 1, 0, 1], fun _ _ => none), ([1, 1, 0, 1, 0, 1, 1, 1, 1, 1, 1, 1, 1, 1, 1, 1, 1, 1, 1, 1, 0, 1, 0, 0, 1, 1], mkV (goodS nB (nBI b)) (vwN b) SN)] 14) 14 [1, 1, 0, 1, 0, 1, 1, 1, 1, 1, 1, 1, 1, 1, 1, 1, 1, 1, 1, 1, 0, 1, 0] (mkO (goodS nS (nI b)) (valS nS (nI b) w) outN) := by
  refine loop_ex (Xf := fun L : List (List Nat × Orc) => V4.run (mkE 19 ge ve φX :: T) 1 [] L [([1, 0, 1, 0, 1], fun _ _ => none), ([1, 1, 0, 1, 0, 1, 1, 1, 1, 1, 1, 1, 1, 1, 1, 1, 1, 1, 1, 1, 0, 1, 0, 0, 1, 1], mkV (goodS nB (nBI b)) (vwN b) SN)] 14) (b := subC (bodyOf V4.P 14) ([1, 1, 0, 1, 0, 1, 1, 1, 1, 1, 1, 1, 1, 1, 1, 1, 1, 1, 1, 1, 0, 1, 0] ++ [0])) nS (nI b) (fun x => 12 - x.2.2) outN (fun _ x => Fit b x.1 ∧ x.2.Ok) (fun _ => by kernel_rfl) 14 fun v hv => ?_
  obtain ⟨t, C, i⟩ := v
  obtain ⟨ht, hC, hi⟩ : Fit b t ∧ C.Ok ∧ i ≤ 12 := hv
  obtain ⟨a0, a1, aD⟩ := nextR_ok hC (m := 3) (by omega)
  have hw : IntKind.wrap .i64 (9 + (nextR C 3).1) = 9 + (nextR C 3).1 := wrap_i64 (by omega) (by omega)
  have hB : nBI b (t, (nextR C 3).2, (i : Int)) := ht
  obtain ⟨p1, p2⟩ := vwN_post hB
  by_cases hlt : (i : Int) < 9 + (nextR C 3).1
  · refine .inr ⟨(notX (valS nB (nBI b) id (nB (t, (nextR C 3).2, (i : Int)))).1, (nextR C 3).2, i + 1), ⟨notX_fit hb p1, aD, by show i + 1 ≤ 12; omega⟩, by show 12 - (i + 1) < 12 - i; omega, fun _ h => h, fun L k kn => ?_⟩
    refine (c_nr ge ve T L (goodS nB (nBI b)) (vwN b) 14 t C (i : Int) kn k (t1 := nextR C 3) (hve C hC) (t2 := vwN b (nB (t, (nextR C 3).2, (i : Int)))) rfl).trans ?_
    refine (cT (hge C hC)).trans ?_
    refine (cT (by rw [hw]; exact decide_eq_true hlt)).trans ?_
    refine (cT (goodS_eq (S := nB) hB)).trans ?_
    unfold vwN
    rw [p2]
    rw [show IntKind.wrap .i64 (((t, (nextR C 3).2, (i : Int)) : EXP × CODES × Int).2.2 + 1) = ((i + 1 : Nat) : Int) by
      show IntKind.wrap .i64 ((i : Int) + 1) = _
      rw [wrap_i64 (by omega) (by omega)]; rfl]
    rfl
  · refine .inl ⟨(t, (nextR C 3).2), ⟨ht, aD⟩, fun L k kn => ?_⟩
    refine (c_nr ge ve T L (goodS nB (nBI b)) (vwN b) 14 t C (i : Int) kn k (t1 := nextR C 3) (hve C hC) (t2 := vwN b (nB (t, (nextR C 3).2, (i : Int)))) rfl).trans ?_
    refine (cT (hge C hC)).trans ?_
    refine (cF (by rw [hw]; exact decide_eq_false hlt)).trans ?_
    rfl
def kB (y : KV) (x : KV × Int) : St := { env := [(0, .ref keyBase 0), (3, .ref 3 0), (4, .ref 4 0), (7, .ref 7 0), (8, .int .i64 x.2)], objs := [(3, .cells (xc y.op y.kd y.nm y.m y.gv y.n y.g)), (4, .cells ex0), (7, .cells [.int .i64 x.1.op, .str x.1.kd, .str x.1.nm, .sl .no 4 x.1.m x.1.gv, .sl (.key 110) 5 (x.1.n + 1) x.1.g]), (110, .own 5 (x.1.n + 1)), (keyBase, codO x.1.C)] }
instance : Inhabited (KV × Int) := ⟨(default, 0)⟩
theorem kB_inj {y : KV} (a b : KV × Int) (h : kB y a = kB y b) : a = b := by
  obtain ⟨⟨op, kd, nm, m, gv, n, g, C⟩, i⟩ := a
  obtain ⟨⟨op', kd', nm', m', gv', n', g', C'⟩, i'⟩ := b
  simp only [kB, St.mk.injEq, List.cons.injEq, Prod.mk.injEq, AV.int.injEq, AV.str.injEq, AV.sl.injEq, AO.cells.injEq, true_and, and_true, Nat.add_right_cancel_iff] at h
  obtain ⟨h1, ⟨h2, h3, h4, ⟨h5, h6⟩, h7, h8⟩, _, h9⟩ := h
  have := codO_inj h9
  subst h1 h2 h3 h4 h5 h6 h7 h8 this; rfl
theorem keys_xc (op : Int) (kd nm : List UInt8) (m : Nat) (gv : Nat → List AV) (n : Nat) (g : Nat → List AV) : keysL (xc op kd nm m gv n g) = [] := by simp [xc, AV.keys, keysL]
theorem tells_key {op : Int} {kd nm : List UInt8} {m : Nat} {gv : Nat → List AV} {o : Own} {n : Nat} {g g' : Nat → List AV} (hg : ∀ j, j < n → g' j = g j) : Go.Ab.Told [.int .i64 op, .str kd, .str nm, .sl .no 4 m gv, .sl o 5 n g] (xc op kd nm m gv n g') := by
  refine ⟨rfl, keys_xc _ _ _ _ _ _ _, fun i u u' hu hu' => ?_⟩
  unfold xc at *
  match i with
  | 0 => simp only [List.getElem?_cons_zero, Option.some.injEq] at hu hu'; subst hu hu'; exact ⟨rfl, fun _ x h => h⟩
  | 1 => simp only [List.getElem?_cons_succ, List.getElem?_cons_zero, Option.some.injEq] at hu hu'; subst hu hu'; exact ⟨rfl, fun _ x h => h⟩
  | 2 => simp only [List.getElem?_cons_succ, List.getElem?_cons_zero, Option.some.injEq] at hu hu'; subst hu hu'; exact ⟨rfl, fun _ x h => h⟩
  | 3 => simp only [List.getElem?_cons_succ, List.getElem?_cons_zero, Option.some.injEq] at hu hu'; subst hu hu'; exact ⟨rfl, fun _ x h => h⟩
  | 4 => simp only [List.getElem?_cons_succ, List.getElem?_cons_zero, Option.some.injEq] at hu hu'; subst hu hu'; exact ⟨rfl, fun _ x h => h.slWeak hg⟩
  | i + 5 => simp at hu
theorem viewK_ok (y : KV) : ViewOk (mkV (goodS (kB y) (fun _ => True)) (valS (kB y) (fun _ => True) id) (SK y)) :=
  viewOk_weak (kB y) (SK y) (fun _ => True) fun x _ =>
    ⟨rfl, .cons _ _ _ _ _ (.same _) (.cons _ _ _ _ _ (.same _) (.cons _ _ _ _ _ (.cells _ _ (tells_key fun _ _ => rfl)) (.cons _ _ _ _ _ (.same _) (.cons _ _ _ _ _ (.same _) .nil))))⟩
def kS (y : KV) (v : KV × Nat) : St := KL y v.1.op v.1.kd v.1.nm v.1.m v.1.gv v.1.n v.1.g v.1.C (v.2 : Int)
structure kOk (b m0 : Nat) (x : KV) : Prop where
  kd : lenS x.kd
  nm : lenS x.nm
  m : x.m ≤ m0
  gv : ∀ j, j < x.m → rowV (x.gv j)
  C : x.C.Ok
def kI (b m0 : Nat) (v : KV × Nat) : Prop := kOk b m0 v.1 ∧ v.2 ≤ 11 ∧ v.2 ≤ v.1.n ∧ v.1.n ≤ b + v.2 ∧ ∀ j, j < v.1.n → rowX b (v.1.g j)
def kZ (b m0 : Nat) (x : KV) : Prop := kOk b m0 x ∧ x.n + 1 ≤ b + 11 ∧ ∀ j, j < x.n + 1 → rowX b (x.g j)
instance : Inhabited (KV × Nat) := ⟨(default, 0)⟩
theorem test_fit {t : EXP} (h : testOk t) {b : Nat} (hb : 20 ≤ b) : Fit b t := (VE.fit h.ve h.2.2).mono hb
theorem adds_loop8 (ge : List AV → List AO → Bool) (ve : List AV → List AO → Int × CODES) (b m0 : Nat) (hb : 20 ≤ b) (hb' : b ≤ 1000000) (y : KV) {wt : CODES → EXP × CODES} (hwt : ∀ C, C.Ok → tPost (wt C)) (htt : ∀ l os, (entC 47 cA cO CODES.Ok wt φC).pre l os = true → Ct V2.P V2.G (entC 47 cA cO CODES.Ok wt φC).f l os ((entC 47 cA cO CODES.Ok wt φC).ans l os))  :
    ∃ w : KV × Nat → KV, (∀ v, kI b m0 v → kZ b m0 (w v)) ∧ ∀ L : List (List Nat × Orc), LoopOk (V4.run [mkE 19 ge ve φX, entC 47 cA cO CODES.Ok wt φC] 1 [] L [([1, 0, 1, 0, 1], fun _ _ => none), ([1, 1, 0, 1, 0, 1, 1, 1, 1, 1, 1, 1, 1, 1, 1, 1, 1, 1, 1, 1, 1, 1, 0, 1, 0, 1, 0, 0, 1, 1], mkV (goodS (kB y) (fun _ => True)) (valS (kB y) (fun _ => True) id) (SK y))] 14) 14 [1, 1, 0, 1, 0, 1, 1, 1, 1, 1, 1, 1, 1, 1, 1, 1, 1, 1, 1, 1, 1, 1, 0, 1, 0, 1, 0] (mkO (goodS (kS y) (kI b m0)) (valS (kS y) (kI b m0) w) (outK y)) := by
  refine loop_ex (Xf := fun L : List (List Nat × Orc) => V4.run [mkE 19 ge ve φX, entC 47 cA cO CODES.Ok wt φC] 1 [] L [([1, 0, 1, 0, 1], fun _ _ => none), ([1, 1, 0, 1, 0, 1, 1, 1, 1, 1, 1, 1, 1, 1, 1, 1, 1, 1, 1, 1, 1, 1, 0, 1, 0, 1, 0, 0, 1, 1], mkV (goodS (kB y) (fun _ => True)) (valS (kB y) (fun _ => True) id) (SK y))] 14) (b := subC (bodyOf V4.P 14) ([1, 1, 0, 1, 0, 1, 1, 1, 1, 1, 1, 1, 1, 1, 1, 1, 1, 1, 1, 1, 1, 1, 0, 1, 0, 1, 0] ++ [0])) (kS y) (kI b m0) (fun x => 11 - x.2) (outK y) (fun _ => kZ b m0) (fun _ => by kernel_rfl) 14 fun v hv => ?_
  obtain ⟨⟨op, kd, nm, m, gv, n, g, C⟩, i⟩ := v
  obtain ⟨⟨h1, h2, h3, h4, h5⟩, hi, hin, hn, hg⟩ := hv
  have h5 : C.Ok := h5
  have hi : i ≤ 11 := hi
  have hin : i ≤ n := hin
  have hn : n ≤ b + i := hn
  have hg : ∀ j, j < n → rowX b (g j) := hg
  have hgt : goodA cA cO CODES.Ok [.ref 1000000 0] [codO C] = true := goodA_eq (A := cA) (O := cO) (v := C) h5
  have hp : tPost (valA cA cO CODES.Ok wt [.ref 1000000 0] [codO C]) := valA_post (A := cA) (O := cO) (a := C) (Post := fun (_ : CODES) (x : EXP × CODES) => tPost x) hwt (fun _ _ _ _ _ h => h) h5
  generalize ht : valA cA cO CODES.Ok wt [.ref 1000000 0] [codO C] = t at hp
  have hft : rowX b (fillGet ex0 [(0, .agg (eC t.1))] 0) := rowX_c (test_fit hp.1 hb)
  have hvk : ∀ v : KV × Int, valS (kB y) (fun _ => True) id (kB y v) = v := fun v => valS_eq (S := kB y) (fun a b _ _ h => kB_inj a b h) trivial
  have hgk : ∀ v : KV × Int, goodS (kB y) (fun _ => True) (kB y v) = true := fun v => goodS_eq (S := kB y) trivial
  have hwi : IntKind.wrap .i64 ((i : Int) + 1) = ((i + 1 : Nat) : Int) := by rw [wrap_i64 (by omega) (by omega)]; rfl
  rcases n with _ | q
  · obtain rfl : i = 0 := by omega
    refine .inr ⟨(⟨op, kd, nm, m, gv, 1, appGet 0 1 (appGet 0 0 (fun _ => []) g) (fillGet ex0 [(0, .agg (eC t.1))]), t.2⟩, 1), ⟨⟨h1, h2, h3, h4, hp.2⟩, by show 1 ≤ 11; omega, Nat.le_refl _, by show 1 ≤ b + 1; omega, rows_app (m := 0) (fun j hj => absurd hj (by omega)) hft⟩, by show 11 - 1 < 11 - 0; omega, fun _ h => h, fun L k kn => ?_⟩
    refine (c_kr0 ge ve (goodA cA cO CODES.Ok) (valA cA cO CODES.Ok wt) [] L (goodS (kB y) (fun _ => True)) (valS (kB y) (fun _ => True) id) 14 op kd nm m gv g y C ((0 : Nat) : Int) kn k (t1 := t) ht (hvk (⟨op, kd, nm, m, gv, 0, _, t.2⟩, ((0 : Nat) : Int)))).trans ?_
    refine (cT (by decide)).trans ?_
    refine (cT hgt).trans ?_
    refine (cT (hgk (⟨op, kd, nm, m, gv, 0, _, t.2⟩, ((0 : Nat) : Int)))).trans ?_
    rfl
  · by_cases hlt : i < 11
    · refine .inr ⟨(⟨op, kd, nm, m, gv, 0 + (q + 1) + 1, appGet (0 + (q + 1)) 1 (appGet 0 (q + 1) (fun _ => []) g) (fillGet ex0 [(0, .agg (eC t.1))]), t.2⟩, i + 1), ⟨⟨h1, h2, h3, h4, hp.2⟩, by show i + 1 ≤ 11; omega, by show i + 1 ≤ 0 + (q + 1) + 1; omega, by show 0 + (q + 1) + 1 ≤ b + (i + 1); omega, rows_app (rows_cp hg) hft⟩, by show 11 - (i + 1) < 11 - i; omega, fun _ h => h, fun L k kn => ?_⟩
      refine (c_kr ge ve (goodA cA cO CODES.Ok) (valA cA cO CODES.Ok wt) [] L (goodS (kB y) (fun _ => True)) (valS (kB y) (fun _ => True) id) 14 op kd nm m gv g q y C (i : Int) kn k (t1 := t) ht (hvk (⟨op, kd, nm, m, gv, 0 + (q + 1), _, t.2⟩, (i : Int)))).trans ?_
      refine (cT (decide_eq_true (by omega))).trans ?_
      refine (cT (show roomy 88 (0 + (q + 1)) = true from Nat.ble_eq_true_of_le (by omega))).trans ?_
      refine (cT hgt).trans ?_
      refine (cT (show (roomy 88 (0 + (q + 1) + 1) && Nat.beq (0 + (q + 1)) (0 + (q + 1))) = true by
        rw [Nat.beq_refl, Bool.and_true]; exact Nat.ble_eq_true_of_le (by omega))).trans ?_
      refine (cT (hgk (⟨op, kd, nm, m, gv, 0 + (q + 1), _, t.2⟩, (i : Int)))).trans ?_
      show kn (KL y op kd nm m gv _ _ t.2 (IntKind.wrap .i64 ((i : Int) + 1))) = _
      rw [hwi]; rfl
    · refine .inl ⟨⟨op, kd, nm, m, gv, q, g, C⟩, ⟨⟨h1, h2, h3, h4, h5⟩, by show q + 1 ≤ b + 11; omega, hg⟩, fun L k kn => ?_⟩
      refine (c_kr ge ve (goodA cA cO CODES.Ok) (valA cA cO CODES.Ok wt) [] L (goodS (kB y) (fun _ => True)) (valS (kB y) (fun _ => True) id) 14 op kd nm m gv g q y C (i : Int) kn k (t1 := t) ht (hvk (⟨op, kd, nm, m, gv, 0 + (q + 1), _, t.2⟩, (i : Int)))).trans ?_
      exact (cF (decide_eq_false (by omega))).trans rfl
theorem viewA_ok {op : Int} {kd nm : List UInt8} {m : Nat} {gv : Nat → List AV} {q : Nat} {l : List EXP} {C : CODES} (hl : l.length = q + 1) : ViewOk (mkV (goodS (fun _ : Unit => ({ env := [(0, .ref keyBase 0), (3, .ref 3 0), (4, .ref 4 0)], objs := [(3, .cells (gcell op kd nm m gv (0 + (q + 1)))), (4, .cells ex0), (20, .grw 5 (0 + (q + 1)) (appGet 0 (q + 1) (fun _ => []) (EXP.row l))), (keyBase, codO C)] } : St)) (fun _ => True)) (fun _ => (⟨op, kd, nm, m, gv, l, C⟩ : K1)) (CS1 (q + 1))) := by
  have h0 : 0 + (q + 1) = q + 1 := by omega
  have := viewOk_weak (α := Unit) (fun _ => ({ env := [(0, .ref keyBase 0), (3, .ref 3 0), (4, .ref 4 0)], objs := [(3, .cells (gcell op kd nm m gv (0 + (q + 1)))), (4, .cells ex0), (20, .grw 5 (0 + (q + 1)) (appGet 0 (q + 1) (fun _ => []) (EXP.row l))), (keyBase, codO C)] } : St)) (fun _ => CS1 (q + 1) (⟨op, kd, nm, m, gv, l, C⟩ : K1)) (fun _ => True) fun _ _ => by
    refine ⟨rfl, .cons _ _ _ _ _ (by rw [h0]; exact .same _) (.cons _ _ _ _ _ (.same _) (.cons _ _ _ _ _ ?_ (.cons _ _ _ _ _ (.same _) .nil)))⟩
    rw [h0]
    exact .grw _ _ _ _ fun j hj => by
      rw [appGet_ge (Nat.zero_le _) (by omega), Nat.sub_zero, row_eC (by omega)]; rfl
  exact this
def bB (x : KV) : St := { env := [(3, .ref 3 0), (4, .ref 4 0)], objs := [(3, .cells (gcell x.op x.kd x.nm x.m x.gv x.n)), (4, .cells ex0), (20, .grw 5 x.n x.g), (keyBase, codO x.C)] }
theorem bB_inj (a b : KV) (h : bB a = bB b) : a = b := by
  obtain ⟨op, kd, nm, m, gv, n, g, C⟩ := a
  obtain ⟨op', kd', nm', m', gv', n', g', C'⟩ := b
  simp only [bB, gcell, St.mk.injEq, List.cons.injEq, Prod.mk.injEq, AV.int.injEq, AV.str.injEq, AV.sl.injEq, AV.gsl.injEq, AO.cells.injEq, AO.grw.injEq, true_and, and_true] at h
  obtain ⟨⟨h2, h3, h4, ⟨h5, h6⟩, h7⟩, ⟨_, h8⟩, h9⟩ := h
  have := codO_inj h9
  subst h2 h3 h4 h5 h6 h7 h8 this; rfl
theorem viewB_ok : ViewOk (mkV (goodS bB (fun _ => True)) (valS bB (fun _ => True) id) CS2) := by
  refine viewOk_step bB CS2 (fun _ => True) fun v _ B c a hr hn => ?_
  have hf : fzCell (bB v) 3 4 = some (CS2 v) := by
    have h1 : Nat.beq 3 20 = false := rfl
    have h2 : Nat.beq 4 20 = false := rfl
    simp [fzCell, bB, CS2, gcell, xc, St.obj, alook, freezeA, Nat.beq_refl, guardO, aput, St.put, h1, h2]
  exact fzCell_sound hr hn hf
end Go.SH

namespace Go.SH
open Go Go.Ab Go.Proofs
set_option linter.unusedVariables false
set_option linter.unusedSimpArgs false
set_option linter.unusedSectionVars false
theorem Fit.kd {b : Nat} {e : EXP} (h : Fit b e) : lenS e.kind := by cases h; assumption
theorem Fit.nm {b : Nat} {e : EXP} (h : Fit b e) : lenS e.name := by cases h; assumption
theorem Fit.vl {b : Nat} {e : EXP} (h : Fit b e) : e.vals.length ≤ b := by cases h; assumption
theorem Fit.kl {b : Nat} {e : EXP} (h : Fit b e) : e.kids.length ≤ b := by cases h; assumption
theorem lenS_40 {s : List UInt8} (h : s.length ≤ 40) : lenS s := by unfold lenS maxS; omega
theorem viewZ_ok : ViewOk (fun _ _ => none) := fun _ _ _ h => by cases h
theorem viewsZ {W : List (List Nat × Vw)} (h : ∀ q ∈ W, ViewOk q.2) {p : List Nat} : ∀ q ∈ (p, fun _ _ => none) :: W, ViewOk q.2 := fun q hq => by
  rcases List.mem_cons.1 hq with rfl | hq
  · exact viewZ_ok
  · exact h q hq
theorem views1 {p : List Nat} {g : Vw} (h : ViewOk g) : ∀ q ∈ [(p, g)], ViewOk q.2 := fun q hq => by
  rw [List.mem_singleton] at hq; subst hq; exact h
theorem rowV_made (k n : Int) : rowV [.int .i64 k, .int .i64 n, .str [], .sl .fit 0 0 fun _ => [] ] := ⟨⟨k, n, [], []⟩, ⟨by show 0 ≤ _; omega, by show 0 ≤ _; omega, by intro s hs; cases hs⟩, fun i u u' hu hu' => by
  unfold VAL.c at hu'
  match i with
  | 0 => simp only [List.getElem?_cons_zero, Option.some.injEq] at hu hu'; subst hu hu'; exact ⟨rfl, fun _ x h => h⟩
  | 1 => simp only [List.getElem?_cons_succ, List.getElem?_cons_zero, Option.some.injEq] at hu hu'; subst hu hu'; exact ⟨rfl, fun _ x h => h⟩
  | 2 => simp only [List.getElem?_cons_succ, List.getElem?_cons_zero, Option.some.injEq] at hu hu'; subst hu hu'; exact ⟨rfl, fun _ x h => h⟩
  | 3 => simp only [List.getElem?_cons_succ, List.getElem?_cons_zero, Option.some.injEq] at hu hu'; subst hu hu'; exact ⟨rfl, fun _ => sl_fit⟩
  | i + 4 => simp at hu⟩
theorem rows1 {P : List AV → Prop} {get : Nat → List AV} (h : P (get 0)) : ∀ j, j < 1 → P (get j) := fun j hj => by
  obtain rfl : j = 0 := by omega
  exact h
theorem rows2 {P : List AV → Prop} {get : Nat → List AV} (h : P (get 0)) (h' : P (get 1)) : ∀ j, j < 2 → P (get j) := fun j hj => by
  match j, hj with
  | 0, _ => exact h
  | 1, _ => exact h'
section
variable {b : Nat} (hb : 20 ≤ b) (hb' : b ≤ 1000) {e : EXP} (he : Fit b e) {C D0 D : CODES} (hC : C.Ok) (hD0 : D0.Ok) (hD : D.Ok) (hs : (e.kids.length = 0 ∧ D0 = C) ∨ (∃ q, e.kids.length = q + 1 ∧ nextR C 3 = (0, D0)))
include hb hb' he hC hD0 hD hs
theorem cnd_0 (h10 : nextR D0 10 = (0, D)) : ∃ x, ccPost b x ∧ Ct V2.P V2.G 14 (kA (e, C)) (kO (e, C)) (φC x) := by
  have hT := entB_ok (m := 10) (by omega) hD0 h10
  have hkl := he.kl
  have hvl := he.vl
  obtain ⟨s0, s1, sD⟩ := nextR_ok hD (m := 18) (by omega)
  have hg10 : gB 10 D0 [.ref 1000000 0, .int .i64 10] [codO D0] = true := gB_eq hD0 (by omega) (fun _ => rfl)
  rcases hs with ⟨hq, rfl⟩ | ⟨q, hq, h3⟩
  · have hx : ∀ j, j < 0 → rowX (b + 11) (EXP.row e.kids j) := fun j hj => (rowsX he j (by omega)).mono (by omega)
    have hc := fun r he' => ct_of_run (V := V4) (f := 14) (l := kA (e, D0)) (os := kO (e, D0)) (r := r) (n := 9) (d := 1) (C := []) (T := [entB 10 D0 (0, D)]) (L := []) (W := [([1, 0, 1, 0, 1], fun _ _ => none)]) mixed4 funcs4 (tabOk_cons hT (tabOk_nil)) (fun _ h => (List.not_mem_nil h).elim) (loopsOk_nil) (viewsZ (fun q hq => by cases hq)) he'
    have ha : kA (e, D0) = [.ref keyBase 0, .agg (xc e.op e.kind e.name e.vals.length (gVl e.vals) 0 (EXP.row e.kids))] := by show [_, AV.agg (eC e)] = _; rw [eC_xc hq]
    have e1 := c_0_0 (gB 10 D0) vN e.op e.kind e.name e.vals.length (gVl e.vals) (EXP.row e.kids) D0 D (vN_eq hD (by omega))
    have e1 := e1.trans (cT hg10)
    have e1 := e1.trans (cT (gB_eq hD (by omega) (fun h => by omega)))
    rw [argN_ne (m := 10) (n := 18) (by omega)] at e1
    simp only [cond_false] at e1
    exact c_finX he.kd he.nm (by omega) (rowsV he) (by omega) hx sD (hc _ (by rw [ha]; exact e1))
  · have hx : ∀ j, j < (q + 1) → rowX (b + 11) (EXP.row e.kids j) := fun j hj => (rowsX he j (by omega)).mono (by omega)
    have hc := fun r he' => ct_of_run (V := V4) (f := 14) (l := kA (e, C)) (os := kO (e, C)) (r := r) (n := 9) (d := 1) (C := []) (T := [entB 10 D0 (0, D)]) (L := []) (W := [([1, 0, 1, 0, 1], fun _ _ => none)]) mixed4 funcs4 (tabOk_cons hT (tabOk_nil)) (fun _ h => (List.not_mem_nil h).elim) (loopsOk_nil) (viewsZ (fun q hq => by cases hq)) he'
    have ha : kA (e, C) = [.ref keyBase 0, .agg (xc e.op e.kind e.name e.vals.length (gVl e.vals) (q + 1) (EXP.row e.kids))] := by show [_, AV.agg (eC e)] = _; rw [eC_xc hq]
    have e1 := c_0_1 (gB 10 D0) vN e.op e.kind e.name e.vals.length (gVl e.vals) q (EXP.row e.kids) C D ((vN_eq hC (by omega)).trans h3) (vN_eq hD (by omega))
    have e1 := ((e1.trans (cT (decide_eq_true (by omega)))).trans (cT (gB_eq hC (by omega) (fun h => by omega)))).trans (cF rfl)
    have e1 := e1.trans (cT hg10)
    have e1 := e1.trans (cT (gB_eq hD (by omega) (fun h => by omega)))
    rw [argN_ne (m := 10) (n := 18) (by omega)] at e1
    simp only [cond_false] at e1
    exact c_finX he.kd he.nm (by omega) (rowsV he) (by omega) hx sD (hc _ (by rw [ha]; exact e1))
theorem cnd_1 (h10 : nextR D0 10 = (1, D)) : ∃ x, ccPost b x ∧ Ct V2.P V2.G 14 (kA (e, C)) (kO (e, C)) (φC x) := by
  have hT := entB_ok (m := 10) (by omega) hD0 h10
  have hkl := he.kl
  have hvl := he.vl
  obtain ⟨wn, hwn, htn⟩ := ent_ex (V := V2) (f := 50) (A := cA) (O := cO) (Pre := CODES.Ok) (φ := φT) (Post := fun (_ : CODES) (x : List UInt8 × CODES) => x.1.length ≤ 40 ∧ x.2.Ok) name_ex
  have hgn : goodA cA cO CODES.Ok [.ref 1000000 0] [codO D] = true := goodA_eq (A := cA) (O := cO) (v := D) hD
  have hpn : (valA cA cO CODES.Ok wn [.ref 1000000 0] [codO D]).1.length ≤ 40 ∧ (valA cA cO CODES.Ok wn [.ref 1000000 0] [codO D]).2.Ok := valA_post (A := cA) (O := cO) (a := D) (Post := fun (_ : CODES) (x : List UInt8 × CODES) => x.1.length ≤ 40 ∧ x.2.Ok) hwn (fun _ _ _ _ _ h => h) hD
  have hg10 : gB 10 D0 [.ref 1000000 0, .int .i64 10] [codO D0] = true := gB_eq hD0 (by omega) (fun _ => rfl)
  rcases hs with ⟨hq, rfl⟩ | ⟨q, hq, h3⟩
  · have hx : ∀ j, j < 0 → rowX (b + 11) (EXP.row e.kids j) := fun j hj => (rowsX he j (by omega)).mono (by omega)
    have hc := fun r he' => ct_of_run (V := V4) (f := 14) (l := kA (e, D0)) (os := kO (e, D0)) (r := r) (n := 9) (d := 1) (C := []) (T := [entB 10 D0 (1, D), entC 50 cA cO CODES.Ok wn φT]) (L := []) (W := [([1, 0, 1, 0, 1], fun _ _ => none)]) mixed4 funcs4 (tabOk_cons hT (tabOk_cons htn tabOk_nil)) (fun _ h => (List.not_mem_nil h).elim) (loopsOk_nil) (viewsZ (fun q hq => by cases hq)) he'
    have ha : kA (e, D0) = [.ref keyBase 0, .agg (xc e.op e.kind e.name e.vals.length (gVl e.vals) 0 (EXP.row e.kids))] := by show [_, AV.agg (eC e)] = _; rw [eC_xc hq]
    have e1 := c_1_0 (gB 10 D0) vN (goodA cA cO CODES.Ok) (valA cA cO CODES.Ok wn) e.op e.kind e.name e.vals.length (gVl e.vals) (EXP.row e.kids) D0 D rfl
    have e1 := e1.trans (cT hg10)
    have e1 := e1.trans (cT hgn)
    exact c_finX (lenS_40 hpn.1) he.nm (by omega) (rowsV he) (by omega) hx hpn.2 (hc _ (by rw [ha]; exact e1))
  · have hx : ∀ j, j < (q + 1) → rowX (b + 11) (EXP.row e.kids j) := fun j hj => (rowsX he j (by omega)).mono (by omega)
    have hc := fun r he' => ct_of_run (V := V4) (f := 14) (l := kA (e, C)) (os := kO (e, C)) (r := r) (n := 9) (d := 1) (C := []) (T := [entB 10 D0 (1, D), entC 50 cA cO CODES.Ok wn φT]) (L := []) (W := [([1, 0, 1, 0, 1], fun _ _ => none)]) mixed4 funcs4 (tabOk_cons hT (tabOk_cons htn tabOk_nil)) (fun _ h => (List.not_mem_nil h).elim) (loopsOk_nil) (viewsZ (fun q hq => by cases hq)) he'
    have ha : kA (e, C) = [.ref keyBase 0, .agg (xc e.op e.kind e.name e.vals.length (gVl e.vals) (q + 1) (EXP.row e.kids))] := by show [_, AV.agg (eC e)] = _; rw [eC_xc hq]
    have e1 := c_1_1 (gB 10 D0) vN (goodA cA cO CODES.Ok) (valA cA cO CODES.Ok wn) e.op e.kind e.name e.vals.length (gVl e.vals) q (EXP.row e.kids) C D ((vN_eq hC (by omega)).trans h3) rfl
    have e1 := ((e1.trans (cT (decide_eq_true (by omega)))).trans (cT (gB_eq hC (by omega) (fun h => by omega)))).trans (cF rfl)
    have e1 := e1.trans (cT hg10)
    have e1 := e1.trans (cT hgn)
    exact c_finX (lenS_40 hpn.1) he.nm (by omega) (rowsV he) (by omega) hx hpn.2 (hc _ (by rw [ha]; exact e1))
theorem cnd_2 (h10 : nextR D0 10 = (2, D)) : ∃ x, ccPost b x ∧ Ct V2.P V2.G 14 (kA (e, C)) (kO (e, C)) (φC x) := by
  have hT := entB_ok (m := 10) (by omega) hD0 h10
  have hkl := he.kl
  have hvl := he.vl
  obtain ⟨wn, hwn, htn⟩ := ent_ex (V := V2) (f := 50) (A := cA) (O := cO) (Pre := CODES.Ok) (φ := φT) (Post := fun (_ : CODES) (x : List UInt8 × CODES) => x.1.length ≤ 40 ∧ x.2.Ok) name_ex
  have hgn : goodA cA cO CODES.Ok [.ref 1000000 0] [codO D] = true := goodA_eq (A := cA) (O := cO) (v := D) hD
  have hpn : (valA cA cO CODES.Ok wn [.ref 1000000 0] [codO D]).1.length ≤ 40 ∧ (valA cA cO CODES.Ok wn [.ref 1000000 0] [codO D]).2.Ok := valA_post (A := cA) (O := cO) (a := D) (Post := fun (_ : CODES) (x : List UInt8 × CODES) => x.1.length ≤ 40 ∧ x.2.Ok) hwn (fun _ _ _ _ _ h => h) hD
  have hg10 : gB 10 D0 [.ref 1000000 0, .int .i64 10] [codO D0] = true := gB_eq hD0 (by omega) (fun _ => rfl)
  rcases hs with ⟨hq, rfl⟩ | ⟨q, hq, h3⟩
  · have hx : ∀ j, j < 0 → rowX (b + 11) (EXP.row e.kids j) := fun j hj => (rowsX he j (by omega)).mono (by omega)
    have hc := fun r he' => ct_of_run (V := V4) (f := 14) (l := kA (e, D0)) (os := kO (e, D0)) (r := r) (n := 9) (d := 1) (C := []) (T := [entB 10 D0 (2, D), entC 50 cA cO CODES.Ok wn φT]) (L := []) (W := [([1, 0, 1, 0, 1], fun _ _ => none)]) mixed4 funcs4 (tabOk_cons hT (tabOk_cons htn tabOk_nil)) (fun _ h => (List.not_mem_nil h).elim) (loopsOk_nil) (viewsZ (fun q hq => by cases hq)) he'
    have ha : kA (e, D0) = [.ref keyBase 0, .agg (xc e.op e.kind e.name e.vals.length (gVl e.vals) 0 (EXP.row e.kids))] := by show [_, AV.agg (eC e)] = _; rw [eC_xc hq]
    have e1 := c_2_0 (gB 10 D0) vN (goodA cA cO CODES.Ok) (valA cA cO CODES.Ok wn) e.op e.kind e.name e.vals.length (gVl e.vals) (EXP.row e.kids) D0 D rfl
    have e1 := e1.trans (cT hg10)
    have e1 := e1.trans (cT hgn)
    exact c_finX he.kd (lenS_40 hpn.1) (by omega) (rowsV he) (by omega) hx hpn.2 (hc _ (by rw [ha]; exact e1))
  · have hx : ∀ j, j < (q + 1) → rowX (b + 11) (EXP.row e.kids j) := fun j hj => (rowsX he j (by omega)).mono (by omega)
    have hc := fun r he' => ct_of_run (V := V4) (f := 14) (l := kA (e, C)) (os := kO (e, C)) (r := r) (n := 9) (d := 1) (C := []) (T := [entB 10 D0 (2, D), entC 50 cA cO CODES.Ok wn φT]) (L := []) (W := [([1, 0, 1, 0, 1], fun _ _ => none)]) mixed4 funcs4 (tabOk_cons hT (tabOk_cons htn tabOk_nil)) (fun _ h => (List.not_mem_nil h).elim) (loopsOk_nil) (viewsZ (fun q hq => by cases hq)) he'
    have ha : kA (e, C) = [.ref keyBase 0, .agg (xc e.op e.kind e.name e.vals.length (gVl e.vals) (q + 1) (EXP.row e.kids))] := by show [_, AV.agg (eC e)] = _; rw [eC_xc hq]
    have e1 := c_2_1 (gB 10 D0) vN (goodA cA cO CODES.Ok) (valA cA cO CODES.Ok wn) e.op e.kind e.name e.vals.length (gVl e.vals) q (EXP.row e.kids) C D ((vN_eq hC (by omega)).trans h3) rfl
    have e1 := ((e1.trans (cT (decide_eq_true (by omega)))).trans (cT (gB_eq hC (by omega) (fun h => by omega)))).trans (cF rfl)
    have e1 := e1.trans (cT hg10)
    have e1 := e1.trans (cT hgn)
    exact c_finX he.kd (lenS_40 hpn.1) (by omega) (rowsV he) (by omega) hx hpn.2 (hc _ (by rw [ha]; exact e1))
theorem cnd_3 (h10 : nextR D0 10 = (3, D)) : ∃ x, ccPost b x ∧ Ct V2.P V2.G 14 (kA (e, C)) (kO (e, C)) (φC x) := by
  have hT := entB_ok (m := 10) (by omega) hD0 h10
  have hkl := he.kl
  have hvl := he.vl
  obtain ⟨wa, hwa, hta⟩ := ent_ex (V := V2) (f := 29) (A := cA) (O := cO) (Pre := CODES.Ok) (φ := φV) (Post := fun (_ : CODES) (x : VAL × CODES) => x.1.Ok ∧ x.2.Ok) any_ex
  have hga : goodA cA cO CODES.Ok [.ref 1000000 0] [codO D] = true := goodA_eq (A := cA) (O := cO) (v := D) hD
  have hpa : (valA cA cO CODES.Ok wa [.ref 1000000 0] [codO D]).1.Ok ∧ (valA cA cO CODES.Ok wa [.ref 1000000 0] [codO D]).2.Ok := valA_post (A := cA) (O := cO) (a := D) (Post := fun (_ : CODES) (x : VAL × CODES) => x.1.Ok ∧ x.2.Ok) hwa (fun _ _ _ _ _ h => h) hD
  have hg10 : gB 10 D0 [.ref 1000000 0, .int .i64 10] [codO D0] = true := gB_eq hD0 (by omega) (fun _ => rfl)
  rcases hs with ⟨hq, rfl⟩ | ⟨q, hq, h3⟩
  · have hx : ∀ j, j < 0 → rowX (b + 11) (EXP.row e.kids j) := fun j hj => (rowsX he j (by omega)).mono (by omega)
    have hc := fun r he' => ct_of_run (V := V4) (f := 14) (l := kA (e, D0)) (os := kO (e, D0)) (r := r) (n := 9) (d := 1) (C := []) (T := [entB 10 D0 (3, D), entC 29 cA cO CODES.Ok wa φV]) (L := []) (W := [([1, 0, 1, 0, 1], fun _ _ => none)]) mixed4 funcs4 (tabOk_cons hT (tabOk_cons hta tabOk_nil)) (fun _ h => (List.not_mem_nil h).elim) (loopsOk_nil) (viewsZ (fun q hq => by cases hq)) he'
    rcases hm : e.vals.length with _ | p
    · have ha : kA (e, D0) = [.ref keyBase 0, .agg (xc e.op e.kind e.name 0 (gVl e.vals) 0 (EXP.row e.kids))] := by show [_, AV.agg (eC e)] = _; rw [eC_xc hq, hm]
      have e1 := c_3_00 (gB 10 D0) vN (goodA cA cO CODES.Ok) (valA cA cO CODES.Ok wa) e.op e.kind e.name (gVl e.vals) (EXP.row e.kids) D0 D rfl
      have e1 := e1.trans (cT hg10)
      have e1 := e1.trans (cT hga)
      have hv := rowsV he
      rw [hm] at hv
      exact c_finX he.kd he.nm (by omega) (rows_app (m := 0) (fun j hj => absurd hj (by omega)) (rowV_c hpa.1)) (by omega) hx hpa.2 (hc _ (by rw [ha]; exact e1))
    · have ha : kA (e, D0) = [.ref keyBase 0, .agg (xc e.op e.kind e.name (p + 1) (gVl e.vals) 0 (EXP.row e.kids))] := by show [_, AV.agg (eC e)] = _; rw [eC_xc hq, hm]
      have e1 := c_3_01 (gB 10 D0) vN (goodA cA cO CODES.Ok) (valA cA cO CODES.Ok wa) e.op e.kind e.name p (gVl e.vals) (EXP.row e.kids) D0 D rfl
      have e1 := e1.trans (cT hg10)
      have e1 := e1.trans (cT (show roomy 56 (0 + (p + 1)) = true from Nat.ble_eq_true_of_le (by omega)))
      have e1 := e1.trans (cT hga)
      have e1 := e1.trans (cT (show (roomy 56 (0 + (p + 1) + 1) && Nat.beq (0 + (p + 1)) (0 + (p + 1))) = true by rw [Nat.beq_refl, Bool.and_true]; exact Nat.ble_eq_true_of_le (by omega)))
      have hv := rowsV he
      rw [hm] at hv
      exact c_finX he.kd he.nm (by omega) (rows_app (rows_cp hv) (rowV_c hpa.1)) (by omega) hx hpa.2 (hc _ (by rw [ha]; exact e1))
  · have hx : ∀ j, j < (q + 1) → rowX (b + 11) (EXP.row e.kids j) := fun j hj => (rowsX he j (by omega)).mono (by omega)
    have hc := fun r he' => ct_of_run (V := V4) (f := 14) (l := kA (e, C)) (os := kO (e, C)) (r := r) (n := 9) (d := 1) (C := []) (T := [entB 10 D0 (3, D), entC 29 cA cO CODES.Ok wa φV]) (L := []) (W := [([1, 0, 1, 0, 1], fun _ _ => none)]) mixed4 funcs4 (tabOk_cons hT (tabOk_cons hta tabOk_nil)) (fun _ h => (List.not_mem_nil h).elim) (loopsOk_nil) (viewsZ (fun q hq => by cases hq)) he'
    rcases hm : e.vals.length with _ | p
    · have ha : kA (e, C) = [.ref keyBase 0, .agg (xc e.op e.kind e.name 0 (gVl e.vals) (q + 1) (EXP.row e.kids))] := by show [_, AV.agg (eC e)] = _; rw [eC_xc hq, hm]
      have e1 := c_3_10 (gB 10 D0) vN (goodA cA cO CODES.Ok) (valA cA cO CODES.Ok wa) e.op e.kind e.name (gVl e.vals) q (EXP.row e.kids) C D ((vN_eq hC (by omega)).trans h3) rfl
      have e1 := ((e1.trans (cT (decide_eq_true (by omega)))).trans (cT (gB_eq hC (by omega) (fun h => by omega)))).trans (cF rfl)
      have e1 := e1.trans (cT hg10)
      have e1 := e1.trans (cT hga)
      have hv := rowsV he
      rw [hm] at hv
      exact c_finX he.kd he.nm (by omega) (rows_app (m := 0) (fun j hj => absurd hj (by omega)) (rowV_c hpa.1)) (by omega) hx hpa.2 (hc _ (by rw [ha]; exact e1))
    · have ha : kA (e, C) = [.ref keyBase 0, .agg (xc e.op e.kind e.name (p + 1) (gVl e.vals) (q + 1) (EXP.row e.kids))] := by show [_, AV.agg (eC e)] = _; rw [eC_xc hq, hm]
      have e1 := c_3_11 (gB 10 D0) vN (goodA cA cO CODES.Ok) (valA cA cO CODES.Ok wa) e.op e.kind e.name p (gVl e.vals) q (EXP.row e.kids) C D ((vN_eq hC (by omega)).trans h3) rfl
      have e1 := ((e1.trans (cT (decide_eq_true (by omega)))).trans (cT (gB_eq hC (by omega) (fun h => by omega)))).trans (cF rfl)
      have e1 := e1.trans (cT hg10)
      have e1 := e1.trans (cT (show roomy 56 (0 + (p + 1)) = true from Nat.ble_eq_true_of_le (by omega)))
      have e1 := e1.trans (cT hga)
      have e1 := e1.trans (cT (show (roomy 56 (0 + (p + 1) + 1) && Nat.beq (0 + (p + 1)) (0 + (p + 1))) = true by rw [Nat.beq_refl, Bool.and_true]; exact Nat.ble_eq_true_of_le (by omega)))
      have hv := rowsV he
      rw [hm] at hv
      exact c_finX he.kd he.nm (by omega) (rows_app (rows_cp hv) (rowV_c hpa.1)) (by omega) hx hpa.2 (hc _ (by rw [ha]; exact e1))
theorem cnd_4 (h10 : nextR D0 10 = (4, D)) : ∃ x, ccPost b x ∧ Ct V2.P V2.G 14 (kA (e, C)) (kO (e, C)) (φC x) := by
  have hT := entB_ok (m := 10) (by omega) hD0 h10
  have hkl := he.kl
  have hvl := he.vl
  have hg10 : gB 10 D0 [.ref 1000000 0, .int .i64 10] [codO D0] = true := gB_eq hD0 (by omega) (fun _ => rfl)
  rcases hs with ⟨hq, rfl⟩ | ⟨q, hq, h3⟩
  · have hx : ∀ j, j < 0 → rowX (b + 11) (EXP.row e.kids j) := fun j hj => (rowsX he j (by omega)).mono (by omega)
    have hc := fun r he' => ct_of_run (V := V4) (f := 14) (l := kA (e, D0)) (os := kO (e, D0)) (r := r) (n := 9) (d := 1) (C := []) (T := [entB 10 D0 (4, D)]) (L := []) (W := [([1, 0, 1, 0, 1], fun _ _ => none)]) mixed4 funcs4 (tabOk_cons hT (tabOk_nil)) (fun _ h => (List.not_mem_nil h).elim) (loopsOk_nil) (viewsZ (fun q hq => by cases hq)) he'
    have ha : kA (e, D0) = [.ref keyBase 0, .agg (xc e.op e.kind e.name e.vals.length (gVl e.vals) 0 (EXP.row e.kids))] := by show [_, AV.agg (eC e)] = _; rw [eC_xc hq]
    have e1 := c_4_0 (gB 10 D0) vN e.op e.kind e.name e.vals.length (gVl e.vals) (EXP.row e.kids) D0 D 
    have e1 := e1.trans (cT hg10)
    obtain ⟨ks, k1, k2, k3⟩ := slX (o := .no) hx
    exact c_fin (l := []) he.kd he.nm (Nat.zero_le _) (by intro v hv; cases hv) (by omega) k2 slV0 k3 hD (hc _ (by rw [ha]; exact e1))
  · have hx : ∀ j, j < (q + 1) → rowX (b + 11) (EXP.row e.kids j) := fun j hj => (rowsX he j (by omega)).mono (by omega)
    have hc := fun r he' => ct_of_run (V := V4) (f := 14) (l := kA (e, C)) (os := kO (e, C)) (r := r) (n := 9) (d := 1) (C := []) (T := [entB 10 D0 (4, D)]) (L := []) (W := [([1, 0, 1, 0, 1], fun _ _ => none)]) mixed4 funcs4 (tabOk_cons hT (tabOk_nil)) (fun _ h => (List.not_mem_nil h).elim) (loopsOk_nil) (viewsZ (fun q hq => by cases hq)) he'
    have ha : kA (e, C) = [.ref keyBase 0, .agg (xc e.op e.kind e.name e.vals.length (gVl e.vals) (q + 1) (EXP.row e.kids))] := by show [_, AV.agg (eC e)] = _; rw [eC_xc hq]
    have e1 := c_4_1 (gB 10 D0) vN e.op e.kind e.name e.vals.length (gVl e.vals) q (EXP.row e.kids) C D ((vN_eq hC (by omega)).trans h3)
    have e1 := ((e1.trans (cT (decide_eq_true (by omega)))).trans (cT (gB_eq hC (by omega) (fun h => by omega)))).trans (cF rfl)
    have e1 := e1.trans (cT hg10)
    obtain ⟨ks, k1, k2, k3⟩ := slX (o := .no) hx
    exact c_fin (l := []) he.kd he.nm (Nat.zero_le _) (by intro v hv; cases hv) (by omega) k2 slV0 k3 hD (hc _ (by rw [ha]; exact e1))
theorem cnd_5 (h10 : nextR D0 10 = (5, D)) : ∃ x, ccPost b x ∧ Ct V2.P V2.G 14 (kA (e, C)) (kO (e, C)) (φC x) := by
  have hT := entB_ok (m := 10) (by omega) hD0 h10
  have hkl := he.kl
  have hvl := he.vl
  obtain ⟨s0, s1, sD⟩ := nextR_ok hD (m := 7) (by omega)
  obtain ⟨wu, hwu, htu⟩ := ent_ex (V := V2) (f := 51) (A := cA) (O := cO) (Pre := CODES.Ok) (φ := φX) (Post := fun (_ : CODES) (x : Int × CODES) => x.2.Ok) number_cA
  have hgu : goodA cA cO CODES.Ok [.ref 1000000 0] [codO (nextR D 7).2] = true := goodA_eq (A := cA) (O := cO) (v := (nextR D 7).2) sD
  have hpu : (valA cA cO CODES.Ok wu [.ref 1000000 0] [codO (nextR D 7).2]).2.Ok := valA_post (A := cA) (O := cO) (a := (nextR D 7).2) (Post := fun (_ : CODES) (x : Int × CODES) => x.2.Ok) hwu (fun _ _ _ _ _ h => h) sD
  have hg10 : gB 10 D0 [.ref 1000000 0, .int .i64 10] [codO D0] = true := gB_eq hD0 (by omega) (fun _ => rfl)
  rcases hs with ⟨hq, rfl⟩ | ⟨q, hq, h3⟩
  · have hx : ∀ j, j < 0 → rowX (b + 11) (EXP.row e.kids j) := fun j hj => (rowsX he j (by omega)).mono (by omega)
    have hc := fun r he' => ct_of_run (V := V4) (f := 14) (l := kA (e, D0)) (os := kO (e, D0)) (r := r) (n := 9) (d := 1) (C := []) (T := [entB 10 D0 (5, D), entC 51 cA cO CODES.Ok wu φX]) (L := []) (W := [([1, 0, 1, 0, 1], fun _ _ => none)]) mixed4 funcs4 (tabOk_cons hT (tabOk_cons htu tabOk_nil)) (fun _ h => (List.not_mem_nil h).elim) (loopsOk_nil) (viewsZ (fun q hq => by cases hq)) he'
    have ha : kA (e, D0) = [.ref keyBase 0, .agg (xc e.op e.kind e.name e.vals.length (gVl e.vals) 0 (EXP.row e.kids))] := by show [_, AV.agg (eC e)] = _; rw [eC_xc hq]
    have e1 := c_5_0 (gB 10 D0) vN (goodA cA cO CODES.Ok) (valA cA cO CODES.Ok wu) e.op e.kind e.name e.vals.length (gVl e.vals) (EXP.row e.kids) D0 D (vN_eq hD (by omega)) rfl
    have e1 := e1.trans (cT hg10)
    rw [argN_ne (m := 10) (n := 7) (by omega)] at e1
    simp only [cond_false] at e1
    have e1 := (e1.trans (cT (gB_eq hD (by omega) (fun h => by omega)))).trans (cT hgu)
    obtain ⟨ks, k1, k2, k3⟩ := slX (o := .no) hx
    obtain ⟨l, l1, l2, l3⟩ := slV (o := .fit) (rows1 (get := fillGet [.int .i64 0, .int .i64 0, .str [], .sl .fit 0 0 fun _ => [] ] [(0, .agg [.int .i64 (nextR D 7).1, .int .i64 (valA cA cO CODES.Ok wu [.ref 1000000 0] [codO (nextR D 7).2]).1, .str [], .sl .fit 0 0 fun _ => [] ])]) (rowV_made _ _))
    exact c_fin he.kd he.nm (by omega) l2 (by omega) k2 l3 k3 hpu (hc _ (by rw [ha]; exact e1))
  · have hx : ∀ j, j < (q + 1) → rowX (b + 11) (EXP.row e.kids j) := fun j hj => (rowsX he j (by omega)).mono (by omega)
    have hc := fun r he' => ct_of_run (V := V4) (f := 14) (l := kA (e, C)) (os := kO (e, C)) (r := r) (n := 9) (d := 1) (C := []) (T := [entB 10 D0 (5, D), entC 51 cA cO CODES.Ok wu φX]) (L := []) (W := [([1, 0, 1, 0, 1], fun _ _ => none)]) mixed4 funcs4 (tabOk_cons hT (tabOk_cons htu tabOk_nil)) (fun _ h => (List.not_mem_nil h).elim) (loopsOk_nil) (viewsZ (fun q hq => by cases hq)) he'
    have ha : kA (e, C) = [.ref keyBase 0, .agg (xc e.op e.kind e.name e.vals.length (gVl e.vals) (q + 1) (EXP.row e.kids))] := by show [_, AV.agg (eC e)] = _; rw [eC_xc hq]
    have e1 := c_5_1 (gB 10 D0) vN (goodA cA cO CODES.Ok) (valA cA cO CODES.Ok wu) e.op e.kind e.name e.vals.length (gVl e.vals) q (EXP.row e.kids) C D ((vN_eq hC (by omega)).trans h3) (vN_eq hD (by omega)) rfl
    have e1 := ((e1.trans (cT (decide_eq_true (by omega)))).trans (cT (gB_eq hC (by omega) (fun h => by omega)))).trans (cF rfl)
    have e1 := e1.trans (cT hg10)
    rw [argN_ne (m := 10) (n := 7) (by omega)] at e1
    simp only [cond_false] at e1
    have e1 := (e1.trans (cT (gB_eq hD (by omega) (fun h => by omega)))).trans (cT hgu)
    obtain ⟨ks, k1, k2, k3⟩ := slX (o := .no) hx
    obtain ⟨l, l1, l2, l3⟩ := slV (o := .fit) (rows1 (get := fillGet [.int .i64 0, .int .i64 0, .str [], .sl .fit 0 0 fun _ => [] ] [(0, .agg [.int .i64 (nextR D 7).1, .int .i64 (valA cA cO CODES.Ok wu [.ref 1000000 0] [codO (nextR D 7).2]).1, .str [], .sl .fit 0 0 fun _ => [] ])]) (rowV_made _ _))
    exact c_fin he.kd he.nm (by omega) l2 (by omega) k2 l3 k3 hpu (hc _ (by rw [ha]; exact e1))
theorem cnd_6 (h10 : nextR D0 10 = (6, D)) : ∃ x, ccPost b x ∧ Ct V2.P V2.G 14 (kA (e, C)) (kO (e, C)) (φC x) := by
  have hT := entB_ok (m := 10) (by omega) hD0 h10
  have hkl := he.kl
  have hvl := he.vl
  obtain ⟨wt, hwt, htt⟩ := ent_ex (V := V2) (f := 47) (A := cA) (O := cO) (Pre := CODES.Ok) (φ := φC) (Post := fun (_ : CODES) (x : EXP × CODES) => tPost x) testC_ex
  have hgt : goodA cA cO CODES.Ok [.ref 1000000 0] [codO D] = true := goodA_eq (A := cA) (O := cO) (v := D) hD
  have hpt : tPost (valA cA cO CODES.Ok wt [.ref 1000000 0] [codO D]) := valA_post (A := cA) (O := cO) (a := D) (Post := fun (_ : CODES) (x : EXP × CODES) => tPost x) hwt (fun _ _ _ _ _ h => h) hD
  have hg10 : gB 10 D0 [.ref 1000000 0, .int .i64 10] [codO D0] = true := gB_eq hD0 (by omega) (fun _ => rfl)
  rcases hs with ⟨hq, rfl⟩ | ⟨q, hq, h3⟩
  · have hx : ∀ j, j < 0 → rowX (b + 11) (EXP.row e.kids j) := fun j hj => (rowsX he j (by omega)).mono (by omega)
    have hc := fun r he' => ct_of_run (V := V4) (f := 14) (l := kA (e, D0)) (os := kO (e, D0)) (r := r) (n := 9) (d := 1) (C := []) (T := [entB 10 D0 (6, D), entC 47 cA cO CODES.Ok wt φC]) (L := []) (W := [([1, 0, 1, 0, 1], fun _ _ => none)]) mixed4 funcs4 (tabOk_cons hT (tabOk_cons htt tabOk_nil)) (fun _ h => (List.not_mem_nil h).elim) (loopsOk_nil) (viewsZ (fun q hq => by cases hq)) he'
    have ha : kA (e, D0) = [.ref keyBase 0, .agg (xc e.op e.kind e.name e.vals.length (gVl e.vals) 0 (EXP.row e.kids))] := by show [_, AV.agg (eC e)] = _; rw [eC_xc hq]
    have e1 := c_6_0 (gB 10 D0) vN (goodA cA cO CODES.Ok) (valA cA cO CODES.Ok wt) e.op e.kind e.name e.vals.length (gVl e.vals) (EXP.row e.kids) D0 D rfl
    have e1 := e1.trans (cT hg10)
    have e1 := e1.trans (cT hgt)
    exact c_finX he.kd he.nm (by omega) (rowsV he) (by omega) (rows_app (m := 0) (fun j hj => absurd hj (by omega)) (rowX_c (test_fit hpt.1 (by omega)))) hpt.2 (hc _ (by rw [ha]; exact e1))
  · have hx : ∀ j, j < (q + 1) → rowX (b + 11) (EXP.row e.kids j) := fun j hj => (rowsX he j (by omega)).mono (by omega)
    have hc := fun r he' => ct_of_run (V := V4) (f := 14) (l := kA (e, C)) (os := kO (e, C)) (r := r) (n := 9) (d := 1) (C := []) (T := [entB 10 D0 (6, D), entC 47 cA cO CODES.Ok wt φC]) (L := []) (W := [([1, 0, 1, 0, 1], fun _ _ => none)]) mixed4 funcs4 (tabOk_cons hT (tabOk_cons htt tabOk_nil)) (fun _ h => (List.not_mem_nil h).elim) (loopsOk_nil) (viewsZ (fun q hq => by cases hq)) he'
    have ha : kA (e, C) = [.ref keyBase 0, .agg (xc e.op e.kind e.name e.vals.length (gVl e.vals) (q + 1) (EXP.row e.kids))] := by show [_, AV.agg (eC e)] = _; rw [eC_xc hq]
    have e1 := c_6_1 (gB 10 D0) vN (goodA cA cO CODES.Ok) (valA cA cO CODES.Ok wt) e.op e.kind e.name e.vals.length (gVl e.vals) q (EXP.row e.kids) C D ((vN_eq hC (by omega)).trans h3) rfl
    have e1 := ((e1.trans (cT (decide_eq_true (by omega)))).trans (cT (gB_eq hC (by omega) (fun h => by omega)))).trans (cF rfl)
    have e1 := e1.trans (cT hg10)
    have e1 := e1.trans (cT (show roomy 88 (0 + (q + 1)) = true from Nat.ble_eq_true_of_le (by omega)))
    have e1 := e1.trans (cT hgt)
    have e1 := e1.trans (cT (show (roomy 88 (0 + (q + 1) + 1) && Nat.beq (0 + (q + 1)) (0 + (q + 1))) = true by rw [Nat.beq_refl, Bool.and_true]; exact Nat.ble_eq_true_of_le (by omega)))
    exact c_finX he.kd he.nm (by omega) (rowsV he) (by omega) (rows_app (rows_cp hx) (rowX_c (test_fit hpt.1 (by omega)))) hpt.2 (hc _ (by rw [ha]; exact e1))
theorem cnd_7 (h10 : nextR D0 10 = (7, D)) : ∃ x, ccPost b x ∧ Ct V2.P V2.G 14 (kA (e, C)) (kO (e, C)) (φC x) := by
  have hT := entB_ok (m := 10) (by omega) hD0 h10
  have hkl := he.kl
  have hvl := he.vl
  obtain ⟨w, hw, hlp⟩ := nots_loop b (by omega) (gB 10 D0) (fun l os => cond (argN 10 l) (7, D) (vN l os)) (fun E hE => gB_eq hE (by omega) (fun h => by omega)) (fun E hE => by
    show cond (argN 10 [.ref 1000000 0, .int .i64 3]) (7, D) (vN [.ref 1000000 0, .int .i64 3] [codO E]) = _
    rw [argN_ne (by decide)]; exact vN_eq hE (by omega)) []
  have hnI : nI b (e, D, 0) := ⟨he, hD, Nat.zero_le _⟩
  have hgl : goodS nS (nI b) (nS (e, D, 0)) = true := goodS_eq (S := nS) hnI
  have hpl : Fit b (valS nS (nI b) w (nS (e, D, 0))).1 ∧ (valS nS (nI b) w (nS (e, D, 0))).2.Ok := valS_post (S := nS) (Post := fun _ (x : EXP × CODES) => Fit b x.1 ∧ x.2.Ok) hw (fun _ _ _ _ h => h) hnI
  have hg10 : gB 10 D0 [.ref 1000000 0, .int .i64 10] [codO D0] = true := gB_eq hD0 (by omega) (fun _ => rfl)
  rcases hs with ⟨hq, rfl⟩ | ⟨q, hq, h3⟩
  · have hx : ∀ j, j < 0 → rowX (b + 11) (EXP.row e.kids j) := fun j hj => (rowsX he j (by omega)).mono (by omega)
    have hst : ({ env := [(0, .ref 1000000 0), (3, .ref 3 0), (4, .ref 4 0), (6, .int .i64 0)], objs := [(3, .cells (xc e.op e.kind e.name e.vals.length (gVl e.vals) 0 (EXP.row e.kids))), (4, .cells ex0), (1000000, codO D)] } : St) = nS (e, D, 0) := by unfold nS NL; rw [eC_xc hq]; rfl
    have hc := fun r he' => ct_of_run (V := V4) (f := 14) (l := kA (e, D0)) (os := kO (e, D0)) (r := r) (n := 9) (d := 1) (C := []) (T := [entB 10 D0 (7, D)]) (L := [([1, 1, 0, 1, 0, 1, 1, 1, 1, 1, 1, 1, 1, 1, 1, 1, 1, 1, 1, 1, 0, 1, 0], mkO (goodS nS (nI b)) (valS nS (nI b) w) outN)]) (W := [([1, 0, 1, 0, 1], fun _ _ => none), ([1, 1, 0, 1, 0, 1, 1, 1, 1, 1, 1, 1, 1, 1, 1, 1, 1, 1, 1, 1, 0, 1, 0, 0, 1, 1], mkV (goodS nB (nBI b)) (vwN b) SN)]) mixed4 funcs4 (tabOk_cons hT (tabOk_nil)) (fun _ h => (List.not_mem_nil h).elim) (loopsOk_cons (hlp _) loopsOk_nil) (viewsZ (views1 (viewN_ok b))) he'
    have ha : kA (e, D0) = [.ref keyBase 0, .agg (xc e.op e.kind e.name e.vals.length (gVl e.vals) 0 (EXP.row e.kids))] := by show [_, AV.agg (eC e)] = _; rw [eC_xc hq]
    have e1 := c_7_0 (gB 10 D0) vN (goodS nS (nI b)) (valS nS (nI b) w) (mkV (goodS nB (nBI b)) (vwN b) SN) e.op e.kind e.name e.vals.length (gVl e.vals) (EXP.row e.kids) D0 D (t1 := valS nS (nI b) w (nS (e, D, 0))) (by rw [hst])
    have e1 := e1.trans (cT hg10)
    have e1 := e1.trans (cT (by rw [hst]; exact hgl))
    exact ⟨_, ⟨hpl.1.mono (by omega), hpl.2⟩, (hc _ (by rw [ha]; exact e1))⟩
  · have hx : ∀ j, j < (q + 1) → rowX (b + 11) (EXP.row e.kids j) := fun j hj => (rowsX he j (by omega)).mono (by omega)
    have hst : ({ env := [(0, .ref 1000000 0), (3, .ref 3 0), (4, .ref 4 0), (6, .int .i64 0)], objs := [(3, .cells (xc e.op e.kind e.name e.vals.length (gVl e.vals) (q + 1) (EXP.row e.kids))), (4, .cells ex0), (1000000, codO D)] } : St) = nS (e, D, 0) := by unfold nS NL; rw [eC_xc hq]; rfl
    have hc := fun r he' => ct_of_run (V := V4) (f := 14) (l := kA (e, C)) (os := kO (e, C)) (r := r) (n := 9) (d := 1) (C := []) (T := [entB 10 D0 (7, D)]) (L := [([1, 1, 0, 1, 0, 1, 1, 1, 1, 1, 1, 1, 1, 1, 1, 1, 1, 1, 1, 1, 0, 1, 0], mkO (goodS nS (nI b)) (valS nS (nI b) w) outN)]) (W := [([1, 0, 1, 0, 1], fun _ _ => none), ([1, 1, 0, 1, 0, 1, 1, 1, 1, 1, 1, 1, 1, 1, 1, 1, 1, 1, 1, 1, 0, 1, 0, 0, 1, 1], mkV (goodS nB (nBI b)) (vwN b) SN)]) mixed4 funcs4 (tabOk_cons hT (tabOk_nil)) (fun _ h => (List.not_mem_nil h).elim) (loopsOk_cons (hlp _) loopsOk_nil) (viewsZ (views1 (viewN_ok b))) he'
    have ha : kA (e, C) = [.ref keyBase 0, .agg (xc e.op e.kind e.name e.vals.length (gVl e.vals) (q + 1) (EXP.row e.kids))] := by show [_, AV.agg (eC e)] = _; rw [eC_xc hq]
    have e1 := c_7_1 (gB 10 D0) vN (goodS nS (nI b)) (valS nS (nI b) w) (mkV (goodS nB (nBI b)) (vwN b) SN) e.op e.kind e.name e.vals.length (gVl e.vals) q (EXP.row e.kids) C D ((vN_eq hC (by omega)).trans h3) (t2 := valS nS (nI b) w (nS (e, D, 0))) (by rw [hst])
    have e1 := ((e1.trans (cT (decide_eq_true (by omega)))).trans (cT (gB_eq hC (by omega) (fun h => by omega)))).trans (cF rfl)
    have e1 := e1.trans (cT hg10)
    have e1 := e1.trans (cT (by rw [hst]; exact hgl))
    exact ⟨_, ⟨hpl.1.mono (by omega), hpl.2⟩, (hc _ (by rw [ha]; exact e1))⟩
theorem cnd_8 (h10 : nextR D0 10 = (8, D)) : ∃ x, ccPost b x ∧ Ct V2.P V2.G 14 (kA (e, C)) (kO (e, C)) (φC x) := by
  have hT := entB_ok (m := 10) (by omega) hD0 h10
  have hkl := he.kl
  have hvl := he.vl
  obtain ⟨wt, hwt, htt⟩ := ent_ex (V := V2) (f := 47) (A := cA) (O := cO) (Pre := CODES.Ok) (φ := φC) (Post := fun (_ : CODES) (x : EXP × CODES) => tPost x) testC_ex
  have hgt : goodA cA cO CODES.Ok [.ref 1000000 0] [codO D] = true := goodA_eq (A := cA) (O := cO) (v := D) hD
  have hpt : tPost (valA cA cO CODES.Ok wt [.ref 1000000 0] [codO D]) := valA_post (A := cA) (O := cO) (a := D) (Post := fun (_ : CODES) (x : EXP × CODES) => tPost x) hwt (fun _ _ _ _ _ h => h) hD
  have hg10 : gB 10 D0 [.ref 1000000 0, .int .i64 10] [codO D0] = true := gB_eq hD0 (by omega) (fun _ => rfl)
  rcases hs with ⟨hq, rfl⟩ | ⟨q, hq, h3⟩
  · have hx : ∀ j, j < 0 → rowX (b + 11) (EXP.row e.kids j) := fun j hj => (rowsX he j (by omega)).mono (by omega)
    let y : KV := ⟨e.op, e.kind, e.name, e.vals.length, gVl e.vals, 0, EXP.row e.kids, D⟩
    obtain ⟨w, hw, hlp⟩ := adds_loop8 (gB 10 D0) (fun l os => cond (argN 10 l) (8, D) (vN l os)) b b (by omega) (by omega) y hwt htt
    have hkI : kI b b (y, 0) := ⟨⟨he.kd, he.nm, by show e.vals.length ≤ b; omega, rowsV he, hD⟩, by show 0 ≤ 11; omega, Nat.zero_le _, by show 0 ≤ b + 0; omega, fun j hj => rowsX he j (by have : j < 0 := hj; omega)⟩
    have hgl : goodS (kS y) (kI b b) (kS y (y, 0)) = true := goodS_eq (S := kS y) hkI
    have hpl : kZ b b (valS (kS y) (kI b b) w (kS y (y, 0))) := valS_post (S := kS y) (Post := fun _ (x : KV) => kZ b b x) hw (fun _ _ _ _ h => h) hkI
    have hc := fun r he' => ct_of_run (V := V4) (f := 14) (l := kA (e, D0)) (os := kO (e, D0)) (r := r) (n := 9) (d := 1) (C := []) (T := [entB 10 D0 (8, D), entC 47 cA cO CODES.Ok wt φC]) (L := [([1, 1, 0, 1, 0, 1, 1, 1, 1, 1, 1, 1, 1, 1, 1, 1, 1, 1, 1, 1, 1, 1, 0, 1, 0, 1, 0], mkO (goodS (kS y) (kI b b)) (valS (kS y) (kI b b) w) (outK y))]) (W := [([1, 0, 1, 0, 1], fun _ _ => none), ([1, 1, 0, 1, 0, 1, 1, 1, 1, 1, 1, 1, 1, 1, 1, 1, 1, 1, 1, 1, 1, 1, 0, 1, 0, 1, 0, 0, 1, 1], mkV (goodS (kB y) (fun _ => True)) (valS (kB y) (fun _ => True) id) (SK y))]) mixed4 funcs4 (tabOk_cons hT (tabOk_cons htt tabOk_nil)) (fun _ h => (List.not_mem_nil h).elim) (loopsOk_cons (hlp _) loopsOk_nil) (viewsZ (views1 (viewK_ok y))) he'
    have ha : kA (e, D0) = [.ref keyBase 0, .agg (xc e.op e.kind e.name e.vals.length (gVl e.vals) 0 (EXP.row e.kids))] := by show [_, AV.agg (eC e)] = _; rw [eC_xc hq]
    have e1 := c_8_0 (gB 10 D0) vN (goodA cA cO CODES.Ok) (valA cA cO CODES.Ok wt) (goodS (kS y) (kI (b) b)) (valS (kS y) (kI (b) b) w) (mkV (goodS (kB y) (fun _ => True)) (valS (kB y) (fun _ => True) id) (SK y)) e.op e.kind e.name e.vals.length (gVl e.vals) (EXP.row e.kids) D0 D rfl
    have e1 := e1.trans (cT hg10)
    have e1 := e1.trans (cT hgl)
    exact c_finX hpl.1.kd hpl.1.nm (Nat.le_trans hpl.1.m (by omega)) hpl.1.gv hpl.2.1 (fun j hj => (hpl.2.2 j hj).mono (by omega)) hpl.1.C (hc _ (by rw [ha]; exact e1))
  · have hx : ∀ j, j < (q + 1) → rowX (b + 11) (EXP.row e.kids j) := fun j hj => (rowsX he j (by omega)).mono (by omega)
    let y : KV := ⟨e.op, e.kind, e.name, e.vals.length, gVl e.vals, (q + 1), EXP.row e.kids, D⟩
    obtain ⟨w, hw, hlp⟩ := adds_loop8 (gB 10 D0) (fun l os => cond (argN 10 l) (8, D) (vN l os)) b b (by omega) (by omega) y hwt htt
    have hkI : kI b b (y, 0) := ⟨⟨he.kd, he.nm, by show e.vals.length ≤ b; omega, rowsV he, hD⟩, by show 0 ≤ 11; omega, Nat.zero_le _, by show (q + 1) ≤ b + 0; omega, fun j hj => rowsX he j (by have : j < (q + 1) := hj; omega)⟩
    have hgl : goodS (kS y) (kI b b) (kS y (y, 0)) = true := goodS_eq (S := kS y) hkI
    have hpl : kZ b b (valS (kS y) (kI b b) w (kS y (y, 0))) := valS_post (S := kS y) (Post := fun _ (x : KV) => kZ b b x) hw (fun _ _ _ _ h => h) hkI
    have hc := fun r he' => ct_of_run (V := V4) (f := 14) (l := kA (e, C)) (os := kO (e, C)) (r := r) (n := 9) (d := 1) (C := []) (T := [entB 10 D0 (8, D), entC 47 cA cO CODES.Ok wt φC]) (L := [([1, 1, 0, 1, 0, 1, 1, 1, 1, 1, 1, 1, 1, 1, 1, 1, 1, 1, 1, 1, 1, 1, 0, 1, 0, 1, 0], mkO (goodS (kS y) (kI b b)) (valS (kS y) (kI b b) w) (outK y))]) (W := [([1, 0, 1, 0, 1], fun _ _ => none), ([1, 1, 0, 1, 0, 1, 1, 1, 1, 1, 1, 1, 1, 1, 1, 1, 1, 1, 1, 1, 1, 1, 0, 1, 0, 1, 0, 0, 1, 1], mkV (goodS (kB y) (fun _ => True)) (valS (kB y) (fun _ => True) id) (SK y))]) mixed4 funcs4 (tabOk_cons hT (tabOk_cons htt tabOk_nil)) (fun _ h => (List.not_mem_nil h).elim) (loopsOk_cons (hlp _) loopsOk_nil) (viewsZ (views1 (viewK_ok y))) he'
    have ha : kA (e, C) = [.ref keyBase 0, .agg (xc e.op e.kind e.name e.vals.length (gVl e.vals) (q + 1) (EXP.row e.kids))] := by show [_, AV.agg (eC e)] = _; rw [eC_xc hq]
    have e1 := c_8_1 (gB 10 D0) vN (goodA cA cO CODES.Ok) (valA cA cO CODES.Ok wt) (goodS (kS y) (kI (b) b)) (valS (kS y) (kI (b) b) w) (mkV (goodS (kB y) (fun _ => True)) (valS (kB y) (fun _ => True) id) (SK y)) e.op e.kind e.name e.vals.length (gVl e.vals) q (EXP.row e.kids) C D ((vN_eq hC (by omega)).trans h3) rfl
    have e1 := ((e1.trans (cT (decide_eq_true (by omega)))).trans (cT (gB_eq hC (by omega) (fun h => by omega)))).trans (cF rfl)
    have e1 := e1.trans (cT hg10)
    have e1 := e1.trans (cT hgl)
    exact c_finX hpl.1.kd hpl.1.nm (Nat.le_trans hpl.1.m (by omega)) hpl.1.gv hpl.2.1 (fun j hj => (hpl.2.2 j hj).mono (by omega)) hpl.1.C (hc _ (by rw [ha]; exact e1))
theorem cnd_9 (h10 : nextR D0 10 = (9, D)) : ∃ x, ccPost b x ∧ Ct V2.P V2.G 14 (kA (e, C)) (kO (e, C)) (φC x) := by
  have hT := entB_ok (m := 10) (by omega) hD0 h10
  have hkl := he.kl
  have hvl := he.vl
  obtain ⟨wt, hwt, htt⟩ := ent_ex (V := V2) (f := 47) (A := cA) (O := cO) (Pre := CODES.Ok) (φ := φC) (Post := fun (_ : CODES) (x : EXP × CODES) => tPost x) testC_ex
  have hgt : goodA cA cO CODES.Ok [.ref 1000000 0] [codO D] = true := goodA_eq (A := cA) (O := cO) (v := D) hD
  have hpt : tPost (valA cA cO CODES.Ok wt [.ref 1000000 0] [codO D]) := valA_post (A := cA) (O := cO) (a := D) (Post := fun (_ : CODES) (x : EXP × CODES) => tPost x) hwt (fun _ _ _ _ _ h => h) hD
  have hg10 : gB 10 D0 [.ref 1000000 0, .int .i64 10] [codO D0] = true := gB_eq hD0 (by omega) (fun _ => rfl)
  rcases hs with ⟨hq, rfl⟩ | ⟨q, hq, h3⟩
  · have hx : ∀ j, j < 0 → rowX (b + 11) (EXP.row e.kids j) := fun j hj => (rowsX he j (by omega)).mono (by omega)
    have hc := fun r he' => ct_of_run (V := V4) (f := 14) (l := kA (e, D0)) (os := kO (e, D0)) (r := r) (n := 9) (d := 1) (C := []) (T := [entB 10 D0 (9, D), entC 47 cA cO CODES.Ok wt φC]) (L := []) (W := [([1, 0, 1, 0, 1], fun _ _ => none)]) mixed4 funcs4 (tabOk_cons hT (tabOk_cons htt tabOk_nil)) (fun _ h => (List.not_mem_nil h).elim) (loopsOk_nil) (viewsZ (fun q hq => by cases hq)) he'
    have ha : kA (e, D0) = [.ref keyBase 0, .agg (xc e.op e.kind e.name e.vals.length (gVl e.vals) 0 (EXP.row e.kids))] := by show [_, AV.agg (eC e)] = _; rw [eC_xc hq]
    have e1 := c_9_0 (gB 10 D0) vN (goodA cA cO CODES.Ok) (valA cA cO CODES.Ok wt) e.op e.kind e.name e.vals.length (gVl e.vals) (EXP.row e.kids) D0 D rfl
    have e1 := e1.trans (cT hg10)
    have e1 := e1.trans (cT hgt)
    have hself : rowX (b + 11) (xc e.op e.kind e.name e.vals.length (gVl e.vals) 0 (EXP.row e.kids)) := by rw [← eC_xc hq]; exact rowX_c (he.mono (by omega))
    obtain ⟨ks, k1, k2, k3⟩ := slX (b := b + 11) (o := .fit) (rows2 (get := fillGet ex0 [(0, .agg (xc e.op e.kind e.name e.vals.length (gVl e.vals) 0 (EXP.row e.kids))), (1, .agg (eC (valA cA cO CODES.Ok wt [.ref 1000000 0] [codO D]).1))]) hself (rowX_c (test_fit hpt.1 (by omega))))
    exact c_fin (l := []) (kd := []) (nm := []) (Nat.zero_le _) (Nat.zero_le _) (Nat.zero_le _) (by intro v hv; cases hv) (by omega) k2 slV0 k3 hpt.2 (hc _ (by rw [ha]; exact e1))
  · have hx : ∀ j, j < (q + 1) → rowX (b + 11) (EXP.row e.kids j) := fun j hj => (rowsX he j (by omega)).mono (by omega)
    have hc := fun r he' => ct_of_run (V := V4) (f := 14) (l := kA (e, C)) (os := kO (e, C)) (r := r) (n := 9) (d := 1) (C := []) (T := [entB 10 D0 (9, D), entC 47 cA cO CODES.Ok wt φC]) (L := []) (W := [([1, 0, 1, 0, 1], fun _ _ => none)]) mixed4 funcs4 (tabOk_cons hT (tabOk_cons htt tabOk_nil)) (fun _ h => (List.not_mem_nil h).elim) (loopsOk_nil) (viewsZ (fun q hq => by cases hq)) he'
    have ha : kA (e, C) = [.ref keyBase 0, .agg (xc e.op e.kind e.name e.vals.length (gVl e.vals) (q + 1) (EXP.row e.kids))] := by show [_, AV.agg (eC e)] = _; rw [eC_xc hq]
    have e1 := c_9_1 (gB 10 D0) vN (goodA cA cO CODES.Ok) (valA cA cO CODES.Ok wt) e.op e.kind e.name e.vals.length (gVl e.vals) q (EXP.row e.kids) C D ((vN_eq hC (by omega)).trans h3) rfl
    have e1 := ((e1.trans (cT (decide_eq_true (by omega)))).trans (cT (gB_eq hC (by omega) (fun h => by omega)))).trans (cF rfl)
    have e1 := e1.trans (cT hg10)
    have e1 := e1.trans (cT hgt)
    have hself : rowX (b + 11) (xc e.op e.kind e.name e.vals.length (gVl e.vals) (q + 1) (EXP.row e.kids)) := by rw [← eC_xc hq]; exact rowX_c (he.mono (by omega))
    obtain ⟨ks, k1, k2, k3⟩ := slX (b := b + 11) (o := .fit) (rows2 (get := fillGet ex0 [(0, .agg (xc e.op e.kind e.name e.vals.length (gVl e.vals) (q + 1) (EXP.row e.kids))), (1, .agg (eC (valA cA cO CODES.Ok wt [.ref 1000000 0] [codO D]).1))]) hself (rowX_c (test_fit hpt.1 (by omega))))
    exact c_fin (l := []) (kd := []) (nm := []) (Nat.zero_le _) (Nat.zero_le _) (Nat.zero_le _) (by intro v hv; cases hv) (by omega) k2 slV0 k3 hpt.2 (hc _ (by rw [ha]; exact e1))
end
end Go.SH

namespace Go.SH
open Go Go.Ab Go.Proofs
set_option linter.unusedVariables false
set_option linter.unusedSimpArgs false
theorem cutZ_ok {X : Cfg} {f : FuncId} {p : List Nat} : CutOk X f p (mkO (fun _ => false) (fun _ => ()) (fun _ _ => none)) := fun _ _ _ h => by cases h
def kP (b n : Nat) (x : EXP × CODES) : Prop := Fit b x.1 ∧ x.2.Ok ∧ SizeOf.sizeOf x.1 < n
theorem cond_rec {b n : Nat} (hb : 20 ≤ b) (hb' : b ≤ 1000) {wc : EXP × CODES → EXP × CODES} (hwc : ∀ x, kP b n x → ccPost b (wc x)) (htc : ∀ l os, (entC 14 kA kO (kP b n) wc φC).pre l os = true → Ct V2.P V2.G (entC 14 kA kO (kP b n) wc φC).f l os ((entC 14 kA kO (kP b n) wc φC).ans l os))
    {e : EXP} (he : Fit b e) (hn : SizeOf.sizeOf e ≤ n) {C D0 : CODES} (hC : C.Ok) (hD0 : D0.Ok) {q : Nat} (hq : e.kids.length = q + 1) {k : Int} (hk : 0 < k) (h3 : nextR C 3 = (k, D0)) : ∃ x, ccPost b x ∧ Ct V2.P V2.G 14 (kA (e, C)) (kO (e, C)) (φC x) := by
  have hkl := he.kl
  obtain ⟨a0, a1, aD⟩ := nextR_ok hD0 (m := ((q + 1 : Nat) : Int)) (by omega)
  cases hx : nextR D0 ((q + 1 : Nat) : Int) with
  | mk i D1 =>
  rw [hx] at a0 a1 aD
  have a0 : 0 ≤ i := a0
  have a1 : i < ((q + 1 : Nat) : Int) := a1
  have aD : D1.Ok := aD
  have hj : i.toNat < e.kids.length := by omega
  have hmem : e.kids.getD i.toNat default ∈ e.kids := by
    rw [List.getD_eq_getElem?_getD, List.getElem?_eq_getElem hj]
    exact List.getElem_mem hj
  have hkf : Fit b (e.kids.getD i.toNat default) := by
    cases he with
    | mk _ _ _ _ _ _ h6 => exact h6 _ hmem
  have hks : SizeOf.sizeOf (e.kids.getD i.toNat default) < n := by
    have h1 := List.sizeOf_lt_of_mem hmem
    have h2 : SizeOf.sizeOf e.kids < SizeOf.sizeOf e := by
      cases e with
      | mk op kd nm vs ks => simp only [EXP.kids, EXP.mk.sizeOf_spec]; omega
    omega
  have hP : kP b n (e.kids.getD i.toNat default, D1) := ⟨hkf, aD, hks⟩
  have hgc : goodA kA kO (kP b n) [.ref 1000000 0, .agg (eC (e.kids.getD i.toNat default))] [codO D1] = true := goodA_eq (A := kA) (O := kO) hP
  have hpc : ccPost b (valA kA kO (kP b n) wc [.ref 1000000 0, .agg (eC (e.kids.getD i.toNat default))] [codO D1]) := valA_post (A := kA) (O := kO) (a := (e.kids.getD i.toNat default, D1)) (Post := fun _ (x : EXP × CODES) => ccPost b x) hwc (fun _ _ _ _ _ h => h) hP
  generalize ht : valA kA kO (kP b n) wc [.ref 1000000 0, .agg (eC (e.kids.getD i.toNat default))] [codO D1] = t at hpc
  have hvB : ∀ v : KV, valS bB (fun _ => True) id (bB v) = v := fun v => valS_eq (S := bB) (fun a b _ _ h => bB_inj a b h) trivial
  have hgB : ∀ v : KV, goodS bB (fun _ => True) (bB v) = true := fun v => goodS_eq (S := bB) trivial
  have e1 := c_rec gN (goodA kA kO (kP b n)) vN (valA kA kO (kP b n) wc)
    (goodS (fun _ : Unit => ({ env := [(0, .ref keyBase 0), (3, .ref 3 0), (4, .ref 4 0)], objs := [(3, .cells (gcell e.op e.kind e.name e.vals.length (gVl e.vals) (0 + (q + 1)))), (4, .cells ex0), (20, .grw 5 (0 + (q + 1)) (appGet 0 (q + 1) (fun _ => []) (EXP.row e.kids))), (keyBase, codO D0)] } : St)) (fun _ => True))
    (goodS bB (fun _ => True)) (fun _ => (⟨e.op, e.kind, e.name, e.vals.length, gVl e.vals, e.kids, D0⟩ : K1)) (valS bB (fun _ => True) id) e.op e.kind e.name e.vals.length (gVl e.vals) q (EXP.row e.kids) C
    (t1 := (k, D0)) ((vN_eq hC (by omega)).trans h3) (t2 := ⟨e.op, e.kind, e.name, e.vals.length, gVl e.vals, e.kids, D0⟩) rfl (t3 := (i, D1)) ((vN_eq hD0 (by omega)).trans hx) (t4 := t) ht (hvB ⟨e.op, e.kind, e.name, e.vals.length, gVl e.vals, q + 1, _, t.2⟩)
  have hin : (within i (q + 1) && Nat.beq (q + 1) (q + 1)) = true := by
    rw [Nat.beq_refl, Bool.and_true]; exact within_of a0 a1
  have hlt : (Nat.blt i.toNat (q + 1) && Nat.beq (q + 1) (q + 1)) = true := by
    rw [Nat.beq_refl, Bool.and_true]; exact bltT (by omega)
  have e1 := (e1.trans (cT (decide_eq_true (by omega)))).trans (cT (gN_eq hC (by omega)))
  have e1 := e1.trans (cT (decide_eq_true hk))
  have e1 := e1.trans (cT (show roomy 88 (0 + (q + 1)) = true from Nat.ble_eq_true_of_le (by omega)))
  have e1 := e1.trans (cT (goodS_eq (S := fun _ : Unit => ({ env := [(0, .ref keyBase 0), (3, .ref 3 0), (4, .ref 4 0)], objs := [(3, .cells (gcell e.op e.kind e.name e.vals.length (gVl e.vals) (0 + (q + 1)))), (4, .cells ex0), (20, .grw 5 (0 + (q + 1)) (appGet 0 (q + 1) (fun _ => []) (EXP.row e.kids))), (keyBase, codO D0)] } : St)) (v := ()) trivial))
  have e1 := e1.trans (cT (gN_eq hD0 (by omega)))
  have e1 := ((((e1.trans (cT hin)).trans (cT hlt)).trans (cT hgc)).trans (cT hin)).trans (cT hlt)
  have e1 := e1.trans (cT (hgB ⟨e.op, e.kind, e.name, e.vals.length, gVl e.vals, q + 1, _, t.2⟩))
  have ha : kA (e, C) = [.ref keyBase 0, .agg (xc e.op e.kind e.name e.vals.length (gVl e.vals) (q + 1) (EXP.row e.kids))] := by show [_, AV.agg (eC e)] = _; rw [eC_xc hq]
  have hc := fun r he' => ct_of_run (V := V4) (f := 14) (l := kA (e, C)) (os := kO (e, C)) (r := r) (n := 9) (d := 1) (C := [([1, 1], mkO (fun _ => false) (fun _ => ()) (fun _ _ => none))]) (T := [entN, entC 14 kA kO (kP b n) wc φC]) (L := [])
    (W := [([1, 0, 1, 0, 1], mkV (goodS (fun _ : Unit => ({ env := [(0, .ref keyBase 0), (3, .ref 3 0), (4, .ref 4 0)], objs := [(3, .cells (gcell e.op e.kind e.name e.vals.length (gVl e.vals) (0 + (q + 1)))), (4, .cells ex0), (20, .grw 5 (0 + (q + 1)) (appGet 0 (q + 1) (fun _ => []) (EXP.row e.kids))), (keyBase, codO D0)] } : St)) (fun _ => True)) (fun _ => (⟨e.op, e.kind, e.name, e.vals.length, gVl e.vals, e.kids, D0⟩ : K1)) (CS1 (q + 1))), ([1, 0, 1, 0, 1, 1, 1], mkV (goodS bB (fun _ => True)) (valS bB (fun _ => True) id) CS2)])
    mixed4 funcs4 (tabOk_cons entN_ok (tabOk_cons htc tabOk_nil)) (fun q hq => by rw [List.mem_singleton] at hq; subst hq; exact cutZ_ok) loopsOk_nil
    (fun q hq => by
      simp only [List.mem_cons, List.not_mem_nil, or_false] at hq
      rcases hq with rfl | rfl
      · exact viewA_ok (by omega)
      · exact viewB_ok) he'
  refine c_finX he.kd he.nm (Nat.le_trans he.vl (by omega)) (rowsV he) (n := q + 1) (by omega) (fun j hj => ?_) hpc.2 (hc _ (by rw [ha]; exact e1))
  show rowX (b + 11) (bif Nat.beq j i.toNat then eC t.1 else eC (e.kids.getD j default))
  cases Nat.beq j i.toNat with
  | true => exact rowX_c hpc.1
  | false =>
    have := (rowsX he j (by omega)).mono (b' := b + 11) (by omega)
    rw [row_eC (by omega)] at this
    exact this
theorem cond_all (b : Nat) (hb : 20 ≤ b) (hb' : b ≤ 1000) : ∀ n, ∀ x : EXP × CODES, kP b n x → ∃ y, ccPost b y ∧ Ct V2.P V2.G 14 (kA x) (kO x) (φC y)
  | 0 => fun x hx => absurd hx.2.2 (by omega)
  | n + 1 => fun ⟨e, C⟩ ⟨he, hC, hs⟩ => by
    have he : Fit b e := he
    have hC : C.Ok := hC
    have hs : SizeOf.sizeOf e < n + 1 := hs
    obtain ⟨wc, hwc, htc⟩ := ent_ex (V := V2) (f := 14) (A := kA) (O := kO) (Pre := kP b n) (φ := φC) (Post := fun _ y => ccPost b y) (cond_all b hb hb' n)
    have tail : ∀ D0 : CODES, D0.Ok → ((e.kids.length = 0 ∧ D0 = C) ∨ (∃ q, e.kids.length = q + 1 ∧ nextR C 3 = (0, D0))) → ∃ x, ccPost b x ∧ Ct V2.P V2.G 14 (kA (e, C)) (kO (e, C)) (φC x) := fun D0 hD0 h => by
      obtain ⟨r0, r1, rD⟩ := nextR_ok hD0 (m := 10) (by omega)
      cases h10 : nextR D0 10 with
      | mk r D =>
      rw [h10] at r0 r1 rD
      have r0 : 0 ≤ r := r0
      have r1 : r < 10 := r1
      have rD : D.Ok := rD
      have hr : r = 0 ∨ r = 1 ∨ r = 2 ∨ r = 3 ∨ r = 4 ∨ r = 5 ∨ r = 6 ∨ r = 7 ∨ r = 8 ∨ r = 9 := by omega
      rcases hr with rfl | rfl | rfl | rfl | rfl | rfl | rfl | rfl | rfl | rfl
      · exact cnd_0 hb hb' he hC hD0 rD h h10
      · exact cnd_1 hb hb' he hC hD0 rD h h10
      · exact cnd_2 hb hb' he hC hD0 rD h h10
      · exact cnd_3 hb hb' he hC hD0 rD h h10
      · exact cnd_4 hb hb' he hC hD0 rD h h10
      · exact cnd_5 hb hb' he hC hD0 rD h h10
      · exact cnd_6 hb hb' he hC hD0 rD h h10
      · exact cnd_7 hb hb' he hC hD0 rD h h10
      · exact cnd_8 hb hb' he hC hD0 rD h h10
      · exact cnd_9 hb hb' he hC hD0 rD h h10
    rcases hq : e.kids.length with _ | q
    · exact tail C hC (.inl ⟨hq, rfl⟩)
    · obtain ⟨s0, s1, sD⟩ := nextR_ok hC (m := 3) (by omega)
      cases h3 : nextR C 3 with
      | mk k D0 =>
      rw [h3] at s0 s1 sD
      have s0 : 0 ≤ k := s0
      have sD : D0.Ok := sD
      by_cases hk : k = 0
      · subst hk
        exact tail D0 sD (.inr ⟨q, hq, h3⟩)
      · exact cond_rec hb hb' hwc htc he (by omega) hC sD hq (by omega) h3
theorem cond_ex (b : Nat) (hb : 20 ≤ b) (hb' : b ≤ 1000) (x : EXP × CODES) (hx : Fit b x.1 ∧ x.2.Ok) : ∃ y, ccPost b y ∧ Ct V2.P V2.G 14 (kA x) (kO x) (φC y) := cond_all b hb hb' (SizeOf.sizeOf x.1 + 1) x ⟨hx.1, hx.2, by omega⟩
end Go.SH

namespace Go.SH
open Go Go.Ab Go.Proofs
set_option linter.unusedVariables false
set_option linter.unusedSimpArgs false
noncomputable def V5 : Env := { V4 with hint := fun f t => cond (Nat.beq f 21) (hn [0, 3, 4, 5] [3, 4, 64] [] [(3, 5, 64, 45)]) (V4.hint f t) }
def zE : EXP := .mk 0 [] [] [] []
def xC (k l f s : List UInt8) (st : Int) (cl ar : AV) (w : EXP) : List AV := [.str k, .str l, .str f, .str s, .int .i64 st, cl, ar, .int .i64 w.op, .str w.kind, .str w.name, valL w.vals, .sl .no 5 w.kids.length (EXP.row w.kids)]
def x0 : List AV := [.str [], .str [], .str [], .str [], .int .i64 0, .sl .fit 0 0 fun _ => [], .sl .fit 0 0 fun _ => [], .int .i64 0, .str [], .str [], .sl .fit 0 0 fun _ => [], .sl .fit 0 0 fun _ => [] ]
def spA (x : (Int × Int)) : Nat → List AV := fun _ => [.int .i64 x.1, .int .i64 x.2]
def XS0' (l : List RG) (C : CODES) : St := { env := [(0, .ref keyBase 0), (3, .ref 3 0), (4, .ref 4 0), (5, .int .i64 0)], objs := [(3, .cells (xC [] [] [] [] 0 (.sl (.key 64) 2 0 fun _ => [.int .i64 0, .int .i64 0]) (rngL l) zE)), (4, .cells x0), (keyBase, codO C), (64, .own 2 0)] }
def XSm (l : List RG) (m : Nat) (get : Nat → List AV) (C : CODES) (i : Int) : St := { env := [(0, .ref keyBase 0), (3, .ref 3 0), (4, .ref 4 0), (5, .int .i64 i)], objs := [(3, .cells (xC [] [] [] [] 0 (.sl (.key 64) 2 m get) (rngL l) zE)), (4, .cells x0), (64, .own 2 m), (keyBase, codO C)] }
structure XO where
  m : Nat
  get : Nat → List AV
  C : CODES
instance : Inhabited XO := ⟨⟨0, fun _ => [], default⟩⟩
def outX5 (l : List RG) (x : XO) (k : Ex → St → Res) : Res := k (.exit 1) { env := [(3, .ref 3 0), (4, .ref 4 0)], objs := [(3, .cells (xC [] [] [] [] 0 (.sl (.key 64) 2 x.m x.get) (rngL l) zE)), (4, .cells x0), (64, .own 2 x.m), (keyBase, codO x.C)] }
set_option maxRecDepth 100000 in
theorem x_0 (ge : List AV → List AO → Bool) (ve : List AV → List AO → Int × CODES) (gn : List AV → List AO → Bool) (vn : List AV → List AO → List UInt8 × CODES) (sp : Int × Int) (l : List RG) (C D : CODES) {t1 : List UInt8 × CODES} (h_t1 : vn [.ref 1000000 0] [codO D] = t1) : runF (V5.run [mkE 19 ge (fun l os => cond (argN 9 l) (0, D) (ve l os)) φX, mkE 50 gn vn φT] 1 [] [] [] 21) 9 21 [.ref keyBase 0, .agg (xC [] [] [] [] 0 (.sl .no 2 1 (spA sp)) (rngL l) zE)] [codO C] =
  cond (ge [.ref 1000000 0, .int .i64 9] [codO C]) (cond (gn [.ref 1000000 0] [codO D]) (some ((.agg (xC (Prod.fst t1) [] [] [] 0 (.sl .no 2 1 (appGet 0 1 (fun x => []) (spA sp))) (rngL l) zE), [codO (Prod.snd t1)]))) (none)) (none) := by subst h_t1; kernel_rfl
set_option maxRecDepth 100000 in
theorem x_1 (ge : List AV → List AO → Bool) (ve : List AV → List AO → Int × CODES) (gn : List AV → List AO → Bool) (vn : List AV → List AO → List UInt8 × CODES) (sp : Int × Int) (l : List RG) (C D : CODES) {t1 : List UInt8 × CODES} (h_t1 : vn [.ref 1000000 0] [codO D] = t1) : runF (V5.run [mkE 19 ge (fun l os => cond (argN 9 l) (1, D) (ve l os)) φX, mkE 50 gn vn φT] 1 [] [] [] 21) 9 21 [.ref keyBase 0, .agg (xC [] [] [] [] 0 (.sl .no 2 1 (spA sp)) (rngL l) zE)] [codO C] =
  cond (ge [.ref 1000000 0, .int .i64 9] [codO C]) (cond (gn [.ref 1000000 0] [codO D]) (some ((.agg (xC [] (Prod.fst t1) [] [] 0 (.sl .no 2 1 (appGet 0 1 (fun x => []) (spA sp))) (rngL l) zE), [codO (Prod.snd t1)]))) (none)) (none) := by subst h_t1; kernel_rfl
set_option maxRecDepth 100000 in
theorem x_2 (ge : List AV → List AO → Bool) (ve : List AV → List AO → Int × CODES) (gn : List AV → List AO → Bool) (vn : List AV → List AO → List UInt8 × CODES) (sp : Int × Int) (l : List RG) (C D : CODES) {t1 : List UInt8 × CODES} (h_t1 : vn [.ref 1000000 0] [codO D] = t1) : runF (V5.run [mkE 19 ge (fun l os => cond (argN 9 l) (2, D) (ve l os)) φX, mkE 50 gn vn φT] 1 [] [] [] 21) 9 21 [.ref keyBase 0, .agg (xC [] [] [] [] 0 (.sl .no 2 1 (spA sp)) (rngL l) zE)] [codO C] =
  cond (ge [.ref 1000000 0, .int .i64 9] [codO C]) (cond (gn [.ref 1000000 0] [codO D]) (some ((.agg (xC [] [] (Prod.fst t1) [] 0 (.sl .no 2 1 (appGet 0 1 (fun x => []) (spA sp))) (rngL l) zE), [codO (Prod.snd t1)]))) (none)) (none) := by subst h_t1; kernel_rfl
set_option maxRecDepth 100000 in
theorem x_3 (ge : List AV → List AO → Bool) (ve : List AV → List AO → Int × CODES) (sp : Int × Int) (l : List RG) (C D : CODES) {t1 : Int × CODES} (h_t1 : ve [.ref 1000000 0, .int .i64 6] [codO D] = t1) : runF (V5.run [mkE 19 ge (fun l os => cond (argN 9 l) (3, D) (ve l os)) φX] 1 [] [] [] 21) 9 21 [.ref keyBase 0, .agg (xC [] [] [] [] 0 (.sl .no 2 1 (spA sp)) (rngL l) zE)] [codO C] =
  cond (ge [.ref 1000000 0, .int .i64 9] [codO C]) (cond (ge [.ref 1000000 0, .int .i64 6] [codO D]) (some ((.agg (xC [] [] [] [] (IntKind.wrap IntKind.i64 (Prod.fst (bif argN 9 [.ref 1000000 0, .int .i64 6] then (3, D) else t1) - 1)) (.sl .no 2 1 (appGet 0 1 (fun x => []) (spA sp))) (rngL l) zE), [codO (Prod.snd (bif argN 9 [.ref 1000000 0, .int .i64 6] then (3, D) else t1))]))) (none)) (none) := by subst h_t1; kernel_rfl
set_option maxRecDepth 100000 in
theorem x_4 (ge : List AV → List AO → Bool) (ve : List AV → List AO → Int × CODES) (gu : List AV → List AO → Bool) (vu : List AV → List AO → Int × CODES) (sp : Int × Int) (l : List RG) (C D : CODES) {t1 : Int × CODES} (h_t1 : vu [.ref 1000000 0] [codO D] = t1) {t2 : Int × CODES} (h_t2 : vu [.ref 1000000 0] [codO (Prod.snd t1)] = t2) : runF (V5.run [mkE 19 ge (fun l os => cond (argN 9 l) (4, D) (ve l os)) φX, mkE 51 gu vu φX] 1 [] [] [] 21) 9 21 [.ref keyBase 0, .agg (xC [] [] [] [] 0 (.sl .no 2 1 (spA sp)) (rngL l) zE)] [codO C] =
  cond (ge [.ref 1000000 0, .int .i64 9] [codO C]) (cond (gu [.ref 1000000 0] [codO D]) (cond (gu [.ref 1000000 0] [codO (Prod.snd t1)]) (some ((.agg (xC [] [] [] [] 0 (.sl .no 2 2 (appGet 1 1 (appGet 0 1 (fun x => []) (spA sp)) (fillGet [.int .i64 0, .int .i64 0] [(0, .agg [.int .i64 (Prod.fst t1), .int .i64 (Prod.fst t2)])]))) (rngL l) zE), [codO (Prod.snd t2)]))) (none)) (none)) (none) := by subst h_t2 h_t1; kernel_rfl
set_option maxRecDepth 100000 in
theorem x_5 (ge : List AV → List AO → Bool) (ve : List AV → List AO → Int × CODES) (g1 : St → Bool) (v1 : St → XO) (sp : Int × Int) (l : List RG) (C D : CODES) {t1 : XO} (h_t1 : v1 (XS0' l D) = t1) : runF (V5.run [mkE 19 ge (fun l os => cond (argN 9 l) (5, D) (ve l os)) φX] 1 [] [([1, 1, 0, 1, 0, 1, 1, 1, 1, 1, 1, 1, 1, 1, 1, 1, 0, 1, 1, 0], mkO g1 v1 (outX5 l))] [] 21) 9 21 [.ref keyBase 0, .agg (xC [] [] [] [] 0 (.sl .no 2 1 (spA sp)) (rngL l) zE)] [codO C] =
  cond (ge [.ref 1000000 0, .int .i64 9] [codO C]) (cond (g1 (XS0' l D)) (some ((.agg (xC [] [] [] [] 0 (.sl .no 2 (XO.m t1) (XO.get t1)) (rngL l) zE), [codO (XO.C t1)]))) (none)) (none) := by subst h_t1; kernel_rfl
set_option maxRecDepth 100000 in
theorem x_6 (ge : List AV → List AO → Bool) (ve : List AV → List AO → Int × CODES) (gr : List AV → List AO → Bool) (vr : List AV → List AO → List RG × CODES) (sp : Int × Int) (l : List RG) (C D : CODES) {t1 : List RG × CODES} (h_t1 : vr [.ref 1000000 0, rngL l] [codO D] = t1) : runF (V5.run [mkE 19 ge (fun l os => cond (argN 9 l) (6, D) (ve l os)) φX, mkE 55 gr vr φRg] 1 [] [] [] 21) 9 21 [.ref keyBase 0, .agg (xC [] [] [] [] 0 (.sl .no 2 1 (spA sp)) (rngL l) zE)] [codO C] =
  cond (ge [.ref 1000000 0, .int .i64 9] [codO C]) (cond (gr [.ref 1000000 0, rngL l] [codO D]) (some ((.agg (xC [] [] [] [] 0 (.sl .no 2 1 (appGet 0 1 (fun x => []) (spA sp))) (rngL (Prod.fst t1)) zE), [codO (Prod.snd t1)]))) (none)) (none) := by subst h_t1; kernel_rfl
set_option maxRecDepth 100000 in
theorem x_7 (ge : List AV → List AO → Bool) (ve : List AV → List AO → Int × CODES) (gr : List AV → List AO → Bool) (vr : List AV → List AO → List RG × CODES) (sp : Int × Int) (l : List RG) (C D : CODES) {t1 : List RG × CODES} (h_t1 : vr [.ref 1000000 0, rngL l] [codO D] = t1) : runF (V5.run [mkE 19 ge (fun l os => cond (argN 9 l) (7, D) (ve l os)) φX, mkE 55 gr vr φRg] 1 [] [] [] 21) 9 21 [.ref keyBase 0, .agg (xC [] [] [] [] 0 (.sl .no 2 1 (spA sp)) (rngL l) zE)] [codO C] =
  cond (ge [.ref 1000000 0, .int .i64 9] [codO C]) (cond (gr [.ref 1000000 0, rngL l] [codO D]) (some ((.agg (xC [] [] [] [] 0 (.sl .no 2 1 (appGet 0 1 (fun x => []) (spA sp))) (rngL (Prod.fst t1)) zE), [codO (Prod.snd t1)]))) (none)) (none) := by subst h_t1; kernel_rfl
set_option maxRecDepth 100000 in
theorem x_8 (ge : List AV → List AO → Bool) (ve : List AV → List AO → Int × CODES) (gc : List AV → List AO → Bool) (vc : List AV → List AO → EXP × CODES) (sp : Int × Int) (l : List RG) (C D : CODES) {t1 : EXP × CODES} (h_t1 : vc [.ref 1000000 0, .agg (eC zE)] [codO D] = t1) : runF (V5.run [mkE 19 ge (fun l os => cond (argN 9 l) (8, D) (ve l os)) φX, mkE 14 gc vc φC] 1 [] [] [] 21) 9 21 [.ref keyBase 0, .agg (xC [] [] [] [] 0 (.sl .no 2 1 (spA sp)) (rngL l) zE)] [codO C] =
  cond (ge [.ref 1000000 0, .int .i64 9] [codO C]) (cond (gc [.ref 1000000 0, .agg (eC zE)] [codO D]) (some ((.agg (xC [] [] [] [] 0 (.sl .no 2 1 (appGet 0 1 (fun x => []) (spA sp))) (rngL l) (Prod.fst t1)), [codO (Prod.snd t1)]))) (none)) (none) := by subst h_t1; kernel_rfl
set_option maxRecDepth 100000 in
theorem x_l0 (ge : List AV → List AO → Bool) (ve : List AV → List AO → Int × CODES) (T : List Ent) (L : List (List Nat × Orc)) (m : Nat) (l : List RG) (C : CODES) (kn : St → Res) (k : Ex → St → Res) {t1 : Int × CODES} (h_t1 : ve [.ref 1000000 0, .int .i64 2] [codO C] = t1) : roundR (V5.run (mkE 19 ge ve φX :: T) 1 [] L [] 21) 21 m [1, 1, 0, 1, 0, 1, 1, 1, 1, 1, 1, 1, 1, 1, 1, 1, 0, 1, 1, 0] (XS0' l C) kn k =
  cond (ge [.ref 1000000 0, .int .i64 2] [codO C]) (cond (decide (0 < IntKind.wrap IntKind.i64 (16 + Prod.fst t1))) (kn (XSm l 1 (appGet 0 1 (fun x => [.int .i64 0, .int .i64 0]) (fillGet [.int .i64 0, .int .i64 0] [(0, .agg [.int .i64 (IntKind.wrap IntKind.i64 (2 * 0)), .int .i64 (IntKind.wrap IntKind.i64 (IntKind.wrap IntKind.i64 (2 * 0) + 1))])])) (Prod.snd t1) (IntKind.wrap IntKind.i64 (0 + 1)))) (k (.exit 1) ({ env := [(3, .ref 3 0), (4, .ref 4 0)], objs := [(3, .cells (xC [] [] [] [] 0 (.sl (.key 64) 2 0 fun x => [.int .i64 0, .int .i64 0]) (rngL l) zE)), (4, .cells x0), (64, .own 2 0), (1000000, codO (Prod.snd t1))] }))) (none) := by subst h_t1; kernel_rfl
set_option maxRecDepth 100000 in
theorem x_l (ge : List AV → List AO → Bool) (ve : List AV → List AO → Int × CODES) (T : List Ent) (L : List (List Nat × Orc)) (m : Nat) (l : List RG) (q : Nat) (get : Nat → List AV) (C : CODES) (i : Nat) (kn : St → Res) (k : Ex → St → Res) {t1 : Int × CODES} (h_t1 : ve [.ref 1000000 0, .int .i64 2] [codO C] = t1) : roundR (V5.run (mkE 19 ge ve φX :: T) 1 [] L [] 21) 21 m [1, 1, 0, 1, 0, 1, 1, 1, 1, 1, 1, 1, 1, 1, 1, 1, 0, 1, 1, 0] (XSm l (q + 1) get C i) kn k =
  cond (ge [.ref 1000000 0, .int .i64 2] [codO C]) (cond (decide ((↑i : Int) < IntKind.wrap IntKind.i64 (16 + Prod.fst t1))) (cond (roomy (16) (q + 1 + 1) && Nat.beq (q + 1) (q + 1)) (kn (XSm l (q + 1 + 1) (appGet (q + 1) 1 get (fillGet [.int .i64 0, .int .i64 0] [(0, .agg [.int .i64 (IntKind.wrap IntKind.i64 (2 * (↑i : Int))), .int .i64 (IntKind.wrap IntKind.i64 (IntKind.wrap IntKind.i64 (2 * (↑i : Int)) + 1))])])) (Prod.snd t1) (IntKind.wrap IntKind.i64 ((↑i : Int) + 1)))) (none)) (k (.exit 1) ({ env := [(3, .ref 3 0), (4, .ref 4 0)], objs := [(3, .cells (xC [] [] [] [] 0 (.sl (.key 64) 2 (q + 1) get) (rngL l) zE)), (4, .cells x0), (64, .own 2 (q + 1)), (1000000, codO (Prod.snd t1))] }))) (none) := by subst h_t1; kernel_rfl
end Go.SH

namespace Go.SH
open Go Go.Ab Go.Proofs
set_option linter.unusedVariables false
set_option linter.unusedSimpArgs false
theorem mixed5 : V5.P.follows .mixedOrders = true := mixed
theorem funcs5 : FuncsOk V5.P := funcs
theorem Ct.args {P : Program} {G : Nat → Option (List AV)} {f : FuncId} {l l' : List AV} {os : List AO} {r : AV × List AO} (hl : l.length = l'.length) (hk : keysL l' = keysL l) (hr : ∀ (i : Nat) (u u' : AV), l[i]? = some u → l'[i]? = some u' → ∀ c x, Rep c u x → Rep c u' x) (h : Ct P G f l' os r) : Ct P G f l os r := by
  refine ⟨fun c0 vs hg ho h1 h2 h3 => h.1 c0 vs hg ho (by rw [h1, hl]) (fun i u' hu => ?_) (fun k hk' => h3 k (by rw [← hk]; exact hk')), h.2⟩
  have hi : i < l.length := by rw [hl]; exact (List.getElem?_eq_some_iff.1 hu).1
  exact hr i l[i] u' (List.getElem?_eq_getElem hi) hu c0 _ (h2 i _ (List.getElem?_eq_getElem hi))
def sdec : List AV → Int × Int
  | [.int _ a, .int _ b] => (a, b)
  | _ => (0, 0)
def rowS (a : List AV) : Prop := a = spnC (sdec a)
theorem rowS_c (a b : Int) : rowS [.int .i64 a, .int .i64 b] := rfl
def φEx (x : EXPT × CODES) : AV × List AO := (.agg x.1.c, [codO x.2])
def exPost (x : EXPT × CODES) : Prop := x.1.claims.length ≤ 20 ∧ x.1.arms.length ≤ 20 ∧ x.2.Ok
theorem ex_told {f : FuncId} {A : List AV} {O : List AO} {k l f' s : List UInt8} {st : Int} {o : Own} {m : Nat} {get : Nat → List AV} {ar : List RG} {w : EXP} {D : CODES} (hm : m ≤ 20) (ha : ar.length ≤ 20) (hD : D.Ok) (hg : ∀ j, j < m → rowS (get j)) (h : Ct V2.P V2.G f A O (.agg (xC k l f' s st (.sl o 2 m get) (rngL ar) w), [codO D])) : ∃ y, exPost y ∧ Ct V2.P V2.G f A O (φEx y) := by
  refine ⟨(⟨k, l, f', s, st, (List.range m).map fun j => sdec (get j), ar, w⟩, D), ⟨by simpa using hm, ha, hD⟩, h.res (by simp [EXPT.c, AV.keys, keysL, spnL, rngL, valL]) fun c v hv => ?_⟩
  have hl : ((List.range m).map fun j => sdec (get j)).length = m := by simp
  refine agg_map (us := xC k l f' s st (.sl o 2 m get) (rngL ar) w) rfl (fun i u u' hu hu' => ?_) hv
  unfold xC at hu
  unfold EXPT.c at hu'
  match i with
  | 0 => simp only [List.getElem?_cons_zero, Option.some.injEq] at hu hu'; subst hu hu'; exact ⟨rfl, fun _ h => h⟩
  | 1 => simp only [List.getElem?_cons_succ, List.getElem?_cons_zero, Option.some.injEq] at hu hu'; subst hu hu'; exact ⟨rfl, fun _ h => h⟩
  | 2 => simp only [List.getElem?_cons_succ, List.getElem?_cons_zero, Option.some.injEq] at hu hu'; subst hu hu'; exact ⟨rfl, fun _ h => h⟩
  | 3 => simp only [List.getElem?_cons_succ, List.getElem?_cons_zero, Option.some.injEq] at hu hu'; subst hu hu'; exact ⟨rfl, fun _ h => h⟩
  | 4 => simp only [List.getElem?_cons_succ, List.getElem?_cons_zero, Option.some.injEq] at hu hu'; subst hu hu'; exact ⟨rfl, fun _ h => h⟩
  | 5 =>
    simp only [List.getElem?_cons_succ, List.getElem?_cons_zero, Option.some.injEq] at hu hu'; subst hu hu'
    refine ⟨rfl, fun x hx => ?_⟩
    unfold spnL
    rw [hl]
    refine hx.slWeak fun j hj => ?_
    rw [hg j hj]
    simp [List.getD, hj]
  | 6 => simp only [List.getElem?_cons_succ, List.getElem?_cons_zero, Option.some.injEq] at hu hu'; subst hu hu'; exact ⟨rfl, fun _ h => h⟩
  | 7 => simp only [List.getElem?_cons_succ, List.getElem?_cons_zero, Option.some.injEq] at hu hu'; subst hu hu'; exact ⟨rfl, fun _ h => h⟩
  | 8 => simp only [List.getElem?_cons_succ, List.getElem?_cons_zero, Option.some.injEq] at hu hu'; subst hu hu'; exact ⟨rfl, fun _ h => h⟩
  | 9 => simp only [List.getElem?_cons_succ, List.getElem?_cons_zero, Option.some.injEq] at hu hu'; subst hu hu'; exact ⟨rfl, fun _ h => h⟩
  | 10 => simp only [List.getElem?_cons_succ, List.getElem?_cons_zero, Option.some.injEq] at hu hu'; subst hu hu'; exact ⟨rfl, fun _ h => h⟩
  | 11 => simp only [List.getElem?_cons_succ, List.getElem?_cons_zero, Option.some.injEq] at hu hu'; subst hu hu'; exact ⟨rfl, fun _ h => h⟩
  | i + 12 => simp at hu
abbrev ESt := CODES ⊕ XO
def eS (l : List RG) : ESt → St
  | .inl C => XS0' l C
  | .inr x => XSm l x.m x.get x.C x.m
def eI : ESt → Prop
  | .inl C => C.Ok
  | .inr x => x.C.Ok ∧ 1 ≤ x.m ∧ x.m ≤ 17 ∧ ∀ j, j < x.m → rowS (x.get j)
def eM : ESt → Nat
  | .inl _ => 20
  | .inr x => 18 - x.m
def eZ (x : XO) : Prop := x.C.Ok ∧ x.m ≤ 17 ∧ ∀ j, j < x.m → rowS (x.get j)
theorem spans_loop (ge : List AV → List AO → Bool) (ve : List AV → List AO → Int × CODES) (hge : ∀ C : CODES, C.Ok → ge [.ref 1000000 0, .int .i64 2] [codO C] = true) (hve : ∀ C : CODES, C.Ok → ve [.ref 1000000 0, .int .i64 2] [codO C] = nextR C 2) (l : List RG) (T : List Ent) :
    ∃ w : ESt → XO, (∀ v, eI v → eZ (w v)) ∧ ∀ L : List (List Nat × Orc), LoopOk (V5.run (mkE 19 ge ve φX :: T) 1 [] L [] 21) 21 [1, 1, 0, 1, 0, 1, 1, 1, 1, 1, 1, 1, 1, 1, 1, 1, 0, 1, 1, 0] (mkO (goodS (eS l) eI) (valS (eS l) eI w) (outX5 l)) := by
  refine loop_ex (Xf := fun L : List (List Nat × Orc) => V5.run (mkE 19 ge ve φX :: T) 1 [] L [] 21) (b := subC (bodyOf V5.P 21) ([1, 1, 0, 1, 0, 1, 1, 1, 1, 1, 1, 1, 1, 1, 1, 1, 0, 1, 1, 0] ++ [0])) (eS l) eI eM (outX5 l) (fun _ => eZ) (fun _ => by kernel_rfl) 9 fun v hv => ?_
  cases v with
  | inl C =>
    have hC : C.Ok := hv
    obtain ⟨a0, a1, aD⟩ := nextR_ok hC (m := 2) (by omega)
    refine .inr ⟨.inr ⟨1, appGet 0 1 (fun _ => [.int .i64 0, .int .i64 0]) (fillGet [.int .i64 0, .int .i64 0] [(0, .agg [.int .i64 (IntKind.wrap .i64 (2 * 0)), .int .i64 (IntKind.wrap .i64 (IntKind.wrap .i64 (2 * 0) + 1))])]), (nextR C 2).2⟩, ⟨aD, Nat.le_refl _, by show 1 ≤ 17; omega, rows_app (m := 0) (fun j hj => absurd hj (by omega)) (rowS_c _ _)⟩, by show 18 - 1 < 20; omega, fun _ h => h, fun L k kn => ?_⟩
    refine (x_l0 ge ve T L 9 l C kn k (t1 := nextR C 2) (hve C hC)).trans ?_
    refine (cT (hge C hC)).trans ?_
    refine (cT (decide_eq_true (by rw [wrap_i64 (by omega) (by omega)]; omega))).trans ?_
    rfl
  | inr x =>
    obtain ⟨m, get, C⟩ := x
    obtain ⟨hC, m1, m17, hr⟩ : C.Ok ∧ 1 ≤ m ∧ m ≤ 17 ∧ ∀ j, j < m → rowS (get j) := hv
    obtain ⟨q, rfl⟩ : ∃ q, m = q + 1 := ⟨m - 1, by omega⟩
    obtain ⟨a0, a1, aD⟩ := nextR_ok hC (m := 2) (by omega)
    have hw : IntKind.wrap .i64 (16 + (nextR C 2).1) = 16 + (nextR C 2).1 := wrap_i64 (by omega) (by omega)
    by_cases hi : ((q + 1 : Nat) : Int) < 16 + (nextR C 2).1
    · refine .inr ⟨.inr ⟨q + 1 + 1, appGet (q + 1) 1 get (fillGet [.int .i64 0, .int .i64 0] [(0, .agg [.int .i64 (IntKind.wrap .i64 (2 * ((q + 1 : Nat) : Int))), .int .i64 (IntKind.wrap .i64 (IntKind.wrap .i64 (2 * ((q + 1 : Nat) : Int)) + 1))])]), (nextR C 2).2⟩, ⟨aD, by show 1 ≤ q + 1 + 1; omega, by show q + 1 + 1 ≤ 17; omega, rows_app hr (rowS_c _ _)⟩, by show 18 - (q + 1 + 1) < 18 - (q + 1); omega, fun _ h => h, fun L k kn => ?_⟩
      refine (x_l ge ve T L 9 l q get C (q + 1) kn k (t1 := nextR C 2) (hve C hC)).trans ?_
      refine (cT (hge C hC)).trans ?_
      refine (cT (by rw [hw]; exact decide_eq_true hi)).trans ?_
      refine (cT (show (roomy 16 (q + 1 + 1) && Nat.beq (q + 1) (q + 1)) = true by
        rw [Nat.beq_refl, Bool.and_true]; exact Nat.ble_eq_true_of_le (by omega))).trans ?_
      rw [wrap_i64 (x := ((q + 1 : Nat) : Int) + 1) (by omega) (by omega)]
      rfl
    · refine .inl ⟨⟨q + 1, get, (nextR C 2).2⟩, ⟨aD, m17, hr⟩, fun L k kn => ?_⟩
      refine (x_l ge ve T L 9 l q get C (q + 1) kn k (t1 := nextR C 2) (hve C hC)).trans ?_
      refine (cT (hge C hC)).trans ?_
      exact (cF (by rw [hw]; exact decide_eq_false hi)).trans rfl
def xA5 (x : (Int × Int) × List RG × CODES) : List AV := [.ref keyBase 0, .agg (xC [] [] [] [] 0 (.sl .no 2 1 (spA x.1)) (rngL x.2.1) zE)]
def xO5 (x : (Int × Int) × List RG × CODES) : List AO := [codO x.2.2]
def rA5 (x : List RG × CODES) : List AV := [.ref keyBase 0, rngL x.1]
def rO5 (x : List RG × CODES) : List AO := [codO x.2]
theorem zE_fit : Fit 20 zE := .mk _ (Nat.zero_le _) (Nat.zero_le _) (Nat.zero_le _) (by intro v hv; cases hv) (Nat.zero_le _) (by intro v hv; cases hv)
theorem expt_told (sp : Int × Int) (l : List RG) (C : CODES) (hC : C.Ok) (hl : l.length ≤ 5) : ∃ y, exPost y ∧ Ct V2.P V2.G 21 (xA5 (sp, l, C)) (xO5 (sp, l, C)) (φEx y) := by
  obtain ⟨s0, s1, hD⟩ := nextR_ok hC (m := 9) (by omega)
  cases h9 : nextR C 9 with
  | mk r D =>
  rw [h9] at s0 s1 hD
  have s0 : 0 ≤ r := s0
  have s1 : r < 9 := s1
  have hD : D.Ok := hD
  have hg9 : gB 9 C [.ref 1000000 0, .int .i64 9] [codO C] = true := gB_eq hC (by omega) (fun _ => rfl)
  have hT := entB_ok (m := 9) (by omega) hC h9
  have hsp : ∀ j, j < 1 → rowS (appGet 0 1 (fun _ => []) (spA sp) j) := rows1 (rowS_c _ _)
  have hla : l.length ≤ 20 := by omega
  obtain ⟨wn, hwn, htn⟩ := ent_ex (V := V2) (f := 50) (A := cA) (O := cO) (Pre := CODES.Ok) (φ := φT) (Post := fun (_ : CODES) (x : List UInt8 × CODES) => x.1.length ≤ 40 ∧ x.2.Ok) name_ex
  have hgn : goodA cA cO CODES.Ok [.ref 1000000 0] [codO D] = true := goodA_eq (A := cA) (O := cO) (v := D) hD
  have hpn : (valA cA cO CODES.Ok wn [.ref 1000000 0] [codO D]).1.length ≤ 40 ∧ (valA cA cO CODES.Ok wn [.ref 1000000 0] [codO D]).2.Ok := valA_post (A := cA) (O := cO) (a := D) (Post := fun (_ : CODES) (x : List UInt8 × CODES) => x.1.length ≤ 40 ∧ x.2.Ok) hwn (fun _ _ _ _ _ h => h) hD
  obtain ⟨wu, hwu, htu⟩ := ent_ex (V := V2) (f := 51) (A := cA) (O := cO) (Pre := CODES.Ok) (φ := φX) (Post := fun (_ : CODES) (x : Int × CODES) => x.2.Ok) number_cA
  have hgu : ∀ D : CODES, D.Ok → goodA cA cO CODES.Ok [.ref 1000000 0] [codO D] = true := fun D hD => goodA_eq (A := cA) (O := cO) (v := D) hD
  have hpu : ∀ D : CODES, D.Ok → (valA cA cO CODES.Ok wu [.ref 1000000 0] [codO D]).2.Ok := fun D hD => valA_post (A := cA) (O := cO) (a := D) (Post := fun (_ : CODES) (x : Int × CODES) => x.2.Ok) hwu (fun _ _ _ _ _ h => h) hD
  obtain ⟨wr, hwr, htr⟩ := ent_ex (V := V2) (f := 55) (A := rA5) (O := rO5) (Pre := fun x => x.2.Ok ∧ x.1.length ≤ 5) (φ := φRg) (Post := fun _ y => rgPost y) (fun x hx => ranges_ex x.2 hx.1 x.1 hx.2)
  have hgr : goodA rA5 rO5 (fun x => x.2.Ok ∧ x.1.length ≤ 5) [.ref 1000000 0, rngL l] [codO D] = true := goodA_eq (A := rA5) (O := rO5) (v := (l, D)) ⟨hD, hl⟩
  have hpr : rgPost (valA rA5 rO5 (fun x => x.2.Ok ∧ x.1.length ≤ 5) wr [.ref 1000000 0, rngL l] [codO D]) := valA_post (A := rA5) (O := rO5) (a := (l, D)) (Post := fun _ y => rgPost y) hwr (fun _ _ _ _ _ h => h) ⟨hD, hl⟩
  obtain ⟨wc, hwc, htc⟩ := ent_ex (V := V2) (f := 14) (A := kA) (O := kO) (Pre := fun x => Fit 20 x.1 ∧ x.2.Ok) (φ := φC) (Post := fun _ y => ccPost 20 y) (cond_ex 20 (by omega) (by omega))
  have hgc : goodA kA kO (fun x => Fit 20 x.1 ∧ x.2.Ok) [.ref 1000000 0, .agg (eC zE)] [codO D] = true := goodA_eq (A := kA) (O := kO) (v := (zE, D)) ⟨zE_fit, hD⟩
  have hpc : ccPost 20 (valA kA kO (fun x => Fit 20 x.1 ∧ x.2.Ok) wc [.ref 1000000 0, .agg (eC zE)] [codO D]) := valA_post (A := kA) (O := kO) (a := (zE, D)) (Post := fun _ y => ccPost 20 y) hwc (fun _ _ _ _ _ h => h) ⟨zE_fit, hD⟩
  have hc := fun (T : List Ent) (hT : TabOk V2 T) (r : AV × List AO) he' => ct_loops (V := V5) (f := 21) (l := xA5 (sp, l, C)) (os := xO5 (sp, l, C)) (r := r) (n := 9) (d := 1) (L := []) (T := T) mixed5 funcs5 hT loopsOk_nil he'
  have hr : r = 0 ∨ r = 1 ∨ r = 2 ∨ r = 3 ∨ r = 4 ∨ r = 5 ∨ r = 6 ∨ r = 7 ∨ r = 8 := by omega
  rcases hr with rfl | rfl | rfl | rfl | rfl | rfl | rfl | rfl | rfl
  · exact ex_told (by omega) hla hpn.2 hsp (hc _ (tabOk_cons hT (tabOk_cons htn tabOk_nil)) _ (((x_0 (gB 9 C) vN (goodA cA cO CODES.Ok) (valA cA cO CODES.Ok wn) sp l C D rfl).trans (cT hg9)).trans (cT hgn)))
  · exact ex_told (by omega) hla hpn.2 hsp (hc _ (tabOk_cons hT (tabOk_cons htn tabOk_nil)) _ (((x_1 (gB 9 C) vN (goodA cA cO CODES.Ok) (valA cA cO CODES.Ok wn) sp l C D rfl).trans (cT hg9)).trans (cT hgn)))
  · exact ex_told (by omega) hla hpn.2 hsp (hc _ (tabOk_cons hT (tabOk_cons htn tabOk_nil)) _ (((x_2 (gB 9 C) vN (goodA cA cO CODES.Ok) (valA cA cO CODES.Ok wn) sp l C D rfl).trans (cT hg9)).trans (cT hgn)))
  · obtain ⟨u0, u1, uD⟩ := nextR_ok hD (m := 6) (by omega)
    have e1 := x_3 (gB 9 C) vN sp l C D (vN_eq hD (by omega))
    rw [argN_ne (m := 9) (n := 6) (by omega)] at e1
    simp only [cond_false] at e1
    exact ex_told (by omega) hla uD hsp (hc _ (tabOk_cons hT tabOk_nil) _ ((e1.trans (cT hg9)).trans (cT (gB_eq hD (by omega) (fun h => by omega)))))
  · have p1 := hpu D hD
    exact ex_told (by omega) hla (hpu _ p1) (rows_app (m := 1) hsp (rowS_c _ _)) (hc _ (tabOk_cons hT (tabOk_cons htu tabOk_nil)) _ ((((x_4 (gB 9 C) vN (goodA cA cO CODES.Ok) (valA cA cO CODES.Ok wu) sp l C D rfl rfl).trans (cT hg9)).trans (cT (hgu D hD))).trans (cT (hgu _ p1))))
  · obtain ⟨w, hw, hlp⟩ := spans_loop (gB 9 C) (fun l os => cond (argN 9 l) (5, D) (vN l os)) (fun E hE => gB_eq hE (by omega) (fun h => by omega)) (fun E hE => by
      show cond (argN 9 [.ref 1000000 0, .int .i64 2]) (5, D) (vN [.ref 1000000 0, .int .i64 2] [codO E]) = _
      rw [argN_ne (by decide)]; exact vN_eq hE (by omega)) l []
    have hgl : goodS (eS l) eI (XS0' l D) = true := goodS_eq (S := eS l) (v := Sum.inl D) hD
    have hpl : eZ (valS (eS l) eI w (XS0' l D)) := valS_post (S := eS l) (a := Sum.inl D) (Post := fun (_ : ESt) (x : XO) => eZ x) hw (fun _ _ _ _ h => h) hD
    exact ex_told (Nat.le_trans hpl.2.1 (by omega)) hla hpl.1 hpl.2.2 (ct_loops (V := V5) (f := 21) (l := xA5 (sp, l, C)) (os := xO5 (sp, l, C)) (n := 9) (d := 1) (L := [([1, 1, 0, 1, 0, 1, 1, 1, 1, 1, 1, 1, 1, 1, 1, 1, 0, 1, 1, 0], mkO (goodS (eS l) eI) (valS (eS l) eI w) (outX5 l))]) (T := [entB 9 C (5, D)]) mixed5 funcs5 (tabOk_cons hT tabOk_nil) (loopsOk_cons (hlp _) loopsOk_nil) (((x_5 (gB 9 C) vN (goodS (eS l) eI) (valS (eS l) eI w) sp l C D rfl).trans (cT hg9)).trans (cT hgl)))
  · exact ex_told (by omega) (Nat.le_trans hpr.1 (by omega)) hpr.2 hsp (hc _ (tabOk_cons hT (tabOk_cons htr tabOk_nil)) _ (((x_6 (gB 9 C) vN (goodA rA5 rO5 (fun x => x.2.Ok ∧ x.1.length ≤ 5)) (valA rA5 rO5 (fun x => x.2.Ok ∧ x.1.length ≤ 5) wr) sp l C D rfl).trans (cT hg9)).trans (cT hgr)))
  · exact ex_told (by omega) (Nat.le_trans hpr.1 (by omega)) hpr.2 hsp (hc _ (tabOk_cons hT (tabOk_cons htr tabOk_nil)) _ (((x_7 (gB 9 C) vN (goodA rA5 rO5 (fun x => x.2.Ok ∧ x.1.length ≤ 5)) (valA rA5 rO5 (fun x => x.2.Ok ∧ x.1.length ≤ 5) wr) sp l C D rfl).trans (cT hg9)).trans (cT hgr)))
  · exact ex_told (by omega) hla hpc.2 hsp (hc _ (tabOk_cons hT (tabOk_cons htc tabOk_nil)) _ (((x_8 (gB 9 C) vN (goodA kA kO (fun x => Fit 20 x.1 ∧ x.2.Ok)) (valA kA kO (fun x => Fit 20 x.1 ∧ x.2.Ok) wc) sp l C D rfl).trans (cT hg9)).trans (cT hgc)))
end Go.SH

namespace Go.Ab
open Go Go.RowKit
def finishN (X : Cfg) (fn : Func) (s : St) : Option (AV × List AO) :=
  match resultL X s fn.results.toList with
  | some [.ref k off] => (match alook s.objs k with
    | some o => cond (isNil o.keys) (some (.ref keyBase off, [o.ren fun _ => keyBase])) none
    | none => none)
  | _ => none
def runFN (X : Cfg) (n : Nat) (f : FuncId) (args : List AV) : Option (AV × List AO) :=
  match X.P.funcs[f]? with
  | some fn => (match fn.body with
    | some c => runC X f n c [] { env := enterEnv args 0, objs := enterObjs [] keyBase } fun e s =>
        (match e with
        | .exit _ => none
        | _ => finishN X fn s)
    | none => none)
  | none => none
theorem runFN_sound {X : Cfg} (hX : CallsOk X) (hm : X.P.follows .mixedOrders = true) {f : FuncId} (hO : OracOk X f) {fn : Func} (hf : X.P.funcs[f]? = some fn) (hok : ∀ c, fn.body = some c → codeOk fn.ntmps c = true) {n : Nat} {args : List AV}
    {r : AV} {os' : List AO} (he : runFN X n f args = some (r, os')) : CallOk X.P X.G f args [] r os' := by
  unfold runFN at he
  rw [hf] at he
  dsimp only at he
  cases hbody : fn.body with
  | none => simp [hbody] at he
  | some code =>
    simp only [hbody] at he
    have hcode := hok code hbody
    intro c0 vs hgood hobjs hsz hrep hkeys
    let a0 : Act := { tmps := vs ++ Array.replicate (fn.ntmps - vs.size) undef, defers := [] }
    let B : Base := { c0 := c0, D := held c0 (enterObjs [] keyBase), K := live (enterObjs [] keyBase), G := X.G, N := a0.tmps.size }
    let s0 : St := { env := enterEnv args 0, objs := enterObjs [] keyBase }
    have hN : fn.ntmps ≤ B.N := by simp [B, a0]; omega
    have hcode' : codeOk B.N code = true := codeOk_mono hN hcode
    have hget : ∀ t v, s0.get t = some v → args[t]? = some v := fun t v hv => by
      have : alook (enterEnv args 0) t = some v := hv
      rw [alook_enterEnv, if_pos (Nat.zero_le _)] at this; simpa using this
    have hval : ∀ t v, args[t]? = some v → Rep c0 v (a0.tmps.getD t undef) := fun t v hv => by
      have hlt : t < vs.size := by rw [hsz]; exact (List.getElem?_eq_some_iff.1 hv).1
      have e : a0.tmps.getD t undef = vs.getD t undef := by
        simp only [a0, Array.getD_eq_getD_getElem?]
        rw [Array.getElem?_append_left hlt]
      rw [e]; exact hrep t v hv
    have hplain : ∀ t v, s0.get t = some v → v.isGrd = false := fun t v hv => by
      have := hval t v (hget t v hv)
      generalize a0.tmps.getD t undef = V at this
      cases this <;> rfl
    have h0 : Rel B c0 s0 a0 := by
      refine ⟨hgood, ⟨rfl, rfl, rfl, Nat.le_refl _, fun _ _ _ => rfl, Ext.refl _ _, fun _ _ _ _ hi => hi⟩, hobjs, fun t v hv => EnvRep.of_rep (hplain t v hv) (hval t v (hget t v hv)),
        fun t v hv k hk => hkeys k (keys_mem_of (hget t v hv) k hk), fun k o b ho hb => .inr ⟨k, o, ho, hb⟩, rfl, rfl, fun k hk => hk⟩
    refine calls_of_wp hf hbody ?_
    refine runC_sound (B := B) hX rfl hm (fun k hk => (live_enter hk).1) f hO code [] (by simp [bodyOf, subC, hf, hbody]) hcode' n s0 c0 a0 _ (r, os') _ he h0 hplain fun ex s' c' a' hex hr' hn' => ?_
    have hfin : finishN X fn s' = some (r, os') → a'.defers = [] ∧ ∃ v, (results fn a'.tmps).run X.P c'.w = .ok v c'.w ∧ ∃ c2 x, Ending.returned v = .returned x ∧ c2.w = c'.w ∧ Good X.G c2 ∧
      Frame { c0 := c0, D := held c0 (enterObjs [] keyBase), K := live (enterObjs [] keyBase), G := X.G, N := 0 } c2 ∧
      Objs c2 (enterObjs os' keyBase) ∧ Rep c2 r x ∧ (∀ k ∈ r.keys, live (enterObjs os' keyBase) k) ∧
      ∀ k o b, alook (enterObjs os' keyBase) k = some o → excl c2 k o = some b → c0.w.heap.size ≤ b ∨ held c0 (enterObjs [] keyBase) b := by
      intro hfin
      refine ⟨hr'.defers, ?_⟩
      unfold finishN at hfin
      cases h1 : resultL X s' fn.results.toList with
      | none => simp [h1] at hfin
      | some rs =>
      rw [h1] at hfin
      split at hfin
      · rename_i k off hrs
        simp only [Option.some.injEq] at hrs
        subst hrs
        cases ho : alook s'.objs k with
        | none => simp [ho] at hfin
        | some o =>
        simp only [ho] at hfin
        obtain ⟨hb, hfin⟩ := cond_none hfin
        simp only [Option.some.injEq, Prod.mk.injEq] at hfin
        obtain ⟨rfl, rfl⟩ := hfin
        have hnil : o.keys = [] := by cases hk : o.keys with | nil => rfl | cons q l => simp [hk, isNil] at hb
        obtain ⟨xs, hs, hrun⟩ := resultL_sound X hr' hn' h1
        have hl : xs.length = 1 := by rw [hs.1]; rfl
        obtain ⟨x, rfl⟩ := List.length_eq_one_iff.1 hl
        have hx : Rep c' (.ref k off) x := (hs.2 0 (.ref k off) rfl).rep
        have hm' : (fn.results.mapM (m := Sem) (resF a'.tmps)).run X.P c'.w = .ok [x].toArray c'.w := by
          rw [Array.mapM_eq_mapM_toList]
          simp only [Sem.run_map]
          rw [hrun]; rfl
        have hres : (results fn a'.tmps).run X.P c'.w = .ok x c'.w := by
          rw [results_eq]
          simp only [Sem.run_bind, hm', Result.andThen_ok]
          rfl
        let c2 : Cx := { w := c'.w, I := c'.I, β := fun _ => c'.β k, κ := fun _ => c'.κ k, fr := fun _ => c'.fr k }
        have hone : ∀ q o', alook (enterObjs [o.ren fun _ => keyBase] keyBase) q = some o' → q = keyBase ∧ o' = o.ren fun _ => keyBase := by
          intro q o' h
          simp only [enterObjs, alook] at h
          cases hq : Nat.beq keyBase q with
          | true => rw [hq] at h; simp at h; exact ⟨(beqT hq).symm, h.symm⟩
          | false => rw [hq] at h; simp at h
        have hlive : live (enterObjs [o.ren fun _ => keyBase] keyBase) keyBase := ⟨_, rfl⟩
        have hno : ∀ q, ¬ live (enterObjs [] keyBase) q := by rintro q ⟨o', h⟩; cases h
        refine ⟨x, hres, c2, x, rfl, rfl, ⟨hr'.good.there, fun g cs hg => (hr'.good.globs g cs hg).ext (ks := fun _ => False) ⟨fun _ _ _ _ hv => hv, fun _ _ hi => hi, fun _ hk => hk.elim, fun _ hk => hk.elim⟩ (by simp [AV.keys])⟩,
          ⟨hr'.frame.os, hr'.frame.output, hr'.frame.tape, hr'.frame.size, hr'.frame.block, ⟨hr'.frame.ext.cell, hr'.frame.ext.I, fun q hq => absurd hq (hno q), fun q hq => absurd hq (hno q)⟩, hr'.frame.new⟩,
          ⟨fun q o' h => ?_, fun q o1 q' o2 b h h' hne => ?_, fun q o' h p hp => ?_⟩, ?_, fun q hq => ?_, fun q o' b h hb' => ?_⟩
        · obtain ⟨rfl, rfl⟩ := hone q o' h
          exact (hr'.objs.rep k o ho).ren rfl rfl rfl rfl rfl fun q hq => by rw [hnil] at hq; cases hq
        · obtain ⟨e1, _⟩ := hone q o1 h
          obtain ⟨e2, _⟩ := hone q' o2 h'
          exact absurd (e1.trans e2.symm) hne
        · obtain ⟨rfl, rfl⟩ := hone q o' h
          obtain ⟨q', hq', _⟩ := AO.ren_keys _ _ p hp
          rw [hnil] at hq'; cases hq'
        · exact Rep.ren (c := c') (c' := c2) (m := fun _ => keyBase) (fun _ _ _ _ hv => hv) (fun _ _ hi => hi) hx fun q hq => by
            have : q = k := by simpa [AV.keys] using hq
            subst this; exact ⟨rfl, fun _ _ h => h⟩
        · have : q = keyBase := by simpa [AV.keys] using hq
          subst this; exact hlive
        · obtain ⟨rfl, rfl⟩ := hone q o' h
          rw [show excl c2 keyBase (o.ren fun _ => keyBase) = excl c' k o from excl_ren rfl rfl] at hb'
          exact hr'.mine k o b ho hb'
      · cases hfin
    cases ex with
    | exit id => simp at hex
    | nor => exact hfin hex
    | ret => exact hfin hex
theorem ct_new {V : Env} {T : List Ent} {d : Nat} {f : FuncId} {n : Nat} {l : List AV} {r : AV × List AO} (hm : V.P.follows .mixedOrders = true) (hP : FuncsOk V.P) (hT : TabOk V T)
    (he : runFN (V.run T d [] [] [] f) n f l = some r) : Ct V.P V.G f l [] r := by
  have hO : OracOk (V.run T d [] [] [] f) f := by
    refine ⟨fun p g hg => ?_, fun p g hg => ?_, fun p g hg => ?_⟩
    all_goals
      simp only [Env.run, Nat.beq_refl, cond_true] at hg
      exact absurd (orGet_mem hg) (List.not_mem_nil)
  have hh := he
  unfold runFN at hh
  cases hf : (V.run T d [] [] [] f).P.funcs[f]? with
  | none => simp only [hf] at hh; cases hh
  | some fn =>
    have hf' : V.P.funcs[f]? = some fn := hf
    obtain ⟨h1, h2⟩ := hP f fn hf'
    refine ⟨runFN_sound (X := V.run T d [] [] [] f) (calls_tab hm hP hT d [] [] [] f) hm hO hf h2 he, fn, hf', h1, ?_⟩
    cases hb : fn.body with
    | none => simp only [hf, hb] at hh; cases hh
    | some c => rfl
end Go.Ab

namespace Go.SH
open Go Go.Ab Go.Proofs
set_option linter.unusedVariables false
set_option linter.unusedSimpArgs false
def φNew (C : CODES) : AV × List AO := (.ref keyBase 0, [codO C])
set_option maxRecDepth 100000 in
theorem new_m (n : Nat) (g : Nat → Int) (m : Int)  : runFN (V2.run [] 3 [] [] [] 12) 9 12 [.sl .no 1 n fun j => [.int .u8 (g j)], .int .i64 m] =
  cond (decide ((↑n : Int) > m)) (cond (decide (0 ≤ (↑0 : Int)) && (decide ((↑0 : Int) ≤ m) && decide (m ≤ (↑n : Int)))) (some ((.ref 1000000 0, [.cells [.sl .no 1 (Int.toNat m - Int.toNat (↑0 : Int)) fun j => [.int .u8 (g (Int.toNat (↑0 : Int) + j))], .int .i64 0] ]))) (none)) (some ((.ref 1000000 0, [.cells [.sl .no 1 n fun j => [.int .u8 (g j)], .int .i64 0] ]))) := by kernel_rfl
set_option maxRecDepth 100000 in
theorem mod_m (x m : Int)  : runF (V2.run [] 3 [] [] [] 27) 9 27 [.int .i64 x, .int .i64 m] [] =
  cond (m != 0) (cond (decide (Int.tmod x m < 0)) (some ((.int .i64 (IntKind.wrap IntKind.i64 (Int.tmod x m + m)), []))) (some ((.int .i64 (Int.tmod x m), [])))) (none) := by kernel_rfl
theorem new_ok {n : Nat} {g : Nat → Int} (hg : ∀ j, j < n → 0 ≤ g j ∧ g j < 256) {m : Int} (h0 : 0 ≤ m) (h1 : m ≤ 1000) : ∃ C : CODES, C.Ok ∧ Ct V2.P V2.G 12 [.sl .no 1 n fun j => [.int .u8 (g j)], .int .i64 m] [] (φNew C) := by
  have e := new_m n g m
  by_cases h : (n : Int) > m
  · rw [decide_eq_true h, decide_eq_true (show (0 : Int) ≤ 0 from Int.le_refl _), decide_eq_true (show (0 : Int) ≤ m from h0), decide_eq_true (show m ≤ (n : Int) by omega)] at e
    have hz : (fun j => [AV.int .u8 (g (Int.toNat 0 + j))]) = fun j => [AV.int .u8 (g j)] := by
      funext j; rw [show Int.toNat 0 = 0 from rfl, Nat.zero_add]
    rw [hz] at e
    exact ⟨⟨m.toNat, g, 0⟩, ⟨Nat.zero_le _, by show m.toNat ≤ _; omega, fun j hj => hg j (by have : j < m.toNat := hj; omega)⟩, ct_new mixed2 funcs2 tabOk_nil e⟩
  · rw [decide_eq_false h] at e
    exact ⟨⟨n, g, 0⟩, ⟨Nat.zero_le _, by show n ≤ _; omega, hg⟩, ct_new mixed2 funcs2 tabOk_nil e⟩
def mA (x : Int × Int) : List AV := [.int .i64 x.1, .int .i64 x.2]
theorem mod_ex (x : Int × Int) (hm : 1 ≤ x.2 ∧ x.2 ≤ 1000000) : ∃ z : Int, (0 ≤ z ∧ z < x.2) ∧ Ct V2.P V2.G 27 (mA x) [] (φE z) := by
  obtain ⟨x, m⟩ := x
  obtain ⟨h1, h2⟩ := hm
  have h1 : 1 ≤ m := h1
  have h2 : m ≤ 1000000 := h2
  have e := mod_m x m
  rw [show (m != 0) = true by simp; omega] at e
  have l1 := Int.tmod_lt_of_pos x (show 0 < m by omega)
  have l2 := Int.lt_tmod_of_pos x (show 0 < m by omega)
  have hc := fun r he => ct_loops (V := V2) (f := 27) (l := mA (x, m)) (os := []) (r := r) (n := 9) (d := 3) (T := []) (L := []) mixed2 funcs2 tabOk_nil loopsOk_nil he
  by_cases h : Int.tmod x m < 0
  · rw [decide_eq_true h, wrap_i64 (by omega) (by omega)] at e
    exact ⟨Int.tmod x m + m, ⟨by omega, by show Int.tmod x m + m < m; omega⟩, hc _ e⟩
  · rw [decide_eq_false h] at e
    exact ⟨Int.tmod x m, ⟨by omega, l1⟩, hc _ e⟩
def mP (x : Int × Int) : Prop := 1 ≤ x.2 ∧ x.2 ≤ 1000000
def mPost (x : Int × Int) (z : Int) : Prop := 0 ≤ z ∧ z < x.2
theorem mPost_kind (a b : Int × Int) (z : Int) (h : mA a = mA b) (_ : (fun _ : Int × Int => ([] : List AO)) a = (fun _ => []) b) (hz : mPost a z) : mPost b z := by
  simp only [mA, List.cons.injEq, AV.int.injEq, true_and, and_true] at h
  unfold mPost at *
  rw [← h.2]; exact hz
end Go.SH

namespace Go.SH
open Go Go.Ab Go.Proofs
set_option linter.unusedVariables false
set_option linter.unusedSimpArgs false
structure ZV where
  s : List (Int × Int)
  n : Int
  bk : Int
  k : Int
  l : List RG
  x : List RG
  y : EXPT
instance : Inhabited EXPT := ⟨⟨[], [], [], [], 0, [], [], default⟩⟩
instance : Inhabited ZV := ⟨⟨[], 0, 0, 0, [], [], default⟩⟩
def nil1 : List AV := [.sl .fit 0 0 fun _ => [] ]
def M0 (z : ZV) (i : Int) : St := { env := [(1, spnL z.s), (3, .int .i64 z.n), (4, .int .i64 z.bk), (12, .int .i64 z.k), (13, rngL z.x), (14, .ref 14 0), (55, .sl .fit 1 3 (fillGet nil1 [(0, rngL z.l), (1, rngL z.x), (2, rngL z.y.arms)])), (56, .int .i64 3), (57, .int .i64 i)], objs := [(14, .cells z.y.c)] }
def outM0 (z : ZV) (k : Ex → St → Res) : Res := k (.exit 0) { env := [(1, spnL z.s), (4, .int .i64 z.bk), (12, .int .i64 z.k), (13, rngL z.x), (14, .ref 14 0)], objs := [(14, .cells z.y.c)] }
def M2 (z : ZV) (i : Int) : St := { env := [(4, .int .i64 z.bk), (12, .int .i64 z.k), (13, rngL z.x), (81, .sl .fit 1 2 (fillGet nil1 [(0, spnL z.s), (1, spnL z.y.claims)])), (82, .int .i64 2), (83, .int .i64 i)], objs := [] }
def outM2 (z : ZV) (k : Ex → St → Res) : Res := k (.exit 2) { env := [(4, .int .i64 z.bk), (12, .int .i64 z.k), (13, rngL z.x)], objs := [] }
def M4 (x : List RG) (b : Int) (c i : Int) : St := { env := [(13, rngL x), (19, .int .i64 b), (20, .int .i64 c), (21, .int .i64 i)], objs := [] }
def outM4 (x : List RG) (b : Int) (_ : Unit) (k : Ex → St → Res) : Res := k (.exit 4) { env := [(13, rngL x), (19, .int .i64 b), (20, .int .i64 1)], objs := [] }
set_option maxRecDepth 100000 in
theorem sp_0 (gs gt : List AV → List AO → Bool) (vs vt : List AV → List AO → Int) (T : List Ent) (L : List (List Nat × Orc)) (m : Nat) (z : ZV) (kn : St → Res) (k : Ex → St → Res) {t1 : Int} (h_t1 : vs [rngL (ZV.l z), .int .i64 (ZV.n z)] [] = t1) {t2 : Int} (h_t2 : vt [rngL (ZV.l z), .int .i64 (ZV.n z)] [] = t2) {t3 : Int} (h_t3 : vs [rngL (ZV.l z), .int .i64 (ZV.k z)] [] = t3) {t4 : Int} (h_t4 : vt [rngL (ZV.l z), .int .i64 (ZV.k z)] [] = t4) : roundR (V2.run (mkE 23 gs vs φE :: mkE 24 gt vt φE :: T) 1 [] L [] 4) 4 m [1, 1, 1, 1, 1, 1, 1, 0, 1, 0] (M0 z 0) kn k =
  cond (gs [rngL (ZV.l z), .int .i64 (ZV.n z)] []) (cond (gt [rngL (ZV.l z), .int .i64 (ZV.n z)] []) (cond (gs [rngL (ZV.l z), .int .i64 (ZV.k z)] []) (cond (gt [rngL (ZV.l z), .int .i64 (ZV.k z)] []) (cond (bif t1 != t2 then true else t3 != t4) (k (.ret) ({ env := [(10, .bool false)], objs := [] })) (kn (M0 z (IntKind.wrap IntKind.i64 (0 + 1))))) (none)) (none)) (none)) (none) := by subst h_t4 h_t3 h_t2 h_t1; kernel_rfl
set_option maxRecDepth 100000 in
theorem sp_1 (gs gt : List AV → List AO → Bool) (vs vt : List AV → List AO → Int) (T : List Ent) (L : List (List Nat × Orc)) (m : Nat) (z : ZV) (kn : St → Res) (k : Ex → St → Res) {t1 : Int} (h_t1 : vs [rngL (ZV.x z), .int .i64 (ZV.n z)] [] = t1) {t2 : Int} (h_t2 : vt [rngL (ZV.x z), .int .i64 (ZV.n z)] [] = t2) {t3 : Int} (h_t3 : vs [rngL (ZV.x z), .int .i64 (ZV.k z)] [] = t3) {t4 : Int} (h_t4 : vt [rngL (ZV.x z), .int .i64 (ZV.k z)] [] = t4) : roundR (V2.run (mkE 23 gs vs φE :: mkE 24 gt vt φE :: T) 1 [] L [] 4) 4 m [1, 1, 1, 1, 1, 1, 1, 0, 1, 0] (M0 z 1) kn k =
  cond (gs [rngL (ZV.x z), .int .i64 (ZV.n z)] []) (cond (gt [rngL (ZV.x z), .int .i64 (ZV.n z)] []) (cond (gs [rngL (ZV.x z), .int .i64 (ZV.k z)] []) (cond (gt [rngL (ZV.x z), .int .i64 (ZV.k z)] []) (cond (bif t1 != t2 then true else t3 != t4) (k (.ret) ({ env := [(10, .bool false)], objs := [] })) (kn (M0 z (IntKind.wrap IntKind.i64 (1 + 1))))) (none)) (none)) (none)) (none) := by subst h_t4 h_t3 h_t2 h_t1; kernel_rfl
set_option maxRecDepth 100000 in
theorem sp_2 (gs gt : List AV → List AO → Bool) (vs vt : List AV → List AO → Int) (T : List Ent) (L : List (List Nat × Orc)) (m : Nat) (z : ZV) (kn : St → Res) (k : Ex → St → Res) {t1 : Int} (h_t1 : vs [rngL (EXPT.arms (ZV.y z)), .int .i64 (ZV.n z)] [] = t1) {t2 : Int} (h_t2 : vt [rngL (EXPT.arms (ZV.y z)), .int .i64 (ZV.n z)] [] = t2) {t3 : Int} (h_t3 : vs [rngL (EXPT.arms (ZV.y z)), .int .i64 (ZV.k z)] [] = t3) {t4 : Int} (h_t4 : vt [rngL (EXPT.arms (ZV.y z)), .int .i64 (ZV.k z)] [] = t4) : roundR (V2.run (mkE 23 gs vs φE :: mkE 24 gt vt φE :: T) 1 [] L [] 4) 4 m [1, 1, 1, 1, 1, 1, 1, 0, 1, 0] (M0 z 2) kn k =
  cond (gs [rngL (EXPT.arms (ZV.y z)), .int .i64 (ZV.n z)] []) (cond (gt [rngL (EXPT.arms (ZV.y z)), .int .i64 (ZV.n z)] []) (cond (gs [rngL (EXPT.arms (ZV.y z)), .int .i64 (ZV.k z)] []) (cond (gt [rngL (EXPT.arms (ZV.y z)), .int .i64 (ZV.k z)] []) (cond (bif t1 != t2 then true else t3 != t4) (k (.ret) ({ env := [(10, .bool false)], objs := [] })) (kn (M0 z (IntKind.wrap IntKind.i64 (2 + 1))))) (none)) (none)) (none)) (none) := by subst h_t4 h_t3 h_t2 h_t1; kernel_rfl
set_option maxRecDepth 100000 in
theorem sp_3 (T : List Ent) (L : List (List Nat × Orc)) (m : Nat) (z : ZV) (kn : St → Res) (k : Ex → St → Res)  : roundR (V2.run T 1 [] L [] 4) 4 m [1, 1, 1, 1, 1, 1, 1, 0, 1, 0] (M0 z 3) kn k =
  k (.exit 0) ({ env := [(1, spnL (ZV.s z)), (4, .int .i64 (ZV.bk z)), (12, .int .i64 (ZV.k z)), (13, rngL (ZV.x z)), (14, .ref 14 0)], objs := [(14, .cells (EXPT.c (ZV.y z)))] }) := by kernel_rfl
set_option maxRecDepth 100000 in
theorem sq_0 (gs gt ga gb : List AV → List AO → Bool) (vs vt va vb : List AV → List AO → Int) (T : List Ent) (L : List (List Nat × Orc)) (m : Nat) (z : ZV) (kn : St → Res) (k : Ex → St → Res) {t1 : Int} (h_t1 : va [spnL (ZV.s z)] [] = t1) {t2 : Int} (h_t2 : vb [spnL (ZV.s z)] [] = t2) : roundR (V2.run (mkE 23 gs vs φE :: mkE 24 gt vt φE :: mkE 25 ga va φE :: mkE 26 gb vb φE :: T) 1 [] L [] 4) 4 m [1, 1, 1, 1, 1, 1, 1, 1, 0, 1, 0] (M2 z 0) kn k =
  cond (ga [spnL (ZV.s z)] []) (cond (gb [spnL (ZV.s z)] []) (cond (t1 != t2) (k (.ret) ({ env := [(10, .bool false)], objs := [] })) (kn (M2 z (IntKind.wrap IntKind.i64 (0 + 1))))) (none)) (none) := by subst h_t2 h_t1; kernel_rfl
set_option maxRecDepth 100000 in
theorem sq_1 (gs gt ga gb : List AV → List AO → Bool) (vs vt va vb : List AV → List AO → Int) (T : List Ent) (L : List (List Nat × Orc)) (m : Nat) (z : ZV) (kn : St → Res) (k : Ex → St → Res) {t1 : Int} (h_t1 : va [spnL (EXPT.claims (ZV.y z))] [] = t1) {t2 : Int} (h_t2 : vb [spnL (EXPT.claims (ZV.y z))] [] = t2) : roundR (V2.run (mkE 23 gs vs φE :: mkE 24 gt vt φE :: mkE 25 ga va φE :: mkE 26 gb vb φE :: T) 1 [] L [] 4) 4 m [1, 1, 1, 1, 1, 1, 1, 1, 0, 1, 0] (M2 z 1) kn k =
  cond (ga [spnL (EXPT.claims (ZV.y z))] []) (cond (gb [spnL (EXPT.claims (ZV.y z))] []) (cond (t1 != t2) (k (.ret) ({ env := [(10, .bool false)], objs := [] })) (kn (M2 z (IntKind.wrap IntKind.i64 (1 + 1))))) (none)) (none) := by subst h_t2 h_t1; kernel_rfl
set_option maxRecDepth 100000 in
theorem sq_2 (T : List Ent) (L : List (List Nat × Orc)) (m : Nat) (z : ZV) (kn : St → Res) (k : Ex → St → Res)  : roundR (V2.run T 1 [] L [] 4) 4 m [1, 1, 1, 1, 1, 1, 1, 1, 0, 1, 0] (M2 z 2) kn k =
  k (.exit 2) ({ env := [(4, .int .i64 (ZV.bk z)), (12, .int .i64 (ZV.k z)), (13, rngL (ZV.x z))], objs := [] }) := by kernel_rfl
set_option maxRecDepth 100000 in
theorem sr_m (T : List Ent) (L : List (List Nat × Orc)) (m : Nat) (x : List RG) (b c : Int) (i : Nat) (kn : St → Res) (k : Ex → St → Res)  : roundR (V2.run T 1 [] L [] 4) 4 m [1, 1, 1, 1, 1, 1, 1, 1, 1, 1, 1, 0, 1, 0] (M4 x b c i) kn k =
  cond (decide ((↑i : Int) < (↑(List.length x) : Int))) (cond (within (↑i : Int) (List.length x)) (cond (bif within (↑i : Int) (List.length x) then true else !bif decide (Prod.fst (List.getD x (Int.toNat (↑i : Int)) (0, 0, 0)) ≤ b) == true then true else false) (cond (bif decide (Prod.fst (List.getD x (Int.toNat (↑i : Int)) (0, 0, 0)) ≤ b) then decide (b < Prod.fst (Prod.snd (List.getD x (Int.toNat (↑i : Int)) (0, 0, 0)))) else false) (kn (M4 x b (IntKind.wrap IntKind.i64 (c + 1)) (IntKind.wrap IntKind.i64 ((↑i : Int) + 1)))) (kn (M4 x b c (IntKind.wrap IntKind.i64 ((↑i : Int) + 1))))) (none)) (none)) (k (.exit 4) ({ env := [(13, rngL x), (19, .int .i64 b), (20, .int .i64 c)], objs := [] })) := by kernel_rfl
set_option maxRecDepth 100000 in
theorem spl_m (gs gt ga gb : List AV → List AO → Bool) (vs vt va vb : List AV → List AO → Int) (gaw gn ge gq gw gx gm gp : List AV → List AO → Bool) (vaw : List AV → List AO → Bool) (vn : List AV → List AO → CODES) (ve vw : List AV → List AO → Int × CODES) (vq : List AV → List AO → List RG × CODES) (vx : List AV → List AO → EXPT × CODES) (vm vp : List AV → List AO → Int) (g1 g2 g3 : St → Bool) (v1 v2 : St → ZV) (v3 : St → Unit) (x : List RG) (b : Int) (l : List RG) (s : List (Int × Int)) (n : Nat) (g : Nat → Int) (nn bk : Int) {t1 : CODES} (h_t1 : vn [.sl .no 1 n fun j => [.int .u8 (g j)], .int .i64 60] [] = t1) {t2 : Int × CODES} (h_t2 : ve [.ref 1000000 0, .int .i64 8] [.cells [.sl .no 1 (CODES.n t1) fun j => [.int .u8 (CODES.g t1 j)], .int .i64 (↑(CODES.at' t1) : Int)] ] = t2) {t3 : List RG × CODES} (h_t3 : vq [.ref 1000000 0, .int .i64 (IntKind.wrap IntKind.i64 (1 + Prod.fst t2))] [codO (Prod.snd t2)] = t3) {t4 : Int × CODES} (h_t4 : vw [.ref 1000000 0, .int .i64 4000] [codO (Prod.snd t3)] = t4) {t5 : Int × CODES} (h_t5 : vw [.ref 1000000 0, .int .i64 3000] [codO (Prod.snd t4)] = t5) {t6 : EXPT × CODES} (h_t6 : vx [.ref 1000000 0, .agg (.str [] :: .str [] :: .str [] :: .str [] :: .int .i64 0 :: .sl .fit 2 1 (fillGet [.int .i64 0, .int .i64 0] [(0, .agg [.int .i64 (Prod.fst t4), .int .i64 (IntKind.wrap IntKind.i64 (4001 + Prod.fst t5))])]) :: rngL (Prod.fst t3) :: .int .i64 0 :: .str [] :: .str [] :: (.sl .fit 0 0 fun x => []) :: nil1)] [codO (Prod.snd t5)] = t6) {t7 : ZV} (h_t7 : v1 { env := [(1, spnL s), (3, .int .i64 nn), (4, .int .i64 bk), (12, .int .i64 (IntKind.wrap IntKind.i64 (1 + Prod.fst t2))), (13, rngL (Prod.fst t3)), (14, .ref 14 0), (55, .sl .fit 1 3 (fillGet nil1 [(0, rngL l), (1, rngL (Prod.fst t3)), (2, rngL (EXPT.arms (Prod.fst t6)))])), (56, .int .i64 (↑3 : Int)), (57, .int .i64 0)], objs := [(14, .cells (EXPT.c (Prod.fst t6)))] } = t7) {t8 : ZV} (h_t8 : v2 { env := [(4, .int .i64 (ZV.bk t7)), (12, .int .i64 (ZV.k t7)), (13, rngL (ZV.x t7)), (81, .sl .fit 1 2 (fillGet nil1 [(0, spnL (ZV.s t7)), (1, spnL (EXPT.claims (ZV.y t7)))])), (82, .int .i64 (↑2 : Int)), (83, .int .i64 0)], objs := [] } = t8) {t9 : Int} (h_t9 : vs [rngL (ZV.x t8), .int .i64 (ZV.k t8)] [] = t9) {t10 : Int} (h_t10 : vm [.int .i64 (ZV.bk t8), .int .i64 10000] [] = t10) {t11 : Unit} (h_t11 : v3 { env := [(13, rngL (ZV.x t8)), (19, .int .i64 t10), (20, .int .i64 0), (21, .int .i64 0)], objs := [] } = t11) {t12 : Int} (h_t12 : vp [rngL x, .int .i64 b] [] = t12) : runF (V2.run [mkE 23 gs vs φE, mkE 24 gt vt φE, mkE 25 ga va φE, mkE 26 gb vb φE, mkE 10 gaw vaw φB, mkE 12 gn vn φNew, mkE 19 ge ve φX, mkE 20 gq vq φRg, mkE 22 gw vw φX, mkE 21 gx vx φEx, mkE 27 gm vm φE, mkE 28 gp vp φE] 1 [] [([1, 1, 1, 1, 1, 1, 1, 0, 1, 0], mkO g1 v1 outM0), ([1, 1, 1, 1, 1, 1, 1, 1, 0, 1, 0], mkO g2 v2 outM2), ([1, 1, 1, 1, 1, 1, 1, 1, 1, 1, 1, 0, 1, 0], mkO g3 v3 (outM4 x b))] [] 4) 9 4 [rngL l, spnL s, .sl .no 1 n fun j => [.int .u8 (g j)], .int .i64 nn, .int .i64 bk] [] =
  cond (gaw [] []) (cond (!vaw [] []) (some ((.bool false, []))) (cond (bif decide ((↑(List.length l) : Int) > 40) then true else decide ((↑(List.length s) : Int) > 40)) (some ((.bool true, []))) (cond (gn [.sl .no 1 n fun j => [.int .u8 (g j)], .int .i64 60] []) (cond (ge [.ref 1000000 0, .int .i64 8] [.cells [.sl .no 1 (CODES.n t1) fun j => [.int .u8 (CODES.g t1 j)], .int .i64 (↑(CODES.at' t1) : Int)] ]) (cond (gq [.ref 1000000 0, .int .i64 (IntKind.wrap IntKind.i64 (1 + Prod.fst t2))] [codO (Prod.snd t2)]) (cond (gw [.ref 1000000 0, .int .i64 4000] [codO (Prod.snd t3)]) (cond (gw [.ref 1000000 0, .int .i64 3000] [codO (Prod.snd t4)]) (cond (gx [.ref 1000000 0, .agg (.str [] :: .str [] :: .str [] :: .str [] :: .int .i64 0 :: .sl .fit 2 1 (fillGet [.int .i64 0, .int .i64 0] [(0, .agg [.int .i64 (Prod.fst t4), .int .i64 (IntKind.wrap IntKind.i64 (4001 + Prod.fst t5))])]) :: rngL (Prod.fst t3) :: .int .i64 0 :: .str [] :: .str [] :: (.sl .fit 0 0 fun x => []) :: nil1)] [codO (Prod.snd t5)]) (cond (g1 { env := [(1, spnL s), (3, .int .i64 nn), (4, .int .i64 bk), (12, .int .i64 (IntKind.wrap IntKind.i64 (1 + Prod.fst t2))), (13, rngL (Prod.fst t3)), (14, .ref 14 0), (55, .sl .fit 1 3 (fillGet nil1 [(0, rngL l), (1, rngL (Prod.fst t3)), (2, rngL (EXPT.arms (Prod.fst t6)))])), (56, .int .i64 (↑3 : Int)), (57, .int .i64 0)], objs := [(14, .cells (EXPT.c (Prod.fst t6)))] }) (cond (g2 { env := [(4, .int .i64 (ZV.bk t7)), (12, .int .i64 (ZV.k t7)), (13, rngL (ZV.x t7)), (81, .sl .fit 1 2 (fillGet nil1 [(0, spnL (ZV.s t7)), (1, spnL (EXPT.claims (ZV.y t7)))])), (82, .int .i64 (↑2 : Int)), (83, .int .i64 0)], objs := [] }) (cond (gs [rngL (ZV.x t8), .int .i64 (ZV.k t8)] []) (cond (t9 != 0) (some ((.bool false, []))) (cond (gm [.int .i64 (ZV.bk t8), .int .i64 10000] []) (cond (g3 { env := [(13, rngL (ZV.x t8)), (19, .int .i64 t10), (20, .int .i64 0), (21, .int .i64 0)], objs := [] }) (cond (gp [rngL x, .int .i64 b] []) (some ((.bool (bif 1 == 1 then decide (t12 ≥ 1) else false), []))) (none)) (none)) (none))) (none)) (none)) (none)) (none)) (none)) (none)) (none)) (none)) (none)))) (none) := by subst h_t12 h_t11 h_t10 h_t9 h_t8 h_t7 h_t6 h_t5 h_t4 h_t3 h_t2 h_t1; kernel_rfl
end Go.SH

namespace Go.SH
open Go Go.Ab Go.Proofs
set_option linter.unusedVariables false
set_option linter.unusedSimpArgs false
theorem spnL_inj {a b : List (Int × Int)} (h : spnL a = spnL b) : a = b := by
  simp only [spnL, AV.sl.injEq, true_and] at h
  obtain ⟨h1, h2⟩ := h
  apply List.ext_getElem h1
  intro j j1 j2
  have := congrFun h2 j
  simp only [List.getD, List.getElem?_eq_getElem j1, List.getElem?_eq_getElem j2, Option.getD_some, spnC, List.cons.injEq, AV.int.injEq, true_and, and_true] at this
  exact Prod.ext this.1 this.2
def pk (b : Int) : List RG → Bool × Int
  | [] => (false, 0)
  | r :: l => bif inR b r then (true, r.2.2) else pk b l
theorem pk_pickL (b : Int) : ∀ l, (bif (pk b l).1 then (pk b l).2 else 0) = pickL b l
  | [] => rfl
  | r :: l => by
    rw [pk, pickL]
    cases inR b r with
    | true => rfl
    | false => exact pk_pickL b l
theorem inR_bif (b : Int) (r : RG) : (bif decide (r.1 ≤ b) then decide (b < r.2.1) else false) = inR b r := by
  unfold inR
  cases decide (r.1 ≤ b) <;> rfl
theorem drop_at {l : List RG} {i : Nat} (h : i < l.length) : l.drop i = l.getD i (0, 0, 0) :: l.drop (i + 1) := by
  rw [List.drop_eq_getElem_cons h, List.getD_eq_getElem?_getD, List.getElem?_eq_getElem h]; rfl
def pkOut (x : Int) (k : Ex → St → Res) : Res := k .ret { env := [(4, .int .i64 x)], objs := [] }
def pkEnd (k : Ex → St → Res) : Res := k (.exit 0) { env := [], objs := [] }
theorem pick_loop (l : List RG) (b : Int) (hm : l.length ≤ 1000000) : ∀ L : List (List Nat × Orc), LoopOk (V2.run [] 3 [] L [] 28) 28 [1, 0, 1, 0] (mkO (goodS (K28 l b) (· ≤ l.length)) (valS (K28 l b) (· ≤ l.length) fun i => pk b (l.drop i)) (outB pkOut pkEnd)) := fun L =>
  loopOk_of (X := V2.run [] 3 [] L [] 28) (b := subC (bodyOf V2.P 28) ([1, 0, 1, 0] ++ [0])) (K28 l b) (· ≤ l.length) (fun i => l.length - i) (fun i => pk b (l.drop i)) (outB pkOut pkEnd) (by kernel_rfl) 9 fun i hi k kn hk => by
    refine (dpk_r L 9 l b i kn k).trans ?_
    by_cases hlt : i < l.length
    · have hw : within (i : Int) l.length = true := within_of (by omega) (by omega)
      refine (cT (decide_eq_true (by omega))).trans ?_
      refine (cT hw).trans ?_
      refine (cT (by rw [hw]; rfl)).trans ?_
      show cond (bif decide ((l.getD i (0, 0, 0)).1 ≤ b) then decide (b < (l.getD i (0, 0, 0)).2.1) else false) _ _ = outB pkOut pkEnd (pk b (l.drop i)) k
      rw [inR_bif]
      rw [drop_at hlt, pk]
      cases hr : inR b (l.getD i (0, 0, 0)) with
      | true => exact (cT hw).trans rfl
      | false =>
        have := hk (i + 1) (by show i + 1 ≤ l.length; omega) (by show l.length - (i + 1) < l.length - i; omega)
        refine Eq.trans ?_ this
        show kn { env := [(0, rngL l), (1, .int .i64 b), (5, .int .i64 (IntKind.wrap .i64 ((i : Int) + 1)))], objs := [] } = kn (K28 l b (i + 1))
        rw [wrap_i64 (by omega) (by omega)]; rfl
    · refine (cF (decide_eq_false (by omega))).trans ?_
      have h0 : l.drop i = [] := List.drop_eq_nil_of_le (by omega)
      rw [h0]; rfl
def sA (x : List RG × Int) : List AV := [rngL x.1, .int .i64 x.2]
def sP (x : List RG × Int) : Prop := x.1.length ≤ 1000000
theorem sA_inj {τ : Type} (w : List RG × Int → τ) (a b : List RG × Int) (h : sA a = sA b) : w a = w b := by
  obtain ⟨l, n⟩ := a
  obtain ⟨l', n'⟩ := b
  simp only [sA, List.cons.injEq, AV.int.injEq, true_and, and_true] at h
  obtain ⟨h1, h2⟩ := h
  have := rngL_inj h1
  subst this h2; rfl
theorem pick_ok (x : List RG × Int) (hm : sP x) : Ct V2.P V2.G 28 (sA x) [] (φE (pickL x.2 x.1)) := by
  obtain ⟨l, b⟩ := x
  have hm : l.length ≤ 1000000 := hm
  have hg : goodS (K28 l b) (· ≤ l.length) (K28 l b 0) = true := goodS_eq (S := K28 l b) (v := 0) (Nat.zero_le _)
  have hv : valS (K28 l b) (· ≤ l.length) (fun i => pk b (l.drop i)) (K28 l b 0) = pk b l := by
    have := valS_eq (S := K28 l b) (Inv := (· ≤ l.length)) (w := fun i => pk b (l.drop i)) (v := 0) (fun i j _ _ h => by
      simp only [K28, St.mk.injEq, List.cons.injEq, Prod.mk.injEq, AV.int.injEq, true_and, and_true] at h
      have : i = j := by omega
      rw [this]) (Nat.zero_le _)
    exact this
  have e := (dpk_m (goodS (K28 l b) (· ≤ l.length)) (valS (K28 l b) (· ≤ l.length) fun i => pk b (l.drop i)) l b (t1 := pk b l) hv).trans (cT hg)
  have e2 : runF (V2.run [] 3 [] [([1, 0, 1, 0], mkO (goodS (K28 l b) (· ≤ l.length)) (valS (K28 l b) (· ≤ l.length) fun i => pk b (l.drop i)) (outB pkOut pkEnd))] [] 28) 9 28 (sA (l, b)) [] = some (φE (pickL b l)) := by
    refine e.trans ?_
    rw [← pk_pickL b l]
    cases (pk b l).1 <;> rfl
  exact ct_loops (V := V2) (f := 28) (n := 9) (d := 3) mixed2 funcs2 tabOk_nil (loopsOk_cons (pick_loop l b hm _) loopsOk_nil) e2
theorem split_23 (x : List RG × Int) (h : sP x) : Ct V2.P V2.G 23 (sA x) [] (φE (splitE x.1 x.2)) := Ct.v2 (split_ok x.1 x.2 (Nat.le_trans h (by omega)))
theorem split_24 (x : List RG × Int) (h : sP x) : Ct V2.P V2.G 24 (sA x) [] (φE (splitE x.1 x.2)) := Ct.v2 (rsplit_ok x.1 x.2 (Nat.le_trans h (by omega)))
def spnA (x : List (Int × Int)) : List AV := [spnL x]
theorem spnA_inj {τ : Type} (w : List (Int × Int) → τ) (a b : List (Int × Int)) (h : spnA a = spnA b) : w a = w b := by
  simp only [spnA, List.cons.injEq, and_true] at h
  rw [spnL_inj h]
theorem spans_25 (x : List (Int × Int)) (h : x.length ≤ 1000000) : Ct V2.P V2.G 25 (spnA x) [] (φE (spansE x)) := Ct.v2 (spans_ok x (Nat.le_trans h (by omega)))
theorem spans_26 (x : List (Int × Int)) (h : x.length ≤ 1000000) : Ct V2.P V2.G 26 (spnA x) [] (φE (spansE x)) := Ct.v2 (rspans_ok x (Nat.le_trans h (by omega)))
noncomputable abbrev gSp : List AV → List AO → Bool := gF sA sP
noncomputable abbrev vSp : List AV → List AO → Int := vF sA sP fun x => splitE x.1 x.2
noncomputable abbrev gSn : List AV → List AO → Bool := gF spnA (fun x => x.length ≤ 1000000)
noncomputable abbrev vSn : List AV → List AO → Int := vF spnA (fun x => x.length ≤ 1000000) spansE
theorem gSp_eq {l : List RG} {n : Int} (h : l.length ≤ 1000000) : gSp [rngL l, .int .i64 n] [] = true := gF_eq (A := sA) (a := (l, n)) h
theorem vSp_eq {l : List RG} {n : Int} (h : l.length ≤ 1000000) : vSp [rngL l, .int .i64 n] [] = splitE l n := vF_eq (A := sA) (a := (l, n)) (sA_inj _) h
theorem gSn_eq {l : List (Int × Int)} (h : l.length ≤ 1000000) : gSn [spnL l] [] = true := gF_eq (A := spnA) (a := l) h
theorem vSn_eq {l : List (Int × Int)} (h : l.length ≤ 1000000) : vSn [spnL l] [] = spansE l := vF_eq (A := spnA) (a := l) (spnA_inj _) h
theorem ne_self (a : Int) : (a != a) = false := by simp
structure ZOk (z : ZV) : Prop where
  s : z.s.length ≤ 1000000
  l : z.l.length ≤ 1000000
  x : z.x.length ≤ 1000000
  a : z.y.arms.length ≤ 1000000
  c : z.y.claims.length ≤ 1000000
theorem loopM0 {z : ZV} (h : ZOk z) (T : List Ent) : ∀ L : List (List Nat × Orc), LoopOk (V2.run (entF 23 sA sP (fun x => splitE x.1 x.2) φE :: entF 24 sA sP (fun x => splitE x.1 x.2) φE :: T) 1 [] L [] 4) 4 [1, 1, 1, 1, 1, 1, 1, 0, 1, 0] (mkO (goodS (fun i : Nat => M0 z (i : Int)) (· ≤ 3)) (valS (fun i : Nat => M0 z (i : Int)) (· ≤ 3) fun _ => z) outM0) := fun L =>
  loopOk_of (X := V2.run (entF 23 sA sP (fun x => splitE x.1 x.2) φE :: entF 24 sA sP (fun x => splitE x.1 x.2) φE :: T) 1 [] L [] 4) (b := subC (bodyOf V2.P 4) ([1, 1, 1, 1, 1, 1, 1, 0, 1, 0] ++ [0])) (fun i : Nat => M0 z (i : Int)) (· ≤ 3) (fun i => 3 - i) (fun _ => z) outM0 (by kernel_rfl) 9 fun i hi k kn hk => by
    match i, hi with
    | 0, _ =>
      refine (sp_0 gSp gSp vSp vSp T L 9 z kn k (vSp_eq h.l) (vSp_eq h.l) (vSp_eq h.l) (vSp_eq h.l)).trans ?_
      refine ((((cT (gSp_eq h.l)).trans (cT (gSp_eq h.l))).trans (cT (gSp_eq h.l))).trans (cT (gSp_eq h.l))).trans ?_
      refine (cF (by rw [ne_self, ne_self]; rfl)).trans ?_
      exact hk 1 (by show 1 ≤ 3; omega) (by show 3 - 1 < 3 - 0; omega)
    | 1, _ =>
      refine (sp_1 gSp gSp vSp vSp T L 9 z kn k (vSp_eq h.x) (vSp_eq h.x) (vSp_eq h.x) (vSp_eq h.x)).trans ?_
      refine ((((cT (gSp_eq h.x)).trans (cT (gSp_eq h.x))).trans (cT (gSp_eq h.x))).trans (cT (gSp_eq h.x))).trans ?_
      refine (cF (by rw [ne_self, ne_self]; rfl)).trans ?_
      exact hk 2 (by show 2 ≤ 3; omega) (by show 3 - 2 < 3 - 1; omega)
    | 2, _ =>
      refine (sp_2 gSp gSp vSp vSp T L 9 z kn k (vSp_eq h.a) (vSp_eq h.a) (vSp_eq h.a) (vSp_eq h.a)).trans ?_
      refine ((((cT (gSp_eq h.a)).trans (cT (gSp_eq h.a))).trans (cT (gSp_eq h.a))).trans (cT (gSp_eq h.a))).trans ?_
      refine (cF (by rw [ne_self, ne_self]; rfl)).trans ?_
      exact hk 3 (by show 3 ≤ 3; omega) (by show 3 - 3 < 3 - 2; omega)
    | 3, _ => exact sp_3 _ L 9 z kn k
theorem loopM2 {z : ZV} (h : ZOk z) (T : List Ent) : ∀ L : List (List Nat × Orc), LoopOk (V2.run (entF 23 sA sP (fun x => splitE x.1 x.2) φE :: entF 24 sA sP (fun x => splitE x.1 x.2) φE :: entF 25 spnA (fun x => x.length ≤ 1000000) spansE φE :: entF 26 spnA (fun x => x.length ≤ 1000000) spansE φE :: T) 1 [] L [] 4) 4 [1, 1, 1, 1, 1, 1, 1, 1, 0, 1, 0] (mkO (goodS (fun i : Nat => M2 z (i : Int)) (· ≤ 2)) (valS (fun i : Nat => M2 z (i : Int)) (· ≤ 2) fun _ => z) outM2) := fun L =>
  loopOk_of (X := V2.run (entF 23 sA sP (fun x => splitE x.1 x.2) φE :: entF 24 sA sP (fun x => splitE x.1 x.2) φE :: entF 25 spnA (fun x => x.length ≤ 1000000) spansE φE :: entF 26 spnA (fun x => x.length ≤ 1000000) spansE φE :: T) 1 [] L [] 4) (b := subC (bodyOf V2.P 4) ([1, 1, 1, 1, 1, 1, 1, 1, 0, 1, 0] ++ [0])) (fun i : Nat => M2 z (i : Int)) (· ≤ 2) (fun i => 2 - i) (fun _ => z) outM2 (by kernel_rfl) 9 fun i hi k kn hk => by
    match i, hi with
    | 0, _ =>
      refine (sq_0 gSp gSp gSn gSn vSp vSp vSn vSn T L 9 z kn k (vSn_eq h.s) (vSn_eq h.s)).trans ?_
      refine ((cT (gSn_eq h.s)).trans (cT (gSn_eq h.s))).trans ?_
      refine (cF (ne_self _)).trans ?_
      exact hk 1 (by show 1 ≤ 2; omega) (by show 2 - 1 < 2 - 0; omega)
    | 1, _ =>
      refine (sq_1 gSp gSp gSn gSn vSp vSp vSn vSn T L 9 z kn k (vSn_eq h.c) (vSn_eq h.c)).trans ?_
      refine ((cT (gSn_eq h.c)).trans (cT (gSn_eq h.c))).trans ?_
      refine (cF (ne_self _)).trans ?_
      exact hk 2 (by show 2 ≤ 2; omega) (by show 2 - 2 < 2 - 1; omega)
    | 2, _ => exact sq_2 _ L 9 z kn k
theorem hits_app (b : Int) (r : RG) : ∀ l, hits b (l ++ [r]) = hits b l + (bif inR b r then 1 else 0)
  | [] => by show (bif inR b r then 1 else 0) + 0 = 0 + _; omega
  | q :: l => by
    show (bif inR b q then 1 else 0) + hits b (l ++ [r]) = ((bif inR b q then 1 else 0) + hits b l) + _
    rw [hits_app b r l]; omega
theorem take_at {l : List RG} {i : Nat} (h : i < l.length) : l.take (i + 1) = l.take i ++ [l.getD i (0, 0, 0)] := by
  rw [List.take_succ_eq_append_getElem h, List.getD_eq_getElem?_getD, List.getElem?_eq_getElem h]; rfl
theorem hits_le (b : Int) : ∀ l, hits b l ≤ l.length
  | [] => Nat.le_refl _
  | r :: l => by
    have := hits_le b l
    show (bif inR b r then 1 else 0) + hits b l ≤ l.length + 1
    cases inR b r <;> simp only [cond_true, cond_false] <;> omega
theorem loopM4 {x : List RG} {b : Int} (hm : x.length ≤ 1000000) (h1 : hits b x = 1) (T : List Ent) : ∀ L : List (List Nat × Orc), LoopOk (V2.run T 1 [] L [] 4) 4 [1, 1, 1, 1, 1, 1, 1, 1, 1, 1, 1, 0, 1, 0] (mkO (goodS (fun i : Nat => M4 x b ((hits b (x.take i) : Nat) : Int) (i : Int)) (· ≤ x.length)) (valS (fun i : Nat => M4 x b ((hits b (x.take i) : Nat) : Int) (i : Int)) (· ≤ x.length) fun _ => ()) (outM4 x b)) := fun L =>
  loopOk_of (X := V2.run T 1 [] L [] 4) (b := subC (bodyOf V2.P 4) ([1, 1, 1, 1, 1, 1, 1, 1, 1, 1, 1, 0, 1, 0] ++ [0])) (fun i : Nat => M4 x b ((hits b (x.take i) : Nat) : Int) (i : Int)) (· ≤ x.length) (fun i => x.length - i) (fun _ => ()) (outM4 x b) (by kernel_rfl) 9 fun i hi k kn hk => by
    refine (sr_m T L 9 x b _ i kn k).trans ?_
    by_cases hlt : i < x.length
    · have hw : within (i : Int) x.length = true := within_of (by omega) (by omega)
      have hh := hits_le b (x.take i)
      have hh2 : (x.take i).length ≤ x.length := by rw [List.length_take]; omega
      refine (cT (decide_eq_true (by omega))).trans ?_
      refine (cT hw).trans ?_
      refine (cT (by rw [hw]; rfl)).trans ?_
      show cond (bif decide ((x.getD i (0, 0, 0)).1 ≤ b) then decide (b < (x.getD i (0, 0, 0)).2.1) else false) _ _ = _
      rw [inR_bif]
      have := hk (i + 1) (by show i + 1 ≤ x.length; omega) (by show x.length - (i + 1) < x.length - i; omega)
      rw [take_at hlt, hits_app] at this
      refine Eq.trans ?_ this
      have hwi : IntKind.wrap .i64 ((i : Int) + 1) = ((i + 1 : Nat) : Int) := by rw [wrap_i64 (by omega) (by omega)]; rfl
      rw [hwi]
      cases hr : inR b (x.getD i (0, 0, 0)) with
      | true =>
        rw [cond_true, cond_true, wrap_i64 (by omega) (by omega)]; rfl
      | false => rfl
    · refine (cF (decide_eq_false (by omega))).trans ?_
      have : x.take i = x := List.take_of_length_le (by omega)
      rw [this, h1]; rfl
end Go.SH

namespace Go.SH
open Go Go.Ab Go.Proofs
set_option linter.unusedVariables false
set_option linter.unusedSimpArgs false
def rawX (sp : Int × Int) (X : List RG) : List AV := [.str [], .str [], .str [], .str [], .int .i64 0, .sl .fit 2 1 (fillGet [.int .i64 0, .int .i64 0] [(0, .agg [.int .i64 sp.1, .int .i64 sp.2])]), rngL X, .int .i64 0, .str [], .str [], .sl .fit 0 0 fun _ => [], .sl .fit 0 0 fun _ => [] ]
def rawA (x : (Int × Int) × List RG × CODES) : List AV := [.ref keyBase 0, .agg (rawX x.1 x.2.1)]
def rawP (x : (Int × Int) × List RG × CODES) : Prop := x.2.2.Ok ∧ x.2.1.length ≤ 5
theorem raw_told (sp : Int × Int) (X : List RG) {c : Cx} {v : Value} (h : Rep c (.agg (rawX sp X)) v) : Rep c (.agg (xC [] [] [] [] 0 (.sl .no 2 1 (spA sp)) (rngL X) zE)) v := by
  refine agg_map (us := rawX sp X) rfl (fun i u u' hu hu' => ?_) h
  unfold rawX at hu
  unfold xC at hu'
  match i with
  | 0 => simp only [List.getElem?_cons_zero, Option.some.injEq] at hu hu'; subst hu hu'; exact ⟨rfl, fun _ h => h⟩
  | 1 => simp only [List.getElem?_cons_succ, List.getElem?_cons_zero, Option.some.injEq] at hu hu'; subst hu hu'; exact ⟨rfl, fun _ h => h⟩
  | 2 => simp only [List.getElem?_cons_succ, List.getElem?_cons_zero, Option.some.injEq] at hu hu'; subst hu hu'; exact ⟨rfl, fun _ h => h⟩
  | 3 => simp only [List.getElem?_cons_succ, List.getElem?_cons_zero, Option.some.injEq] at hu hu'; subst hu hu'; exact ⟨rfl, fun _ h => h⟩
  | 4 => simp only [List.getElem?_cons_succ, List.getElem?_cons_zero, Option.some.injEq] at hu hu'; subst hu hu'; exact ⟨rfl, fun _ h => h⟩
  | 5 =>
    simp only [List.getElem?_cons_succ, List.getElem?_cons_zero, Option.some.injEq] at hu hu'; subst hu hu'
    exact ⟨rfl, fun x hx => hx.slWeak fun j hj => by
      obtain rfl : j = 0 := by omega
      rfl⟩
  | 6 => simp only [List.getElem?_cons_succ, List.getElem?_cons_zero, Option.some.injEq] at hu hu'; subst hu hu'; exact ⟨rfl, fun _ h => h⟩
  | 7 => simp only [List.getElem?_cons_succ, List.getElem?_cons_zero, Option.some.injEq] at hu hu'; subst hu hu'; exact ⟨rfl, fun _ h => h⟩
  | 8 => simp only [List.getElem?_cons_succ, List.getElem?_cons_zero, Option.some.injEq] at hu hu'; subst hu hu'; exact ⟨rfl, fun _ h => h⟩
  | 9 => simp only [List.getElem?_cons_succ, List.getElem?_cons_zero, Option.some.injEq] at hu hu'; subst hu hu'; exact ⟨rfl, fun _ h => h⟩
  | 10 => simp only [List.getElem?_cons_succ, List.getElem?_cons_zero, Option.some.injEq] at hu hu'; subst hu hu'; exact ⟨rfl, sl_fit⟩
  | 11 => simp only [List.getElem?_cons_succ, List.getElem?_cons_zero, Option.some.injEq] at hu hu'; subst hu hu'; exact ⟨rfl, sl_fit⟩
  | i + 12 => simp at hu
theorem raw_ex (x : (Int × Int) × List RG × CODES) (hx : rawP x) : ∃ y, exPost y ∧ Ct V2.P V2.G 21 (rawA x) (xO5 x) (φEx y) := by
  obtain ⟨sp, X, C⟩ := x
  obtain ⟨y, h1, h2⟩ := expt_told sp X C hx.1 hx.2
  refine ⟨y, h1, Ct.args (l := rawA (sp, X, C)) (l' := xA5 (sp, X, C)) rfl (by simp [rawA, rawX, xA5, xC, keysL, AV.keys, rngL, valL]) (fun i u u' hu hu' c v hv => ?_) h2⟩
  match i with
  | 0 =>
    simp only [rawA, xA5, List.getElem?_cons_zero, Option.some.injEq] at hu hu'
    subst hu hu'; exact hv
  | 1 =>
    simp only [rawA, xA5, List.getElem?_cons_succ, List.getElem?_cons_zero, Option.some.injEq] at hu hu'
    subst hu hu'; exact raw_told _ _ hv
  | i + 2 => exact absurd (List.getElem?_eq_some_iff.1 hu).1 (by show ¬ i + 2 < 2; omega)
theorem splits_ok {n : Nat} {g : Nat → Int} (hg : ∀ j, j < n → 0 ≤ g j ∧ g j < 256) (l : List RG) (s : List (Int × Int)) (nn bk : Int) : Ct V2.P V2.G 4 [rngL l, spnL s, .sl .no 1 n fun j => [.int .u8 (g j)], .int .i64 nn, .int .i64 bk] [] (φB true) := by
  obtain ⟨C0, hC0, hnew⟩ := new_ok hg (m := 60) (by omega) (by omega)
  obtain ⟨ws, hws, hts⟩ := ent_ex (V := V2) (f := 20) (A := nA) (O := nO) (Pre := spP) (φ := φRg) (Post := spPost) dsplit_ex
  obtain ⟨ww, hww, htw⟩ := ent_ex (V := V2) (f := 22) (A := nA) (O := nO) (Pre := wdP) (φ := φX) (Post := wdPost) wide_ex
  obtain ⟨wx, hwx, htx⟩ := ent_ex (V := V2) (f := 21) (A := rawA) (O := xO5) (Pre := rawP) (φ := φEx) (Post := fun _ y => exPost y) raw_ex
  obtain ⟨wm, hwm, htm⟩ := ent_ex (V := V2) (f := 27) (A := mA) (O := fun _ => []) (Pre := mP) (φ := φE) (Post := mPost) mod_ex
  obtain ⟨k0, k1, kD⟩ := nextR_ok hC0 (m := 8) (by omega)
  cases hk : nextR C0 8 with
  | mk k C1 =>
  rw [hk] at k0 k1 kD
  have k0 : 0 ≤ k := k0
  have k1 : k < 8 := k1
  have kD : C1.Ok := kD
  have hwk : IntKind.wrap .i64 (1 + k) = 1 + k := wrap_i64 (by omega) (by omega)
  have hsP : spP (C1, 1 + k) := ⟨kD, by show 1 ≤ 1 + k; omega, by show 1 + k ≤ 1000; omega⟩
  have gs : goodA nA nO spP [.ref 1000000 0, .int .i64 (1 + k)] [codO C1] = true := goodA_eq (A := nA) (O := nO) (v := (C1, 1 + k)) hsP
  have ps : spPost (C1, 1 + k) (valA nA nO spP ws [.ref 1000000 0, .int .i64 (1 + k)] [codO C1]) := valA_post (A := nA) (O := nO) (a := (C1, 1 + k)) (Post := spPost) hws spPost_kind hsP
  generalize hX : valA nA nO spP ws [.ref 1000000 0, .int .i64 (1 + k)] [codO C1] = y at ps
  obtain ⟨X, C2⟩ := y
  obtain ⟨x1, x2, x3, x4, x5⟩ := ps
  have x1 : chainR (1 + k) 0 0 X := x1
  have x2 : (endR 0 0 X).1 = 10000 := x2
  have x3 : 1 ≤ X.length := x3
  have x4 : X.length ≤ 4 := x4
  have x5 : C2.Ok := x5
  have hw1 : wdP (C2, 4000) := ⟨x5, by show (1 : Int) ≤ 4000; omega, by show (4000 : Int) ≤ 65536; omega⟩
  have gw1 : goodA nA nO wdP [.ref 1000000 0, .int .i64 4000] [codO C2] = true := goodA_eq (A := nA) (O := nO) (v := (C2, 4000)) hw1
  have pw1 : wdPost (C2, 4000) (valA nA nO wdP ww [.ref 1000000 0, .int .i64 4000] [codO C2]) := valA_post (A := nA) (O := nO) (a := (C2, 4000)) (Post := wdPost) hww wdPost_kind hw1
  generalize hy1 : valA nA nO wdP ww [.ref 1000000 0, .int .i64 4000] [codO C2] = y1 at pw1
  obtain ⟨a, C3⟩ := y1
  have c3 : C3.Ok := pw1.2.2
  have hw2 : wdP (C3, 3000) := ⟨c3, by show (1 : Int) ≤ 3000; omega, by show (3000 : Int) ≤ 65536; omega⟩
  have gw2 : goodA nA nO wdP [.ref 1000000 0, .int .i64 3000] [codO C3] = true := goodA_eq (A := nA) (O := nO) (v := (C3, 3000)) hw2
  have pw2 : wdPost (C3, 3000) (valA nA nO wdP ww [.ref 1000000 0, .int .i64 3000] [codO C3]) := valA_post (A := nA) (O := nO) (a := (C3, 3000)) (Post := wdPost) hww wdPost_kind hw2
  generalize hy2 : valA nA nO wdP ww [.ref 1000000 0, .int .i64 3000] [codO C3] = y2 at pw2
  obtain ⟨a', C4⟩ := y2
  have c4 : C4.Ok := pw2.2.2
  have hxP : rawP ((a, IntKind.wrap .i64 (4001 + a')), X, C4) := ⟨c4, by show X.length ≤ 5; omega⟩
  have gx : goodA rawA xO5 rawP (rawA ((a, IntKind.wrap .i64 (4001 + a')), X, C4)) [codO C4] = true := goodA_eq (A := rawA) (O := xO5) (v := ((a, IntKind.wrap .i64 (4001 + a')), X, C4)) hxP
  have px : exPost (valA rawA xO5 rawP wx (rawA ((a, IntKind.wrap .i64 (4001 + a')), X, C4)) [codO C4]) := valA_post (A := rawA) (O := xO5) (a := ((a, IntKind.wrap .i64 (4001 + a')), X, C4)) (Post := fun _ y => exPost y) hwx (fun _ _ _ _ _ h => h) hxP
  generalize hY : valA rawA xO5 rawP wx (rawA ((a, IntKind.wrap .i64 (4001 + a')), X, C4)) [codO C4] = yy at px
  obtain ⟨Y, C5⟩ := yy
  obtain ⟨p1, p2, p3⟩ := px
  have p1 : Y.claims.length ≤ 20 := p1
  have p2 : Y.arms.length ≤ 20 := p2
  have hmP : mP (bk, 10000) := ⟨by show (1 : Int) ≤ 10000; omega, by show (10000 : Int) ≤ 1000000; omega⟩
  have gm : goodA mA (fun _ => []) mP [.int .i64 bk, .int .i64 10000] [] = true := goodA_eq (A := mA) (O := fun _ => []) (v := (bk, 10000)) hmP
  have pm : mPost (bk, 10000) (valA mA (fun _ => []) mP wm [.int .i64 bk, .int .i64 10000] []) := valA_post (A := mA) (O := fun _ => []) (a := (bk, 10000)) (Post := mPost) hwm mPost_kind hmP
  generalize hb : valA mA (fun _ => []) mP wm [.int .i64 bk, .int .i64 10000] [] = b at pm
  obtain ⟨b0, b1⟩ := pm
  have b1 : b < 10000 := b1
  have hh : hits b X = 1 := hits_one x1 b0 (by rw [x2]; exact b1)
  have hp : 1 ≤ pickL b X := pick_one x1 hh
  have h0 : splitE X (1 + k) = 0 := split_good x1 x2 x3 (by omega)
  by_cases hbig : (decide ((l.length : Int) > 40) || decide ((s.length : Int) > 40)) = true
  · have hbig' : (bif decide ((l.length : Int) > 40) then true else decide ((s.length : Int) > 40)) = true := by
      cases h1 : decide ((l.length : Int) > 40) with
      | true => rfl
      | false => rw [h1] at hbig; exact hbig
    have e := spl_m gSp gSp gSn gSn vSp vSp vSn vSn (g1 []) (g1 [.sl .no 1 n fun j => [.int .u8 (g j)], .int .i64 60]) gN (goodA nA nO spP) (goodA nA nO wdP) (goodA rawA xO5 rawP) (goodA mA (fun _ => []) mP) (gF sA sP) (v1 [] true) (v1 [.sl .no 1 n fun j => [.int .u8 (g j)], .int .i64 60] C0) vN (valA nA nO wdP ww) (valA nA nO spP ws) (valA rawA xO5 rawP wx) (valA mA (fun _ => []) mP wm) (vF sA sP fun x => pickL x.2 x.1)
      (fun _ => false) (fun _ => false) (fun _ => false) (fun _ => default) (fun _ => default) (fun _ => ()) X b l s n g nn bk rfl rfl rfl rfl rfl rfl rfl rfl rfl rfl rfl rfl
    have e := ((e.trans (cT (g1_eq []))).trans (cF (by rw [v1_eq]; rfl))).trans (cT hbig')
    exact ct_loops (V := V2) (f := 4) (n := 9) (d := 1) (T := [entF 23 sA sP (fun x => splitE x.1 x.2) φE, entF 24 sA sP (fun x => splitE x.1 x.2) φE, entF 25 spnA (fun x => x.length ≤ 1000000) spansE φE, entF 26 spnA (fun x => x.length ≤ 1000000) spansE φE, ent1 10 [] true φB, ent1 12 [.sl .no 1 n fun j => [.int .u8 (g j)], .int .i64 60] C0 φNew, entN, entC 20 nA nO spP ws φRg, entC 22 nA nO wdP ww φX, entC 21 rawA xO5 rawP wx φEx, entC 27 mA (fun _ => []) mP wm φE, entF 28 sA sP (fun x => pickL x.2 x.1) φE])
      mixed2 funcs2 (tabOk_cons (entF_ok split_23) (tabOk_cons (entF_ok split_24) (tabOk_cons (entF_ok spans_25) (tabOk_cons (entF_ok spans_26) (tabOk_cons (ent1_ok (Ct.v2 awake_ok)) (tabOk_cons (ent1_ok hnew) (tabOk_cons entN_ok (tabOk_cons hts (tabOk_cons htw (tabOk_cons htx (tabOk_cons htm (tabOk_cons (entF_ok pick_ok) tabOk_nil)))))))))))) (loopsOk_cons (fun _ _ _ h => by cases h) (loopsOk_cons (fun _ _ _ h => by cases h) (loopsOk_cons (fun _ _ _ h => by cases h) loopsOk_nil))) e
  · have hl40 : l.length ≤ 40 := by
      have : ¬ ((l.length : Int) > 40) := fun h => hbig (by rw [decide_eq_true h]; rfl)
      omega
    have hs40 : s.length ≤ 40 := by
      have : ¬ ((s.length : Int) > 40) := fun h => hbig (by rw [decide_eq_true h, Bool.or_true])
      omega
    have hbig' : (bif decide ((l.length : Int) > 40) then true else decide ((s.length : Int) > 40)) = false := by
      rw [decide_eq_false (by omega), decide_eq_false (by omega)]; rfl
    let z : ZV := ⟨s, nn, bk, 1 + k, l, X, Y⟩
    have hz : ZOk z := ⟨by show s.length ≤ _; omega, by show l.length ≤ _; omega, by show X.length ≤ _; omega, by show Y.arms.length ≤ _; omega, by show Y.claims.length ≤ _; omega⟩
    have hg1 : goodS (fun i : Nat => M0 z (i : Int)) (· ≤ 3) (M0 z 0) = true := goodS_eq (S := fun i : Nat => M0 z (i : Int)) (v := 0) (Nat.zero_le _)
    have hv1 : valS (fun i : Nat => M0 z (i : Int)) (· ≤ 3) (fun _ => z) (M0 z 0) = z := valS_eq (S := fun i : Nat => M0 z (i : Int)) (v := 0) (fun _ _ _ _ _ => rfl) (Nat.zero_le _)
    have hg2 : goodS (fun i : Nat => M2 z (i : Int)) (· ≤ 2) (M2 z 0) = true := goodS_eq (S := fun i : Nat => M2 z (i : Int)) (v := 0) (Nat.zero_le _)
    have hv2 : valS (fun i : Nat => M2 z (i : Int)) (· ≤ 2) (fun _ => z) (M2 z 0) = z := valS_eq (S := fun i : Nat => M2 z (i : Int)) (v := 0) (fun _ _ _ _ _ => rfl) (Nat.zero_le _)
    have hg3 : goodS (fun i : Nat => M4 X b ((hits b (X.take i) : Nat) : Int) (i : Int)) (· ≤ X.length) (M4 X b 0 0) = true := goodS_eq (S := fun i : Nat => M4 X b ((hits b (X.take i) : Nat) : Int) (i : Int)) (v := 0) (Nat.zero_le _)
    have e := spl_m gSp gSp gSn gSn vSp vSp vSn vSn (g1 []) (g1 [.sl .no 1 n fun j => [.int .u8 (g j)], .int .i64 60]) gN (goodA nA nO spP) (goodA nA nO wdP) (goodA rawA xO5 rawP) (goodA mA (fun _ => []) mP) (gF sA sP) (v1 [] true) (v1 [.sl .no 1 n fun j => [.int .u8 (g j)], .int .i64 60] C0) vN (valA nA nO wdP ww) (valA nA nO spP ws) (valA rawA xO5 rawP wx) (valA mA (fun _ => []) mP wm) (vF sA sP fun x => pickL x.2 x.1)
      (goodS (fun i : Nat => M0 z (i : Int)) (· ≤ 3)) (goodS (fun i : Nat => M2 z (i : Int)) (· ≤ 2)) (goodS (fun i : Nat => M4 X b ((hits b (X.take i) : Nat) : Int) (i : Int)) (· ≤ X.length)) (valS (fun i : Nat => M0 z (i : Int)) (· ≤ 3) fun _ => z) (valS (fun i : Nat => M2 z (i : Int)) (· ≤ 2) fun _ => z) (valS (fun i : Nat => M4 X b ((hits b (X.take i) : Nat) : Int) (i : Int)) (· ≤ X.length) fun _ => ()) X b l s n g nn bk
      (t1 := C0) (v1_eq _ _) (t2 := (k, C1)) ((vN_eq hC0 (by omega)).trans hk) (t3 := (X, C2)) (by rw [hwk]; exact hX) (t4 := (a, C3)) hy1 (t5 := (a', C4)) hy2 (t6 := (Y, C5)) hY (t7 := z) (by rw [hwk]; exact hv1) (t8 := z) hv2 (t9 := splitE X (1 + k)) (vSp_eq (l := X) (n := 1 + k) (by omega)) (t10 := b) hb (t11 := ()) rfl (t12 := pickL b X) (vF_eq (A := sA) (a := (X, b)) (sA_inj _) (by show X.length ≤ 1000000; omega))
    have e := ((e.trans (cT (g1_eq []))).trans (cF (by rw [v1_eq]; rfl))).trans (cF hbig')
    have e := (e.trans (cT (g1_eq _))).trans (cT (gN_eq hC0 (by omega)))
    have e := e.trans (cT (by rw [hwk]; exact gs))
    have e := ((e.trans (cT gw1)).trans (cT gw2)).trans (cT gx)
    have e := (e.trans (cT (by rw [hwk]; exact hg1))).trans (cT hg2)
    have e := e.trans (cT (gSp_eq (l := X) (n := 1 + k) (by omega)))
    have e := e.trans (cF (by rw [h0]; rfl))
    have e := ((e.trans (cT gm)).trans (cT hg3)).trans (cT (gF_eq (A := sA) (a := (X, b)) (by show X.length ≤ 1000000; omega)))
    have e := e.trans (congrArg (fun q => some (AV.bool (bif (1 : Int) == 1 then q else false), ([] : List AO))) (decide_eq_true hp))
    exact ct_loops (V := V2) (f := 4) (n := 9) (d := 1) (T := [entF 23 sA sP (fun x => splitE x.1 x.2) φE, entF 24 sA sP (fun x => splitE x.1 x.2) φE, entF 25 spnA (fun x => x.length ≤ 1000000) spansE φE, entF 26 spnA (fun x => x.length ≤ 1000000) spansE φE, ent1 10 [] true φB, ent1 12 [.sl .no 1 n fun j => [.int .u8 (g j)], .int .i64 60] C0 φNew, entN, entC 20 nA nO spP ws φRg, entC 22 nA nO wdP ww φX, entC 21 rawA xO5 rawP wx φEx, entC 27 mA (fun _ => []) mP wm φE, entF 28 sA sP (fun x => pickL x.2 x.1) φE])
      (L := [([1, 1, 1, 1, 1, 1, 1, 0, 1, 0], mkO (goodS (fun i : Nat => M0 z (i : Int)) (· ≤ 3)) (valS (fun i : Nat => M0 z (i : Int)) (· ≤ 3) fun _ => z) outM0), ([1, 1, 1, 1, 1, 1, 1, 1, 0, 1, 0], mkO (goodS (fun i : Nat => M2 z (i : Int)) (· ≤ 2)) (valS (fun i : Nat => M2 z (i : Int)) (· ≤ 2) fun _ => z) outM2), ([1, 1, 1, 1, 1, 1, 1, 1, 1, 1, 1, 0, 1, 0], mkO (goodS (fun i : Nat => M4 X b ((hits b (X.take i) : Nat) : Int) (i : Int)) (· ≤ X.length)) (valS (fun i : Nat => M4 X b ((hits b (X.take i) : Nat) : Int) (i : Int)) (· ≤ X.length) fun _ => ()) (outM4 X b))])
      mixed2 funcs2 (tabOk_cons (entF_ok split_23) (tabOk_cons (entF_ok split_24) (tabOk_cons (entF_ok spans_25) (tabOk_cons (entF_ok spans_26) (tabOk_cons (ent1_ok (Ct.v2 awake_ok)) (tabOk_cons (ent1_ok hnew) (tabOk_cons entN_ok (tabOk_cons hts (tabOk_cons htw (tabOk_cons htx (tabOk_cons htm (tabOk_cons (entF_ok pick_ok) tabOk_nil)))))))))))) (loopsOk_cons (loopM0 hz _ _) (loopsOk_cons (loopM2 hz _ _) (loopsOk_cons (loopM4 (by omega) hh _ _) loopsOk_nil))) e
end Go.SH

namespace Go.Ab
open Go Go.RowKit Go.ChangeShapes
mutual
def bulkD {H : Type} : DataW H → Nat
  | .lit (.string bytes) => bytes.length + 1
  | .lit _ => 1
  | .nil => 1
  | .ptr d => bulkD d + 1
  | .slice elems spare => bulkL elems + bulkL spare + 1
  | .agg parts => bulkL parts + 1
  | .iface _ d => bulkD d + 1
  | .map entries => bulkM entries + 1
  | .held _ => 1
def bulkL {H : Type} : List (DataW H) → Nat
  | [] => 0
  | d :: r => bulkD d + bulkL r
def bulkM {H : Type} : List (Lit × DataW H) → Nat
  | [] => 0
  | x :: r => bulkE x + bulkM r
def bulkE {H : Type} : Lit × DataW H → Nat
  | (.string bytes, d) => bytes.length + bulkD d + 1
  | (_, d) => bulkD d + 1
end
theorem bulkD_pos {H : Type} (d : DataW H) : 1 ≤ bulkD d := by
  cases d with
  | lit l => cases l <;> simp [bulkD]
  | _ => simp [bulkD]
theorem bulkL_len {H : Type} : ∀ l : List (DataW H), l.length ≤ bulkL l
  | [] => by simp [bulkL]
  | d :: r => by have := bulkD_pos d; have := bulkL_len r; simp only [List.length_cons, bulkL]; omega
theorem bulkL_at {H : Type} : ∀ {l : List (DataW H)} {i : Nat} {d : DataW H}, l[i]? = some d → bulkD d ≤ bulkL l
  | [], _, _, h => by simp at h
  | e :: r, 0, d, h => by simp at h; subst h; simp only [bulkL]; omega
  | e :: r, i + 1, d, h => by have := bulkL_at (l := r) (i := i) (by simpa using h); simp only [bulkL]; omega
structure CellsR (c : Cx) (us : List AV) (vs : List Value) : Prop where
  len : vs.length = us.length
  one : ∀ u ∈ us, u.one = true ∧ u.keys = []
  rep : ∀ (i : Nat) (u : AV), us[i]? = some u → Rep c u (vs.getD i undef)
theorem keysL_nil : ∀ {us : List AV}, (∀ u ∈ us, u.keys = []) → keysL us = []
  | [], _ => rfl
  | u :: r, h => by rw [keysL, h u (by simp), keysL_nil fun v hv => h v (List.mem_cons_of_mem _ hv)]; rfl
theorem CellsR.nil (c : Cx) : CellsR c [] [] := ⟨rfl, fun _ h => by simp at h, fun i u h => by simp at h⟩
theorem CellsR.append {c : Cx} {us us' : List AV} {vs vs' : List Value} (h : CellsR c us vs) (h' : CellsR c us' vs') : CellsR c (us ++ us') (vs ++ vs') := by
  refine ⟨by simp [h.len, h'.len], fun u hu => ?_, fun i u hu => ?_⟩
  · rcases List.mem_append.1 hu with hu | hu
    · exact h.one u hu
    · exact h'.one u hu
  · by_cases hi : i < us.length
    · rw [List.getElem?_append_left hi] at hu
      have := h.rep i u hu
      rw [List.getD_eq_getElem?_getD] at this ⊢
      rwa [List.getElem?_append_left (by rw [h.len]; exact hi)]
    · rw [List.getElem?_append_right (by omega)] at hu
      have := h'.rep _ u hu
      rw [List.getD_eq_getElem?_getD] at this ⊢
      rw [List.getElem?_append_right (by rw [h.len]; omega), h.len]
      exact this
theorem CellsR.one1 {c : Cx} {u : AV} {v : Value} (h1 : u.one = true) (h2 : u.keys = []) (h : Rep c u v) : CellsR c [u] [v] :=
  ⟨rfl, fun x hx => by simp at hx; subst hx; exact ⟨h1, h2⟩, fun i x hx => by
    cases i with
    | zero => simp at hx; subst hx; exact h
    | succ i => simp at hx⟩
theorem CellsR.agg {c : Cx} {us : List AV} {vs : Array Value} (h : CellsR c us vs.toList) : Rep c (.agg us) (.agg vs) ∧ (AV.agg us).keys = [] := by
  refine ⟨.agg _ _ (by simpa using h.len) (fun i u hu => (h.one u (List.mem_of_getElem? hu)).1) (fun i u hu => ?_), ?_⟩
  · have := h.rep i u hu
    rw [List.getD_eq_getElem?_getD] at this
    rw [Array.getD_eq_getD_getElem?]
    simpa using this
  · simp only [AV.keys]
    exact keysL_nil fun u hu => (h.one u hu).2
section
variable {H : Type} (enc : TypeId × Value → H) (P : Program) (w : World) (N : Nat)
variable {α β : Type}
def Reads (n : Nat) (t : TypeId) (cl : α → List AV) (Ok : α → Prop) : Prop :=
  ∀ cs x, DataW.trod enc P w 0 (fun _ => true) true n t cs = some x → bulkD x.1 ≤ N → ∃ a, CellsR (startCx w) (cl a) cs ∧ Ok a
def ReadsF (n : Nat) (fs : List Field) (off len : Nat) (cl : α → List AV) (Ok : α → Prop) : Prop :=
  ∀ (cs : List Value) (xs : List (DataW H × List MemPlace)), xs.length = fs.length → off + len ≤ cs.length →
    (∀ (i : Nat) (f : Field), fs[i]? = some f → DataW.trod enc P w 0 (fun _ => true) true n f.type ((cs.drop f.offset).take (P.cellsOf f.type)) = xs[i]?) →
    bulkL (xs.map (·.1)) ≤ N → ∃ a, CellsR (startCx w) (cl a) ((cs.drop off).take len) ∧ Ok a
variable {enc P w N}
theorem Reads.map {n : Nat} {t : TypeId} {cl : α → List AV} {Ok : α → Prop} {cl' : β → List AV} {Ok' : β → Prop} (h : Reads enc P w N n t cl Ok) (g : α → β) (hc : ∀ a, cl' (g a) = cl a) (ho : ∀ a, Ok a → Ok' (g a)) : Reads enc P w N n t cl' Ok' := fun cs x hx hb => by
  obtain ⟨a, h1, h2⟩ := h cs x hx hb
  exact ⟨g a, by rw [hc]; exact h1, ho a h2⟩
theorem reads_int {n : Nat} {t : TypeId} {k : IntKind} (ht : P.underlying t = some (.int k)) : Reads enc P w N n t (fun z : Int => [.int k z]) (fun z => (Lit.int k z).wf = true) := fun cs x hx hb => by
  obtain ⟨z, rfl, rfl, hw⟩ := DataW.trod_int ht hx
  exact ⟨z, .one1 rfl rfl (.int _ _), hw⟩
theorem readsF_nil {n off : Nat} : ReadsF enc P w N n [] off 0 (fun _ : Unit => []) (fun _ => True) := fun cs xs _ _ _ _ => ⟨(), by rw [List.take_zero]; exact .nil _, trivial⟩
theorem readsF_cons {n off n1 n2 : Nat} {f : Field} {fs : List Field} {cl1 : α → List AV} {Ok1 : α → Prop} {cl2 : β → List AV} {Ok2 : β → Prop} (h1 : Reads enc P w N n f.type cl1 Ok1) (ho : f.offset = off) (hn : P.cellsOf f.type = n1)
    (h2 : ReadsF enc P w N n fs (off + n1) n2 cl2 Ok2) : ReadsF enc P w N n (f :: fs) off (n1 + n2) (fun p : α × β => cl1 p.1 ++ cl2 p.2) (fun p => Ok1 p.1 ∧ Ok2 p.2) := fun cs xs hl hlen hx hb => by
  cases xs with
  | nil => simp at hl
  | cons x xs =>
    simp only [List.map_cons, bulkL] at hb
    have hx0 := hx 0 f rfl
    rw [ho, hn] at hx0
    obtain ⟨a, e1, e2⟩ := h1 _ x (by simpa using hx0) (by omega)
    obtain ⟨b, g1, g2⟩ := h2 cs xs (by simpa using hl) (by omega) (fun i f' hf => by simpa using hx (i + 1) f' (by simpa using hf)) (by omega)
    refine ⟨(a, b), ?_, e2, g2⟩
    rw [List.take_add, List.drop_drop]
    exact e1.append g1
theorem reads_struct {n : Nat} {t : TypeId} {fs : Array Field} {sz : Nat} {cl : α → List AV} {Ok : α → Prop} (ht : P.underlying t = some (.struct fs)) (hz : P.cellsOf t = sz) (h : ∀ m, n = m + 1 → ReadsF enc P w N m fs.toList 0 sz cl Ok) : Reads enc P w N n t cl Ok := fun cs x hx hb => by
  obtain ⟨xs, m, rfl, rfl, hl, hxl, hf⟩ := DataW.trod_struct ht hx
  simp only [bulkD] at hb
  obtain ⟨a, h1, h2⟩ := h m rfl cs xs (by simpa using hxl) (by omega) (fun i f hi => hf i f (by simpa using hi)) (by omega)
  refine ⟨a, ?_, h2⟩
  rw [List.drop_zero, List.take_of_length_le (by omega)] at h1
  exact h1
theorem mapM_at {γ δ : Type} {f : γ → Option δ} : ∀ {l : List γ} {r : List δ}, l.mapM f = some r → r.length = l.length ∧ ∀ (i : Nat) (a : γ), l[i]? = some a → f a = r[i]?
  | [], r, h => by simp at h; subst h; simp
  | x :: l, r, h => by
    simp only [List.mapM_cons, Option.bind_eq_bind, Option.bind_eq_some_iff, Option.pure_def, Option.some.injEq] at h
    obtain ⟨y, hy, ys, hys, rfl⟩ := h
    obtain ⟨h1, h2⟩ := mapM_at hys
    refine ⟨by simp [h1], fun i a ha => ?_⟩
    cases i with
    | zero => simp at ha; subst ha; simpa using hy
    | succ i => simpa using h2 i a (by simpa using ha)
theorem cells?_at {a : Addr} {n : Nat} {cs : List Value} (h : w.cells? 0 a n = some cs) : cs.length = n ∧ ∀ i, i < n → w.cell? (a.add i) = cs[i]? := by
  unfold World.cells? at h
  rw [if_pos (Nat.zero_le _)] at h
  obtain ⟨h1, h2⟩ := mapM_at h
  refine ⟨by simpa using h1, fun i hi => ?_⟩
  exact h2 i i (by simp [hi])
open Classical in
theorem reads_slice {n : Nat} {t e : TypeId} {sz : Nat} [Inhabited α] {cl : α → List AV} {Ok : α → Prop} (get : List α → Nat → List AV) (ht : P.underlying t = some (.slice e)) (hz : P.cellsOf e = sz) (hp : 0 < sz) (hlen : ∀ a, (cl a).length = sz)
    (hget : ∀ (l : List α) j, j < l.length → get l j = cl (l.getD j default)) (h : ∀ m, n = m + 1 → Reads enc P w N m e cl Ok) :
    Reads enc P w N n t (fun l : List α => [.sl .no sz l.length (get l)]) (fun l => l.length ≤ maxLen ∧ l.length + 1 ≤ N ∧ ∀ a ∈ l, Ok a) := fun cs x hx hb => by
  rcases DataW.trod_slice ht hx with ⟨rfl, rfl⟩ | ⟨ad, len, cap, elems, rest, m, rfl, rfl, rfl, _, hle, hcap, hel, hat, hsp, _⟩
  · refine ⟨[], .one1 rfl rfl ?_, by simp, by simpa [bulkD] using hb, by simp⟩
    exact .slNil .no sz _ trivial
  · simp only [bulkD] at hb
    rw [hz] at hat hsp
    have hb1 : elems.length ≤ bulkL (elems.map (·.1)) := by have := bulkL_len (elems.map (·.1)); simpa using this
    have hel1 : ∀ i, i < len → ∃ vs y a, elems[i]? = some y ∧ w.cells? 0 (ad.add (i * sz)) sz = some vs ∧ CellsR (startCx w) (cl a) vs ∧ Ok a := by
      intro i hi
      have hi' : i < elems.length := by omega
      have := hat i hi
      rw [List.getElem?_eq_getElem hi', Option.bind_eq_some_iff] at this
      obtain ⟨vs, h1, h2⟩ := this
      have hbi : bulkD (elems[i]).1 ≤ bulkL (elems.map (·.1)) := bulkL_at (i := i) (by simp [List.getElem?_eq_getElem hi'])
      obtain ⟨a, h3, h4⟩ := h m rfl vs _ h2 (by omega)
      exact ⟨vs, _, a, List.getElem?_eq_getElem hi', h1, h3, h4⟩
    have hspot : 0 < cap → ad.spot = none := by
      intro hc
      have : ∃ vs, w.cells? 0 (ad.add (0 * sz)) sz = some vs := by
        by_cases h0 : 0 < len
        · obtain ⟨vs, _, _, _, h2, _⟩ := hel1 0 h0
          exact ⟨vs, h2⟩
        · obtain rfl : len = 0 := by omega
          have h1 := (hsp rfl).2 0 (by omega)
          have h2 := (hsp rfl).1
          cases hr : rest with
          | nil => rw [hr] at h2; simp at h2; omega
          | cons y r =>
            rw [hr] at h1
            simp only [List.getElem?_cons_zero, Option.bind_eq_some_iff] at h1
            obtain ⟨vs, h3, _⟩ := h1
            exact ⟨vs, by simpa using h3⟩
      obtain ⟨vs, h2⟩ := this
      obtain ⟨h3, h4⟩ := cells?_at h2
      have h5 := h4 0 hp
      rw [Nat.zero_mul] at h5
      have e0 : ((ad.add 0).add 0) = ad := by unfold Addr.add; simp
      rw [e0, List.getElem?_eq_getElem (by omega)] at h5
      exact World.cell?_spot h5
    let l : List α := (List.range len).map fun i => if hi : i < len then (hel1 i hi).choose_spec.choose_spec.choose else default
    have hl : l.length = len := by simp [l]
    have hli : ∀ i (hi : i < len), ∃ vs, w.cells? 0 (ad.add (i * sz)) sz = some vs ∧ CellsR (startCx w) (cl (l.getD i default)) vs ∧ Ok (l.getD i default) := by
      intro i hi
      have e : l.getD i default = (hel1 i hi).choose_spec.choose_spec.choose := by
        simp [l, List.getD, hi]
      rw [e]
      exact ⟨_, (hel1 i hi).choose_spec.choose_spec.choose_spec.2⟩
    have hadd : ∀ i, i < len → ∀ q, q < sz → (ad.add (i * sz)).add q = ⟨ad.block, ad.off + (i * sz + q), none⟩ := by
      intro i hi q _
      have hs := hspot (by omega)
      obtain ⟨b, o, sp⟩ := ad
      simp only at hs
      subst hs
      unfold Addr.add
      by_cases c1 : i * sz = 0
      · by_cases c2 : q = 0 <;> simp [c1, c2]
      · by_cases c2 : q = 0 <;> simp [c1, c2, Nat.add_assoc]
    refine ⟨l, .one1 rfl rfl ?_, by omega, by omega, fun a ha => ?_⟩
    · rw [hl]
      have hgl : ∀ j, j < len → get l j = cl (l.getD j default) := fun j hj => hget l j (by omega)
      have hcell : ∀ (j i : Nat) (u : AV), j < len → (get l j)[i]? = some u → ∃ v, w.cell? ⟨ad.block, ad.off + (j * sz + i), none⟩ = some v ∧ Rep (startCx w) u v := by
        intro j i u hj hu
        rw [hgl j hj] at hu
        obtain ⟨vs, h1, h2, _⟩ := hli j hj
        obtain ⟨g1, g2⟩ := cells?_at h1
        have hi : i < sz := by have := (List.getElem?_eq_some_iff.1 hu).1; rw [hlen] at this; exact this
        have g3 := g2 i hi
        rw [hadd j hj i hi, List.getElem?_eq_getElem (by omega)] at g3
        refine ⟨_, g3, ?_⟩
        have := h2.rep i u hu
        rwa [List.getD_eq_getElem?_getD, List.getElem?_eq_getElem (by omega)] at this
      refine .sl .no sz len (get l) ad cap (fun j i => (w.cell? ⟨ad.block, ad.off + (j * sz + i), none⟩).getD undef) hspot hle trivial (fun j hj => ?_) (fun j i u hj hu => ?_) (fun j i u hj hu => ?_)
      · rw [hgl j hj]
        obtain ⟨vs, _, h2, _⟩ := hli j hj
        exact ⟨hlen _, keysL_nil fun u hu => (h2.one u hu).2⟩
      · obtain ⟨v, h1, _⟩ := hcell j i u hj hu
        have hone : u.one = true := by
          rw [hgl j hj] at hu
          obtain ⟨vs, _, h2, _⟩ := hli j hj
          exact (h2.one u (List.mem_of_getElem? hu)).1
        refine ⟨hone, ?_, v, h1⟩
        show w.cell? _ = _
        rw [h1]; rfl
      · obtain ⟨v, h1, h2⟩ := hcell j i u hj hu
        rw [h1]; exact h2
    · obtain ⟨i, hi, rfl⟩ := List.getElem_of_mem ha
      obtain ⟨_, _, _, h4⟩ := hli i (by omega)
      rwa [List.getD_eq_getElem?_getD, List.getElem?_eq_getElem hi] at h4
end
end Go.Ab

namespace Go.SH
open Go Go.Ab Go.Proofs Go.RowKit
set_option linter.unusedVariables false
set_option linter.unusedSimpArgs false
section
variable {H : Type} {enc : TypeId × Value → H} {w : World}
def txt (s : List UInt8) : Prop := s.length ≤ 1048575
theorem txt.len {s : List UInt8} (h : txt s) : lenS s := by unfold txt at h; unfold lenS maxS; omega
end
end Go.SH

namespace Go.Ab
open Go Go.RowKit
section
variable {H : Type} (enc : TypeId × Value → H) (P : Program) (w : World) (held : Bool)
def RX (t : TypeId) (d : DataW H) (us : List AV) : Prop :=
  us.length = P.cellsOf t ∧ ∀ n cs p, DataW.trod enc P w 0 (fun _ => true) held n t cs = some (d, p) → CellsR (startCx w) us cs
variable {enc P w held}
theorem rx_int {t : TypeId} {k : IntKind} {z : Int} (ht : P.underlying t = some (.int k)) (hc : P.cellsOf t = 1) : RX enc P w held t (.lit (.int k z)) [.int k z] := ⟨hc.symm, fun n cs p h => by
  obtain ⟨z', rfl, hx, _⟩ := DataW.trod_int ht h
  simp only [Prod.mk.injEq, DataW.lit.injEq, Lit.int.injEq, true_and] at hx
  obtain ⟨rfl, _⟩ := hx
  exact .one1 rfl rfl (.int _ _)⟩
theorem rx_str {t : TypeId} {s : List UInt8} (ht : P.underlying t = some .string) (hc : P.cellsOf t = 1) : RX enc P w held t (.lit (.string s)) [.str s] := ⟨hc.symm, fun n cs p h => by
  obtain ⟨z, rfl, hx, _⟩ := DataW.trod_string ht h
  simp only [Prod.mk.injEq, DataW.lit.injEq, Lit.string.injEq] at hx
  obtain ⟨rfl, _⟩ := hx
  refine .one1 rfl rfl ?_
  have := Rep.str (c := startCx w) z.data.toList
  rwa [Array.toArray_toList] at this⟩
theorem rx_iface {t : TypeId} {ms : Array (String × TypeId)} {nm : String} {d : DataW H} (ht : P.underlying t = some (.interface ms)) (hc : P.cellsOf t = 1) : RX enc P w held t (.iface nm d) [.nni] := ⟨hc.symm, fun n cs p h => by
  cases n with
  | zero => simp [DataW.trod] at h
  | succ n =>
    unfold DataW.trod at h
    rw [ht] at h
    split at h <;> simp_all
    exact .one1 rfl rfl (.nni _ _)⟩
theorem rx_flat {c : Cx} {cs : List Value} {sz : Nat} : ∀ (us : List (List AV)) (k : Nat), (∀ (i : Nat) (u : List AV), us[i]? = some u → CellsR c u ((cs.drop ((k + i) * sz)).take sz) ∧ u.length = sz) → cs.length = (k + us.length) * sz → CellsR c us.flatten (cs.drop (k * sz))
  | [], k, _, hl => by
    rw [List.drop_eq_nil_of_le (by simp at hl; omega)]
    exact .nil _
  | u :: us, k, h, hl => by
    have h0 := h 0 u rfl
    have ih := rx_flat us (k + 1) (fun i v hv => by
      have := h (i + 1) v (by simpa using hv)
      rwa [show k + (i + 1) = k + 1 + i by omega] at this) (by rw [hl]; simp only [List.length_cons]; congr 1; omega)
    have e : cs.drop (k * sz) = (cs.drop (k * sz)).take sz ++ cs.drop ((k + 1) * sz) := by
      rw [show (k + 1) * sz = k * sz + sz by rw [Nat.add_mul, Nat.one_mul], ← List.drop_drop, List.take_append_drop]
    rw [e, List.flatten_cons]
    exact h0.1.append ih
theorem rx_array {t e : TypeId} {m sz : Nat} {ds : List (DataW H)} {us : List (List AV)} (ht : P.underlying t = some (.array m e)) (he : P.cellsOf e = sz) (hc : P.cellsOf t = m * sz) (hl : us.length = m)
    (h : ∀ (i : Nat) (d : DataW H) (u : List AV), ds[i]? = some d → us[i]? = some u → RX enc P w held e d u) (hd : ds.length = m) : RX enc P w held t (.agg ds) us.flatten := by
  have hu : ∀ (i : Nat) (u : List AV), us[i]? = some u → u.length = sz := fun i u hi => by
    have hlt := (List.getElem?_eq_some_iff.1 hi).1
    rw [(h i (ds[i]'(by omega)) u (List.getElem?_eq_getElem _) hi).1, he]
  refine ⟨?_, fun n cs p hx => ?_⟩
  · rw [hc, List.length_flatten, ← hl]
    have : ∀ l : List (List AV), (∀ (i : Nat) (u : List AV), l[i]? = some u → u.length = sz) → (l.map List.length).sum = l.length * sz := by
      intro l
      induction l with
      | nil => intro _; simp
      | cons a r ih =>
        intro h
        have h0 := h 0 a rfl
        have h1 := ih fun i u hi => h (i + 1) u (by simpa using hi)
        simp only [List.map_cons, List.sum_cons, h1, h0, List.length_cons, Nat.add_mul, Nat.one_mul]; omega
    exact this us hu
  · cases n with
    | zero => simp [DataW.trod] at hx
    | succ n =>
      simp only [DataW.trod, ht, he, hc] at hx
      split at hx
      · rename_i hcl
        obtain ⟨xs, hm, hxe⟩ := Option.map_eq_some_iff.1 hx
        have hxs : xs.map (·.1) = ds := by
          have := congrArg Prod.fst hxe
          simpa using this
        obtain ⟨hxl, hat⟩ := mapM_at hm
        have hxl : xs.length = m := by simpa using hxl
        have := rx_flat (c := startCx w) (cs := cs) (sz := sz) us 0 (fun i u hi => by
          have hlt := (List.getElem?_eq_some_iff.1 hi).1
          have hlt2 : i < xs.length := by omega
          have hf := hat i i (List.getElem?_range (by omega))
          rw [List.getElem?_eq_getElem hlt2] at hf
          have hdi : ds[i]? = some (xs[i]'hlt2).1 := by
            have := congrArg (·[i]?) hxs
            simp only [List.getElem?_map, List.getElem?_eq_getElem hlt2, Option.map_some] at this
            exact this.symm
          refine ⟨?_, hu i u hi⟩
          rw [Nat.zero_add]
          exact (h i _ u hdi hi).2 n _ (xs[i]'hlt2).2 hf) (by rw [hcl, Nat.zero_add, hl])
        simpa using this
      · cases hx
theorem rx_two {t : TypeId} {f0 f1 : Field} {d0 d1 : DataW H} {u0 u1 : List AV} (ht : P.underlying t = some (.struct #[f0, f1])) (h0 : RX enc P w held f0.type d0 u0) (h1 : RX enc P w held f1.type d1 u1) (o0 : f0.offset = 0) (o1 : f1.offset = P.cellsOf f0.type) (hc : P.cellsOf t = P.cellsOf f0.type + P.cellsOf f1.type) :
    RX enc P w held t (.agg [d0, d1]) (u0 ++ u1) := by
  refine ⟨by rw [List.length_append, h0.1, h1.1, hc], fun n cs p hx => ?_⟩
  obtain ⟨xs, m, rfl, hxe, hl, hxl, hf⟩ := DataW.trod_struct ht hx
  match xs, hxl with
  | [y0, y1], _ =>
    simp only [List.map_cons, List.map_nil, Prod.mk.injEq, DataW.agg.injEq, List.cons.injEq, and_true] at hxe
    obtain ⟨⟨rfl, rfl⟩, _⟩ := hxe
    have a0 := hf 0 f0 rfl
    have a1 := hf 1 f1 rfl
    rw [o0, List.drop_zero] at a0
    rw [o1] at a1
    have b0 := h0.2 m _ y0.2 a0
    have b1 := h1.2 m _ y1.2 a1
    have e : cs = cs.take (P.cellsOf f0.type) ++ (cs.drop (P.cellsOf f0.type)).take (P.cellsOf f1.type) := by
      rw [List.take_of_length_le (l := cs.drop (P.cellsOf f0.type)) (by rw [List.length_drop]; omega), List.take_append_drop]
    rw [e]
    exact b0.append b1
theorem rx_ints {t e : TypeId} {m : Nat} {k : IntKind} {zs : List Int} (ht : P.underlying t = some (.array m e)) (he : P.underlying e = some (.int k)) (hc : P.cellsOf e = 1) (hct : P.cellsOf t = m) (hl : zs.length = m) :
    RX enc P w held t (.agg (zs.map fun z => .lit (.int k z))) (zs.map fun z => .int k z) := by
  have := rx_array (enc := enc) (P := P) (w := w) (held := held) (ds := zs.map fun z => (.lit (.int k z) : DataW H)) (us := zs.map fun z => [AV.int k z]) ht hc (by rw [hct, Nat.mul_one]) (by simpa using hl) (fun i d u hd hu => by
    rw [List.getElem?_map, Option.map_eq_some_iff] at hd hu
    obtain ⟨z, hz, rfl⟩ := hd
    obtain ⟨z', hz', rfl⟩ := hu
    obtain rfl : z = z' := by rw [hz] at hz'; exact Option.some.inj hz'
    exact rx_int he hc) (by simpa using hl)
  rwa [show (zs.map fun z => [AV.int k z]).flatten = zs.map fun z => AV.int k z by induction zs with
    | nil => rfl
    | cons a r ih => rw [List.map_cons, List.flatten_cons, List.map_cons, List.singleton_append]; congr 1; clear hl this ih; induction r with
      | nil => rfl
      | cons b q ih => rw [List.map_cons, List.flatten_cons, ih]; rfl] at this
end
theorem laid_at {P : Program} {w : World} : ∀ {laid : List (String × DataW Unit)} {ps : List MemPlace}, DataW.LaidVars P w laid ps → ∀ {nm : String} {d : DataW Unit}, (nm, d) ∈ laid →
    ∃ g t cs fuel p, P.globalNamed nm = some g ∧ (P.globals[g]?).map (·.type) = some t ∧ w.var? P nm = some cs ∧ DataW.trod (fun _ => ()) P w 0 (fun _ => true) false fuel t cs.toList = some (d, p)
  | [], _, _, _, _, hm => by simp at hm
  | (n0, d0) :: r, ps, h, nm, d, hm => by
    obtain ⟨g, t, cs, fuel, p, q, h1, h2, h3, h4, h5, _⟩ := h
    rcases List.mem_cons.1 hm with e | hm
    · simp only [Prod.mk.injEq] at e
      obtain ⟨rfl, rfl⟩ := e
      exact ⟨g, t, cs, fuel, p, h1, h2, h3, h4⟩
    · exact laid_at h5 hm
theorem rep_cells {w : World} {g : Nat} {us : List AV} {cs : Array Value} (hv : ∀ i, w.cell? ⟨g, i, none⟩ = cs[i]?) (h : CellsR (startCx w) us cs.toList) : Rep (startCx w) (.elt us 0) (.pointer (some ⟨g, 0, none⟩)) := by
  have hi : ∀ (i : Nat) (u : AV), us[i]? = some u → ∃ v, cs[i]? = some v ∧ Rep (startCx w) u v := fun i u hu => by
    have hlt := (List.getElem?_eq_some_iff.1 hu).1
    have hlt' : i < cs.size := by have := h.len; simp at this; omega
    refine ⟨cs[i], Array.getElem?_eq_getElem hlt', ?_⟩
    have := h.rep i u hu
    rwa [List.getD_eq_getElem?_getD, Array.getElem?_toList, Array.getElem?_eq_getElem hlt'] at this
  refine .elt us 0 g 0 (fun i => (cs[i]?).getD undef) (keysL_nil fun u hu => (h.one u hu).2) (fun i u hu => ?_) (fun i u hu => ?_)
  · obtain ⟨v, h1, h2⟩ := hi i u hu
    rw [Nat.zero_add]
    refine ⟨(h.one u (List.mem_of_getElem? hu)).1, ?_, v, ?_⟩
    · show w.cell? _ = _
      rw [hv, h1]; rfl
    · rw [hv, h1]
  · obtain ⟨v, h1, h2⟩ := hi i u hu
    rw [h1]; exact h2
theorem rep_glob {P : Program} {w : World} {laid : List (String × DataW Unit)} (h : laidMet P laid w) {nm : String} {d : DataW Unit} {g : Nat} {t : TypeId} {us : List AV} (hm : (nm, d) ∈ laid) (hg : P.globalNamed nm = some g) (ht : (P.globals[g]?).map (·.type) = some t)
    (hr : RX (fun _ => ()) P w false t d us) : Rep (startCx w) (.elt us 0) (.pointer (some ⟨g, 0, none⟩)) := by
  obtain ⟨ps, hl, _⟩ := h
  obtain ⟨g', t', cs, fuel, p, h1, h2, h3, h4⟩ := laid_at hl hm
  obtain rfl := Option.some.inj (hg.symm.trans h1)
  obtain rfl := Option.some.inj (ht.symm.trans h2)
  exact rep_cells (fun i => World.var?_cell h1 h3 i) (hr.2 fuel _ p h4)
theorem calls_true_of {P : Program} {G : Nat → Option (List AV)} {f : FuncId} {l : List AV} {os : List AO} {xs : List Value} {w : World} (hg : ∀ g cs, G g = some cs → Rep (startCx w) (.elt cs 0) (.pointer (some ⟨g, 0, none⟩))) (h : Ct P G f l [] (.bool true, os)) (hs : Stand w l xs) :
    Calls P f xs.toArray w fun e w' => e = .returned (.bool true) ∧ Below w.heap.size w w' := by
  obtain ⟨h1, h2, h3⟩ := hs.spec
  refine (h.1 (startCx w) xs.toArray ⟨fun _ _ h => h, hg⟩ (startCx_objs w) (by simpa using h1) (fun i u hu => ?_) (by rw [h2]; simp)).mono ?_
  · have := h3 i u hu
    simpa [Array.getD_eq_getD_getElem?, List.getD_eq_getElem?_getD] using this
  · rintro e w' ⟨c', x, rfl, rfl, _, hF, _, hr, _, _⟩
    cases hr
    refine ⟨rfl, hF.os, hF.tape, hF.output, hF.size, fun b hb => hF.block b hb ?_⟩
    rintro ⟨k, o, ho, _⟩
    simp [enterObjs, alook] at ho
end Go.Ab

namespace Go.SH
open Go Go.Ab Go.Proofs Go.RowKit Go.Proofs.YtnldpiohcmgkdaaGreatDoor
set_option linter.unusedVariables false
set_option linter.unusedSimpArgs false
mutual
theorem bulk_eq {H : Type} : ∀ d : DataW H, Rows.uptoBulk d = bulkD d
  | .lit (.string _) => by simp only [Rows.uptoBulk, bulkD]
  | .lit (.int _ _) => by simp only [Rows.uptoBulk, bulkD]
  | .lit (.bool _) => by simp only [Rows.uptoBulk, bulkD]
  | .lit (.float _ _) => by simp only [Rows.uptoBulk, bulkD]
  | .lit .nil => by simp only [Rows.uptoBulk, bulkD]
  | .nil => by simp only [Rows.uptoBulk, bulkD]
  | .ptr d => by simp only [Rows.uptoBulk, bulkD, bulk_eq d]
  | .slice a b => by simp only [Rows.uptoBulk, bulkD, bulkAll_eq a, bulkAll_eq b]
  | .agg a => by simp only [Rows.uptoBulk, bulkD, bulkAll_eq a]
  | .iface _ d => by simp only [Rows.uptoBulk, bulkD, bulk_eq d]
  | .map a => by simp only [Rows.uptoBulk, bulkD, bulkM_eq a]
  | .held _ => by simp only [Rows.uptoBulk, bulkD]
theorem bulkAll_eq {H : Type} : ∀ l : List (DataW H), Rows.uptoBulkAll l = bulkL l
  | [] => by simp only [Rows.uptoBulkAll, bulkL]
  | d :: r => by simp only [Rows.uptoBulkAll, bulkL, bulk_eq d, bulkAll_eq r]
theorem bulkM_eq {H : Type} : ∀ l : List (Lit × DataW H), Rows.uptoBulkEntries l = bulkM l
  | [] => by simp only [Rows.uptoBulkEntries, bulkM]
  | d :: r => by simp only [Rows.uptoBulkEntries, bulkM, bulkE_eq d, bulkM_eq r]
theorem bulkE_eq {H : Type} : ∀ x : Lit × DataW H, Rows.uptoBulkEntry x = bulkE x
  | (.string _, d) => by simp only [Rows.uptoBulkEntry, bulkE, bulk_eq d]
  | (.int _ _, d) => by simp only [Rows.uptoBulkEntry, bulkE, bulk_eq d]
  | (.bool _, d) => by simp only [Rows.uptoBulkEntry, bulkE, bulk_eq d]
  | (.float _ _, d) => by simp only [Rows.uptoBulkEntry, bulkE, bulk_eq d]
  | (.nil, d) => by simp only [Rows.uptoBulkEntry, bulkE, bulk_eq d]
end
def dints : List (DataW Unit) → List Int
  | .lit (.int _ z) :: r => z :: dints r
  | _ => []
def dpairs : List (DataW Unit) → List (Int × Int)
  | .agg [.lit (.int _ y), .lit (.int _ z)] :: r => (y, z) :: dpairs r
  | _ => []
def parts : DataW Unit → List (DataW Unit)
  | .agg ds => ds
  | _ => []
theorem rxSpace {w : World} {d : DataW Unit} (hd : d = .agg ((dints (parts d)).map fun z => .lit (.int .u8 z))) (hl : (dints (parts d)).length = 256) (hc : dcells d = (dints (parts d)).map fun z => .int .u8 z) : RX (fun _ => ()) Tryz.prog w false 179 d (dcells d) := by
  rw [hc]
  have := rx_ints (enc := fun _ => ()) (P := Tryz.prog) (w := w) (held := false) (t := 179) (e := 5) (m := 256) (k := .u8) (zs := dints (parts d)) Tryz.underlying179 Tryz.underlying5 (by kernel_rfl) (by kernel_rfl) hl
  rwa [← hd] at this
theorem rxAccept {w : World} {d : DataW Unit} (hd : d = .agg ((dpairs (parts d)).map fun p => .agg [.lit (.int .u8 p.1), .lit (.int .u8 p.2)])) (hl : (dpairs (parts d)).length = 16) (hc : dcells d = ((dpairs (parts d)).map fun p => [AV.int .u8 p.1] ++ [AV.int .u8 p.2]).flatten) : RX (fun _ => ()) Tryz.prog w false 185 d (dcells d) := by
  rw [hc]
  have := rx_array (enc := fun _ => ()) (P := Tryz.prog) (w := w) (held := false) (t := 185) (e := 184) (m := 16) (sz := 2) (ds := (dpairs (parts d)).map fun p => .agg [.lit (.int .u8 p.1), .lit (.int .u8 p.2)]) (us := (dpairs (parts d)).map fun p => [AV.int .u8 p.1] ++ [AV.int .u8 p.2]) Tryz.underlying185 (by kernel_rfl) (by kernel_rfl) (by simpa using hl) (fun i d u hd hu => by
    rw [List.getElem?_map, Option.map_eq_some_iff] at hd hu
    obtain ⟨z, hz, rfl⟩ := hd
    obtain ⟨z', hz', rfl⟩ := hu
    obtain rfl : z = z' := by rw [hz] at hz'; exact Option.some.inj hz'
    exact rx_two Tryz.underlying184 (rx_int Tryz.underlying5 (by kernel_rfl)) (rx_int Tryz.underlying5 (by kernel_rfl)) rfl (by kernel_rfl) (by kernel_rfl)) (by simpa using hl)
  rwa [← hd] at this
set_option maxRecDepth 100000 in
theorem maxLen_cell {w : World} (h : w.ShapedOpen Tryz.prog) : Rep (startCx w) (.elt [.num .i64] 0) (.pointer (some ⟨7, 0, none⟩)) := by
  obtain ⟨cs, h1, h2, h3⟩ := h.1 7 #[.int .i64 0] 3 (of_decide_eq_true (by kernel_rfl)) (by kernel_rfl)
  obtain ⟨ts, e1, e2, e3⟩ := h3 (by kernel_rfl)
  have e0 : Tryz.prog.cellTypes Tryz.prog.depth 3 = some [3] := by kernel_rfl
  rw [e0] at e1
  obtain rfl := Option.some.inj e1
  have hlt : 0 < cs.size := by rw [h2]; decide
  obtain ⟨u, hu, hok⟩ := e3 0 cs[0] (Array.getElem?_eq_getElem hlt)
  simp only [List.length_singleton, Nat.mod_one, List.getElem?_cons_zero, Option.some.injEq] at hu
  subst hu
  unfold Cell.ok at hok
  rw [show Tryz.prog.underlying 3 = some (.int .i64) from Tryz.underlying3] at hok
  have hcell : ∀ i, w.cell? ⟨7, i, none⟩ = cs[i]? := fun i => by
    unfold World.cell?
    simp [h1]
  refine rep_cells hcell ⟨by simpa using h2, fun u hu => by simp at hu; subst hu; exact ⟨rfl, rfl⟩, fun i u hu => ?_⟩
  cases i with
  | succ i => simp at hu
  | zero =>
    simp at hu; subst hu
    rw [List.getD_eq_getElem?_getD, Array.getElem?_toList, Array.getElem?_eq_getElem hlt]
    show Rep _ _ cs[0]
    generalize cs[0] = v at hok ⊢
    cases v with
    | int k n => obtain ⟨rfl, _⟩ := hok; exact .num _ _
    | _ => simp at hok
theorem globs_of {w : World} {laid : List (String × DataW Unit)} (h : laidMet Tryz.prog laid w) (ho : w.ShapedOpen Tryz.prog)
    (m3 : ("strings.asciiSpace", Rows.laid_strings_asciiSpace) ∈ laid) (m4 : ("unicode/utf8.first", Rows.laid_unicode_utf8_first) ∈ laid) (m5 : ("unicode/utf8.acceptRanges", Rows.laid_unicode_utf8_acceptRanges) ∈ laid)
    (m8 : ("strconv.ErrSyntax", Rows.laid_strconv_ErrSyntax) ∈ laid) (m9 : ("strconv.ErrRange", Rows.laid_strconv_ErrRange) ∈ laid) :
    ∀ g cs, V.G g = some cs → Rep (startCx w) (.elt cs 0) (.pointer (some ⟨g, 0, none⟩)) := by
  intro g cs hg
  have hg : globs g = some cs := hg
  unfold globs at hg
  by_cases h3 : g = 3
  · subst h3
    obtain rfl := Option.some.inj hg
    exact rep_glob h m3 (by kernel_rfl) (by kernel_rfl) (rxSpace (by kernel_rfl) (by kernel_rfl) (by kernel_rfl))
  rw [beqF h3, cond_false] at hg
  by_cases h4 : g = 4
  · subst h4
    obtain rfl := Option.some.inj hg
    exact rep_glob h m4 (by kernel_rfl) (by kernel_rfl) (rxSpace (by kernel_rfl) (by kernel_rfl) (by kernel_rfl))
  rw [beqF h4, cond_false] at hg
  by_cases h5 : g = 5
  · subst h5
    obtain rfl := Option.some.inj hg
    exact rep_glob h m5 (by kernel_rfl) (by kernel_rfl) (rxAccept (by kernel_rfl) (by kernel_rfl) (by kernel_rfl))
  rw [beqF h5, cond_false] at hg
  by_cases h7 : g = 7
  · subst h7
    obtain rfl := Option.some.inj hg
    exact maxLen_cell ho
  rw [beqF h7, cond_false] at hg
  by_cases h8 : g = 8
  · subst h8
    obtain rfl := Option.some.inj hg
    exact rep_glob h m8 (by kernel_rfl) (by kernel_rfl) (rx_iface Tryz.underlying219 (by kernel_rfl))
  rw [beqF h8, cond_false] at hg
  by_cases h9 : g = 9
  · subst h9
    obtain rfl := Option.some.inj hg
    exact rep_glob h m9 (by kernel_rfl) (by kernel_rfl) (rx_iface Tryz.underlying219 (by kernel_rfl))
  rw [beqF h9, cond_false] at hg
  cases hg
end Go.SH

namespace Go.Ab
open Go Go.RowKit
section
variable {H : Type} {enc : TypeId × Value → H} {P : Program} {w : World} {held : Bool}
theorem rx_strs {t e : TypeId} {l : List (List UInt8)} (ht : P.underlying t = some (.slice e)) (he : P.underlying e = some .string) (hc : P.cellsOf e = 1) (hct : P.cellsOf t = 1) :
    RX enc P w held t (.slice (l.map fun s => .lit (.string s)) []) [.sl .no 1 l.length fun j => [.str (l.getD j [])]] := ⟨hct.symm, fun n cs p h => by
  rcases DataW.trod_slice ht h with ⟨_, hx⟩ | ⟨ad, len, cap, elems, rest, m, rfl, rfl, hx, _, hle, hcap, hel, hat, hsp, _⟩
  · simp at hx
  simp only [Prod.mk.injEq, DataW.slice.injEq] at hx
  obtain ⟨⟨h1, h2⟩, _⟩ := hx
  have h2 : rest = [] := by cases rest with | nil => rfl | cons => simp at h2
  subst h2
  have hcl : cap = len := by have := (hsp rfl).1; simp at this; omega
  subst hcl
  have hll : l.length = cap := by have := congrArg List.length h1; simp at this; omega
  subst hll
  have hel1 : ∀ i, i < l.length → ∃ v, w.cells? 0 (ad.add (i * 1)) 1 = some [v] ∧ Rep (startCx w) (.str (l.getD i [])) v := by
    intro i hi
    have hi' : i < elems.length := by omega
    have := hat i hi
    rw [hc, List.getElem?_eq_getElem hi', Option.bind_eq_some_iff] at this
    obtain ⟨vs, g1, g2⟩ := this
    have e1 : elems[i].1 = .lit (.string (l.getD i [])) := by
      have := congrArg (fun q => q[i]?) h1
      simp [hi, hi'] at this
      rw [← this]; simp [List.getD, hi]
    obtain ⟨y, hy⟩ : ∃ y, elems[i] = (DataW.lit (.string (l.getD i [])), y) := ⟨elems[i].2, by rw [← e1]⟩
    rw [hy] at g2
    have g3 := (rx_str (enc := enc) (P := P) (w := w) (held := held) he hc).2 m vs y g2
    have g4 : vs.length = 1 := by have := g3.len; simpa using this
    obtain ⟨v, rfl⟩ := List.length_eq_one_iff.1 g4
    exact ⟨v, g1, by simpa using g3.rep 0 _ rfl⟩
  have hspot : 0 < l.length → ad.spot = none := by
    intro h0
    obtain ⟨v, g1, _⟩ := hel1 0 h0
    obtain ⟨h3, h4⟩ := cells?_at g1
    have h5 := h4 0 (by omega)
    rw [Nat.zero_mul] at h5
    have e0 : ((ad.add 0).add 0) = ad := by unfold Addr.add; simp
    rw [e0] at h5
    exact World.cell?_spot h5
  have hadd : ∀ i, i < l.length → (ad.add (i * 1)).add 0 = ⟨ad.block, ad.off + (i * 1 + 0), none⟩ := by
    intro i hi
    have hs := hspot (by omega)
    obtain ⟨b, o, sp⟩ := ad
    simp only at hs
    subst hs
    by_cases c1 : i = 0
    · subst c1; rfl
    · have e1 : (⟨b, o, none⟩ : Addr).add (i * 1) = ⟨b, o + i * 1, none⟩ := by
        unfold Addr.add
        rw [if_neg (show ¬ i * 1 = 0 by omega)]
      rw [e1]; rfl
  have hcell : ∀ (j i : Nat) (u : AV), j < l.length → [AV.str (l.getD j [])][i]? = some u → ∃ v, w.cell? ⟨ad.block, ad.off + (j * 1 + i), none⟩ = some v ∧ Rep (startCx w) u v := by
    intro j i u hj hu
    cases i with
    | succ i => simp at hu
    | zero =>
      simp at hu; subst hu
      obtain ⟨v, g1, g2⟩ := hel1 j hj
      obtain ⟨h3, h4⟩ := cells?_at g1
      have h5 := h4 0 (by omega)
      rw [hadd j hj] at h5
      exact ⟨v, h5, by simpa [List.getD] using g2⟩
  refine .one1 rfl rfl (.sl .no 1 l.length _ ad l.length (fun j i => (w.cell? ⟨ad.block, ad.off + (j * 1 + i), none⟩).getD undef) hspot (Nat.le_refl _) trivial (fun j hj => ⟨rfl, rfl⟩) (fun j i u hj hu => ?_) (fun j i u hj hu => ?_))
  · obtain ⟨v, g1, _⟩ := hcell j i u hj hu
    refine ⟨?_, ?_, v, g1⟩
    · cases i with
      | zero => simp at hu; subst hu; rfl
      | succ i => simp at hu
    · show w.cell? _ = _
      rw [g1]; rfl
  · obtain ⟨v, g1, g2⟩ := hcell j i u hj hu
    rw [g1]; exact g2⟩
end
end Go.Ab

namespace Go.SH
open Go Go.Ab Go.Proofs Go.RowKit Go.Proofs.YtnldpiohcmgkdaaGreatDoor
set_option linter.unusedVariables false
set_option linter.unusedSimpArgs false
def dstrs : List (DataW Unit) → List (List UInt8)
  | .lit (.string s) :: r => s :: dstrs r
  | _ => []
def dlists : List (DataW Unit) → List (List (List UInt8))
  | .slice es _ :: r => dstrs es :: dlists r
  | _ => []
theorem rx_texts {w : World} {t m : Nat} {d : DataW Unit} (ht : Tryz.prog.underlying t = some (.array m 9)) (hc : Tryz.prog.cellsOf t = m * 1) (hd : d = .agg ((dstrs (parts d)).map fun s => .lit (.string s))) (hl : (dstrs (parts d)).length = m) (he : tcells d = (dstrs (parts d)).map fun s => .str s) : RX (fun _ => ()) Tryz.prog w false t d (tcells d) := by
  rw [he]
  have := rx_array (enc := fun _ => ()) (P := Tryz.prog) (w := w) (held := false) (t := t) (e := 9) (m := m) (sz := 1) (ds := (dstrs (parts d)).map fun s => .lit (.string s)) (us := (dstrs (parts d)).map fun s => [AV.str s]) ht (by kernel_rfl) hc (by simpa using hl) (fun i d u hd hu => by
    rw [List.getElem?_map, Option.map_eq_some_iff] at hd hu
    obtain ⟨z, hz, rfl⟩ := hd
    obtain ⟨z', hz', rfl⟩ := hu
    obtain rfl : z = z' := by rw [hz] at hz'; exact Option.some.inj hz'
    exact rx_str Tryz.underlying9 (by kernel_rfl)) (by simpa using hl)
  rw [← hd] at this
  have hf : ∀ l : List (List UInt8), (l.map fun s => [AV.str s]).flatten = l.map fun s => AV.str s := fun l => by induction l with | nil => rfl | cons s r ih => simp [ih]
  rwa [hf] at this
theorem rx_lists {w : World} {t m : Nat} {d : DataW Unit} (ht : Tryz.prog.underlying t = some (.array m 32)) (hc : Tryz.prog.cellsOf t = m * 1) (hd : d = .agg ((dlists (parts d)).map fun l => .slice (l.map fun s => .lit (.string s)) [])) (hl : (dlists (parts d)).length = m) (he : tcells d = (dlists (parts d)).map fun l => strsA l) : RX (fun _ => ()) Tryz.prog w false t d (tcells d) := by
  rw [he]
  have := rx_array (enc := fun _ => ()) (P := Tryz.prog) (w := w) (held := false) (t := t) (e := 32) (m := m) (sz := 1) (ds := (dlists (parts d)).map fun l => .slice (l.map fun s => .lit (.string s)) []) (us := (dlists (parts d)).map fun l => [strsA l]) ht (by kernel_rfl) hc (by simpa using hl) (fun i d u hd hu => by
    rw [List.getElem?_map, Option.map_eq_some_iff] at hd hu
    obtain ⟨z, hz, rfl⟩ := hd
    obtain ⟨z', hz', rfl⟩ := hu
    obtain rfl : z = z' := by rw [hz] at hz'; exact Option.some.inj hz'
    exact rx_strs Tryz.underlying32 Tryz.underlying9 (by kernel_rfl) (by kernel_rfl)) (by simpa using hl)
  rw [← hd] at this
  have hf : ∀ l : List (List (List UInt8)), (l.map fun s => [strsA s]).flatten = l.map fun s => strsA s := fun l => by induction l with | nil => rfl | cons s r ih => simp [ih]
  rwa [hf] at this
theorem globs2_of {w : World} {laid : List (String × DataW Unit)} (h : laidMet Tryz.prog laid w) (ho : w.ShapedOpen Tryz.prog)
    (m0 : ("flagstone/flagstonedraw.versions", Rows.laid_flagstone_flagstonedraw_versions) ∈ laid) (m1 : ("flagstone/flagstonedraw.lists", Rows.laid_flagstone_flagstonedraw_lists) ∈ laid) (m2 : ("flagstone/flagstonedraw.texts", Rows.laid_flagstone_flagstonedraw_texts) ∈ laid)
    (m3 : ("strings.asciiSpace", Rows.laid_strings_asciiSpace) ∈ laid) (m4 : ("unicode/utf8.first", Rows.laid_unicode_utf8_first) ∈ laid) (m5 : ("unicode/utf8.acceptRanges", Rows.laid_unicode_utf8_acceptRanges) ∈ laid)
    (m8 : ("strconv.ErrSyntax", Rows.laid_strconv_ErrSyntax) ∈ laid) (m9 : ("strconv.ErrRange", Rows.laid_strconv_ErrRange) ∈ laid) :
    ∀ g cs, V2.G g = some cs → Rep (startCx w) (.elt cs 0) (.pointer (some ⟨g, 0, none⟩)) := by
  intro g cs hg
  have hg : globs2 g = some cs := hg
  unfold globs2 at hg
  by_cases h0 : g = 0
  · subst h0
    obtain rfl := Option.some.inj hg
    exact rep_glob h m0 (by kernel_rfl) (by kernel_rfl) (rx_texts (m := 6) (t := 156) (by kernel_rfl) (by kernel_rfl) (by kernel_rfl) (by kernel_rfl) (by kernel_rfl))
  rw [beqF h0, cond_false] at hg
  by_cases h1 : g = 1
  · subst h1
    obtain rfl := Option.some.inj hg
    exact rep_glob h m1 (by kernel_rfl) (by kernel_rfl) (rx_lists (m := 5) (t := 157) (by kernel_rfl) (by kernel_rfl) (by kernel_rfl) (by kernel_rfl) (by kernel_rfl))
  rw [beqF h1, cond_false] at hg
  by_cases h2 : g = 2
  · subst h2
    obtain rfl := Option.some.inj hg
    exact rep_glob h m2 (by kernel_rfl) (by kernel_rfl) (rx_texts (m := 11) (t := 158) (by kernel_rfl) (by kernel_rfl) (by kernel_rfl) (by kernel_rfl) (by kernel_rfl))
  rw [beqF h2, cond_false] at hg
  exact globs_of h ho m3 m4 m5 m8 m9 g cs hg
section
variable {H : Type} {enc : TypeId × Value → H} {w : World} {N : Nat}
def byteI (z : Int) : Prop := 0 ≤ z ∧ z < 256
theorem rdByte (n : Nat) : Reads enc Tryz.prog w N n 5 (fun z : Int => [.int .u8 z]) byteI := (reads_int Tryz.underlying5).map id (fun _ => rfl) fun z h => by
  simp [Lit.wf, IntKind.min, IntKind.max, IntKind.signed, IntKind.bits] at h
  exact ⟨h.1, by show z < 256; omega⟩
def byteS (l : List Int) : AV := .sl .no 1 l.length fun j => [.int .u8 (l.getD j 0)]
theorem rdBytes (n : Nat) : Reads enc Tryz.prog w N n 26 (fun l : List Int => [byteS l]) (fun l => ∀ z ∈ l, byteI z) :=
  (reads_slice (e := 5) (sz := 1) (α := Int) (cl := fun z => [.int .u8 z]) (Ok := byteI) (fun l j => [.int .u8 (l.getD j 0)]) Tryz.underlying26 (by kernel_rfl) (by omega) (fun _ => rfl) (fun _ _ _ => rfl) (fun m _ => rdByte m)).map id (fun _ => rfl) fun l h => h.2.2
end
theorem slice_rep {P : Program} {H : Type} {enc : TypeId × Value → H} {W : World} {base : Nat} {t e : TypeId} {v : Value} {d : DataW H} {p : List MemPlace} {α : Type} {cl : α → AV} {Ok : α → Prop} (hs : P.underlying t = some (.slice e))
    (hv : Value.okWide P W .any base t v) (h : DataW.Trod enc P W 0 (fun _ => true) true t v d p) {N : Nat} (hr : ∀ n, Reads enc P W N n t (fun a => [cl a]) Ok) (hb : bulkD d ≤ N) :
    ∃ a, Ok a ∧ Rep (startCx W) (cl a) v ∧ (cl a).keys = [] := by
  obtain ⟨a, len, cap, rfl⟩ := Go.WideShapes.okWide_slice hs hv
  obtain ⟨n, hn⟩ := h
  obtain ⟨x, h1, h2⟩ := hr n (Value.slice a len cap).cells.toList (d, p) hn hb
  refine ⟨x, h2, ?_, (h1.one _ (by simp)).2⟩
  simpa [Value.cells] using h1.rep 0 _ rfl
end Go.SH
