/- The draws: Next, Text, Value: contracts. The draws: Key, Test: equations. Conditions that are well-formed: how many parts they have, what the checks answer. The draws: Key, Test: contracts. The draws: Test: its contract. The draws: Test: its contract. The draws: Test: one contract. The draws: Expr: equations. The draws: Expr: its loop. The draws: Expr at one level: equations. The draws: Expr: how its answers are told. The draws: Expr: its contract. The parts of a condition: equations. The parts of a condition: contracts. ShapeParts: the plain law. A function that hands back a pointer to a new object: its contract by a run. A view of a state in which less is told: variables' cells told in other words. -/
import Derived.Test.YtnldpiohcmgkdaaGreatDoorX5
namespace Go.SH
open Go Go.Ab Go.Proofs
set_option linter.unusedVariables false
set_option linter.unusedSimpArgs false
def CODES.Ok (C : CODES) : Prop := C.at' ≤ C.n ∧ C.n ≤ 4611686018427387904 ∧ ∀ j, j < C.n → 0 ≤ C.g j ∧ C.g j < 256
instance : Inhabited CODES := ⟨⟨0, fun _ => 0, 0⟩⟩
theorem CODES.c_inj {a b : CODES} (h : a.c = b.c) : a = b := by
  obtain ⟨n, g, p⟩ := a
  obtain ⟨n', g', p'⟩ := b
  simp only [CODES.c, List.cons.injEq, AV.sl.injEq, AV.int.injEq, true_and, and_true] at h
  obtain ⟨⟨rfl, h2⟩, h3⟩ := h
  have hg : g = g' := funext fun j => by
    have := congrFun h2 j
    simpa using this
  have hp : p = p' := by omega
  rw [hg, hp]
def nextR (C : CODES) (m : Int) : Int × CODES := bif decide (C.at' < C.n) then (Int.tmod (C.g C.at') m, { C with at' := C.at' + 1 }) else (0, C)
theorem nextR_ok {C : CODES} (h : C.Ok) {m : Int} (hm : 1 ≤ m) : 0 ≤ (nextR C m).1 ∧ (nextR C m).1 < m ∧ (nextR C m).2.Ok := by
  unfold nextR
  by_cases hc : C.at' < C.n
  · rw [decide_eq_true hc]
    have hg := h.2.2 _ hc
    refine ⟨Int.tmod_nonneg _ hg.1, Int.tmod_lt_of_pos _ (by omega), ?_, h.2.1, h.2.2⟩
    show C.at' + 1 ≤ C.n; omega
  · rw [decide_eq_false hc]
    exact ⟨Int.le_refl _, by show (0 : Int) < m; omega, h⟩
theorem next_ok (C : CODES) (h : C.Ok) (m : Int) (hm : 1 ≤ m) : Ct V2.P V2.G 19 [.ref keyBase 0, .int .i64 m] [codO C] (φX (nextR C m)) := by
  have h2 := h.2.1
  refine ct_loops (n := 9) (d := 3) (T := []) (L := []) mixed2 funcs2 tabOk_nil loopsOk_nil ((next_m C m).trans ?_)
  by_cases hc : C.at' < C.n
  · have hg := h.2.2 _ hc
    have w1 : IntKind.wrap .i64 ((C.at' : Int) + 1) = ((C.at' + 1 : Nat) : Int) := by rw [wrap_i64 (by omega) (by omega)]; rfl
    have w2 : IntKind.wrap .i64 (((C.at' + 1 : Nat) : Int) - 1) = (C.at' : Int) := by rw [wrap_i64 (by omega) (by omega)]; omega
    have w3 : IntKind.wrap .i64 (C.g C.at') = C.g C.at' := wrap_i64 (by omega) (by omega)
    rw [lt_true hc, w1, w2, within_lt hc, Int.toNat_natCast, w3, show (m != 0) = true by simp; omega]
    unfold nextR
    rw [decide_eq_true hc]; rfl
  · rw [lt_false hc]
    unfold nextR
    rw [decide_eq_false hc]; rfl
def nA (x : CODES × Int) : List AV := [.ref keyBase 0, .int .i64 x.2]
def nO (x : CODES × Int) : List AO := [codO x.1]
def nP (x : CODES × Int) : Prop := x.1.Ok ∧ 1 ≤ x.2
def nW (x : CODES × Int) : Int × CODES := nextR x.1 x.2
theorem codO_inj {a b : CODES} (h : codO a = codO b) : a = b := by
  unfold codO at h
  simp only [AO.cells.injEq] at h
  exact CODES.c_inj h
theorem nInj (a b : CODES × Int) (h : nA a = nA b) (h' : nO a = nO b) : nW a = nW b := by
  obtain ⟨C, m⟩ := a
  obtain ⟨C', m'⟩ := b
  simp only [nA, nO, List.cons.injEq, AV.int.injEq, true_and, and_true] at h h'
  have h2 := codO_inj h'
  subst h2 h; rfl
noncomputable abbrev gN : List AV → List AO → Bool := goodA nA nO nP
noncomputable abbrev vN : List AV → List AO → Int × CODES := valA nA nO nP nW
theorem gN_eq {C : CODES} (h : C.Ok) {m : Int} (hm : 1 ≤ m) : gN [.ref 1000000 0, .int .i64 m] [codO C] = true := goodA_eq (A := nA) (O := nO) (v := (C, m)) ⟨h, hm⟩
theorem vN_eq {C : CODES} (h : C.Ok) {m : Int} (hm : 1 ≤ m) : vN [.ref 1000000 0, .int .i64 m] [codO C] = nextR C m := valA_eq (A := nA) (O := nO) (v := (C, m)) (fun a b _ _ h1 h2 => nInj a b h1 h2) ⟨h, hm⟩
noncomputable abbrev entN : Ent := entC 19 nA nO nP nW φX
theorem entN_ok : ∀ l os, entN.pre l os = true → Ct V2.P V2.G entN.f l os (entN.ans l os) := entC_ok fun a ha => next_ok a.1 ha.1 a.2 ha.2
/-- One state of the codes as the argument. -/
def cA (_ : CODES) : List AV := [.ref keyBase 0]
def cO (C : CODES) : List AO := [codO C]
theorem cPost {τ : Type} (Post : τ → Prop) (a b : CODES) (x : τ) (_ : cA a = cA b) (_ : cO a = cO b) (h : Post x) : Post x := h
def textsL : List (List UInt8) := [[115, 101], [100, 101], [117, 115], [112, 114, 111], [102, 114, 101, 101], [], [97, 34, 98], [99, 92], [195, 169], [112, 114, 111, 115, 101], [120, 32, 121]]
def numsL : List Int := [0, 1, 17, 18, 19, (-5), 64, 1099511627776, (-1099511627776)]
def versL : List (List UInt8) := [[49, 46, 48, 46, 48], [49, 46, 50, 46, 51], [49, 46, 49, 48, 46, 48], [50, 46, 48, 46, 49], [48, 46, 48, 46, 48], [57, 57, 57, 57, 57, 57, 46, 48, 46, 57, 57, 57, 57, 57, 57]]
def listsL : List (List (List UInt8)) := [[], [[112, 114, 111]], [[100, 101], [115, 101]], [[], [102, 114, 101, 101], [117, 115]], [[120, 32, 121]]]
theorem text_ex (C : CODES) (h : C.Ok) : ∃ x : List UInt8 × CODES, (x.1 ∈ textsL ∧ x.2.Ok) ∧ Ct V2.P V2.G 59 (cA C) (cO C) (φT x) := by
  obtain ⟨h0, h1, h2⟩ := nextR_ok h (m := 11) (by omega)
  have hn := next_ok C h 11 (by omega)
  revert h0 h1 h2 hn
  generalize nextR C 11 = y
  obtain ⟨r, D⟩ := y
  intro h0 h1 h2 hn
  have hr : r = 0 ∨ r = 1 ∨ r = 2 ∨ r = 3 ∨ r = 4 ∨ r = 5 ∨ r = 6 ∨ r = 7 ∨ r = 8 ∨ r = 9 ∨ r = 10 := by have h0 : 0 ≤ r := h0; have h1 : r < 11 := h1; omega
  have hT := entK_ok (φ := φX) hn
  rcases hr with rfl | rfl | rfl | rfl | rfl | rfl | rfl | rfl | rfl | rfl | rfl
  · exact ⟨([115, 101], D), ⟨(show ([115, 101] : List UInt8) ∈ textsL by decide), h2⟩, ct_loops (n := 9) (d := 3) (L := []) (T := [entK 19 [.ref keyBase 0, .int .i64 11] [codO C] (0, D) φX]) mixed2 funcs2 (tabOk_cons hT tabOk_nil) loopsOk_nil ((text_0 _ C D).trans (by rw [show goodA (fun _ : Unit => [.ref keyBase 0, .int .i64 11]) (fun _ => [codO C]) (fun _ => True) [.ref 1000000 0, .int .i64 11] [codO C] = true from gK_eq _ _]; rfl))⟩
  · exact ⟨([100, 101], D), ⟨(show ([100, 101] : List UInt8) ∈ textsL by decide), h2⟩, ct_loops (n := 9) (d := 3) (L := []) (T := [entK 19 [.ref keyBase 0, .int .i64 11] [codO C] (1, D) φX]) mixed2 funcs2 (tabOk_cons hT tabOk_nil) loopsOk_nil ((text_1 _ C D).trans (by rw [show goodA (fun _ : Unit => [.ref keyBase 0, .int .i64 11]) (fun _ => [codO C]) (fun _ => True) [.ref 1000000 0, .int .i64 11] [codO C] = true from gK_eq _ _]; rfl))⟩
  · exact ⟨([117, 115], D), ⟨(show ([117, 115] : List UInt8) ∈ textsL by decide), h2⟩, ct_loops (n := 9) (d := 3) (L := []) (T := [entK 19 [.ref keyBase 0, .int .i64 11] [codO C] (2, D) φX]) mixed2 funcs2 (tabOk_cons hT tabOk_nil) loopsOk_nil ((text_2 _ C D).trans (by rw [show goodA (fun _ : Unit => [.ref keyBase 0, .int .i64 11]) (fun _ => [codO C]) (fun _ => True) [.ref 1000000 0, .int .i64 11] [codO C] = true from gK_eq _ _]; rfl))⟩
  · exact ⟨([112, 114, 111], D), ⟨(show ([112, 114, 111] : List UInt8) ∈ textsL by decide), h2⟩, ct_loops (n := 9) (d := 3) (L := []) (T := [entK 19 [.ref keyBase 0, .int .i64 11] [codO C] (3, D) φX]) mixed2 funcs2 (tabOk_cons hT tabOk_nil) loopsOk_nil ((text_3 _ C D).trans (by rw [show goodA (fun _ : Unit => [.ref keyBase 0, .int .i64 11]) (fun _ => [codO C]) (fun _ => True) [.ref 1000000 0, .int .i64 11] [codO C] = true from gK_eq _ _]; rfl))⟩
  · exact ⟨([102, 114, 101, 101], D), ⟨(show ([102, 114, 101, 101] : List UInt8) ∈ textsL by decide), h2⟩, ct_loops (n := 9) (d := 3) (L := []) (T := [entK 19 [.ref keyBase 0, .int .i64 11] [codO C] (4, D) φX]) mixed2 funcs2 (tabOk_cons hT tabOk_nil) loopsOk_nil ((text_4 _ C D).trans (by rw [show goodA (fun _ : Unit => [.ref keyBase 0, .int .i64 11]) (fun _ => [codO C]) (fun _ => True) [.ref 1000000 0, .int .i64 11] [codO C] = true from gK_eq _ _]; rfl))⟩
  · exact ⟨([], D), ⟨(show ([] : List UInt8) ∈ textsL by decide), h2⟩, ct_loops (n := 9) (d := 3) (L := []) (T := [entK 19 [.ref keyBase 0, .int .i64 11] [codO C] (5, D) φX]) mixed2 funcs2 (tabOk_cons hT tabOk_nil) loopsOk_nil ((text_5 _ C D).trans (by rw [show goodA (fun _ : Unit => [.ref keyBase 0, .int .i64 11]) (fun _ => [codO C]) (fun _ => True) [.ref 1000000 0, .int .i64 11] [codO C] = true from gK_eq _ _]; rfl))⟩
  · exact ⟨([97, 34, 98], D), ⟨(show ([97, 34, 98] : List UInt8) ∈ textsL by decide), h2⟩, ct_loops (n := 9) (d := 3) (L := []) (T := [entK 19 [.ref keyBase 0, .int .i64 11] [codO C] (6, D) φX]) mixed2 funcs2 (tabOk_cons hT tabOk_nil) loopsOk_nil ((text_6 _ C D).trans (by rw [show goodA (fun _ : Unit => [.ref keyBase 0, .int .i64 11]) (fun _ => [codO C]) (fun _ => True) [.ref 1000000 0, .int .i64 11] [codO C] = true from gK_eq _ _]; rfl))⟩
  · exact ⟨([99, 92], D), ⟨(show ([99, 92] : List UInt8) ∈ textsL by decide), h2⟩, ct_loops (n := 9) (d := 3) (L := []) (T := [entK 19 [.ref keyBase 0, .int .i64 11] [codO C] (7, D) φX]) mixed2 funcs2 (tabOk_cons hT tabOk_nil) loopsOk_nil ((text_7 _ C D).trans (by rw [show goodA (fun _ : Unit => [.ref keyBase 0, .int .i64 11]) (fun _ => [codO C]) (fun _ => True) [.ref 1000000 0, .int .i64 11] [codO C] = true from gK_eq _ _]; rfl))⟩
  · exact ⟨([195, 169], D), ⟨(show ([195, 169] : List UInt8) ∈ textsL by decide), h2⟩, ct_loops (n := 9) (d := 3) (L := []) (T := [entK 19 [.ref keyBase 0, .int .i64 11] [codO C] (8, D) φX]) mixed2 funcs2 (tabOk_cons hT tabOk_nil) loopsOk_nil ((text_8 _ C D).trans (by rw [show goodA (fun _ : Unit => [.ref keyBase 0, .int .i64 11]) (fun _ => [codO C]) (fun _ => True) [.ref 1000000 0, .int .i64 11] [codO C] = true from gK_eq _ _]; rfl))⟩
  · exact ⟨([112, 114, 111, 115, 101], D), ⟨(show ([112, 114, 111, 115, 101] : List UInt8) ∈ textsL by decide), h2⟩, ct_loops (n := 9) (d := 3) (L := []) (T := [entK 19 [.ref keyBase 0, .int .i64 11] [codO C] (9, D) φX]) mixed2 funcs2 (tabOk_cons hT tabOk_nil) loopsOk_nil ((text_9 _ C D).trans (by rw [show goodA (fun _ : Unit => [.ref keyBase 0, .int .i64 11]) (fun _ => [codO C]) (fun _ => True) [.ref 1000000 0, .int .i64 11] [codO C] = true from gK_eq _ _]; rfl))⟩
  · exact ⟨([120, 32, 121], D), ⟨(show ([120, 32, 121] : List UInt8) ∈ textsL by decide), h2⟩, ct_loops (n := 9) (d := 3) (L := []) (T := [entK 19 [.ref keyBase 0, .int .i64 11] [codO C] (10, D) φX]) mixed2 funcs2 (tabOk_cons hT tabOk_nil) loopsOk_nil ((text_10 _ C D).trans (by rw [show goodA (fun _ : Unit => [.ref keyBase 0, .int .i64 11]) (fun _ => [codO C]) (fun _ => True) [.ref 1000000 0, .int .i64 11] [codO C] = true from gK_eq _ _]; rfl))⟩
theorem small_strs (l : List (List UInt8)) (h : (decide (l.length ≤ 10) && l.all fun s => decide (s.length ≤ 100)) = true) : strsOk l := by
  simp only [Bool.and_eq_true, decide_eq_true_eq, List.all_eq_true] at h
  exact ⟨by omega, fun s hs => by have := h.2 s hs; unfold lenS maxS; omega⟩
def goodVal (kind : Int) (v : VAL) : Prop := v.kind = kind ∧ checkE v = 0 ∧ v.Ok
theorem texts_good : ∀ s ∈ textsL, goodVal 3 ⟨3, 0, s, []⟩ := by
  intro s hs
  simp only [textsL, List.mem_cons, List.not_mem_nil, or_false] at hs
  rcases hs with rfl | rfl | rfl | rfl | rfl | rfl | rfl | rfl | rfl | rfl | rfl <;> exact ⟨rfl, by kernel_rfl, by decide, by decide, by simp⟩
/-- A slice told in another way. -/
theorem agg_last {c : Cx} {us : List AV} {o o' : Own} {sz sz' n : Nat} {get get' : Nat → List AV} {v : Value} (h : Rep c (.agg (us ++ [.sl o sz n get])) v) (hw : ∀ x, Rep c (.sl o sz n get) x → Rep c (.sl o' sz' n get') x) : Rep c (.agg (us ++ [.sl o' sz' n get'])) v := by
  cases h with
  | agg _ vs h1 h2 h3 =>
    refine .agg _ vs (by simpa using h1) (fun i u hu => ?_) (fun i u hu => ?_)
    · by_cases hi : i < us.length
      · rw [List.getElem?_append_left hi] at hu
        exact h2 i u (by rw [List.getElem?_append_left hi]; exact hu)
      · rw [List.getElem?_append_right (by omega)] at hu
        cases hj : i - us.length with
        | zero => rw [hj] at hu; simp at hu; subst hu; rfl
        | succ j => rw [hj] at hu; simp at hu
    · by_cases hi : i < us.length
      · rw [List.getElem?_append_left hi] at hu
        exact h3 i u (by rw [List.getElem?_append_left hi]; exact hu)
      · rw [List.getElem?_append_right (by omega)] at hu
        cases hj : i - us.length with
        | zero =>
          rw [hj] at hu; simp at hu; subst hu
          exact hw _ (h3 i _ (by rw [List.getElem?_append_right (by omega), hj]; rfl))
        | succ j => rw [hj] at hu; simp at hu
theorem sl_fit {c : Cx} {sz : Nat} {get get' : Nat → List AV} (x : Value) (h : Rep c (.sl .fit 0 0 get) x) : Rep c (.sl .no sz 0 get') x := by
  cases h with
  | slNil _ _ _ ho => exact .slNil _ _ _ trivial
  | sl _ _ _ _ ad cap vals h1 h2 h3 h4 h5 h6 => exact .sl _ _ _ _ ad cap vals h1 h2 trivial (fun j hj => by omega) (fun j i u hj => by omega) (fun j i u hj => by omega)
theorem val_ct {C D : CODES} {kind : Int} {k n : Int} {s : List UInt8} (h : Ct V2.P V2.G 58 [.ref keyBase 0, .int .i64 kind] [codO C] (.agg [.int .i64 k, .int .i64 n, .str s, .sl .fit 0 0 fun _ => []], [codO D])) :
    Ct V2.P V2.G 58 [.ref keyBase 0, .int .i64 kind] [codO C] (φV (⟨k, n, s, []⟩, D)) :=
  h.res (by simp [VAL.c, AV.keys, keysL, strsA]) fun c v hv => agg_last (us := [.int .i64 k, .int .i64 n, .str s]) hv sl_fit
theorem val_ct5 {C D : CODES} {kind : Int} {k n : Int} {s : List UInt8} {l : List (List UInt8)} {get : Nat → List AV} (hg : ∀ j, j < l.length → get j = [.str (l.getD j [])]) (h : Ct V2.P V2.G 58 [.ref keyBase 0, .int .i64 kind] [codO C] (.agg [.int .i64 k, .int .i64 n, .str s, .sl .no 1 l.length get], [codO D])) :
    Ct V2.P V2.G 58 [.ref keyBase 0, .int .i64 kind] [codO C] (φV (⟨k, n, s, l⟩, D)) :=
  h.res (by simp [VAL.c, AV.keys, keysL, strsA]) fun c v hv => agg_last (us := [.int .i64 k, .int .i64 n, .str s]) hv fun x hx => hx.slWeak fun j hj => (hg j hj).symm
def vA (x : CODES × Int) : List AV := [.ref keyBase 0, .int .i64 x.2]
def vO (x : CODES × Int) : List AO := [codO x.1]
def vP (x : CODES × Int) : Prop := x.1.Ok ∧ 1 ≤ x.2 ∧ x.2 ≤ 5
def vPost (x : CODES × Int) (y : VAL × CODES) : Prop := goodVal x.2 y.1 ∧ y.2.Ok
theorem value_ex (a : CODES × Int) (ha : vP a) : ∃ x : VAL × CODES, vPost a x ∧ Ct V2.P V2.G 58 (vA a) (vO a) (φV x) := by
  obtain ⟨C, kind⟩ := a
  obtain ⟨h, k1, k5⟩ := ha
  have hk : kind = 1 ∨ kind = 2 ∨ kind = 3 ∨ kind = 4 ∨ kind = 5 := by have k1 : 1 ≤ kind := k1; have k5 : kind ≤ 5 := k5; omega
  obtain ⟨wt, hwt, htt⟩ := ent_ex (V := V2) (f := 59) (A := cA) (O := cO) (Pre := CODES.Ok) (φ := φT) (Post := fun (_ : CODES) (x : List UInt8 × CODES) => x.1 ∈ textsL ∧ x.2.Ok) text_ex
  have hgt : goodA cA cO CODES.Ok [.ref 1000000 0] [codO C] = true := goodA_eq (A := cA) (O := cO) (v := C) h
  have hvt := valA_post (A := cA) (O := cO) (Post := fun (_ : CODES) (x : List UInt8 × CODES) => x.1 ∈ textsL ∧ x.2.Ok) hwt (fun a b x _ _ hx => hx) h
  rcases hk with rfl | rfl | rfl | rfl | rfl
  · obtain ⟨h0, h1, h2⟩ := nextR_ok h (m := 2) (by omega)
    have hc := ct_loops (V := V2) (f := 58) (n := 9) (d := 3) (L := []) (T := [entN, entC 59 cA cO CODES.Ok wt φT]) mixed2 funcs2 (tabOk_cons entN_ok (tabOk_cons htt tabOk_nil)) loopsOk_nil ((value_1 gN vN _ _ C (vN_eq h (by omega))).trans (by rw [gN_eq h (by omega)]; rfl))
    revert h0 h1 h2 hc
    generalize nextR C 2 = y
    obtain ⟨r, D⟩ := y
    intro h0 h1 h2 hc
    have hr : r = 0 ∨ r = 1 := by have h0 : 0 ≤ r := h0; have h1 : r < 2 := h1; omega
    rcases hr with rfl | rfl
    · exact ⟨(⟨1, 0, [], []⟩, D), ⟨(show goodVal 1 ⟨1, 0, [], []⟩ from ⟨rfl, by kernel_rfl, by decide, by decide, by simp⟩), h2⟩, val_ct hc⟩
    · exact ⟨(⟨1, 1, [], []⟩, D), ⟨(show goodVal 1 ⟨1, 1, [], []⟩ from ⟨rfl, by kernel_rfl, by decide, by decide, by simp⟩), h2⟩, val_ct hc⟩
  · obtain ⟨h0, h1, h2⟩ := nextR_ok h (m := 9) (by omega)
    have hn := next_ok C h 9 (by omega)
    revert h0 h1 h2 hn
    generalize nextR C 9 = y
    obtain ⟨r, D⟩ := y
    intro h0 h1 h2 hn
    have hr : r = 0 ∨ r = 1 ∨ r = 2 ∨ r = 3 ∨ r = 4 ∨ r = 5 ∨ r = 6 ∨ r = 7 ∨ r = 8 := by have h0 : 0 ≤ r := h0; have h1 : r < 9 := h1; omega
    have hT := entK_ok (φ := φX) hn
    have hg : goodA (fun _ : Unit => [.ref keyBase 0, .int .i64 9]) (fun _ => [codO C]) (fun _ => True) [.ref 1000000 0, .int .i64 9] [codO C] = true := gK_eq _ _
    rcases hr with rfl | rfl | rfl | rfl | rfl | rfl | rfl | rfl | rfl
    · exact ⟨(⟨2, 0, [], []⟩, D), ⟨(show goodVal 2 ⟨2, 0, [], []⟩ from ⟨rfl, by kernel_rfl, by decide, by decide, by simp⟩), h2⟩, val_ct (ct_loops (V := V2) (f := 58) (n := 9) (d := 3) (L := []) (T := [entK 19 [.ref keyBase 0, .int .i64 9] [codO C] (0, D) φX, entC 59 cA cO CODES.Ok wt φT]) mixed2 funcs2 (tabOk_cons hT (tabOk_cons htt tabOk_nil)) loopsOk_nil ((value_2_0 _ _ _ C D).trans (by first | (rw [hg]; rfl) | exact (congrArg (fun b => cond b _ none) hg).trans rfl)))⟩
    · exact ⟨(⟨2, 1, [], []⟩, D), ⟨(show goodVal 2 ⟨2, 1, [], []⟩ from ⟨rfl, by kernel_rfl, by decide, by decide, by simp⟩), h2⟩, val_ct (ct_loops (V := V2) (f := 58) (n := 9) (d := 3) (L := []) (T := [entK 19 [.ref keyBase 0, .int .i64 9] [codO C] (1, D) φX, entC 59 cA cO CODES.Ok wt φT]) mixed2 funcs2 (tabOk_cons hT (tabOk_cons htt tabOk_nil)) loopsOk_nil ((value_2_1 _ _ _ C D).trans (by first | (rw [hg]; rfl) | exact (congrArg (fun b => cond b _ none) hg).trans rfl)))⟩
    · exact ⟨(⟨2, 17, [], []⟩, D), ⟨(show goodVal 2 ⟨2, 17, [], []⟩ from ⟨rfl, by kernel_rfl, by decide, by decide, by simp⟩), h2⟩, val_ct (ct_loops (V := V2) (f := 58) (n := 9) (d := 3) (L := []) (T := [entK 19 [.ref keyBase 0, .int .i64 9] [codO C] (2, D) φX, entC 59 cA cO CODES.Ok wt φT]) mixed2 funcs2 (tabOk_cons hT (tabOk_cons htt tabOk_nil)) loopsOk_nil ((value_2_2 _ _ _ C D).trans (by first | (rw [hg]; rfl) | exact (congrArg (fun b => cond b _ none) hg).trans rfl)))⟩
    · exact ⟨(⟨2, 18, [], []⟩, D), ⟨(show goodVal 2 ⟨2, 18, [], []⟩ from ⟨rfl, by kernel_rfl, by decide, by decide, by simp⟩), h2⟩, val_ct (ct_loops (V := V2) (f := 58) (n := 9) (d := 3) (L := []) (T := [entK 19 [.ref keyBase 0, .int .i64 9] [codO C] (3, D) φX, entC 59 cA cO CODES.Ok wt φT]) mixed2 funcs2 (tabOk_cons hT (tabOk_cons htt tabOk_nil)) loopsOk_nil ((value_2_3 _ _ _ C D).trans (by first | (rw [hg]; rfl) | exact (congrArg (fun b => cond b _ none) hg).trans rfl)))⟩
    · exact ⟨(⟨2, 19, [], []⟩, D), ⟨(show goodVal 2 ⟨2, 19, [], []⟩ from ⟨rfl, by kernel_rfl, by decide, by decide, by simp⟩), h2⟩, val_ct (ct_loops (V := V2) (f := 58) (n := 9) (d := 3) (L := []) (T := [entK 19 [.ref keyBase 0, .int .i64 9] [codO C] (4, D) φX, entC 59 cA cO CODES.Ok wt φT]) mixed2 funcs2 (tabOk_cons hT (tabOk_cons htt tabOk_nil)) loopsOk_nil ((value_2_4 _ _ _ C D).trans (by first | (rw [hg]; rfl) | exact (congrArg (fun b => cond b _ none) hg).trans rfl)))⟩
    · exact ⟨(⟨2, (-5), [], []⟩, D), ⟨(show goodVal 2 ⟨2, (-5), [], []⟩ from ⟨rfl, by kernel_rfl, by decide, by decide, by simp⟩), h2⟩, val_ct (ct_loops (V := V2) (f := 58) (n := 9) (d := 3) (L := []) (T := [entK 19 [.ref keyBase 0, .int .i64 9] [codO C] (5, D) φX, entC 59 cA cO CODES.Ok wt φT]) mixed2 funcs2 (tabOk_cons hT (tabOk_cons htt tabOk_nil)) loopsOk_nil ((value_2_5 _ _ _ C D).trans (by first | (rw [hg]; rfl) | exact (congrArg (fun b => cond b _ none) hg).trans rfl)))⟩
    · exact ⟨(⟨2, 64, [], []⟩, D), ⟨(show goodVal 2 ⟨2, 64, [], []⟩ from ⟨rfl, by kernel_rfl, by decide, by decide, by simp⟩), h2⟩, val_ct (ct_loops (V := V2) (f := 58) (n := 9) (d := 3) (L := []) (T := [entK 19 [.ref keyBase 0, .int .i64 9] [codO C] (6, D) φX, entC 59 cA cO CODES.Ok wt φT]) mixed2 funcs2 (tabOk_cons hT (tabOk_cons htt tabOk_nil)) loopsOk_nil ((value_2_6 _ _ _ C D).trans (by first | (rw [hg]; rfl) | exact (congrArg (fun b => cond b _ none) hg).trans rfl)))⟩
    · exact ⟨(⟨2, 1099511627776, [], []⟩, D), ⟨(show goodVal 2 ⟨2, 1099511627776, [], []⟩ from ⟨rfl, by kernel_rfl, by decide, by decide, by simp⟩), h2⟩, val_ct (ct_loops (V := V2) (f := 58) (n := 9) (d := 3) (L := []) (T := [entK 19 [.ref keyBase 0, .int .i64 9] [codO C] (7, D) φX, entC 59 cA cO CODES.Ok wt φT]) mixed2 funcs2 (tabOk_cons hT (tabOk_cons htt tabOk_nil)) loopsOk_nil ((value_2_7 _ _ _ C D).trans (by first | (rw [hg]; rfl) | exact (congrArg (fun b => cond b _ none) hg).trans rfl)))⟩
    · exact ⟨(⟨2, (-1099511627776), [], []⟩, D), ⟨(show goodVal 2 ⟨2, (-1099511627776), [], []⟩ from ⟨rfl, by kernel_rfl, by decide, by decide, by simp⟩), h2⟩, val_ct (ct_loops (V := V2) (f := 58) (n := 9) (d := 3) (L := []) (T := [entK 19 [.ref keyBase 0, .int .i64 9] [codO C] (8, D) φX, entC 59 cA cO CODES.Ok wt φT]) mixed2 funcs2 (tabOk_cons hT (tabOk_cons htt tabOk_nil)) loopsOk_nil ((value_2_8 _ _ _ C D).trans (by first | (rw [hg]; rfl) | exact (congrArg (fun b => cond b _ none) hg).trans rfl)))⟩
  · obtain ⟨q1, q2⟩ := hvt
    have hc := ct_loops (V := V2) (f := 58) (n := 9) (d := 3) (L := []) (T := [entN, entC 59 cA cO CODES.Ok wt φT]) mixed2 funcs2 (tabOk_cons entN_ok (tabOk_cons htt tabOk_nil)) loopsOk_nil ((value_3 gN vN _ _ C rfl).trans (by rw [hgt]; rfl))
    exact ⟨(⟨3, 0, (valA cA cO CODES.Ok wt (cA C) (cO C)).1, []⟩, (valA cA cO CODES.Ok wt (cA C) (cO C)).2), ⟨texts_good _ q1, q2⟩, val_ct hc⟩
  · obtain ⟨h0, h1, h2⟩ := nextR_ok h (m := 6) (by omega)
    have hn := next_ok C h 6 (by omega)
    revert h0 h1 h2 hn
    generalize nextR C 6 = y
    obtain ⟨r, D⟩ := y
    intro h0 h1 h2 hn
    have hr : r = 0 ∨ r = 1 ∨ r = 2 ∨ r = 3 ∨ r = 4 ∨ r = 5 := by have h0 : 0 ≤ r := h0; have h1 : r < 6 := h1; omega
    have hT := entK_ok (φ := φX) hn
    have hg : goodA (fun _ : Unit => [.ref keyBase 0, .int .i64 6]) (fun _ => [codO C]) (fun _ => True) [.ref 1000000 0, .int .i64 6] [codO C] = true := gK_eq _ _
    rcases hr with rfl | rfl | rfl | rfl | rfl | rfl
    · exact ⟨(⟨4, 0, [49, 46, 48, 46, 48], []⟩, D), ⟨(show goodVal 4 ⟨4, 0, [49, 46, 48, 46, 48], []⟩ from ⟨rfl, by kernel_rfl, by decide, by decide, by simp⟩), h2⟩, val_ct (ct_loops (V := V2) (f := 58) (n := 9) (d := 3) (L := []) (T := [entK 19 [.ref keyBase 0, .int .i64 6] [codO C] (0, D) φX, entC 59 cA cO CODES.Ok wt φT]) mixed2 funcs2 (tabOk_cons hT (tabOk_cons htt tabOk_nil)) loopsOk_nil ((value_4_0 _ _ _ C D).trans (by first | (rw [hg]; rfl) | exact (congrArg (fun b => cond b _ none) hg).trans rfl)))⟩
    · exact ⟨(⟨4, 0, [49, 46, 50, 46, 51], []⟩, D), ⟨(show goodVal 4 ⟨4, 0, [49, 46, 50, 46, 51], []⟩ from ⟨rfl, by kernel_rfl, by decide, by decide, by simp⟩), h2⟩, val_ct (ct_loops (V := V2) (f := 58) (n := 9) (d := 3) (L := []) (T := [entK 19 [.ref keyBase 0, .int .i64 6] [codO C] (1, D) φX, entC 59 cA cO CODES.Ok wt φT]) mixed2 funcs2 (tabOk_cons hT (tabOk_cons htt tabOk_nil)) loopsOk_nil ((value_4_1 _ _ _ C D).trans (by first | (rw [hg]; rfl) | exact (congrArg (fun b => cond b _ none) hg).trans rfl)))⟩
    · exact ⟨(⟨4, 0, [49, 46, 49, 48, 46, 48], []⟩, D), ⟨(show goodVal 4 ⟨4, 0, [49, 46, 49, 48, 46, 48], []⟩ from ⟨rfl, by kernel_rfl, by decide, by decide, by simp⟩), h2⟩, val_ct (ct_loops (V := V2) (f := 58) (n := 9) (d := 3) (L := []) (T := [entK 19 [.ref keyBase 0, .int .i64 6] [codO C] (2, D) φX, entC 59 cA cO CODES.Ok wt φT]) mixed2 funcs2 (tabOk_cons hT (tabOk_cons htt tabOk_nil)) loopsOk_nil ((value_4_2 _ _ _ C D).trans (by first | (rw [hg]; rfl) | exact (congrArg (fun b => cond b _ none) hg).trans rfl)))⟩
    · exact ⟨(⟨4, 0, [50, 46, 48, 46, 49], []⟩, D), ⟨(show goodVal 4 ⟨4, 0, [50, 46, 48, 46, 49], []⟩ from ⟨rfl, by kernel_rfl, by decide, by decide, by simp⟩), h2⟩, val_ct (ct_loops (V := V2) (f := 58) (n := 9) (d := 3) (L := []) (T := [entK 19 [.ref keyBase 0, .int .i64 6] [codO C] (3, D) φX, entC 59 cA cO CODES.Ok wt φT]) mixed2 funcs2 (tabOk_cons hT (tabOk_cons htt tabOk_nil)) loopsOk_nil ((value_4_3 _ _ _ C D).trans (by first | (rw [hg]; rfl) | exact (congrArg (fun b => cond b _ none) hg).trans rfl)))⟩
    · exact ⟨(⟨4, 0, [48, 46, 48, 46, 48], []⟩, D), ⟨(show goodVal 4 ⟨4, 0, [48, 46, 48, 46, 48], []⟩ from ⟨rfl, by kernel_rfl, by decide, by decide, by simp⟩), h2⟩, val_ct (ct_loops (V := V2) (f := 58) (n := 9) (d := 3) (L := []) (T := [entK 19 [.ref keyBase 0, .int .i64 6] [codO C] (4, D) φX, entC 59 cA cO CODES.Ok wt φT]) mixed2 funcs2 (tabOk_cons hT (tabOk_cons htt tabOk_nil)) loopsOk_nil ((value_4_4 _ _ _ C D).trans (by first | (rw [hg]; rfl) | exact (congrArg (fun b => cond b _ none) hg).trans rfl)))⟩
    · exact ⟨(⟨4, 0, [57, 57, 57, 57, 57, 57, 46, 48, 46, 57, 57, 57, 57, 57, 57], []⟩, D), ⟨(show goodVal 4 ⟨4, 0, [57, 57, 57, 57, 57, 57, 46, 48, 46, 57, 57, 57, 57, 57, 57], []⟩ from ⟨rfl, by kernel_rfl, by decide, by decide, by simp⟩), h2⟩, val_ct (ct_loops (V := V2) (f := 58) (n := 9) (d := 3) (L := []) (T := [entK 19 [.ref keyBase 0, .int .i64 6] [codO C] (5, D) φX, entC 59 cA cO CODES.Ok wt φT]) mixed2 funcs2 (tabOk_cons hT (tabOk_cons htt tabOk_nil)) loopsOk_nil ((value_4_5 _ _ _ C D).trans (by first | (rw [hg]; rfl) | exact (congrArg (fun b => cond b _ none) hg).trans rfl)))⟩
  · obtain ⟨h0, h1, h2⟩ := nextR_ok h (m := 5) (by omega)
    have hn := next_ok C h 5 (by omega)
    revert h0 h1 h2 hn
    generalize nextR C 5 = y
    obtain ⟨r, D⟩ := y
    intro h0 h1 h2 hn
    have hr : r = 0 ∨ r = 1 ∨ r = 2 ∨ r = 3 ∨ r = 4 := by have h0 : 0 ≤ r := h0; have h1 : r < 5 := h1; omega
    have hT := entK_ok (φ := φX) hn
    have hg : goodA (fun _ : Unit => [.ref keyBase 0, .int .i64 5]) (fun _ => [codO C]) (fun _ => True) [.ref 1000000 0, .int .i64 5] [codO C] = true := gK_eq _ _
    rcases hr with rfl | rfl | rfl | rfl | rfl
    · refine ⟨(⟨5, 0, [], []⟩, D), ⟨(show goodVal 5 ⟨5, 0, [], []⟩ from ⟨rfl, by kernel_rfl, by decide, small_strs _ (by decide)⟩), h2⟩, val_ct5 (l := []) (fun j hj => ?_) (ct_loops (V := V2) (f := 58) (n := 9) (d := 3) (L := []) (T := [entK 19 [.ref keyBase 0, .int .i64 5] [codO C] (0, D) φX, entC 59 cA cO CODES.Ok wt φT]) mixed2 funcs2 (tabOk_cons hT (tabOk_cons htt tabOk_nil)) loopsOk_nil ((value_5_0 _ _ _ C D).trans (by first | (rw [hg]; rfl) | exact (congrArg (fun b => cond b _ none) hg).trans rfl)))⟩
      simp at hj
    · refine ⟨(⟨5, 0, [], [[112, 114, 111]]⟩, D), ⟨(show goodVal 5 ⟨5, 0, [], [[112, 114, 111]]⟩ from ⟨rfl, by kernel_rfl, by decide, small_strs _ (by decide)⟩), h2⟩, val_ct5 (l := [[112, 114, 111]]) (fun j hj => ?_) (ct_loops (V := V2) (f := 58) (n := 9) (d := 3) (L := []) (T := [entK 19 [.ref keyBase 0, .int .i64 5] [codO C] (1, D) φX, entC 59 cA cO CODES.Ok wt φT]) mixed2 funcs2 (tabOk_cons hT (tabOk_cons htt tabOk_nil)) loopsOk_nil ((value_5_1 _ _ _ C D).trans (by first | (rw [hg]; rfl) | exact (congrArg (fun b => cond b _ none) hg).trans rfl)))⟩
      simp only [List.length_cons, List.length_nil] at hj; match j, hj with
      | 0, _ => rfl
    · refine ⟨(⟨5, 0, [], [[100, 101], [115, 101]]⟩, D), ⟨(show goodVal 5 ⟨5, 0, [], [[100, 101], [115, 101]]⟩ from ⟨rfl, by kernel_rfl, by decide, small_strs _ (by decide)⟩), h2⟩, val_ct5 (l := [[100, 101], [115, 101]]) (fun j hj => ?_) (ct_loops (V := V2) (f := 58) (n := 9) (d := 3) (L := []) (T := [entK 19 [.ref keyBase 0, .int .i64 5] [codO C] (2, D) φX, entC 59 cA cO CODES.Ok wt φT]) mixed2 funcs2 (tabOk_cons hT (tabOk_cons htt tabOk_nil)) loopsOk_nil ((value_5_2 _ _ _ C D).trans (by first | (rw [hg]; rfl) | exact (congrArg (fun b => cond b _ none) hg).trans rfl)))⟩
      simp only [List.length_cons, List.length_nil] at hj; match j, hj with
      | 0, _ => rfl
      | 1, _ => rfl
    · refine ⟨(⟨5, 0, [], [[], [102, 114, 101, 101], [117, 115]]⟩, D), ⟨(show goodVal 5 ⟨5, 0, [], [[], [102, 114, 101, 101], [117, 115]]⟩ from ⟨rfl, by kernel_rfl, by decide, small_strs _ (by decide)⟩), h2⟩, val_ct5 (l := [[], [102, 114, 101, 101], [117, 115]]) (fun j hj => ?_) (ct_loops (V := V2) (f := 58) (n := 9) (d := 3) (L := []) (T := [entK 19 [.ref keyBase 0, .int .i64 5] [codO C] (3, D) φX, entC 59 cA cO CODES.Ok wt φT]) mixed2 funcs2 (tabOk_cons hT (tabOk_cons htt tabOk_nil)) loopsOk_nil ((value_5_3 _ _ _ C D).trans (by first | (rw [hg]; rfl) | exact (congrArg (fun b => cond b _ none) hg).trans rfl)))⟩
      simp only [List.length_cons, List.length_nil] at hj; match j, hj with
      | 0, _ => rfl
      | 1, _ => rfl
      | 2, _ => rfl
    · refine ⟨(⟨5, 0, [], [[120, 32, 121]]⟩, D), ⟨(show goodVal 5 ⟨5, 0, [], [[120, 32, 121]]⟩ from ⟨rfl, by kernel_rfl, by decide, small_strs _ (by decide)⟩), h2⟩, val_ct5 (l := [[120, 32, 121]]) (fun j hj => ?_) (ct_loops (V := V2) (f := 58) (n := 9) (d := 3) (L := []) (T := [entK 19 [.ref keyBase 0, .int .i64 5] [codO C] (4, D) φX, entC 59 cA cO CODES.Ok wt φT]) mixed2 funcs2 (tabOk_cons hT (tabOk_cons htt tabOk_nil)) loopsOk_nil ((value_5_4 _ _ _ C D).trans (by first | (rw [hg]; rfl) | exact (congrArg (fun b => cond b _ none) hg).trans rfl)))⟩
      simp only [List.length_cons, List.length_nil] at hj; match j, hj with
      | 0, _ => rfl
end Go.SH

namespace Go.SH
open Go Go.Ab Go.Proofs
set_option linter.unusedVariables false
set_option linter.unusedSimpArgs false
def argN (m : Int) (l : List AV) : Bool := match l with
  | [_, .int _ n] => n == m
  | _ => false
def zV : List AV := [.int .i64 0, .int .i64 0, .str [], .sl .fit 0 0 fun _ => [] ]
def getV (l : List VAL) (j : Nat) : List AV := (l.map VAL.c).getD j zV
def exC (op : Int) (kind name : List UInt8) (vs : AV) : List AV := [.int .i64 op, .str kind, .str name, vs, .sl .fit 0 0 fun _ => [] ]
def ex0 : List AV := [.int .i64 0, .str [], .str [], .sl .fit 0 0 fun _ => [], .sl .fit 0 0 fun _ => [] ]
def TS0 (dk dn : List UInt8) (dt : Int) (C : CODES) : St := { env := [(0, .ref keyBase 0), (2, .ref 2 0), (5, .ref 5 0), (6, .ref 6 0), (7, .int .i64 0)], objs := [(2, .cells ex0), (5, .cells [.str dk, .str dn, .int .i64 dt]), (6, .cells (exC 8 dk dn (.sl (.key 63) 4 0 fun _ => zV))), (keyBase, codO C), (63, .own 4 0)] }
def TS (dk dn : List UInt8) (dt : Int) (n : Nat) (get : Nat → List AV) (C : CODES) (i : Nat) : St := { env := [(0, .ref keyBase 0), (2, .ref 2 0), (5, .ref 5 0), (6, .ref 6 0), (7, .int .i64 i)], objs := [(2, .cells ex0), (5, .cells [.str dk, .str dn, .int .i64 dt]), (6, .cells (exC 8 dk dn (.sl (.key 63) 4 n get))), (63, .own 4 n), (keyBase, codO C)] }
def TE (dk dn : List UInt8) (n : Nat) (get : Nat → List AV) (C : CODES) : St := { env := [(2, .ref 2 0), (6, .ref 6 0)], objs := [(2, .cells ex0), (6, .cells (exC 8 dk dn (.sl (.key 63) 4 n get))), (63, .own 4 n), (keyBase, codO C)] }
def outT (dk dn : List UInt8) (x : List VAL × CODES) (k : Ex → St → Res) : Res := k (.exit 6) (TE dk dn x.1.length (getV x.1) x.2)
set_option maxRecDepth 100000 in
theorem key_e (ge : List AV → List AO → Bool) (ve : List AV → List AO → Int × CODES) (C : CODES) {t1 : Int × CODES} (h_t1 : ve [.ref 1000000 0, .int .i64 10] [codO C] = t1) : runF (V2.run [mkE 19 ge ve φX] 3 [] [] [] 104) 9 104 [.ref keyBase 0] [codO C] =
  cond (ge [.ref 1000000 0, .int .i64 10] [codO C]) (cond (Nat.ble (List.length ([107]) + List.length (Array.toList (ByteArray.data (Utf8.encode (IntKind.wrap IntKind.i32 (IntKind.wrap IntKind.i64 (48 + Prod.fst t1))))))) 4611686018427387904) (some ((.str ([107] ++ Array.toList (ByteArray.data (Utf8.encode (IntKind.wrap IntKind.i32 (IntKind.wrap IntKind.i64 (48 + Prod.fst t1)))))), [codO (Prod.snd t1)]))) (none)) (none) := by subst h_t1; kernel_rfl
set_option maxRecDepth 100000 in
theorem test_r0 (ge gv : List AV → List AO → Bool) (ve : List AV → List AO → Int × CODES) (vv : List AV → List AO → VAL × CODES) (T : List Ent) (L : List (List Nat × Orc)) (m : Nat) (dk dn : List UInt8) (dt : Int) (C : CODES) (kn : St → Res) (k : Ex → St → Res) {t1 : Int × CODES} (h_t1 : ve [.ref 1000000 0, .int .i64 3] [codO C] = t1) {t2 : VAL × CODES} (h_t2 : vv [.ref 1000000 0, .int .i64 dt] [codO (Prod.snd t1)] = t2) : roundR (V2.run (mkE 19 ge ve φX :: mkE 58 gv vv φV :: T) 3 [] L [] 47) 47 m [1, 1, 1, 1, 1, 1, 0, 1, 0, 0, 0, 0, 0, 0, 0, 1, 0, 1, 0, 1, 0, 1, 0] (TS0 dk dn dt C) kn k =
  cond (ge [.ref 1000000 0, .int .i64 3] [codO C]) (cond (decide (0 ≤ Prod.fst t1)) (cond (gv [.ref 1000000 0, .int .i64 dt] [codO (Prod.snd t1)]) (kn (TS dk dn dt 1 (appGet 0 1 (fun x => zV) (fillGet zV [(0, .agg (VAL.c (Prod.fst t2)))])) (Prod.snd t2) ((0 + 1) % Int.natAbs (2 ^ IntKind.bits IntKind.i64)))) (none)) (k (.exit 6) (TE dk dn 0 (fun x => zV) (Prod.snd t1)))) (none) := by subst h_t2 h_t1; kernel_rfl
set_option maxRecDepth 100000 in
theorem test_r (ge gv : List AV → List AO → Bool) (ve : List AV → List AO → Int × CODES) (vv : List AV → List AO → VAL × CODES) (T : List Ent) (L : List (List Nat × Orc)) (m : Nat) (dk dn : List UInt8) (dt : Int) (n : Nat) (get : Nat → List AV) (C : CODES) (i : Nat) (kn : St → Res) (k : Ex → St → Res) {t1 : Int × CODES} (h_t1 : ve [.ref 1000000 0, .int .i64 3] [codO C] = t1) {t2 : VAL × CODES} (h_t2 : vv [.ref 1000000 0, .int .i64 dt] [codO (Prod.snd t1)] = t2) : roundR (V2.run (mkE 19 ge ve φX :: mkE 58 gv vv φV :: T) 3 [] L [] 47) 47 m [1, 1, 1, 1, 1, 1, 0, 1, 0, 0, 0, 0, 0, 0, 0, 1, 0, 1, 0, 1, 0, 1, 0] (TS dk dn dt (n + 1) get C i) kn k =
  cond (ge [.ref 1000000 0, .int .i64 3] [codO C]) (cond (decide ((↑i : Int) ≤ Prod.fst t1)) (cond (gv [.ref 1000000 0, .int .i64 dt] [codO (Prod.snd t1)]) (cond (roomy (56) (n + 1 + 1) && Nat.beq (n + 1) (n + 1)) (kn ({ env := [(0, .ref 1000000 0), (2, .ref 2 0), (5, .ref 5 0), (6, .ref 6 0), (7, .int .i64 (IntKind.wrap IntKind.i64 ((↑i : Int) + 1)))], objs := [(2, .cells (exC 0 [] [] (.sl .fit 0 0 fun x => []))), (5, .cells [.str dk, .str dn, .int .i64 dt]), (6, .cells (exC 8 dk dn (.sl (.key 63) 4 (n + 1 + 1) (appGet (n + 1) 1 get (fillGet zV [(0, .agg (VAL.c (Prod.fst t2)))]))))), (63, .own 4 (n + 1 + 1)), (1000000, codO (Prod.snd t2))] })) (none)) (none)) (k (.exit 6) (TE dk dn (n + 1) get (Prod.snd t1)))) (none) := by subst h_t2 h_t1; kernel_rfl
set_option maxRecDepth 100000 in
theorem test_0 (ge gv gy : List AV → List AO → Bool) (ve : List AV → List AO → Int × CODES) (vv : List AV → List AO → VAL × CODES) (vy : List AV → List AO → List UInt8 × CODES) (w : St → Bool) (v : St → List VAL × CODES) (C D : CODES) {t1 : Int × CODES} (h_t1 : ve [.ref 1000000 0, .int .i64 5] [codO (Prod.snd (0, D))] = t1) {t2 : List VAL × CODES} (h_t2 : v (TS0 ([100, 101, 118, 105, 99, 101]) ([99, 111, 114, 101, 115]) 2 (Prod.snd (bif argN 9 [.ref 1000000 0, .int .i64 5] then (0, D) else t1))) = t2) {t3 : VAL × CODES} (h_t3 : vv [.ref 1000000 0, .int .i64 2] [codO (Prod.snd (bif argN 9 [.ref 1000000 0, .int .i64 5] then (0, D) else t1))] = t3) {t4 : Int × CODES} (h_t4 : ve [.ref 1000000 0, .int .i64 4] [codO (Prod.snd (bif argN 9 [.ref 1000000 0, .int .i64 5] then (0, D) else t1))] = t4) {t5 : VAL × CODES} (h_t5 : vv [.ref 1000000 0, .int .i64 2] [codO (Prod.snd (bif argN 9 [.ref 1000000 0, .int .i64 4] then (0, D) else t4))] = t5) : runF (V2.run [mkE 19 ge (fun l os => cond (argN 9 l) (0, D) (ve l os)) φX, mkE 58 gv vv φV, mkE 104 gy vy φT] 3 [] [([1, 1, 1, 1, 1, 1, 0, 1, 0, 0, 0, 0, 0, 0, 0, 1, 0, 1, 0, 1, 0, 1, 0], mkO w v (outT [100, 101, 118, 105, 99, 101] [99, 111, 114, 101, 115]))] [] 47) 9 47 [.ref keyBase 0] [codO C] =
  cond (ge [.ref 1000000 0, .int .i64 (IntKind.wrap IntKind.i64 ((↑8 : Int) + 1))] [codO C]) (cond (ge [.ref 1000000 0, .int .i64 5] [codO (Prod.snd (0, D))]) (cond (Prod.fst (bif argN 9 [.ref 1000000 0, .int .i64 5] then (0, D) else t1) == 0) (some ((.agg (exC 6 ([100, 101, 118, 105, 99, 101]) ([99, 111, 114, 101, 115]) (.sl .fit 0 0 fun x => [])), [codO (Prod.snd (bif argN 9 [.ref 1000000 0, .int .i64 5] then (0, D) else t1))]))) (cond (Prod.fst (bif argN 9 [.ref 1000000 0, .int .i64 5] then (0, D) else t1) == 1) (cond (w (TS0 ([100, 101, 118, 105, 99, 101]) ([99, 111, 114, 101, 115]) 2 (Prod.snd (bif argN 9 [.ref 1000000 0, .int .i64 5] then (0, D) else t1)))) (some ((.agg (exC 8 [100, 101, 118, 105, 99, 101] [99, 111, 114, 101, 115] (.sl .no 4 (List.length (Prod.fst t2)) (getV (Prod.fst t2)))), [codO (Prod.snd t2)]))) (none)) (cond (Prod.fst (bif argN 9 [.ref 1000000 0, .int .i64 5] then (0, D) else t1) == 2) (cond (gv [.ref 1000000 0, .int .i64 2] [codO (Prod.snd (bif argN 9 [.ref 1000000 0, .int .i64 5] then (0, D) else t1))]) (some ((.agg (exC 7 ([100, 101, 118, 105, 99, 101]) ([99, 111, 114, 101, 115]) (.sl .fit 4 1 (fillGet zV [(0, .agg (VAL.c (Prod.fst t3)))]))), [codO (Prod.snd t3)]))) (none)) (cond (Prod.fst (bif argN 9 [.ref 1000000 0, .int .i64 5] then (0, D) else t1) == 3) (cond (ge [.ref 1000000 0, .int .i64 4] [codO (Prod.snd (bif argN 9 [.ref 1000000 0, .int .i64 5] then (0, D) else t1))]) (cond (gv [.ref 1000000 0, .int .i64 2] [codO (Prod.snd (bif argN 9 [.ref 1000000 0, .int .i64 4] then (0, D) else t4))]) (some ((.agg (exC (IntKind.wrap IntKind.i64 (12 + Prod.fst (bif argN 9 [.ref 1000000 0, .int .i64 4] then (0, D) else t4))) ([100, 101, 118, 105, 99, 101]) ([99, 111, 114, 101, 115]) (.sl .fit 4 1 (fillGet zV [(0, .agg (VAL.c (Prod.fst t5)))]))), [codO (Prod.snd t5)]))) (none)) (none)) (cond (Prod.fst (bif argN 9 [.ref 1000000 0, .int .i64 5] then (0, D) else t1) == 4) (cond (ge [.ref 1000000 0, .int .i64 4] [codO (Prod.snd (bif argN 9 [.ref 1000000 0, .int .i64 5] then (0, D) else t1))]) (cond (gv [.ref 1000000 0, .int .i64 2] [codO (Prod.snd (bif argN 9 [.ref 1000000 0, .int .i64 4] then (0, D) else t4))]) (some ((.agg (exC (IntKind.wrap IntKind.i64 (12 + Prod.fst (bif argN 9 [.ref 1000000 0, .int .i64 4] then (0, D) else t4))) ([100, 101, 118, 105, 99, 101]) ([99, 111, 114, 101, 115]) (.sl .fit 4 1 (fillGet zV [(0, .agg (VAL.c (Prod.fst t5)))]))), [codO (Prod.snd t5)]))) (none)) (none)) (cond (gv [.ref 1000000 0, .int .i64 2] [codO (Prod.snd (bif argN 9 [.ref 1000000 0, .int .i64 5] then (0, D) else t1))]) (some ((.agg (exC 7 ([100, 101, 118, 105, 99, 101]) ([99, 111, 114, 101, 115]) (.sl .fit 4 1 (fillGet zV [(0, .agg (VAL.c (Prod.fst t3)))]))), [codO (Prod.snd t3)]))) (none))))))) (none)) (none) := by subst h_t5 h_t4 h_t3 h_t2 h_t1; kernel_rfl
set_option maxRecDepth 100000 in
theorem test_1 (ge gv gy : List AV → List AO → Bool) (ve : List AV → List AO → Int × CODES) (vv : List AV → List AO → VAL × CODES) (vy : List AV → List AO → List UInt8 × CODES) (w : St → Bool) (v : St → List VAL × CODES) (C D : CODES) {t1 : Int × CODES} (h_t1 : ve [.ref 1000000 0, .int .i64 5] [codO (Prod.snd (1, D))] = t1) {t2 : List VAL × CODES} (h_t2 : v (TS0 ([100, 101, 118, 105, 99, 101]) ([111, 115]) 3 (Prod.snd (bif argN 9 [.ref 1000000 0, .int .i64 5] then (1, D) else t1))) = t2) {t3 : VAL × CODES} (h_t3 : vv [.ref 1000000 0, .int .i64 3] [codO (Prod.snd (bif argN 9 [.ref 1000000 0, .int .i64 5] then (1, D) else t1))] = t3) {t4 : Int × CODES} (h_t4 : ve [.ref 1000000 0, .int .i64 2] [codO (Prod.snd (bif argN 9 [.ref 1000000 0, .int .i64 5] then (1, D) else t1))] = t4) {t5 : VAL × CODES} (h_t5 : vv [.ref 1000000 0, .int .i64 3] [codO (Prod.snd (bif argN 9 [.ref 1000000 0, .int .i64 2] then (1, D) else t4))] = t5) {t6 : Int × CODES} (h_t6 : ve [.ref 1000000 0, .int .i64 4] [codO (Prod.snd (bif argN 9 [.ref 1000000 0, .int .i64 5] then (1, D) else t1))] = t6) {t7 : VAL × CODES} (h_t7 : vv [.ref 1000000 0, .int .i64 3] [codO (Prod.snd (bif argN 9 [.ref 1000000 0, .int .i64 4] then (1, D) else t6))] = t7) : runF (V2.run [mkE 19 ge (fun l os => cond (argN 9 l) (1, D) (ve l os)) φX, mkE 58 gv vv φV, mkE 104 gy vy φT] 3 [] [([1, 1, 1, 1, 1, 1, 0, 1, 0, 0, 0, 0, 0, 0, 0, 1, 0, 1, 0, 1, 0, 1, 0], mkO w v (outT [100, 101, 118, 105, 99, 101] [111, 115]))] [] 47) 9 47 [.ref keyBase 0] [codO C] =
  cond (ge [.ref 1000000 0, .int .i64 (IntKind.wrap IntKind.i64 ((↑8 : Int) + 1))] [codO C]) (cond (ge [.ref 1000000 0, .int .i64 5] [codO (Prod.snd (1, D))]) (cond (Prod.fst (bif argN 9 [.ref 1000000 0, .int .i64 5] then (1, D) else t1) == 0) (some ((.agg (exC 6 ([100, 101, 118, 105, 99, 101]) ([111, 115]) (.sl .fit 0 0 fun x => [])), [codO (Prod.snd (bif argN 9 [.ref 1000000 0, .int .i64 5] then (1, D) else t1))]))) (cond (Prod.fst (bif argN 9 [.ref 1000000 0, .int .i64 5] then (1, D) else t1) == 1) (cond (w (TS0 ([100, 101, 118, 105, 99, 101]) ([111, 115]) 3 (Prod.snd (bif argN 9 [.ref 1000000 0, .int .i64 5] then (1, D) else t1)))) (some ((.agg (exC 8 [100, 101, 118, 105, 99, 101] [111, 115] (.sl .no 4 (List.length (Prod.fst t2)) (getV (Prod.fst t2)))), [codO (Prod.snd t2)]))) (none)) (cond (Prod.fst (bif argN 9 [.ref 1000000 0, .int .i64 5] then (1, D) else t1) == 2) (cond (gv [.ref 1000000 0, .int .i64 3] [codO (Prod.snd (bif argN 9 [.ref 1000000 0, .int .i64 5] then (1, D) else t1))]) (some ((.agg (exC 11 ([100, 101, 118, 105, 99, 101]) ([111, 115]) (.sl .fit 4 1 (fillGet zV [(0, .agg (VAL.c (Prod.fst t3)))]))), [codO (Prod.snd t3)]))) (none)) (cond (Prod.fst (bif argN 9 [.ref 1000000 0, .int .i64 5] then (1, D) else t1) == 3) (cond (ge [.ref 1000000 0, .int .i64 2] [codO (Prod.snd (bif argN 9 [.ref 1000000 0, .int .i64 5] then (1, D) else t1))]) (cond (gv [.ref 1000000 0, .int .i64 3] [codO (Prod.snd (bif argN 9 [.ref 1000000 0, .int .i64 2] then (1, D) else t4))]) (some ((.agg (exC (IntKind.wrap IntKind.i64 (9 + Prod.fst (bif argN 9 [.ref 1000000 0, .int .i64 2] then (1, D) else t4))) ([100, 101, 118, 105, 99, 101]) ([111, 115]) (.sl .fit 4 1 (fillGet zV [(0, .agg (VAL.c (Prod.fst t5)))]))), [codO (Prod.snd t5)]))) (none)) (none)) (cond (Prod.fst (bif argN 9 [.ref 1000000 0, .int .i64 5] then (1, D) else t1) == 4) (cond (ge [.ref 1000000 0, .int .i64 4] [codO (Prod.snd (bif argN 9 [.ref 1000000 0, .int .i64 5] then (1, D) else t1))]) (cond (gv [.ref 1000000 0, .int .i64 3] [codO (Prod.snd (bif argN 9 [.ref 1000000 0, .int .i64 4] then (1, D) else t6))]) (some ((.agg (exC (IntKind.wrap IntKind.i64 (12 + Prod.fst (bif argN 9 [.ref 1000000 0, .int .i64 4] then (1, D) else t6))) ([100, 101, 118, 105, 99, 101]) ([111, 115]) (.sl .fit 4 1 (fillGet zV [(0, .agg (VAL.c (Prod.fst t7)))]))), [codO (Prod.snd t7)]))) (none)) (none)) (cond (gv [.ref 1000000 0, .int .i64 3] [codO (Prod.snd (bif argN 9 [.ref 1000000 0, .int .i64 5] then (1, D) else t1))]) (some ((.agg (exC 7 ([100, 101, 118, 105, 99, 101]) ([111, 115]) (.sl .fit 4 1 (fillGet zV [(0, .agg (VAL.c (Prod.fst t3)))]))), [codO (Prod.snd t3)]))) (none))))))) (none)) (none) := by subst h_t7 h_t6 h_t5 h_t4 h_t3 h_t2 h_t1; kernel_rfl
set_option maxRecDepth 100000 in
theorem test_2 (ge gv gy : List AV → List AO → Bool) (ve : List AV → List AO → Int × CODES) (vv : List AV → List AO → VAL × CODES) (vy : List AV → List AO → List UInt8 × CODES) (w : St → Bool) (v : St → List VAL × CODES) (C D : CODES) {t1 : Int × CODES} (h_t1 : ve [.ref 1000000 0, .int .i64 5] [codO (Prod.snd (2, D))] = t1) {t2 : List VAL × CODES} (h_t2 : v (TS0 ([117, 115, 101, 114]) ([97, 103, 101]) 2 (Prod.snd (bif argN 9 [.ref 1000000 0, .int .i64 5] then (2, D) else t1))) = t2) {t3 : VAL × CODES} (h_t3 : vv [.ref 1000000 0, .int .i64 2] [codO (Prod.snd (bif argN 9 [.ref 1000000 0, .int .i64 5] then (2, D) else t1))] = t3) {t4 : Int × CODES} (h_t4 : ve [.ref 1000000 0, .int .i64 4] [codO (Prod.snd (bif argN 9 [.ref 1000000 0, .int .i64 5] then (2, D) else t1))] = t4) {t5 : VAL × CODES} (h_t5 : vv [.ref 1000000 0, .int .i64 2] [codO (Prod.snd (bif argN 9 [.ref 1000000 0, .int .i64 4] then (2, D) else t4))] = t5) : runF (V2.run [mkE 19 ge (fun l os => cond (argN 9 l) (2, D) (ve l os)) φX, mkE 58 gv vv φV, mkE 104 gy vy φT] 3 [] [([1, 1, 1, 1, 1, 1, 0, 1, 0, 0, 0, 0, 0, 0, 0, 1, 0, 1, 0, 1, 0, 1, 0], mkO w v (outT [117, 115, 101, 114] [97, 103, 101]))] [] 47) 9 47 [.ref keyBase 0] [codO C] =
  cond (ge [.ref 1000000 0, .int .i64 (IntKind.wrap IntKind.i64 ((↑8 : Int) + 1))] [codO C]) (cond (ge [.ref 1000000 0, .int .i64 5] [codO (Prod.snd (2, D))]) (cond (Prod.fst (bif argN 9 [.ref 1000000 0, .int .i64 5] then (2, D) else t1) == 0) (some ((.agg (exC 6 ([117, 115, 101, 114]) ([97, 103, 101]) (.sl .fit 0 0 fun x => [])), [codO (Prod.snd (bif argN 9 [.ref 1000000 0, .int .i64 5] then (2, D) else t1))]))) (cond (Prod.fst (bif argN 9 [.ref 1000000 0, .int .i64 5] then (2, D) else t1) == 1) (cond (w (TS0 ([117, 115, 101, 114]) ([97, 103, 101]) 2 (Prod.snd (bif argN 9 [.ref 1000000 0, .int .i64 5] then (2, D) else t1)))) (some ((.agg (exC 8 [117, 115, 101, 114] [97, 103, 101] (.sl .no 4 (List.length (Prod.fst t2)) (getV (Prod.fst t2)))), [codO (Prod.snd t2)]))) (none)) (cond (Prod.fst (bif argN 9 [.ref 1000000 0, .int .i64 5] then (2, D) else t1) == 2) (cond (gv [.ref 1000000 0, .int .i64 2] [codO (Prod.snd (bif argN 9 [.ref 1000000 0, .int .i64 5] then (2, D) else t1))]) (some ((.agg (exC 7 ([117, 115, 101, 114]) ([97, 103, 101]) (.sl .fit 4 1 (fillGet zV [(0, .agg (VAL.c (Prod.fst t3)))]))), [codO (Prod.snd t3)]))) (none)) (cond (Prod.fst (bif argN 9 [.ref 1000000 0, .int .i64 5] then (2, D) else t1) == 3) (cond (ge [.ref 1000000 0, .int .i64 4] [codO (Prod.snd (bif argN 9 [.ref 1000000 0, .int .i64 5] then (2, D) else t1))]) (cond (gv [.ref 1000000 0, .int .i64 2] [codO (Prod.snd (bif argN 9 [.ref 1000000 0, .int .i64 4] then (2, D) else t4))]) (some ((.agg (exC (IntKind.wrap IntKind.i64 (12 + Prod.fst (bif argN 9 [.ref 1000000 0, .int .i64 4] then (2, D) else t4))) ([117, 115, 101, 114]) ([97, 103, 101]) (.sl .fit 4 1 (fillGet zV [(0, .agg (VAL.c (Prod.fst t5)))]))), [codO (Prod.snd t5)]))) (none)) (none)) (cond (Prod.fst (bif argN 9 [.ref 1000000 0, .int .i64 5] then (2, D) else t1) == 4) (cond (ge [.ref 1000000 0, .int .i64 4] [codO (Prod.snd (bif argN 9 [.ref 1000000 0, .int .i64 5] then (2, D) else t1))]) (cond (gv [.ref 1000000 0, .int .i64 2] [codO (Prod.snd (bif argN 9 [.ref 1000000 0, .int .i64 4] then (2, D) else t4))]) (some ((.agg (exC (IntKind.wrap IntKind.i64 (12 + Prod.fst (bif argN 9 [.ref 1000000 0, .int .i64 4] then (2, D) else t4))) ([117, 115, 101, 114]) ([97, 103, 101]) (.sl .fit 4 1 (fillGet zV [(0, .agg (VAL.c (Prod.fst t5)))]))), [codO (Prod.snd t5)]))) (none)) (none)) (cond (gv [.ref 1000000 0, .int .i64 2] [codO (Prod.snd (bif argN 9 [.ref 1000000 0, .int .i64 5] then (2, D) else t1))]) (some ((.agg (exC 7 ([117, 115, 101, 114]) ([97, 103, 101]) (.sl .fit 4 1 (fillGet zV [(0, .agg (VAL.c (Prod.fst t3)))]))), [codO (Prod.snd t3)]))) (none))))))) (none)) (none) := by subst h_t5 h_t4 h_t3 h_t2 h_t1; kernel_rfl
set_option maxRecDepth 100000 in
theorem test_3 (ge gv gy : List AV → List AO → Bool) (ve : List AV → List AO → Int × CODES) (vv : List AV → List AO → VAL × CODES) (vy : List AV → List AO → List UInt8 × CODES) (w : St → Bool) (v : St → List VAL × CODES) (C D : CODES) {t1 : Int × CODES} (h_t1 : ve [.ref 1000000 0, .int .i64 5] [codO (Prod.snd (3, D))] = t1) {t2 : List VAL × CODES} (h_t2 : v (TS0 ([117, 115, 101, 114]) ([97, 112, 112]) 4 (Prod.snd (bif argN 9 [.ref 1000000 0, .int .i64 5] then (3, D) else t1))) = t2) {t3 : VAL × CODES} (h_t3 : vv [.ref 1000000 0, .int .i64 4] [codO (Prod.snd (bif argN 9 [.ref 1000000 0, .int .i64 5] then (3, D) else t1))] = t3) {t4 : Int × CODES} (h_t4 : ve [.ref 1000000 0, .int .i64 4] [codO (Prod.snd (bif argN 9 [.ref 1000000 0, .int .i64 5] then (3, D) else t1))] = t4) {t5 : VAL × CODES} (h_t5 : vv [.ref 1000000 0, .int .i64 4] [codO (Prod.snd (bif argN 9 [.ref 1000000 0, .int .i64 4] then (3, D) else t4))] = t5) : runF (V2.run [mkE 19 ge (fun l os => cond (argN 9 l) (3, D) (ve l os)) φX, mkE 58 gv vv φV, mkE 104 gy vy φT] 3 [] [([1, 1, 1, 1, 1, 1, 0, 1, 0, 0, 0, 0, 0, 0, 0, 1, 0, 1, 0, 1, 0, 1, 0], mkO w v (outT [117, 115, 101, 114] [97, 112, 112]))] [] 47) 9 47 [.ref keyBase 0] [codO C] =
  cond (ge [.ref 1000000 0, .int .i64 (IntKind.wrap IntKind.i64 ((↑8 : Int) + 1))] [codO C]) (cond (ge [.ref 1000000 0, .int .i64 5] [codO (Prod.snd (3, D))]) (cond (Prod.fst (bif argN 9 [.ref 1000000 0, .int .i64 5] then (3, D) else t1) == 0) (some ((.agg (exC 6 ([117, 115, 101, 114]) ([97, 112, 112]) (.sl .fit 0 0 fun x => [])), [codO (Prod.snd (bif argN 9 [.ref 1000000 0, .int .i64 5] then (3, D) else t1))]))) (cond (Prod.fst (bif argN 9 [.ref 1000000 0, .int .i64 5] then (3, D) else t1) == 1) (cond (w (TS0 ([117, 115, 101, 114]) ([97, 112, 112]) 4 (Prod.snd (bif argN 9 [.ref 1000000 0, .int .i64 5] then (3, D) else t1)))) (some ((.agg (exC 8 [117, 115, 101, 114] [97, 112, 112] (.sl .no 4 (List.length (Prod.fst t2)) (getV (Prod.fst t2)))), [codO (Prod.snd t2)]))) (none)) (cond (Prod.fst (bif argN 9 [.ref 1000000 0, .int .i64 5] then (3, D) else t1) == 2) (cond (gv [.ref 1000000 0, .int .i64 4] [codO (Prod.snd (bif argN 9 [.ref 1000000 0, .int .i64 5] then (3, D) else t1))]) (some ((.agg (exC 7 ([117, 115, 101, 114]) ([97, 112, 112]) (.sl .fit 4 1 (fillGet zV [(0, .agg (VAL.c (Prod.fst t3)))]))), [codO (Prod.snd t3)]))) (none)) (cond (Prod.fst (bif argN 9 [.ref 1000000 0, .int .i64 5] then (3, D) else t1) == 3) (cond (ge [.ref 1000000 0, .int .i64 4] [codO (Prod.snd (bif argN 9 [.ref 1000000 0, .int .i64 5] then (3, D) else t1))]) (cond (gv [.ref 1000000 0, .int .i64 4] [codO (Prod.snd (bif argN 9 [.ref 1000000 0, .int .i64 4] then (3, D) else t4))]) (some ((.agg (exC (IntKind.wrap IntKind.i64 (12 + Prod.fst (bif argN 9 [.ref 1000000 0, .int .i64 4] then (3, D) else t4))) ([117, 115, 101, 114]) ([97, 112, 112]) (.sl .fit 4 1 (fillGet zV [(0, .agg (VAL.c (Prod.fst t5)))]))), [codO (Prod.snd t5)]))) (none)) (none)) (cond (Prod.fst (bif argN 9 [.ref 1000000 0, .int .i64 5] then (3, D) else t1) == 4) (cond (ge [.ref 1000000 0, .int .i64 4] [codO (Prod.snd (bif argN 9 [.ref 1000000 0, .int .i64 5] then (3, D) else t1))]) (cond (gv [.ref 1000000 0, .int .i64 4] [codO (Prod.snd (bif argN 9 [.ref 1000000 0, .int .i64 4] then (3, D) else t4))]) (some ((.agg (exC (IntKind.wrap IntKind.i64 (12 + Prod.fst (bif argN 9 [.ref 1000000 0, .int .i64 4] then (3, D) else t4))) ([117, 115, 101, 114]) ([97, 112, 112]) (.sl .fit 4 1 (fillGet zV [(0, .agg (VAL.c (Prod.fst t5)))]))), [codO (Prod.snd t5)]))) (none)) (none)) (cond (gv [.ref 1000000 0, .int .i64 4] [codO (Prod.snd (bif argN 9 [.ref 1000000 0, .int .i64 5] then (3, D) else t1))]) (some ((.agg (exC 7 ([117, 115, 101, 114]) ([97, 112, 112]) (.sl .fit 4 1 (fillGet zV [(0, .agg (VAL.c (Prod.fst t3)))]))), [codO (Prod.snd t3)]))) (none))))))) (none)) (none) := by subst h_t5 h_t4 h_t3 h_t2 h_t1; kernel_rfl
set_option maxRecDepth 100000 in
theorem test_4 (ge gv gy : List AV → List AO → Bool) (ve : List AV → List AO → Int × CODES) (vv : List AV → List AO → VAL × CODES) (vy : List AV → List AO → List UInt8 × CODES) (w : St → Bool) (v : St → List VAL × CODES) (C D : CODES) {t1 : Int × CODES} (h_t1 : ve [.ref 1000000 0, .int .i64 5] [codO (Prod.snd (4, D))] = t1) {t2 : List VAL × CODES} (h_t2 : v (TS0 ([117, 115, 101, 114]) ([98, 101, 116, 97]) 1 (Prod.snd (bif argN 9 [.ref 1000000 0, .int .i64 5] then (4, D) else t1))) = t2) {t3 : VAL × CODES} (h_t3 : vv [.ref 1000000 0, .int .i64 1] [codO (Prod.snd (bif argN 9 [.ref 1000000 0, .int .i64 5] then (4, D) else t1))] = t3) : runF (V2.run [mkE 19 ge (fun l os => cond (argN 9 l) (4, D) (ve l os)) φX, mkE 58 gv vv φV, mkE 104 gy vy φT] 3 [] [([1, 1, 1, 1, 1, 1, 0, 1, 0, 0, 0, 0, 0, 0, 0, 1, 0, 1, 0, 1, 0, 1, 0], mkO w v (outT [117, 115, 101, 114] [98, 101, 116, 97]))] [] 47) 9 47 [.ref keyBase 0] [codO C] =
  cond (ge [.ref 1000000 0, .int .i64 (IntKind.wrap IntKind.i64 ((↑8 : Int) + 1))] [codO C]) (cond (ge [.ref 1000000 0, .int .i64 5] [codO (Prod.snd (4, D))]) (cond (Prod.fst (bif argN 9 [.ref 1000000 0, .int .i64 5] then (4, D) else t1) == 0) (some ((.agg (exC 6 ([117, 115, 101, 114]) ([98, 101, 116, 97]) (.sl .fit 0 0 fun x => [])), [codO (Prod.snd (bif argN 9 [.ref 1000000 0, .int .i64 5] then (4, D) else t1))]))) (cond (Prod.fst (bif argN 9 [.ref 1000000 0, .int .i64 5] then (4, D) else t1) == 1) (cond (w (TS0 ([117, 115, 101, 114]) ([98, 101, 116, 97]) 1 (Prod.snd (bif argN 9 [.ref 1000000 0, .int .i64 5] then (4, D) else t1)))) (some ((.agg (exC 8 [117, 115, 101, 114] [98, 101, 116, 97] (.sl .no 4 (List.length (Prod.fst t2)) (getV (Prod.fst t2)))), [codO (Prod.snd t2)]))) (none)) (cond (Prod.fst (bif argN 9 [.ref 1000000 0, .int .i64 5] then (4, D) else t1) == 2) (cond (gv [.ref 1000000 0, .int .i64 1] [codO (Prod.snd (bif argN 9 [.ref 1000000 0, .int .i64 5] then (4, D) else t1))]) (some ((.agg (exC 7 ([117, 115, 101, 114]) ([98, 101, 116, 97]) (.sl .fit 4 1 (fillGet zV [(0, .agg (VAL.c (Prod.fst t3)))]))), [codO (Prod.snd t3)]))) (none)) (cond (Prod.fst (bif argN 9 [.ref 1000000 0, .int .i64 5] then (4, D) else t1) == 3) (cond (gv [.ref 1000000 0, .int .i64 1] [codO (Prod.snd (bif argN 9 [.ref 1000000 0, .int .i64 5] then (4, D) else t1))]) (some ((.agg (exC 7 ([117, 115, 101, 114]) ([98, 101, 116, 97]) (.sl .fit 4 1 (fillGet zV [(0, .agg (VAL.c (Prod.fst t3)))]))), [codO (Prod.snd t3)]))) (none)) (cond (Prod.fst (bif argN 9 [.ref 1000000 0, .int .i64 5] then (4, D) else t1) == 4) (cond (gv [.ref 1000000 0, .int .i64 1] [codO (Prod.snd (bif argN 9 [.ref 1000000 0, .int .i64 5] then (4, D) else t1))]) (some ((.agg (exC 7 ([117, 115, 101, 114]) ([98, 101, 116, 97]) (.sl .fit 4 1 (fillGet zV [(0, .agg (VAL.c (Prod.fst t3)))]))), [codO (Prod.snd t3)]))) (none)) (cond (gv [.ref 1000000 0, .int .i64 1] [codO (Prod.snd (bif argN 9 [.ref 1000000 0, .int .i64 5] then (4, D) else t1))]) (some ((.agg (exC 7 ([117, 115, 101, 114]) ([98, 101, 116, 97]) (.sl .fit 4 1 (fillGet zV [(0, .agg (VAL.c (Prod.fst t3)))]))), [codO (Prod.snd t3)]))) (none))))))) (none)) (none) := by subst h_t3 h_t2 h_t1; kernel_rfl
set_option maxRecDepth 100000 in
theorem test_5 (ge gv gy : List AV → List AO → Bool) (ve : List AV → List AO → Int × CODES) (vv : List AV → List AO → VAL × CODES) (vy : List AV → List AO → List UInt8 × CODES) (w : St → Bool) (v : St → List VAL × CODES) (C D : CODES) {t1 : Int × CODES} (h_t1 : ve [.ref 1000000 0, .int .i64 5] [codO (Prod.snd (5, D))] = t1) {t2 : List VAL × CODES} (h_t2 : v (TS0 ([117, 115, 101, 114]) ([99, 111, 117, 110, 116, 114, 121]) 3 (Prod.snd (bif argN 9 [.ref 1000000 0, .int .i64 5] then (5, D) else t1))) = t2) {t3 : VAL × CODES} (h_t3 : vv [.ref 1000000 0, .int .i64 3] [codO (Prod.snd (bif argN 9 [.ref 1000000 0, .int .i64 5] then (5, D) else t1))] = t3) {t4 : Int × CODES} (h_t4 : ve [.ref 1000000 0, .int .i64 2] [codO (Prod.snd (bif argN 9 [.ref 1000000 0, .int .i64 5] then (5, D) else t1))] = t4) {t5 : VAL × CODES} (h_t5 : vv [.ref 1000000 0, .int .i64 3] [codO (Prod.snd (bif argN 9 [.ref 1000000 0, .int .i64 2] then (5, D) else t4))] = t5) {t6 : Int × CODES} (h_t6 : ve [.ref 1000000 0, .int .i64 4] [codO (Prod.snd (bif argN 9 [.ref 1000000 0, .int .i64 5] then (5, D) else t1))] = t6) {t7 : VAL × CODES} (h_t7 : vv [.ref 1000000 0, .int .i64 3] [codO (Prod.snd (bif argN 9 [.ref 1000000 0, .int .i64 4] then (5, D) else t6))] = t7) : runF (V2.run [mkE 19 ge (fun l os => cond (argN 9 l) (5, D) (ve l os)) φX, mkE 58 gv vv φV, mkE 104 gy vy φT] 3 [] [([1, 1, 1, 1, 1, 1, 0, 1, 0, 0, 0, 0, 0, 0, 0, 1, 0, 1, 0, 1, 0, 1, 0], mkO w v (outT [117, 115, 101, 114] [99, 111, 117, 110, 116, 114, 121]))] [] 47) 9 47 [.ref keyBase 0] [codO C] =
  cond (ge [.ref 1000000 0, .int .i64 (IntKind.wrap IntKind.i64 ((↑8 : Int) + 1))] [codO C]) (cond (ge [.ref 1000000 0, .int .i64 5] [codO (Prod.snd (5, D))]) (cond (Prod.fst (bif argN 9 [.ref 1000000 0, .int .i64 5] then (5, D) else t1) == 0) (some ((.agg (exC 6 ([117, 115, 101, 114]) ([99, 111, 117, 110, 116, 114, 121]) (.sl .fit 0 0 fun x => [])), [codO (Prod.snd (bif argN 9 [.ref 1000000 0, .int .i64 5] then (5, D) else t1))]))) (cond (Prod.fst (bif argN 9 [.ref 1000000 0, .int .i64 5] then (5, D) else t1) == 1) (cond (w (TS0 ([117, 115, 101, 114]) ([99, 111, 117, 110, 116, 114, 121]) 3 (Prod.snd (bif argN 9 [.ref 1000000 0, .int .i64 5] then (5, D) else t1)))) (some ((.agg (exC 8 [117, 115, 101, 114] [99, 111, 117, 110, 116, 114, 121] (.sl .no 4 (List.length (Prod.fst t2)) (getV (Prod.fst t2)))), [codO (Prod.snd t2)]))) (none)) (cond (Prod.fst (bif argN 9 [.ref 1000000 0, .int .i64 5] then (5, D) else t1) == 2) (cond (gv [.ref 1000000 0, .int .i64 3] [codO (Prod.snd (bif argN 9 [.ref 1000000 0, .int .i64 5] then (5, D) else t1))]) (some ((.agg (exC 11 ([117, 115, 101, 114]) ([99, 111, 117, 110, 116, 114, 121]) (.sl .fit 4 1 (fillGet zV [(0, .agg (VAL.c (Prod.fst t3)))]))), [codO (Prod.snd t3)]))) (none)) (cond (Prod.fst (bif argN 9 [.ref 1000000 0, .int .i64 5] then (5, D) else t1) == 3) (cond (ge [.ref 1000000 0, .int .i64 2] [codO (Prod.snd (bif argN 9 [.ref 1000000 0, .int .i64 5] then (5, D) else t1))]) (cond (gv [.ref 1000000 0, .int .i64 3] [codO (Prod.snd (bif argN 9 [.ref 1000000 0, .int .i64 2] then (5, D) else t4))]) (some ((.agg (exC (IntKind.wrap IntKind.i64 (9 + Prod.fst (bif argN 9 [.ref 1000000 0, .int .i64 2] then (5, D) else t4))) ([117, 115, 101, 114]) ([99, 111, 117, 110, 116, 114, 121]) (.sl .fit 4 1 (fillGet zV [(0, .agg (VAL.c (Prod.fst t5)))]))), [codO (Prod.snd t5)]))) (none)) (none)) (cond (Prod.fst (bif argN 9 [.ref 1000000 0, .int .i64 5] then (5, D) else t1) == 4) (cond (ge [.ref 1000000 0, .int .i64 4] [codO (Prod.snd (bif argN 9 [.ref 1000000 0, .int .i64 5] then (5, D) else t1))]) (cond (gv [.ref 1000000 0, .int .i64 3] [codO (Prod.snd (bif argN 9 [.ref 1000000 0, .int .i64 4] then (5, D) else t6))]) (some ((.agg (exC (IntKind.wrap IntKind.i64 (12 + Prod.fst (bif argN 9 [.ref 1000000 0, .int .i64 4] then (5, D) else t6))) ([117, 115, 101, 114]) ([99, 111, 117, 110, 116, 114, 121]) (.sl .fit 4 1 (fillGet zV [(0, .agg (VAL.c (Prod.fst t7)))]))), [codO (Prod.snd t7)]))) (none)) (none)) (cond (gv [.ref 1000000 0, .int .i64 3] [codO (Prod.snd (bif argN 9 [.ref 1000000 0, .int .i64 5] then (5, D) else t1))]) (some ((.agg (exC 7 ([117, 115, 101, 114]) ([99, 111, 117, 110, 116, 114, 121]) (.sl .fit 4 1 (fillGet zV [(0, .agg (VAL.c (Prod.fst t3)))]))), [codO (Prod.snd t3)]))) (none))))))) (none)) (none) := by subst h_t7 h_t6 h_t5 h_t4 h_t3 h_t2 h_t1; kernel_rfl
set_option maxRecDepth 100000 in
theorem test_6 (ge gv gy : List AV → List AO → Bool) (ve : List AV → List AO → Int × CODES) (vv : List AV → List AO → VAL × CODES) (vy : List AV → List AO → List UInt8 × CODES) (w : St → Bool) (v : St → List VAL × CODES) (C D : CODES) {t1 : Int × CODES} (h_t1 : ve [.ref 1000000 0, .int .i64 5] [codO (Prod.snd (6, D))] = t1) {t2 : List VAL × CODES} (h_t2 : v (TS0 ([117, 115, 101, 114]) ([112, 108, 97, 110]) 3 (Prod.snd (bif argN 9 [.ref 1000000 0, .int .i64 5] then (6, D) else t1))) = t2) {t3 : VAL × CODES} (h_t3 : vv [.ref 1000000 0, .int .i64 3] [codO (Prod.snd (bif argN 9 [.ref 1000000 0, .int .i64 5] then (6, D) else t1))] = t3) {t4 : Int × CODES} (h_t4 : ve [.ref 1000000 0, .int .i64 2] [codO (Prod.snd (bif argN 9 [.ref 1000000 0, .int .i64 5] then (6, D) else t1))] = t4) {t5 : VAL × CODES} (h_t5 : vv [.ref 1000000 0, .int .i64 3] [codO (Prod.snd (bif argN 9 [.ref 1000000 0, .int .i64 2] then (6, D) else t4))] = t5) {t6 : Int × CODES} (h_t6 : ve [.ref 1000000 0, .int .i64 4] [codO (Prod.snd (bif argN 9 [.ref 1000000 0, .int .i64 5] then (6, D) else t1))] = t6) {t7 : VAL × CODES} (h_t7 : vv [.ref 1000000 0, .int .i64 3] [codO (Prod.snd (bif argN 9 [.ref 1000000 0, .int .i64 4] then (6, D) else t6))] = t7) : runF (V2.run [mkE 19 ge (fun l os => cond (argN 9 l) (6, D) (ve l os)) φX, mkE 58 gv vv φV, mkE 104 gy vy φT] 3 [] [([1, 1, 1, 1, 1, 1, 0, 1, 0, 0, 0, 0, 0, 0, 0, 1, 0, 1, 0, 1, 0, 1, 0], mkO w v (outT [117, 115, 101, 114] [112, 108, 97, 110]))] [] 47) 9 47 [.ref keyBase 0] [codO C] =
  cond (ge [.ref 1000000 0, .int .i64 (IntKind.wrap IntKind.i64 ((↑8 : Int) + 1))] [codO C]) (cond (ge [.ref 1000000 0, .int .i64 5] [codO (Prod.snd (6, D))]) (cond (Prod.fst (bif argN 9 [.ref 1000000 0, .int .i64 5] then (6, D) else t1) == 0) (some ((.agg (exC 6 ([117, 115, 101, 114]) ([112, 108, 97, 110]) (.sl .fit 0 0 fun x => [])), [codO (Prod.snd (bif argN 9 [.ref 1000000 0, .int .i64 5] then (6, D) else t1))]))) (cond (Prod.fst (bif argN 9 [.ref 1000000 0, .int .i64 5] then (6, D) else t1) == 1) (cond (w (TS0 ([117, 115, 101, 114]) ([112, 108, 97, 110]) 3 (Prod.snd (bif argN 9 [.ref 1000000 0, .int .i64 5] then (6, D) else t1)))) (some ((.agg (exC 8 [117, 115, 101, 114] [112, 108, 97, 110] (.sl .no 4 (List.length (Prod.fst t2)) (getV (Prod.fst t2)))), [codO (Prod.snd t2)]))) (none)) (cond (Prod.fst (bif argN 9 [.ref 1000000 0, .int .i64 5] then (6, D) else t1) == 2) (cond (gv [.ref 1000000 0, .int .i64 3] [codO (Prod.snd (bif argN 9 [.ref 1000000 0, .int .i64 5] then (6, D) else t1))]) (some ((.agg (exC 11 ([117, 115, 101, 114]) ([112, 108, 97, 110]) (.sl .fit 4 1 (fillGet zV [(0, .agg (VAL.c (Prod.fst t3)))]))), [codO (Prod.snd t3)]))) (none)) (cond (Prod.fst (bif argN 9 [.ref 1000000 0, .int .i64 5] then (6, D) else t1) == 3) (cond (ge [.ref 1000000 0, .int .i64 2] [codO (Prod.snd (bif argN 9 [.ref 1000000 0, .int .i64 5] then (6, D) else t1))]) (cond (gv [.ref 1000000 0, .int .i64 3] [codO (Prod.snd (bif argN 9 [.ref 1000000 0, .int .i64 2] then (6, D) else t4))]) (some ((.agg (exC (IntKind.wrap IntKind.i64 (9 + Prod.fst (bif argN 9 [.ref 1000000 0, .int .i64 2] then (6, D) else t4))) ([117, 115, 101, 114]) ([112, 108, 97, 110]) (.sl .fit 4 1 (fillGet zV [(0, .agg (VAL.c (Prod.fst t5)))]))), [codO (Prod.snd t5)]))) (none)) (none)) (cond (Prod.fst (bif argN 9 [.ref 1000000 0, .int .i64 5] then (6, D) else t1) == 4) (cond (ge [.ref 1000000 0, .int .i64 4] [codO (Prod.snd (bif argN 9 [.ref 1000000 0, .int .i64 5] then (6, D) else t1))]) (cond (gv [.ref 1000000 0, .int .i64 3] [codO (Prod.snd (bif argN 9 [.ref 1000000 0, .int .i64 4] then (6, D) else t6))]) (some ((.agg (exC (IntKind.wrap IntKind.i64 (12 + Prod.fst (bif argN 9 [.ref 1000000 0, .int .i64 4] then (6, D) else t6))) ([117, 115, 101, 114]) ([112, 108, 97, 110]) (.sl .fit 4 1 (fillGet zV [(0, .agg (VAL.c (Prod.fst t7)))]))), [codO (Prod.snd t7)]))) (none)) (none)) (cond (gv [.ref 1000000 0, .int .i64 3] [codO (Prod.snd (bif argN 9 [.ref 1000000 0, .int .i64 5] then (6, D) else t1))]) (some ((.agg (exC 7 ([117, 115, 101, 114]) ([112, 108, 97, 110]) (.sl .fit 4 1 (fillGet zV [(0, .agg (VAL.c (Prod.fst t3)))]))), [codO (Prod.snd t3)]))) (none))))))) (none)) (none) := by subst h_t7 h_t6 h_t5 h_t4 h_t3 h_t2 h_t1; kernel_rfl
set_option maxRecDepth 100000 in
theorem test_7 (ge gv gy : List AV → List AO → Bool) (ve : List AV → List AO → Int × CODES) (vv : List AV → List AO → VAL × CODES) (vy : List AV → List AO → List UInt8 × CODES) (w : St → Bool) (v : St → List VAL × CODES) (C D : CODES) {t1 : Int × CODES} (h_t1 : ve [.ref 1000000 0, .int .i64 5] [codO (Prod.snd (7, D))] = t1) {t2 : VAL × CODES} (h_t2 : vv [.ref 1000000 0, .int .i64 5] [codO (Prod.snd (bif argN 9 [.ref 1000000 0, .int .i64 5] then (7, D) else t1))] = t2) {t3 : VAL × CODES} (h_t3 : vv [.ref 1000000 0, .int .i64 3] [codO (Prod.snd (bif argN 9 [.ref 1000000 0, .int .i64 5] then (7, D) else t1))] = t3) : runF (V2.run [mkE 19 ge (fun l os => cond (argN 9 l) (7, D) (ve l os)) φX, mkE 58 gv vv φV, mkE 104 gy vy φT] 3 [] [([1, 1, 1, 1, 1, 1, 0, 1, 0, 0, 0, 0, 0, 0, 0, 1, 0, 1, 0, 1, 0, 1, 0], mkO w v (outT [117, 115, 101, 114] [116, 97, 103, 115]))] [] 47) 9 47 [.ref keyBase 0] [codO C] =
  cond (ge [.ref 1000000 0, .int .i64 (IntKind.wrap IntKind.i64 ((↑8 : Int) + 1))] [codO C]) (cond (ge [.ref 1000000 0, .int .i64 5] [codO (Prod.snd (7, D))]) (cond (Prod.fst (bif argN 9 [.ref 1000000 0, .int .i64 5] then (7, D) else t1) == 0) (some ((.agg (exC 6 ([117, 115, 101, 114]) ([116, 97, 103, 115]) (.sl .fit 0 0 fun x => [])), [codO (Prod.snd (bif argN 9 [.ref 1000000 0, .int .i64 5] then (7, D) else t1))]))) (cond (Prod.fst (bif argN 9 [.ref 1000000 0, .int .i64 5] then (7, D) else t1) == 1) (cond (gv [.ref 1000000 0, .int .i64 5] [codO (Prod.snd (bif argN 9 [.ref 1000000 0, .int .i64 5] then (7, D) else t1))]) (some ((.agg (exC 7 ([117, 115, 101, 114]) ([116, 97, 103, 115]) (.sl .fit 4 1 (fillGet zV [(0, .agg (VAL.c (Prod.fst t2)))]))), [codO (Prod.snd t2)]))) (none)) (cond (Prod.fst (bif argN 9 [.ref 1000000 0, .int .i64 5] then (7, D) else t1) == 2) (cond (gv [.ref 1000000 0, .int .i64 3] [codO (Prod.snd (bif argN 9 [.ref 1000000 0, .int .i64 5] then (7, D) else t1))]) (some ((.agg (exC 11 ([117, 115, 101, 114]) ([116, 97, 103, 115]) (.sl .fit 4 1 (fillGet zV [(0, .agg (VAL.c (Prod.fst t3)))]))), [codO (Prod.snd t3)]))) (none)) (cond (Prod.fst (bif argN 9 [.ref 1000000 0, .int .i64 5] then (7, D) else t1) == 3) (cond (gv [.ref 1000000 0, .int .i64 5] [codO (Prod.snd (bif argN 9 [.ref 1000000 0, .int .i64 5] then (7, D) else t1))]) (some ((.agg (exC 7 ([117, 115, 101, 114]) ([116, 97, 103, 115]) (.sl .fit 4 1 (fillGet zV [(0, .agg (VAL.c (Prod.fst t2)))]))), [codO (Prod.snd t2)]))) (none)) (cond (Prod.fst (bif argN 9 [.ref 1000000 0, .int .i64 5] then (7, D) else t1) == 4) (cond (gv [.ref 1000000 0, .int .i64 5] [codO (Prod.snd (bif argN 9 [.ref 1000000 0, .int .i64 5] then (7, D) else t1))]) (some ((.agg (exC 7 ([117, 115, 101, 114]) ([116, 97, 103, 115]) (.sl .fit 4 1 (fillGet zV [(0, .agg (VAL.c (Prod.fst t2)))]))), [codO (Prod.snd t2)]))) (none)) (cond (gv [.ref 1000000 0, .int .i64 5] [codO (Prod.snd (bif argN 9 [.ref 1000000 0, .int .i64 5] then (7, D) else t1))]) (some ((.agg (exC 7 ([117, 115, 101, 114]) ([116, 97, 103, 115]) (.sl .fit 4 1 (fillGet zV [(0, .agg (VAL.c (Prod.fst t2)))]))), [codO (Prod.snd t2)]))) (none))))))) (none)) (none) := by subst h_t3 h_t2 h_t1; kernel_rfl
set_option maxRecDepth 100000 in
theorem test_8 (ge gv gy : List AV → List AO → Bool) (ve : List AV → List AO → Int × CODES) (vv : List AV → List AO → VAL × CODES) (vy : List AV → List AO → List UInt8 × CODES) (w : St → Bool) (v : St → List VAL × CODES) (C D : CODES) {t1 : List UInt8 × CODES} (h_t1 : vy [.ref 1000000 0] [codO (Prod.snd (8, D))] = t1) : runF (V2.run [mkE 19 ge (fun l os => cond (argN 9 l) (8, D) (ve l os)) φX, mkE 58 gv vv φV, mkE 104 gy vy φT] 3 [] [([1, 1, 1, 1, 1, 1, 0, 1, 0, 0, 0, 0, 0, 0, 0, 1, 0, 1, 0, 1, 0, 1, 0], mkO w v (outT [] []))] [] 47) 9 47 [.ref keyBase 0] [codO C] =
  cond (ge [.ref 1000000 0, .int .i64 (IntKind.wrap IntKind.i64 ((↑8 : Int) + 1))] [codO C]) (cond (gy [.ref 1000000 0] [codO (Prod.snd (8, D))]) (some ((.agg (exC 7 ([117, 115, 101, 114]) ([107, 101, 121]) (.sl .fit 4 1 (fillGet zV [(0, .agg [.int .i64 3, .int .i64 0, .str (Prod.fst t1), .sl .fit 0 0 fun x => [] ])]))), [codO (Prod.snd t1)]))) (none)) (none) := by subst h_t1; kernel_rfl
end Go.SH

namespace Go.SH
open Go Go.Ab Go.Proofs
set_option linter.unusedVariables false
set_option linter.unusedSimpArgs false
mutual
def EXP.size : EXP → Nat
  | .mk _ _ _ _ ks => 1 + sizeL ks
def sizeL : List EXP → Nat
  | [] => 0
  | e :: r => e.size + sizeL r
end
theorem EXP.size_eq (e : EXP) : e.size = 1 + sizeL e.kids := by cases e with | mk _ _ _ _ ks => rw [EXP.size]; rfl
/-- Well-formed with at most so many levels. -/
inductive VE : Nat → EXP → Prop
  | mk (l : Nat) (e : EXP) : partE e.part = 0 → (∀ k ∈ e.kids, VE l k) → VE (l + 1) e
theorem VE.up {l : Nat} {e : EXP} (h : VE l e) : VE (l + 1) e := by
  induction h with
  | mk l e h1 h2 ih => exact .mk _ _ h1 ih
theorem VE.le {l m : Nat} {e : EXP} (h : VE l e) (hm : l ≤ m) : VE m e := by
  obtain ⟨d, rfl⟩ : ∃ d, m = l + d := ⟨m - l, by omega⟩
  clear hm
  induction d with
  | zero => exact h
  | succ d ih => exact ih.up
theorem walkL_good (d : Nat) : ∀ (ks : List EXP), (∀ k ∈ ks, ∀ n ≤ 60, (n + k.size ≤ 60 → walkE k d n = (0, n + k.size)) ∧ (60 < n + k.size → (walkE k d n).1 = 5)) →
    ∀ n ≤ 60, (n + sizeL ks ≤ 60 → walkL ks d n = (0, n + sizeL ks)) ∧ (60 < n + sizeL ks → (walkL ks d n).1 = 5)
  | [], _, n, hn => ⟨fun _ => by simp [walkL, sizeL], fun h => by simp [sizeL] at h; omega⟩
  | k :: r, h, n, hn => by
    obtain ⟨h1, h2⟩ := h k (by simp) n hn
    have ih := walkL_good d r fun q hq => h q (List.mem_cons_of_mem _ hq)
    by_cases hk : n + k.size ≤ 60
    · have e1 := h1 hk
      obtain ⟨i1, i2⟩ := ih (n + k.size) hk
      have e2 : walkL (k :: r) d n = walkL r d (n + k.size) := by rw [walkL, e1]; rfl
      rw [e2, sizeL]
      refine ⟨fun h => ?_, fun h => i2 (by omega)⟩
      rw [i1 (by omega)]; congr 1; omega
    · have e1 := h2 (by omega)
      refine ⟨fun h => by rw [sizeL] at h; omega, fun _ => ?_⟩
      rw [walkL]
      have : ((walkE k d n).1 != 0) = true := by rw [e1]; rfl
      rw [this]; exact e1
theorem walk_good {l : Nat} {e : EXP} (h : VE l e) : ∀ d n, d + l ≤ 10 → n ≤ 60 → (n + e.size ≤ 60 → walkE e d n = (0, n + e.size)) ∧ (60 < n + e.size → (walkE e d n).1 = 5) := by
  induction h with
  | mk l e h1 h2 ih =>
    intro d n hd hn
    rw [walkE_eq, e.size_eq]
    by_cases h60 : n ≥ 60
    · rw [decide_eq_true h60]
      exact ⟨fun h => by omega, fun _ => rfl⟩
    · have hl : levelE e d = 0 := by unfold levelE; rw [decide_eq_false (by omega)]; exact h1
      rw [decide_eq_false h60, hl]
      have := walkL_good (d + 1) e.kids (fun k hk m hm => ih k hk (d + 1) m (by omega) hm) (n + 1) (by omega)
      refine ⟨fun h => ?_, fun h => ?_⟩
      · show walkL e.kids (d + 1) (n + 1) = _
        rw [this.1 (by omega)]; congr 1; omega
      · exact this.2 (by omega)
theorem expr_good {l : Nat} {e : EXP} (h : VE l e) (hl : l ≤ 10) : (exprE e == 0) = decide (e.size ≤ 60) := by
  obtain ⟨h1, h2⟩ := walk_good h 0 0 (by omega) (by omega)
  unfold exprE
  by_cases hs : e.size ≤ 60
  · rw [h1 (by omega), decide_eq_true hs]; rfl
  · rw [h2 (by omega), decide_eq_false hs]; rfl
mutual
/-- shape.count -/
def countE : EXP → Nat → Nat
  | .mk _ _ _ _ ks, n => countL ks (n + 1)
def countL : List EXP → Nat → Nat
  | [], n => n
  | e :: r, n => bif decide (n > 60) then n else countL r (countE e n)
end
theorem countE_eq (e : EXP) (n : Nat) : countE e n = countL e.kids (n + 1) := by cases e with | mk _ _ _ _ ks => rw [countE]; rfl
mutual
theorem count_min : ∀ (e : EXP) (n : Nat), n ≤ 60 → countE e n = min (n + e.size) 61
  | .mk o k nm v ks, n, h => by
    rw [countE, EXP.size, countL_min ks (n + 1) (by omega)]; congr 1; omega
theorem countL_min : ∀ (ks : List EXP) (n : Nat), n ≤ 61 → countL ks n = min (n + sizeL ks) 61
  | [], n, h => by rw [countL, sizeL]; omega
  | e :: r, n, h => by
    rw [countL, sizeL]
    by_cases hn : n > 60
    · rw [decide_eq_true hn]; show n = _; omega
    · rw [decide_eq_false hn, cond_false, count_min e n (by omega), countL_min r _ (by omega)]; omega
end
mutual
/-- flagstoneref6.Parts -/
def rpartsE : EXP → Nat
  | .mk _ _ _ _ ks => min (rsumL ks 1) 61
def rsumL : List EXP → Nat → Nat
  | [], n => n
  | e :: r, n => bif decide (n ≤ 60) then rsumL r (n + rpartsE e) else n
end
theorem rpartsE_eq (e : EXP) : rpartsE e = min (rsumL e.kids 1) 61 := by cases e with | mk _ _ _ _ ks => rw [rpartsE]; rfl
mutual
theorem rparts_min : ∀ (e : EXP), rpartsE e = min e.size 61
  | .mk o k nm v ks => by rw [rpartsE, EXP.size, rsum_min ks 1]
theorem rsum_min : ∀ (ks : List EXP) (n : Nat), min (rsumL ks n) 61 = min (n + sizeL ks) 61
  | [], n => by rw [rsumL, sizeL]; omega
  | e :: r, n => by
    rw [rsumL, sizeL]
    by_cases hn : n ≤ 60
    · rw [decide_eq_true hn, cond_true, rsum_min r, rparts_min e]; omega
    · rw [decide_eq_false hn, cond_false]; omega
end
theorem scan_none {n : Nat} {stop : Nat → Option Unit} (h : ∀ i, i < n → stop i = none) : ∀ d i, (scan n (· + 1) stop d i).1 = false
  | 0, _ => rfl
  | d + 1, i => by
    simp only [scan]
    by_cases hi : i < n
    · rw [if_pos hi, h i hi]; exact scan_none h d (i + 1)
    · rw [if_neg hi]
theorem kidSeek_none {p : PART} {b : Bool} (h : ∀ i, i < p.n → (bif p.ko i == p.op then b else false) = false) : (kidSeek p b).1 = false := by
  unfold kidSeek seek scanAt
  exact scan_none (fun i hi => by show (bif (bif p.ko i == p.op then b else false) then some () else none) = none; rw [h i hi]; rfl) _ _
theorem vals_none {l : List VAL} (h : ∀ v ∈ l, checkE v = 0) : (valsSeek l).1 = false := by
  unfold valsSeek scanAt
  have : ∀ d i, (scan l.length (· + 1) (valsStop l) d i).1 = false := by
    intro d
    induction d with
    | zero => intro i; rfl
    | succ d ih =>
      intro i
      simp only [scan]
      by_cases hi : i < l.length
      · rw [if_pos hi]
        have hv : checkE (l.getD i default) = 0 := by
          rw [List.getD_eq_getElem?_getD, List.getElem?_eq_getElem hi]; exact h _ (List.getElem_mem hi)
        unfold valsStop
        rw [hv]; exact ih (i + 1)
      · rw [if_neg hi]
  exact this _ _
def notX (e : EXP) : EXP := .mk 4 [] [] [] [e]
theorem part_not (e : EXP) : partE (notX e).part = 0 := by
  have h1 : (kidSeek (notX e).part (isPair (notX e).part.op)).1 = false := kidSeek_none fun i _ => by
    show (bif _ == (4 : Int) then isPair 4 else false) = false
    cases ((notX e).part.ko i == (4 : Int)) <;> rfl
  have h2 : (valsSeek (notX e).part.vals).1 = false := vals_none (by intro v hv; cases hv)
  unfold partE
  rw [h1, h2]; rfl
theorem VE.not {l : Nat} {e : EXP} (h : VE l e) : VE (l + 1) (notX e) := .mk _ _ (part_not e) fun k hk => by
  have : k ∈ [e] := hk
  simp at this; subst this; exact h
def pairX (op : Int) (ks : List EXP) : EXP := .mk op [] [] [] ks
theorem kidSeek_op {op : Int} {ks : List EXP} (h : ∀ k ∈ ks, k.op ≠ op) (b : Bool) : (kidSeek (pairX op ks).part b).1 = false := kidSeek_none fun i hi => by
  have hi : i < ks.length := hi
  have : ((ks.getD i default).op == op) = false := by
    rw [List.getD_eq_getElem?_getD, List.getElem?_eq_getElem hi]
    exact beq_eq_false_iff_ne.2 (h _ (List.getElem_mem hi))
  show (bif (ks.getD i default).op == op then b else false) = false
  rw [this]; rfl
theorem part_pair {op : Int} {ks : List EXP} (hop : op = 2 ∨ op = 3) (h2 : 2 ≤ ks.length) (h12 : ks.length ≤ 12) (h : ∀ k ∈ ks, k.op ≠ op) : partE (pairX op ks).part = 0 := by
  have h1 : (kidSeek (pairX op ks).part (isPair (pairX op ks).part.op)).1 = false := kidSeek_op h _
  have h3 : (valsSeek (pairX op ks).part.vals).1 = false := vals_none (by intro v hv; cases hv)
  have e1 : (pairX op ks).part.n = ks.length := rfl
  have e2 : (pairX op ks).part.op = op := rfl
  have e3 : (pairX op ks).part.vals = [] := rfl
  have e4 : (pairX op ks).part.kind = [] := rfl
  have e5 : (pairX op ks).part.name = [] := rfl
  unfold partE countB
  rw [h1, h3, e1, e2, e3, e4, e5, decide_eq_true (show ks.length ≥ 2 from h2), decide_eq_false (show ¬ ks.length > 12 by omega)]
  rcases hop with rfl | rfl <;> rfl
theorem part_wide {op : Int} {ks : List EXP} (hop : op = 2 ∨ op = 3) (h12 : 12 < ks.length) : partE (pairX op ks).part = 5 := by
  have e1 : (pairX op ks).part.n = ks.length := rfl
  have e2 : (pairX op ks).part.op = op := rfl
  have e3 : (pairX op ks).part.vals = [] := rfl
  have e4 : (pairX op ks).part.kind = [] := rfl
  have e5 : (pairX op ks).part.name = [] := rfl
  unfold partE countB
  rw [e1, e2, e3, e4, e5, decide_eq_true (show ks.length ≥ 2 by omega), decide_eq_true (show ks.length > 12 from h12)]
  rcases hop with rfl | rfl <;> rfl
theorem VE.pair {l : Nat} {op : Int} {ks : List EXP} (hop : op = 2 ∨ op = 3) (h2 : 2 ≤ ks.length) (h12 : ks.length ≤ 12) (h : ∀ k ∈ ks, k.op ≠ op) (hk : ∀ k ∈ ks, VE l k) : VE (l + 1) (pairX op ks) := .mk _ _ (part_pair hop h2 h12 h) hk
def notN : Nat → EXP → EXP
  | 0, e => e
  | k + 1, e => notX (notN k e)
theorem notN_good {l : Nat} {e : EXP} (h : VE l e) : ∀ k, VE (l + k) (notN k e)
  | 0 => h
  | k + 1 => (notN_good h k).not
theorem notN_size (e : EXP) : ∀ k, (notN k e).size = k + e.size
  | 0 => by rw [notN]; omega
  | k + 1 => by rw [notN, notX, EXP.size, sizeL, sizeL, notN_size e k]; omega
theorem notN_deep (e : EXP) : ∀ k d n, 10 ≤ d + k → n + k + 1 ≤ 60 → (walkE (notN k e) d n).1 = 18
  | 0, d, n, h, hn => by
    rw [walkE_eq, decide_eq_false (by omega)]
    have hl : levelE (notN 0 e) d = 18 := by unfold levelE; rw [decide_eq_true (by omega)]; rfl
    rw [hl]; rfl
  | k + 1, d, n, h, hn => by
    rw [walkE_eq, decide_eq_false (by omega)]
    by_cases hd : d ≥ 10
    · have hl : levelE (notN (k + 1) e) d = 18 := by unfold levelE; rw [decide_eq_true hd]; rfl
      rw [hl]; rfl
    · have hl : levelE (notN (k + 1) e) d = 0 := by unfold levelE; rw [decide_eq_false hd]; exact part_not _
      rw [hl]
      have ih := notN_deep e k (d + 1) (n + 1) (by omega) (by omega)
      show (walkL [notN k e] (d + 1) (n + 1)).1 = 18
      rw [walkL]
      have : ((walkE (notN k e) (d + 1) (n + 1)).1 != 0) = true := by rw [ih]; rfl
      rw [this]; exact ih
end Go.SH

namespace Go.SH
open Go Go.Ab Go.Proofs
set_option linter.unusedVariables false
set_option linter.unusedSimpArgs false
theorem agg_map {c : Cx} {us us' : List AV} {v : Value} (hl : us'.length = us.length) (hm : ∀ (i : Nat) (u u' : AV), us[i]? = some u → us'[i]? = some u' → u'.one = true ∧ ∀ x, Rep c u x → Rep c u' x) (h : Rep c (.agg us) v) : Rep c (.agg us') v := by
  cases h with
  | agg _ vs h1 h2 h3 =>
    have hg : ∀ (i : Nat) (u' : AV), us'[i]? = some u' → ∃ u, us[i]? = some u := fun i u' hu => by
      have := (List.getElem?_eq_some_iff.1 hu).1
      exact ⟨us[i]'(by omega), List.getElem?_eq_getElem (by omega)⟩
    refine .agg _ vs (by rw [hl]; exact h1) (fun i u' hu => ?_) (fun i u' hu => ?_)
    · obtain ⟨u, h⟩ := hg i u' hu
      exact (hm i u u' h hu).1
    · obtain ⟨u, h⟩ := hg i u' hu
      exact (hm i u u' h hu).2 _ (h3 i u h)
theorem sl_map {c : Cx} {o : Own} {sz n : Nat} {get get' : Nat → List AV} (hl : ∀ j, j < n → (get' j).length = sz ∧ keysL (get' j) = []) (hm : ∀ (j i : Nat) (u u' : AV), j < n → (get j)[i]? = some u → (get' j)[i]? = some u' → u'.one = true ∧ ∀ x, Rep c u x → Rep c u' x) (x : Value) (h : Rep c (.sl o sz n get) x) : Rep c (.sl .no sz n get') x := by
  cases h with
  | slNil _ _ _ ho => exact .slNil _ _ _ trivial
  | sl _ _ _ _ ad cap vals h1 h2 h3 h4 h5 h6 =>
    have hg : ∀ (j i : Nat) (u' : AV), j < n → (get' j)[i]? = some u' → ∃ u, (get j)[i]? = some u := fun j i u' hj hu => by
      have := (List.getElem?_eq_some_iff.1 hu).1
      rw [(hl j hj).1, ← (h4 j hj).1] at this
      exact ⟨_, List.getElem?_eq_getElem this⟩
    refine .sl _ _ _ _ ad cap vals h1 h2 trivial hl (fun j i u' hj hu => ?_) (fun j i u' hj hu => ?_)
    · obtain ⟨u, h⟩ := hg j i u' hj hu
      exact ⟨(hm j i u u' hj h hu).1, (h5 j i u hj h).2⟩
    · obtain ⟨u, h⟩ := hg j i u' hj hu
      exact (hm j i u u' hj h hu).2 _ (h6 j i u hj h)
theorem valC_keys (v : VAL) : keysL v.c = [] := by simp [VAL.c, keysL, AV.keys, strsA]
/-- The answer of a test, told as a condition. -/
theorem test_ct {f : FuncId} {A : List AV} {O os : List AO} {op : Int} {kd nm : List UInt8} {l : List VAL} {o : Own} {get g0 : Nat → List AV} (hg : ∀ j, j < l.length → ∀ (i : Nat) (u u' : AV), (get j)[i]? = some u → (l.getD j default).c[i]? = some u' → u'.one = true ∧ ∀ c x, Rep c u x → Rep c u' x)
    (h : Ct V2.P V2.G f A O (.agg [.int .i64 op, .str kd, .str nm, .sl o 4 l.length get, .sl .fit 0 0 g0], os)) : Ct V2.P V2.G f A O (.agg (EXP.c (.mk op kd nm l [])), os) := by
  refine h.res ?_ fun c v hv => ?_
  · rw [EXP.c_eq]; simp [expC, AV.keys, keysL, valL]
  · rw [EXP.c_eq]
    show Rep c (.agg [.int .i64 op, .str kd, .str nm, valL l, .sl .no 5 0 (EXP.row [])]) v
    refine agg_map (us := [.int .i64 op, .str kd, .str nm, .sl o 4 l.length get, .sl .fit 0 0 g0]) rfl (fun i u u' hu hu' => ?_) hv
    match i with
    | 0 => simp only [List.getElem?_cons_zero, Option.some.injEq] at hu hu'; subst hu hu'; exact ⟨rfl, fun x h => h⟩
    | 1 => simp only [List.getElem?_cons_succ, List.getElem?_cons_zero, Option.some.injEq] at hu hu'; subst hu hu'; exact ⟨rfl, fun x h => h⟩
    | 2 => simp only [List.getElem?_cons_succ, List.getElem?_cons_zero, Option.some.injEq] at hu hu'; subst hu hu'; exact ⟨rfl, fun x h => h⟩
    | 3 =>
      simp only [List.getElem?_cons_succ, List.getElem?_cons_zero, Option.some.injEq] at hu hu'; subst hu hu'
      exact ⟨rfl, sl_map (fun j hj => ⟨rfl, valC_keys _⟩) fun j i u u' hj h1 h2 => ⟨(hg j hj i u u' h1 h2).1, fun x => (hg j hj i u u' h1 h2).2 c x⟩⟩
    | 4 =>
      simp only [List.getElem?_cons_succ, List.getElem?_cons_zero, Option.some.injEq] at hu hu'; subst hu hu'
      exact ⟨rfl, sl_fit⟩
    | i + 5 => simp at hu
theorem same_cells {l : List VAL} {get : Nat → List AV} (h : ∀ j, j < l.length → get j = (l.getD j default).c) : ∀ j, j < l.length → ∀ (i : Nat) (u u' : AV), (get j)[i]? = some u → (l.getD j default).c[i]? = some u' → u'.one = true ∧ ∀ c x, Rep c u x → Rep c u' x := fun j hj i u u' h1 h2 => by
  rw [h j hj, h2] at h1
  simp only [Option.some.injEq] at h1
  subst h1
  refine ⟨?_, fun _ _ h => h⟩
  match i with
  | 0 => simp [VAL.c] at h2; subst h2; rfl
  | 1 => simp [VAL.c] at h2; subst h2; rfl
  | 2 => simp [VAL.c] at h2; subst h2; rfl
  | 3 => simp [VAL.c] at h2; subst h2; rfl
  | i + 4 => simp [VAL.c] at h2
def keysL10 : List (List UInt8) := (List.range 10).map fun r => [107, UInt8.ofNat (48 + r)]
theorem key_ex (C : CODES) (h : C.Ok) : ∃ x : List UInt8 × CODES, (x.1 ∈ keysL10 ∧ x.2.Ok) ∧ Ct V2.P V2.G 104 (cA C) (cO C) (φT x) := by
  obtain ⟨h0, h1, h2⟩ := nextR_ok h (m := 10) (by omega)
  have hc := fun r => ct_loops (V := V2) (f := 104) (n := 9) (d := 3) (L := []) (l := cA C) (os := cO C) (r := r) (T := [entN]) mixed2 funcs2 (tabOk_cons entN_ok tabOk_nil) loopsOk_nil
  have hk := key_e gN vN C (vN_eq h (by omega))
  rw [gN_eq h (by omega)] at hk
  revert h0 h1 h2 hk
  generalize nextR C 10 = y
  obtain ⟨r, D⟩ := y
  intro h0 h1 h2 hk
  have hr : r = 0 ∨ r = 1 ∨ r = 2 ∨ r = 3 ∨ r = 4 ∨ r = 5 ∨ r = 6 ∨ r = 7 ∨ r = 8 ∨ r = 9 := by have h0 : 0 ≤ r := h0; have h1 : r < 10 := h1; omega
  rcases hr with rfl | rfl | rfl | rfl | rfl | rfl | rfl | rfl | rfl | rfl
  · exact ⟨([107, 48], D), ⟨(show ([107, 48] : List UInt8) ∈ keysL10 by decide), h2⟩, hc _ (hk.trans rfl)⟩
  · exact ⟨([107, 49], D), ⟨(show ([107, 49] : List UInt8) ∈ keysL10 by decide), h2⟩, hc _ (hk.trans rfl)⟩
  · exact ⟨([107, 50], D), ⟨(show ([107, 50] : List UInt8) ∈ keysL10 by decide), h2⟩, hc _ (hk.trans rfl)⟩
  · exact ⟨([107, 51], D), ⟨(show ([107, 51] : List UInt8) ∈ keysL10 by decide), h2⟩, hc _ (hk.trans rfl)⟩
  · exact ⟨([107, 52], D), ⟨(show ([107, 52] : List UInt8) ∈ keysL10 by decide), h2⟩, hc _ (hk.trans rfl)⟩
  · exact ⟨([107, 53], D), ⟨(show ([107, 53] : List UInt8) ∈ keysL10 by decide), h2⟩, hc _ (hk.trans rfl)⟩
  · exact ⟨([107, 54], D), ⟨(show ([107, 54] : List UInt8) ∈ keysL10 by decide), h2⟩, hc _ (hk.trans rfl)⟩
  · exact ⟨([107, 55], D), ⟨(show ([107, 55] : List UInt8) ∈ keysL10 by decide), h2⟩, hc _ (hk.trans rfl)⟩
  · exact ⟨([107, 56], D), ⟨(show ([107, 56] : List UInt8) ∈ keysL10 by decide), h2⟩, hc _ (hk.trans rfl)⟩
  · exact ⟨([107, 57], D), ⟨(show ([107, 57] : List UInt8) ∈ keysL10 by decide), h2⟩, hc _ (hk.trans rfl)⟩
theorem keys_good : ∀ s ∈ keysL10, goodVal 3 ⟨3, 0, s, []⟩ := by
  intro s hs
  have hs : s ∈ ([[107, 48], [107, 49], [107, 50], [107, 51], [107, 52], [107, 53], [107, 54], [107, 55], [107, 56], [107, 57]] : List (List UInt8)) := hs
  simp only [List.mem_cons, List.not_mem_nil, or_false] at hs
  rcases hs with rfl | rfl | rfl | rfl | rfl | rfl | rfl | rfl | rfl | rfl <;> exact ⟨rfl, by kernel_rfl, by decide, by decide, by simp⟩
/-- A test that is well-formed. -/
theorem part_test {op : Int} {kd nm : List UInt8} {l : List VAL} (h6 : 6 ≤ op) (h15 : op ≤ 15) (hk : keyB kd = true) (hn : keyB nm = true) (hv : ∀ v ∈ l, checkE v = 0) (h20 : l.length ≤ 20)
    (hc : (bif op == 8 then decide (l.length > 0) else bif op != 6 then l.length == 1 else l.length == 0) = true) (ht : needsText op = true → (l.getD 0 default).kind = 3) : partE (EXP.mk op kd nm l []).part = 0 := by
  have e1 : (EXP.mk op kd nm l []).part.n = 0 := rfl
  have e2 : (EXP.mk op kd nm l []).part.op = op := rfl
  have e3 : (EXP.mk op kd nm l []).part.vals = l := rfl
  have e4 : (EXP.mk op kd nm l []).part.kind = kd := rfl
  have e5 : (EXP.mk op kd nm l []).part.name = nm := rfl
  have ht1 : testB op = true := by unfold testB; rw [decide_eq_true (show op ≥ 6 from h6), decide_eq_true h15]; rfl
  have hp : isPair op = false := by
    unfold isPair
    rw [beq_eq_false_iff_ne.2 (show op ≠ 2 by omega), beq_eq_false_iff_ne.2 (show op ≠ 3 by omega)]; rfl
  have h4 : (op == 4) = false := beq_eq_false_iff_ne.2 (by omega)
  unfold partE countB
  rw [kidSeek_zero _ _ e1, e1, e2, e3, e4, e5, vals_none hv, hk, hn, ht1, hp, h4, decide_eq_false (show ¬ op < 1 by omega), decide_eq_false (show ¬ op > 15 by omega), decide_eq_false (show ¬ l.length > 20 by omega)]
  rw [show (true && op != 6) = (op != 6) from rfl, hc]
  cases hx : needsText op with
  | false => rfl
  | true =>
    rw [ht hx]; rfl
def testOk (e : EXP) : Prop := partE e.part = 0 ∧ e.kids = [] ∧ e.Ok
theorem testOk.ve {e : EXP} (h : testOk e) : VE 1 e := .mk _ _ h.1 fun k hk => by rw [h.2.1] at hk; cases hk
end Go.SH

namespace Go.SH
open Go Go.Ab Go.Proofs
set_option linter.unusedVariables false
set_option linter.unusedSimpArgs false
section
open Classical
/-- Next, where what it answers for one number at one state is written out. -/
noncomputable def gB (m : Int) (C : CODES) (l : List AV) (os : List AO) : Bool := decide ((∃ a, nP a ∧ nA a = l ∧ nO a = os) ∧ (argN m l = true → os = [codO C]))
noncomputable def entB (m : Int) (C : CODES) (x : Int × CODES) : Ent := mkE 19 (gB m C) (fun l os => cond (argN m l) x (vN l os)) φX
theorem entB_ok {m : Int} {C : CODES} (hm : 1 ≤ m) (hC : C.Ok) {x : Int × CODES} (hx : nextR C m = x) : ∀ l os, (entB m C x).pre l os = true → Ct V2.P V2.G (entB m C x).f l os ((entB m C x).ans l os) := by
  intro l os hp
  obtain ⟨⟨a, h1, h2, h3⟩, h4⟩ : (∃ a, nP a ∧ nA a = l ∧ nO a = os) ∧ (argN m l = true → os = [codO C]) := of_decide_eq_true hp
  show Ct V2.P V2.G 19 l os (φX (cond (argN m l) x (vN l os)))
  cases hb : argN m l with
  | true =>
    have := h4 hb
    subst h2
    have hm2 : a.2 = m := by simpa [argN, nA] using hb
    rw [this]
    have hn := next_ok C hC m hm
    rw [hx] at hn
    show Ct V2.P V2.G 19 [.ref keyBase 0, .int .i64 a.2] _ _
    rw [hm2]; exact hn
  | false =>
    subst h2 h3
    have : vN (nA a) (nO a) = nW a := valA_eq (fun a b _ _ h1 h2 => nInj a b h1 h2) h1
    rw [show cond false x (vN (nA a) (nO a)) = vN (nA a) (nO a) from rfl, this]
    exact next_ok a.1 h1.1 a.2 h1.2
theorem gB_eq {m : Int} {C D : CODES} {n : Int} (h : D.Ok) (hn : 1 ≤ n) (he : n = m → D = C) : gB m C [.ref 1000000 0, .int .i64 n] [codO D] = true := by
  refine decide_eq_true ⟨⟨(D, n), ⟨h, hn⟩, rfl, rfl⟩, fun ha => ?_⟩
  have : n = m := by simpa [argN] using ha
  rw [he this]
end
theorem argN_ne {m n : Int} (h : n ≠ m) : argN m [.ref 1000000 0, .int .i64 n] = false := by simpa [argN] using h
theorem vA_kind (a b : CODES × Int) (x : VAL × CODES) (h : vA a = vA b) (_ : vO a = vO b) (hx : vPost a x) : vPost b x := by
  simp only [vA, List.cons.injEq, AV.int.injEq, true_and, and_true] at h
  unfold vPost at *
  rw [← h]; exact hx
def φQ (x : EXP × CODES) : AV × List AO := (.agg x.1.c, [codO x.2])
def tPost (x : EXP × CODES) : Prop := testOk x.1 ∧ x.2.Ok
theorem fill_one {v : VAL} : ∀ j, j < [v].length → fillGet zV [(0, .agg v.c)] j = ([v].getD j default).c := fun j hj => by
  match j, hj with
  | 0, _ => rfl
theorem getV_at {l : List VAL} : ∀ j, j < l.length → getV l j = (l.getD j default).c := fun j hj => by
  unfold getV
  simp [List.getD, hj]
def opOk (op kind : Int) : Prop := 6 ≤ op ∧ op ≤ 15 ∧ op ≠ 8 ∧ op ≠ 6 ∧ (needsText op = true → kind = 3)
section
variable {C : CODES} {dk dn : List UInt8} (h1 : keyB dk = true) (h2 : keyB dn = true) (h3 : dk.length ≤ 100) (h4 : dn.length ≤ 100)
include h1 h2 h3 h4
theorem leaf0 {D : CODES} (hD : D.Ok) {g : Nat → List AV} (hct : Ct V2.P V2.G 47 (cA C) (cO C) (.agg (exC 6 dk dn (.sl .fit 0 0 g)), [codO D])) : ∃ x, tPost x ∧ Ct V2.P V2.G 47 (cA C) (cO C) (φQ x) := by
  refine ⟨(.mk 6 dk dn [] [], D), ⟨⟨part_test (by omega) (by omega) h1 h2 (by intro v hv; cases hv) (by simp) rfl (by intro h; cases h), rfl, .mk _ (by show dk.length ≤ maxS; unfold maxS; omega) (by show dn.length ≤ maxS; unfold maxS; omega) ⟨by show 0 ≤ _; omega, by intro v hv; cases hv⟩ (by show 0 ≤ _; omega) (by intro v hv; cases hv)⟩, hD⟩, ?_⟩
  refine hct.res ?_ fun c v hv => ?_
  · show (AV.agg (EXP.c (.mk 6 dk dn [] []))).keys = []
    rw [EXP.c_eq]; simp [expC, AV.keys, keysL, valL]
  · show Rep c (.agg (EXP.c (.mk 6 dk dn [] []))) v
    rw [EXP.c_eq]
    show Rep c (.agg [.int .i64 6, .str dk, .str dn, valL [], .sl .no 5 0 (EXP.row [])]) v
    refine agg_map (us := [.int .i64 6, .str dk, .str dn, .sl .fit 0 0 g, .sl .fit 0 0 fun _ => []]) rfl (fun i u u' hu hu' => ?_) hv
    match i with
    | 0 => simp only [List.getElem?_cons_zero, Option.some.injEq] at hu hu'; subst hu hu'; exact ⟨rfl, fun x h => h⟩
    | 1 => simp only [List.getElem?_cons_succ, List.getElem?_cons_zero, Option.some.injEq] at hu hu'; subst hu hu'; exact ⟨rfl, fun x h => h⟩
    | 2 => simp only [List.getElem?_cons_succ, List.getElem?_cons_zero, Option.some.injEq] at hu hu'; subst hu hu'; exact ⟨rfl, fun x h => h⟩
    | 3 => simp only [List.getElem?_cons_succ, List.getElem?_cons_zero, Option.some.injEq] at hu hu'; subst hu hu'; exact ⟨rfl, sl_fit⟩
    | 4 => simp only [List.getElem?_cons_succ, List.getElem?_cons_zero, Option.some.injEq] at hu hu'; subst hu hu'; exact ⟨rfl, sl_fit⟩
    | i + 5 => simp at hu
theorem leaf1 {C2 : CODES} {kind op : Int} {y : VAL × CODES} (hy : vPost (C2, kind) y) (hop : opOk op kind) (hct : Ct V2.P V2.G 47 (cA C) (cO C) (.agg (exC op dk dn (.sl .fit 4 1 (fillGet zV [(0, .agg (VAL.c y.1))]))), [codO y.2])) : ∃ x, tPost x ∧ Ct V2.P V2.G 47 (cA C) (cO C) (φQ x) := by
  obtain ⟨⟨g1, g2, g3⟩, g4⟩ := hy
  obtain ⟨o1, o2, o3, o4, o5⟩ := hop
  refine ⟨(.mk op dk dn [y.1] [], y.2), ⟨⟨part_test o1 o2 h1 h2 (by intro v hv; simp at hv; subst hv; exact g2) (by simp) (by rw [beq_eq_false_iff_ne.2 o3, show (op != 6) = true by simp [o4]]; rfl) (fun h => by show y.1.kind = 3; rw [g1]; exact o5 h), rfl, .mk _ (by show dk.length ≤ maxS; unfold maxS; omega) (by show dn.length ≤ maxS; unfold maxS; omega) ⟨by show 1 ≤ _; omega, by intro v hv; have : v ∈ [y.1] := hv; simp at this; subst this; exact g3⟩ (by show 0 ≤ _; omega) (by intro v hv; cases hv)⟩, g4⟩, ?_⟩
  exact test_ct (l := [y.1]) (same_cells fill_one) hct
theorem leafL {kind : Int} {z : List VAL × CODES} (hz : 1 ≤ z.1.length ∧ z.1.length ≤ 3 ∧ (∀ v ∈ z.1, goodVal kind v) ∧ z.2.Ok) {o : Own} (hct : Ct V2.P V2.G 47 (cA C) (cO C) (.agg (exC 8 dk dn (.sl o 4 z.1.length (getV z.1))), [codO z.2])) : ∃ x, tPost x ∧ Ct V2.P V2.G 47 (cA C) (cO C) (φQ x) := by
  obtain ⟨z1, z2, z3, z4⟩ := hz
  refine ⟨(.mk 8 dk dn z.1 [], z.2), ⟨⟨part_test (by omega) (by omega) h1 h2 (fun v hv => (z3 v hv).2.1) (by omega) (by show decide (z.1.length > 0) = true; exact decide_eq_true (by omega)) (by intro h; cases h), rfl, .mk _ (by show dk.length ≤ maxS; unfold maxS; omega) (by show dn.length ≤ maxS; unfold maxS; omega) ⟨by show z.1.length ≤ _; omega, fun v hv => (z3 v hv).2.2⟩ (by show 0 ≤ _; omega) (by intro v hv; cases hv)⟩, z4⟩, ?_⟩
  exact test_ct (l := z.1) (same_cells getV_at) hct
end
/-- The loop of In. -/
abbrev TSt := CODES ⊕ (List VAL × CODES)
def tS (dk dn : List UInt8) (dt : Int) : TSt → St
  | .inl C => TS0 dk dn dt C
  | .inr (l, C) => TS dk dn dt l.length (getV l) C l.length
def tI (dt : Int) : TSt → Prop
  | .inl C => C.Ok
  | .inr (l, C) => C.Ok ∧ 1 ≤ l.length ∧ l.length ≤ 3 ∧ ∀ v ∈ l, goodVal dt v
def tM : TSt → Nat
  | .inl _ => 5
  | .inr (l, _) => 4 - l.length
def tZ (dt : Int) (z : List VAL × CODES) : Prop := 1 ≤ z.1.length ∧ z.1.length ≤ 3 ∧ (∀ v ∈ z.1, goodVal dt v) ∧ z.2.Ok
instance : Inhabited (List VAL × CODES) := ⟨([], default)⟩
theorem getV_app (l : List VAL) (v : VAL) : appGet l.length 1 (getV l) (fillGet zV [(0, .agg v.c)]) = getV (l ++ [v]) := by
  funext j
  unfold appGet getV
  by_cases h : j < l.length
  · rw [bltT h]
    simp [List.getD, h, List.getElem?_append_left]
  · have hb : Nat.blt j l.length = false := by
      cases e : Nat.blt j l.length with
      | false => rfl
      | true => exact absurd (ltB e) h
    rw [hb, cond_false]
    by_cases h1 : j = l.length
    · subst h1
      rw [bltT (by omega), cond_true, Nat.sub_self]
      simp [fillGet, AV.cells, List.getD]
    · have hb1 : Nat.blt j (l.length + 1) = false := by
        cases e : Nat.blt j (l.length + 1) with
        | false => rfl
        | true => exact absurd (ltB e) (by omega)
      rw [hb1, cond_false]
      simp only [List.map_append, List.map_cons, List.map_nil, List.getD]
      rw [List.getElem?_eq_none (by simp; omega), List.getElem?_eq_none (by simp; omega)]
theorem test_loop (dk dn : List UInt8) (dt : Int) (h1 : 1 ≤ dt) (h5 : dt ≤ 5) (ge : List AV → List AO → Bool) (ve : List AV → List AO → Int × CODES) (hge : ∀ C : CODES, C.Ok → ge [.ref 1000000 0, .int .i64 3] [codO C] = true) (hve : ∀ C : CODES, C.Ok → ve [.ref 1000000 0, .int .i64 3] [codO C] = nextR C 3)
    (wv : CODES × Int → VAL × CODES) (hwv : ∀ a, vP a → vPost a (wv a)) (T : List Ent) :
    ∃ w : TSt → List VAL × CODES, (∀ v, tI dt v → tZ dt (w v)) ∧ ∀ L, LoopOk (V2.run (mkE 19 ge ve φX :: entC 58 vA vO vP wv φV :: T) 3 [] L [] 47) 47 [1, 1, 1, 1, 1, 1, 0, 1, 0, 0, 0, 0, 0, 0, 0, 1, 0, 1, 0, 1, 0, 1, 0] (mkO (goodS (tS dk dn dt) (tI dt)) (valS (tS dk dn dt) (tI dt) w) (outT dk dn)) := by
  refine loop_ex (Xf := fun L => V2.run (mkE 19 ge ve φX :: entC 58 vA vO vP wv φV :: T) 3 [] L [] 47) (b := subC (bodyOf V2.P 47) ([1, 1, 1, 1, 1, 1, 0, 1, 0, 0, 0, 0, 0, 0, 0, 1, 0, 1, 0, 1, 0, 1, 0] ++ [0])) (tS dk dn dt) (tI dt) tM (outT dk dn) (fun _ => tZ dt) (fun _ => by kernel_rfl) 9 fun v hv => ?_
  have hgv : ∀ C : CODES, C.Ok → goodA vA vO vP [.ref 1000000 0, .int .i64 dt] [codO C] = true := fun C hC => goodA_eq (A := vA) (O := vO) (v := (C, dt)) ⟨hC, h1, h5⟩
  have hvv : ∀ C : CODES, C.Ok → vPost (C, dt) (valA vA vO vP wv [.ref 1000000 0, .int .i64 dt] [codO C]) := fun C hC => valA_post (A := vA) (O := vO) (a := (C, dt)) hwv vA_kind ⟨hC, h1, h5⟩
  cases v with
  | inl C =>
    have hC : C.Ok := hv
    obtain ⟨q0, q1, q2⟩ := nextR_ok hC (m := 3) (by omega)
    refine .inr ⟨.inr ([(valA vA vO vP wv [.ref 1000000 0, .int .i64 dt] [codO (nextR C 3).2]).1], (valA vA vO vP wv [.ref 1000000 0, .int .i64 dt] [codO (nextR C 3).2]).2), ?_, by show 4 - 1 < 5; omega, fun _ h => h, fun L k kn => ?_⟩
    · obtain ⟨g1, g2⟩ := hvv _ q2
      exact ⟨g2, by show 1 ≤ 1; omega, by show 1 ≤ 3; omega, fun v hv => by simp at hv; subst hv; exact g1⟩
    · refine (test_r0 ge _ ve _ T L _ dk dn dt C kn k (hve C hC) rfl).trans ?_
      rw [hge C hC, decide_eq_true q0, hgv _ q2]
      have := getV_app [] (valA vA vO vP wv [.ref 1000000 0, .int .i64 dt] [codO (nextR C 3).2]).1
      show kn _ = kn _
      congr 1
      show TS dk dn dt 1 (appGet 0 1 (fun _ => zV) _) _ _ = TS dk dn dt 1 (getV [_]) _ 1
      rw [show (fun _ : Nat => zV) = getV [] by funext j; rfl]
      exact congrArg (fun g => TS dk dn dt 1 g _ 1) this
  | inr x =>
    obtain ⟨l, C⟩ := x
    obtain ⟨hC, l1, l3, lv⟩ := hv
    obtain ⟨q0, q1, q2⟩ := nextR_ok hC (m := 3) (by omega)
    obtain ⟨n, hn⟩ : ∃ n, l.length = n + 1 := ⟨l.length - 1, by omega⟩
    by_cases hi : (l.length : Int) ≤ (nextR C 3).1
    · refine .inr ⟨.inr (l ++ [(valA vA vO vP wv [.ref 1000000 0, .int .i64 dt] [codO (nextR C 3).2]).1], (valA vA vO vP wv [.ref 1000000 0, .int .i64 dt] [codO (nextR C 3).2]).2), ?_, ?_, fun _ h => h, fun L k kn => ?_⟩
      · obtain ⟨g1, g2⟩ := hvv _ q2
        refine ⟨g2, by simp, by simp; omega, fun v hv => ?_⟩
        rcases List.mem_append.1 hv with hv | hv
        · exact lv v hv
        · simp at hv; subst hv; exact g1
      · show 4 - (l ++ [_]).length < 4 - l.length
        rw [List.length_append, List.length_singleton]; omega
      · have := test_r ge (goodA vA vO vP) ve (valA vA vO vP wv) T L 9 dk dn dt n (getV l) C l.length kn k (hve C hC) rfl
        rw [← hn] at this
        refine this.trans ?_
        rw [hge C hC, decide_eq_true hi, hgv _ q2, getV_app, wrap_next (n := 4) (by omega) (by omega)]
        have hr : (roomy 56 (l.length + 1) && Nat.beq l.length l.length) = true := by
          have : l.length = 1 ∨ l.length = 2 ∨ l.length = 3 := by omega
          rcases this with e | e | e <;> rw [e] <;> rfl
        rw [hr]
        show kn _ = kn (TS dk dn dt (l ++ [_]).length (getV (l ++ [_])) _ (l ++ [_]).length)
        rw [List.length_append, List.length_singleton]; rfl
    · refine .inl ⟨(l, (nextR C 3).2), ⟨l1, l3, lv, q2⟩, fun L k kn => ?_⟩
      have := test_r ge (goodA vA vO vP) ve (valA vA vO vP wv) T L 9 dk dn dt n (getV l) C l.length kn k (hve C hC) rfl
      rw [← hn] at this
      refine this.trans ?_
      rw [hge C hC, decide_eq_false hi]; rfl
theorem tS_good (dk dn : List UInt8) (dt : Int) {C : CODES} (h : C.Ok) : goodS (tS dk dn dt) (tI dt) (TS0 dk dn dt C) = true := goodS_eq (S := tS dk dn dt) (v := Sum.inl C) h
theorem tS_post (dk dn : List UInt8) (dt : Int) {w : TSt → List VAL × CODES} (hw : ∀ v, tI dt v → tZ dt (w v)) {C : CODES} (h : C.Ok) : tZ dt (valS (tS dk dn dt) (tI dt) w (TS0 dk dn dt C)) :=
  valS_post (S := tS dk dn dt) (a := Sum.inl C) (Post := fun (_ : TSt) (x : List VAL × CODES) => tZ dt x) hw (fun _ _ _ _ h => h) h
theorem vA_good {dt : Int} (h1 : 1 ≤ dt) (h5 : dt ≤ 5) {C : CODES} (h : C.Ok) : goodA vA vO vP [.ref 1000000 0, .int .i64 dt] [codO C] = true := goodA_eq (A := vA) (O := vO) (v := (C, dt)) ⟨h, h1, h5⟩
theorem vA_post {dt : Int} {wv : CODES × Int → VAL × CODES} (hwv : ∀ a, vP a → vPost a (wv a)) (h1 : 1 ≤ dt) (h5 : dt ≤ 5) {C : CODES} (h : C.Ok) : vPost (C, dt) (valA vA vO vP wv [.ref 1000000 0, .int .i64 dt] [codO C]) := valA_post (A := vA) (O := vO) (a := (C, dt)) hwv vA_kind ⟨h, h1, h5⟩
end Go.SH

namespace Go.SH
open Go Go.Ab Go.Proofs
set_option linter.unusedVariables false
set_option linter.unusedSimpArgs false
set_option linter.unusedSectionVars false
theorem wrap_lit {a b : Int} (h : a + b < 100) (h0 : 0 ≤ a + b) : IntKind.wrap .i64 (a + b) = a + b := wrap_i64 (by omega) (by omega)
section
variable {C D : CODES} (hC : C.Ok) (hD : D.Ok) {wv : CODES × Int → VAL × CODES} (hwv : ∀ a, vP a → vPost a (wv a)) (htv : ∀ l os, (entC 58 vA vO vP wv φV).pre l os = true → Ct V2.P V2.G (entC 58 vA vO vP wv φV).f l os ((entC 58 vA vO vP wv φV).ans l os))
  {wk : CODES → List UInt8 × CODES} (hwk : ∀ C, C.Ok → (wk C).1 ∈ keysL10 ∧ (wk C).2.Ok) (htk : ∀ l os, (entC 104 cA cO CODES.Ok wk φT).pre l os = true → Ct V2.P V2.G (entC 104 cA cO CODES.Ok wk φT).f l os ((entC 104 cA cO CODES.Ok wk φT).ans l os))
include hC hD hwv htv hwk htk
set_option maxHeartbeats 400000 in
set_option maxRecDepth 100000 in
theorem test_ex0 (h9 : nextR C 9 = (0, D)) : ∃ x, tPost x ∧ Ct V2.P V2.G 47 (cA C) (cO C) (φQ x) := by
  have hT := entB_ok (m := 9) (by omega) hC h9
  have k1 : keyB [100, 101, 118, 105, 99, 101] = true := by kernel_rfl
  have k2 : keyB [99, 111, 114, 101, 115] = true := by kernel_rfl
  obtain ⟨w, hw, hl⟩ := test_loop [100, 101, 118, 105, 99, 101] [99, 111, 114, 101, 115] 2 (by omega) (by omega) (gB 9 C) (fun l os => cond (argN 9 l) (0, D) (vN l os)) (fun C' h' => gB_eq h' (by omega) (by omega)) (fun C' h' => by
    show cond (argN 9 [.ref 1000000 0, .int .i64 3]) (0, D) (vN [.ref 1000000 0, .int .i64 3] [codO C']) = _
    rw [argN_ne (by decide)]; exact vN_eq h' (by omega)) wv hwv [entC 104 cA cO CODES.Ok wk φT]
  have hc := fun r he => ct_loops (V := V2) (f := 47) (l := cA C) (os := cO C) (r := r) (n := 9) (d := 3) (T := [entB 9 C (0, D), entC 58 vA vO vP wv φV, entC 104 cA cO CODES.Ok wk φT]) mixed2 funcs2 (tabOk_cons hT (tabOk_cons htv (tabOk_cons htk tabOk_nil))) (loopsOk_cons (hl _) loopsOk_nil) he
  obtain ⟨q0, q1, q2⟩ := nextR_ok hD (m := 5) (by omega)
  cases h5e : nextR D 5 with
  | mk r C2 =>
  rw [h5e] at q0 q1 q2
  have q0 : 0 ≤ r := q0
  have q1 : r < 5 := q1
  have q2 : C2.Ok := q2
  have ht5 : vN [.ref 1000000 0, .int .i64 5] [codO D] = (r, C2) := (vN_eq hD (by omega)).trans h5e
  have a5 : argN 9 [.ref 1000000 0, .int .i64 5] = false := argN_ne (by decide)
  have a4 : argN 9 [.ref 1000000 0, .int .i64 4] = false := argN_ne (by decide)
  have a2 : argN 9 [.ref 1000000 0, .int .i64 2] = false := argN_ne (by decide)
  have hg9 : gB 9 C [.ref 1000000 0, .int .i64 (IntKind.wrap .i64 (((8 : Nat) : Int) + 1))] [codO C] = true := gB_eq (n := 9) hC (by omega) fun _ => rfl
  have hg5 : gB 9 C [.ref 1000000 0, .int .i64 5] [codO D] = true := gB_eq hD (by omega) (by omega)
  have hn4 : gB 9 C [.ref 1000000 0, .int .i64 4] [codO C2] = true := gB_eq q2 (by omega) (by omega)
  have hn2 : gB 9 C [.ref 1000000 0, .int .i64 2] [codO C2] = true := gB_eq q2 (by omega) (by omega)
  have hv2 : goodA vA vO vP [.ref 1000000 0, .int .i64 2] [codO C2] = true := vA_good (by omega) (by omega) q2
  have hv3 : goodA vA vO vP [.ref 1000000 0, .int .i64 3] [codO C2] = true := vA_good (by omega) (by omega) q2
  have hy2 : vPost (C2, 2) (valA vA vO vP wv [.ref 1000000 0, .int .i64 2] [codO C2]) := vA_post hwv (by omega) (by omega) q2
  have hy3 : vPost (C2, 3) (valA vA vO vP wv [.ref 1000000 0, .int .i64 3] [codO C2]) := vA_post hwv (by omega) (by omega) q2
  have hz : goodS (tS [100, 101, 118, 105, 99, 101] [99, 111, 114, 101, 115] 2) (tI 2) (TS0 [100, 101, 118, 105, 99, 101] [99, 111, 114, 101, 115] 2 C2) = true := tS_good [100, 101, 118, 105, 99, 101] [99, 111, 114, 101, 115] 2 q2
  have hzp : tZ 2 (valS (tS [100, 101, 118, 105, 99, 101] [99, 111, 114, 101, 115] 2) (tI 2) w (TS0 [100, 101, 118, 105, 99, 101] [99, 111, 114, 101, 115] 2 C2)) := tS_post [100, 101, 118, 105, 99, 101] [99, 111, 114, 101, 115] 2 hw q2
  have hr : r = 0 ∨ r = 1 ∨ r = 2 ∨ r = 3 ∨ r = 4 := by omega
  have h3 : ([100, 101, 118, 105, 99, 101] : List UInt8).length ≤ 100 := by decide
  have h4 : ([99, 111, 114, 101, 115] : List UInt8).length ≤ 100 := by decide
  rcases hr with rfl | rfl | rfl | rfl | rfl
  · exact leaf0 (D := C2) k1 k2 h3 h4 q2 (hc _ ((test_0 (gB 9 C) (goodA vA vO vP) (goodA cA cO CODES.Ok) vN (valA vA vO vP wv) (valA cA cO CODES.Ok wk) (goodS (tS [100, 101, 118, 105, 99, 101] [99, 111, 114, 101, 115] 2) (tI 2)) (valS (tS [100, 101, 118, 105, 99, 101] [99, 111, 114, 101, 115] 2) (tI 2) w) C D (t1 := (0, C2)) ht5 rfl rfl rfl rfl).trans ((congrArg (fun b => cond b _ _) hg9).trans (by simp only [a5, a4, a2, cond_false, cond_true, hg5, hn4, hn2, hv2, hv3, hz] <;> rfl))))
  · generalize hz2 : valS (tS [100, 101, 118, 105, 99, 101] [99, 111, 114, 101, 115] 2) (tI 2) w (TS0 [100, 101, 118, 105, 99, 101] [99, 111, 114, 101, 115] 2 C2) = z at hzp
    exact leafL (o := .no) k1 k2 h3 h4 hzp (hc (.agg (exC 8 [100, 101, 118, 105, 99, 101] [99, 111, 114, 101, 115] (.sl .no 4 z.1.length (getV z.1))), [codO z.2]) ((test_0 (gB 9 C) (goodA vA vO vP) (goodA cA cO CODES.Ok) vN (valA vA vO vP wv) (valA cA cO CODES.Ok wk) (goodS (tS [100, 101, 118, 105, 99, 101] [99, 111, 114, 101, 115] 2) (tI 2)) (valS (tS [100, 101, 118, 105, 99, 101] [99, 111, 114, 101, 115] 2) (tI 2) w) C D (t1 := (1, C2)) ht5 (t2 := z) (by simp only [a5, cond_false]; exact hz2) rfl rfl rfl).trans ((congrArg (fun b => cond b _ _) hg9).trans (by simp only [a5, a4, a2, cond_false, cond_true, hg5, hn4, hn2, hv2, hv3, hz] <;> rfl))))
  · exact leaf1 (op := 7) (y := valA vA vO vP wv [.ref 1000000 0, .int .i64 2] [codO C2]) k1 k2 h3 h4 hy2 ⟨by omega, by omega, by omega, by omega, by intro h; cases h⟩ (hc _ ((test_0 (gB 9 C) (goodA vA vO vP) (goodA cA cO CODES.Ok) vN (valA vA vO vP wv) (valA cA cO CODES.Ok wk) (goodS (tS [100, 101, 118, 105, 99, 101] [99, 111, 114, 101, 115] 2) (tI 2)) (valS (tS [100, 101, 118, 105, 99, 101] [99, 111, 114, 101, 115] 2) (tI 2) w) C D (t1 := (2, C2)) ht5 rfl rfl rfl rfl).trans ((congrArg (fun b => cond b _ _) hg9).trans (by simp only [a5, a4, a2, cond_false, cond_true, hg5, hn4, hn2, hv2, hv3, hz] <;> rfl))))
  · obtain ⟨p0, p1, p2⟩ := nextR_ok q2 (m := 4) (by omega)
    cases hne : nextR C2 4 with
    | mk u C3 =>
    rw [hne] at p0 p1 p2
    have p0 : 0 ≤ u := p0
    have p1 : u < 4 := p1
    have p2 : C3.Ok := p2
    have htn : vN [.ref 1000000 0, .int .i64 4] [codO C2] = (u, C3) := (vN_eq q2 (by omega)).trans hne
    have hvC : goodA vA vO vP [.ref 1000000 0, .int .i64 2] [codO C3] = true := vA_good (by omega) (by omega) p2
    have hyC : vPost (C3, 2) (valA vA vO vP wv [.ref 1000000 0, .int .i64 2] [codO C3]) := vA_post hwv (by omega) (by omega) p2
    have hwr : IntKind.wrap .i64 (12 + u) = 12 + u := wrap_lit (by omega) (by omega)
    exact leaf1 (op := 12 + u) (y := valA vA vO vP wv [.ref 1000000 0, .int .i64 2] [codO C3]) k1 k2 h3 h4 hyC ⟨by omega, by omega, by omega, by omega, fun h => by rcases (show u = 0 ∨ u = 1 ∨ u = 2 ∨ u = 3 by omega) with rfl | rfl | rfl | rfl <;> cases h⟩ (hc _ ((test_0 (gB 9 C) (goodA vA vO vP) (goodA cA cO CODES.Ok) vN (valA vA vO vP wv) (valA cA cO CODES.Ok wk) (goodS (tS [100, 101, 118, 105, 99, 101] [99, 111, 114, 101, 115] 2) (tI 2)) (valS (tS [100, 101, 118, 105, 99, 101] [99, 111, 114, 101, 115] 2) (tI 2) w) C D (t1 := (3, C2)) ht5 rfl rfl (t4 := (u, C3)) htn rfl).trans ((congrArg (fun b => cond b _ _) hg9).trans (by simp only [a5, a4, a2, cond_false, cond_true, hg5, hn4, hn2, hv2, hv3, hz, hvC, hwr] <;> rfl))))
  · obtain ⟨p0, p1, p2⟩ := nextR_ok q2 (m := 4) (by omega)
    cases hne : nextR C2 4 with
    | mk u C3 =>
    rw [hne] at p0 p1 p2
    have p0 : 0 ≤ u := p0
    have p1 : u < 4 := p1
    have p2 : C3.Ok := p2
    have htn : vN [.ref 1000000 0, .int .i64 4] [codO C2] = (u, C3) := (vN_eq q2 (by omega)).trans hne
    have hvC : goodA vA vO vP [.ref 1000000 0, .int .i64 2] [codO C3] = true := vA_good (by omega) (by omega) p2
    have hyC : vPost (C3, 2) (valA vA vO vP wv [.ref 1000000 0, .int .i64 2] [codO C3]) := vA_post hwv (by omega) (by omega) p2
    have hwr : IntKind.wrap .i64 (12 + u) = 12 + u := wrap_lit (by omega) (by omega)
    exact leaf1 (op := 12 + u) (y := valA vA vO vP wv [.ref 1000000 0, .int .i64 2] [codO C3]) k1 k2 h3 h4 hyC ⟨by omega, by omega, by omega, by omega, fun h => by rcases (show u = 0 ∨ u = 1 ∨ u = 2 ∨ u = 3 by omega) with rfl | rfl | rfl | rfl <;> cases h⟩ (hc _ ((test_0 (gB 9 C) (goodA vA vO vP) (goodA cA cO CODES.Ok) vN (valA vA vO vP wv) (valA cA cO CODES.Ok wk) (goodS (tS [100, 101, 118, 105, 99, 101] [99, 111, 114, 101, 115] 2) (tI 2)) (valS (tS [100, 101, 118, 105, 99, 101] [99, 111, 114, 101, 115] 2) (tI 2) w) C D (t1 := (4, C2)) ht5 rfl rfl (t4 := (u, C3)) htn rfl).trans ((congrArg (fun b => cond b _ _) hg9).trans (by simp only [a5, a4, a2, cond_false, cond_true, hg5, hn4, hn2, hv2, hv3, hz, hvC, hwr] <;> rfl))))
set_option maxHeartbeats 400000 in
set_option maxRecDepth 100000 in
theorem test_ex1 (h9 : nextR C 9 = (1, D)) : ∃ x, tPost x ∧ Ct V2.P V2.G 47 (cA C) (cO C) (φQ x) := by
  have hT := entB_ok (m := 9) (by omega) hC h9
  have k1 : keyB [100, 101, 118, 105, 99, 101] = true := by kernel_rfl
  have k2 : keyB [111, 115] = true := by kernel_rfl
  obtain ⟨w, hw, hl⟩ := test_loop [100, 101, 118, 105, 99, 101] [111, 115] 3 (by omega) (by omega) (gB 9 C) (fun l os => cond (argN 9 l) (1, D) (vN l os)) (fun C' h' => gB_eq h' (by omega) (by omega)) (fun C' h' => by
    show cond (argN 9 [.ref 1000000 0, .int .i64 3]) (1, D) (vN [.ref 1000000 0, .int .i64 3] [codO C']) = _
    rw [argN_ne (by decide)]; exact vN_eq h' (by omega)) wv hwv [entC 104 cA cO CODES.Ok wk φT]
  have hc := fun r he => ct_loops (V := V2) (f := 47) (l := cA C) (os := cO C) (r := r) (n := 9) (d := 3) (T := [entB 9 C (1, D), entC 58 vA vO vP wv φV, entC 104 cA cO CODES.Ok wk φT]) mixed2 funcs2 (tabOk_cons hT (tabOk_cons htv (tabOk_cons htk tabOk_nil))) (loopsOk_cons (hl _) loopsOk_nil) he
  obtain ⟨q0, q1, q2⟩ := nextR_ok hD (m := 5) (by omega)
  cases h5e : nextR D 5 with
  | mk r C2 =>
  rw [h5e] at q0 q1 q2
  have q0 : 0 ≤ r := q0
  have q1 : r < 5 := q1
  have q2 : C2.Ok := q2
  have ht5 : vN [.ref 1000000 0, .int .i64 5] [codO D] = (r, C2) := (vN_eq hD (by omega)).trans h5e
  have a5 : argN 9 [.ref 1000000 0, .int .i64 5] = false := argN_ne (by decide)
  have a4 : argN 9 [.ref 1000000 0, .int .i64 4] = false := argN_ne (by decide)
  have a2 : argN 9 [.ref 1000000 0, .int .i64 2] = false := argN_ne (by decide)
  have hg9 : gB 9 C [.ref 1000000 0, .int .i64 (IntKind.wrap .i64 (((8 : Nat) : Int) + 1))] [codO C] = true := gB_eq (n := 9) hC (by omega) fun _ => rfl
  have hg5 : gB 9 C [.ref 1000000 0, .int .i64 5] [codO D] = true := gB_eq hD (by omega) (by omega)
  have hn4 : gB 9 C [.ref 1000000 0, .int .i64 4] [codO C2] = true := gB_eq q2 (by omega) (by omega)
  have hn2 : gB 9 C [.ref 1000000 0, .int .i64 2] [codO C2] = true := gB_eq q2 (by omega) (by omega)
  have hv2 : goodA vA vO vP [.ref 1000000 0, .int .i64 3] [codO C2] = true := vA_good (by omega) (by omega) q2
  have hv3 : goodA vA vO vP [.ref 1000000 0, .int .i64 3] [codO C2] = true := vA_good (by omega) (by omega) q2
  have hy2 : vPost (C2, 3) (valA vA vO vP wv [.ref 1000000 0, .int .i64 3] [codO C2]) := vA_post hwv (by omega) (by omega) q2
  have hy3 : vPost (C2, 3) (valA vA vO vP wv [.ref 1000000 0, .int .i64 3] [codO C2]) := vA_post hwv (by omega) (by omega) q2
  have hz : goodS (tS [100, 101, 118, 105, 99, 101] [111, 115] 3) (tI 3) (TS0 [100, 101, 118, 105, 99, 101] [111, 115] 3 C2) = true := tS_good [100, 101, 118, 105, 99, 101] [111, 115] 3 q2
  have hzp : tZ 3 (valS (tS [100, 101, 118, 105, 99, 101] [111, 115] 3) (tI 3) w (TS0 [100, 101, 118, 105, 99, 101] [111, 115] 3 C2)) := tS_post [100, 101, 118, 105, 99, 101] [111, 115] 3 hw q2
  have hr : r = 0 ∨ r = 1 ∨ r = 2 ∨ r = 3 ∨ r = 4 := by omega
  have h3 : ([100, 101, 118, 105, 99, 101] : List UInt8).length ≤ 100 := by decide
  have h4 : ([111, 115] : List UInt8).length ≤ 100 := by decide
  rcases hr with rfl | rfl | rfl | rfl | rfl
  · exact leaf0 (D := C2) k1 k2 h3 h4 q2 (hc _ ((test_1 (gB 9 C) (goodA vA vO vP) (goodA cA cO CODES.Ok) vN (valA vA vO vP wv) (valA cA cO CODES.Ok wk) (goodS (tS [100, 101, 118, 105, 99, 101] [111, 115] 3) (tI 3)) (valS (tS [100, 101, 118, 105, 99, 101] [111, 115] 3) (tI 3) w) C D (t1 := (0, C2)) ht5 rfl rfl rfl rfl rfl rfl).trans ((congrArg (fun b => cond b _ _) hg9).trans (by simp only [a5, a4, a2, cond_false, cond_true, hg5, hn4, hn2, hv2, hv3, hz] <;> rfl))))
  · generalize hz2 : valS (tS [100, 101, 118, 105, 99, 101] [111, 115] 3) (tI 3) w (TS0 [100, 101, 118, 105, 99, 101] [111, 115] 3 C2) = z at hzp
    exact leafL (o := .no) k1 k2 h3 h4 hzp (hc (.agg (exC 8 [100, 101, 118, 105, 99, 101] [111, 115] (.sl .no 4 z.1.length (getV z.1))), [codO z.2]) ((test_1 (gB 9 C) (goodA vA vO vP) (goodA cA cO CODES.Ok) vN (valA vA vO vP wv) (valA cA cO CODES.Ok wk) (goodS (tS [100, 101, 118, 105, 99, 101] [111, 115] 3) (tI 3)) (valS (tS [100, 101, 118, 105, 99, 101] [111, 115] 3) (tI 3) w) C D (t1 := (1, C2)) ht5 (t2 := z) (by simp only [a5, cond_false]; exact hz2) rfl rfl rfl rfl rfl).trans ((congrArg (fun b => cond b _ _) hg9).trans (by simp only [a5, a4, a2, cond_false, cond_true, hg5, hn4, hn2, hv2, hv3, hz] <;> rfl))))
  · exact leaf1 (op := 11) (y := valA vA vO vP wv [.ref 1000000 0, .int .i64 3] [codO C2]) k1 k2 h3 h4 hy3 ⟨by omega, by omega, by omega, by omega, fun _ => rfl⟩ (hc _ ((test_1 (gB 9 C) (goodA vA vO vP) (goodA cA cO CODES.Ok) vN (valA vA vO vP wv) (valA cA cO CODES.Ok wk) (goodS (tS [100, 101, 118, 105, 99, 101] [111, 115] 3) (tI 3)) (valS (tS [100, 101, 118, 105, 99, 101] [111, 115] 3) (tI 3) w) C D (t1 := (2, C2)) ht5 rfl rfl rfl rfl rfl rfl).trans ((congrArg (fun b => cond b _ _) hg9).trans (by simp only [a5, a4, a2, cond_false, cond_true, hg5, hn4, hn2, hv2, hv3, hz] <;> rfl))))
  · obtain ⟨p0, p1, p2⟩ := nextR_ok q2 (m := 2) (by omega)
    cases hne : nextR C2 2 with
    | mk u C3 =>
    rw [hne] at p0 p1 p2
    have p0 : 0 ≤ u := p0
    have p1 : u < 2 := p1
    have p2 : C3.Ok := p2
    have htn : vN [.ref 1000000 0, .int .i64 2] [codO C2] = (u, C3) := (vN_eq q2 (by omega)).trans hne
    have hvC : goodA vA vO vP [.ref 1000000 0, .int .i64 3] [codO C3] = true := vA_good (by omega) (by omega) p2
    have hyC : vPost (C3, 3) (valA vA vO vP wv [.ref 1000000 0, .int .i64 3] [codO C3]) := vA_post hwv (by omega) (by omega) p2
    have hwr : IntKind.wrap .i64 (9 + u) = 9 + u := wrap_lit (by omega) (by omega)
    exact leaf1 (op := 9 + u) (y := valA vA vO vP wv [.ref 1000000 0, .int .i64 3] [codO C3]) k1 k2 h3 h4 hyC ⟨by omega, by omega, by omega, by omega, fun _ => rfl⟩ (hc _ ((test_1 (gB 9 C) (goodA vA vO vP) (goodA cA cO CODES.Ok) vN (valA vA vO vP wv) (valA cA cO CODES.Ok wk) (goodS (tS [100, 101, 118, 105, 99, 101] [111, 115] 3) (tI 3)) (valS (tS [100, 101, 118, 105, 99, 101] [111, 115] 3) (tI 3) w) C D (t1 := (3, C2)) ht5 rfl rfl (t4 := (u, C3)) htn rfl rfl rfl).trans ((congrArg (fun b => cond b _ _) hg9).trans (by simp only [a5, a4, a2, cond_false, cond_true, hg5, hn4, hn2, hv2, hv3, hz, hvC, hwr] <;> rfl))))
  · obtain ⟨p0, p1, p2⟩ := nextR_ok q2 (m := 4) (by omega)
    cases hne : nextR C2 4 with
    | mk u C3 =>
    rw [hne] at p0 p1 p2
    have p0 : 0 ≤ u := p0
    have p1 : u < 4 := p1
    have p2 : C3.Ok := p2
    have htn : vN [.ref 1000000 0, .int .i64 4] [codO C2] = (u, C3) := (vN_eq q2 (by omega)).trans hne
    have hvC : goodA vA vO vP [.ref 1000000 0, .int .i64 3] [codO C3] = true := vA_good (by omega) (by omega) p2
    have hyC : vPost (C3, 3) (valA vA vO vP wv [.ref 1000000 0, .int .i64 3] [codO C3]) := vA_post hwv (by omega) (by omega) p2
    have hwr : IntKind.wrap .i64 (12 + u) = 12 + u := wrap_lit (by omega) (by omega)
    exact leaf1 (op := 12 + u) (y := valA vA vO vP wv [.ref 1000000 0, .int .i64 3] [codO C3]) k1 k2 h3 h4 hyC ⟨by omega, by omega, by omega, by omega, fun _ => rfl⟩ (hc _ ((test_1 (gB 9 C) (goodA vA vO vP) (goodA cA cO CODES.Ok) vN (valA vA vO vP wv) (valA cA cO CODES.Ok wk) (goodS (tS [100, 101, 118, 105, 99, 101] [111, 115] 3) (tI 3)) (valS (tS [100, 101, 118, 105, 99, 101] [111, 115] 3) (tI 3) w) C D (t1 := (4, C2)) ht5 rfl rfl rfl rfl (t6 := (u, C3)) htn rfl).trans ((congrArg (fun b => cond b _ _) hg9).trans (by simp only [a5, a4, a2, cond_false, cond_true, hg5, hn4, hn2, hv2, hv3, hz, hvC, hwr] <;> rfl))))
set_option maxHeartbeats 400000 in
set_option maxRecDepth 100000 in
theorem test_ex2 (h9 : nextR C 9 = (2, D)) : ∃ x, tPost x ∧ Ct V2.P V2.G 47 (cA C) (cO C) (φQ x) := by
  have hT := entB_ok (m := 9) (by omega) hC h9
  have k1 : keyB [117, 115, 101, 114] = true := by kernel_rfl
  have k2 : keyB [97, 103, 101] = true := by kernel_rfl
  obtain ⟨w, hw, hl⟩ := test_loop [117, 115, 101, 114] [97, 103, 101] 2 (by omega) (by omega) (gB 9 C) (fun l os => cond (argN 9 l) (2, D) (vN l os)) (fun C' h' => gB_eq h' (by omega) (by omega)) (fun C' h' => by
    show cond (argN 9 [.ref 1000000 0, .int .i64 3]) (2, D) (vN [.ref 1000000 0, .int .i64 3] [codO C']) = _
    rw [argN_ne (by decide)]; exact vN_eq h' (by omega)) wv hwv [entC 104 cA cO CODES.Ok wk φT]
  have hc := fun r he => ct_loops (V := V2) (f := 47) (l := cA C) (os := cO C) (r := r) (n := 9) (d := 3) (T := [entB 9 C (2, D), entC 58 vA vO vP wv φV, entC 104 cA cO CODES.Ok wk φT]) mixed2 funcs2 (tabOk_cons hT (tabOk_cons htv (tabOk_cons htk tabOk_nil))) (loopsOk_cons (hl _) loopsOk_nil) he
  obtain ⟨q0, q1, q2⟩ := nextR_ok hD (m := 5) (by omega)
  cases h5e : nextR D 5 with
  | mk r C2 =>
  rw [h5e] at q0 q1 q2
  have q0 : 0 ≤ r := q0
  have q1 : r < 5 := q1
  have q2 : C2.Ok := q2
  have ht5 : vN [.ref 1000000 0, .int .i64 5] [codO D] = (r, C2) := (vN_eq hD (by omega)).trans h5e
  have a5 : argN 9 [.ref 1000000 0, .int .i64 5] = false := argN_ne (by decide)
  have a4 : argN 9 [.ref 1000000 0, .int .i64 4] = false := argN_ne (by decide)
  have a2 : argN 9 [.ref 1000000 0, .int .i64 2] = false := argN_ne (by decide)
  have hg9 : gB 9 C [.ref 1000000 0, .int .i64 (IntKind.wrap .i64 (((8 : Nat) : Int) + 1))] [codO C] = true := gB_eq (n := 9) hC (by omega) fun _ => rfl
  have hg5 : gB 9 C [.ref 1000000 0, .int .i64 5] [codO D] = true := gB_eq hD (by omega) (by omega)
  have hn4 : gB 9 C [.ref 1000000 0, .int .i64 4] [codO C2] = true := gB_eq q2 (by omega) (by omega)
  have hn2 : gB 9 C [.ref 1000000 0, .int .i64 2] [codO C2] = true := gB_eq q2 (by omega) (by omega)
  have hv2 : goodA vA vO vP [.ref 1000000 0, .int .i64 2] [codO C2] = true := vA_good (by omega) (by omega) q2
  have hv3 : goodA vA vO vP [.ref 1000000 0, .int .i64 3] [codO C2] = true := vA_good (by omega) (by omega) q2
  have hy2 : vPost (C2, 2) (valA vA vO vP wv [.ref 1000000 0, .int .i64 2] [codO C2]) := vA_post hwv (by omega) (by omega) q2
  have hy3 : vPost (C2, 3) (valA vA vO vP wv [.ref 1000000 0, .int .i64 3] [codO C2]) := vA_post hwv (by omega) (by omega) q2
  have hz : goodS (tS [117, 115, 101, 114] [97, 103, 101] 2) (tI 2) (TS0 [117, 115, 101, 114] [97, 103, 101] 2 C2) = true := tS_good [117, 115, 101, 114] [97, 103, 101] 2 q2
  have hzp : tZ 2 (valS (tS [117, 115, 101, 114] [97, 103, 101] 2) (tI 2) w (TS0 [117, 115, 101, 114] [97, 103, 101] 2 C2)) := tS_post [117, 115, 101, 114] [97, 103, 101] 2 hw q2
  have hr : r = 0 ∨ r = 1 ∨ r = 2 ∨ r = 3 ∨ r = 4 := by omega
  have h3 : ([117, 115, 101, 114] : List UInt8).length ≤ 100 := by decide
  have h4 : ([97, 103, 101] : List UInt8).length ≤ 100 := by decide
  rcases hr with rfl | rfl | rfl | rfl | rfl
  · exact leaf0 (D := C2) k1 k2 h3 h4 q2 (hc _ ((test_2 (gB 9 C) (goodA vA vO vP) (goodA cA cO CODES.Ok) vN (valA vA vO vP wv) (valA cA cO CODES.Ok wk) (goodS (tS [117, 115, 101, 114] [97, 103, 101] 2) (tI 2)) (valS (tS [117, 115, 101, 114] [97, 103, 101] 2) (tI 2) w) C D (t1 := (0, C2)) ht5 rfl rfl rfl rfl).trans ((congrArg (fun b => cond b _ _) hg9).trans (by simp only [a5, a4, a2, cond_false, cond_true, hg5, hn4, hn2, hv2, hv3, hz] <;> rfl))))
  · generalize hz2 : valS (tS [117, 115, 101, 114] [97, 103, 101] 2) (tI 2) w (TS0 [117, 115, 101, 114] [97, 103, 101] 2 C2) = z at hzp
    exact leafL (o := .no) k1 k2 h3 h4 hzp (hc (.agg (exC 8 [117, 115, 101, 114] [97, 103, 101] (.sl .no 4 z.1.length (getV z.1))), [codO z.2]) ((test_2 (gB 9 C) (goodA vA vO vP) (goodA cA cO CODES.Ok) vN (valA vA vO vP wv) (valA cA cO CODES.Ok wk) (goodS (tS [117, 115, 101, 114] [97, 103, 101] 2) (tI 2)) (valS (tS [117, 115, 101, 114] [97, 103, 101] 2) (tI 2) w) C D (t1 := (1, C2)) ht5 (t2 := z) (by simp only [a5, cond_false]; exact hz2) rfl rfl rfl).trans ((congrArg (fun b => cond b _ _) hg9).trans (by simp only [a5, a4, a2, cond_false, cond_true, hg5, hn4, hn2, hv2, hv3, hz] <;> rfl))))
  · exact leaf1 (op := 7) (y := valA vA vO vP wv [.ref 1000000 0, .int .i64 2] [codO C2]) k1 k2 h3 h4 hy2 ⟨by omega, by omega, by omega, by omega, by intro h; cases h⟩ (hc _ ((test_2 (gB 9 C) (goodA vA vO vP) (goodA cA cO CODES.Ok) vN (valA vA vO vP wv) (valA cA cO CODES.Ok wk) (goodS (tS [117, 115, 101, 114] [97, 103, 101] 2) (tI 2)) (valS (tS [117, 115, 101, 114] [97, 103, 101] 2) (tI 2) w) C D (t1 := (2, C2)) ht5 rfl rfl rfl rfl).trans ((congrArg (fun b => cond b _ _) hg9).trans (by simp only [a5, a4, a2, cond_false, cond_true, hg5, hn4, hn2, hv2, hv3, hz] <;> rfl))))
  · obtain ⟨p0, p1, p2⟩ := nextR_ok q2 (m := 4) (by omega)
    cases hne : nextR C2 4 with
    | mk u C3 =>
    rw [hne] at p0 p1 p2
    have p0 : 0 ≤ u := p0
    have p1 : u < 4 := p1
    have p2 : C3.Ok := p2
    have htn : vN [.ref 1000000 0, .int .i64 4] [codO C2] = (u, C3) := (vN_eq q2 (by omega)).trans hne
    have hvC : goodA vA vO vP [.ref 1000000 0, .int .i64 2] [codO C3] = true := vA_good (by omega) (by omega) p2
    have hyC : vPost (C3, 2) (valA vA vO vP wv [.ref 1000000 0, .int .i64 2] [codO C3]) := vA_post hwv (by omega) (by omega) p2
    have hwr : IntKind.wrap .i64 (12 + u) = 12 + u := wrap_lit (by omega) (by omega)
    exact leaf1 (op := 12 + u) (y := valA vA vO vP wv [.ref 1000000 0, .int .i64 2] [codO C3]) k1 k2 h3 h4 hyC ⟨by omega, by omega, by omega, by omega, fun h => by rcases (show u = 0 ∨ u = 1 ∨ u = 2 ∨ u = 3 by omega) with rfl | rfl | rfl | rfl <;> cases h⟩ (hc _ ((test_2 (gB 9 C) (goodA vA vO vP) (goodA cA cO CODES.Ok) vN (valA vA vO vP wv) (valA cA cO CODES.Ok wk) (goodS (tS [117, 115, 101, 114] [97, 103, 101] 2) (tI 2)) (valS (tS [117, 115, 101, 114] [97, 103, 101] 2) (tI 2) w) C D (t1 := (3, C2)) ht5 rfl rfl (t4 := (u, C3)) htn rfl).trans ((congrArg (fun b => cond b _ _) hg9).trans (by simp only [a5, a4, a2, cond_false, cond_true, hg5, hn4, hn2, hv2, hv3, hz, hvC, hwr] <;> rfl))))
  · obtain ⟨p0, p1, p2⟩ := nextR_ok q2 (m := 4) (by omega)
    cases hne : nextR C2 4 with
    | mk u C3 =>
    rw [hne] at p0 p1 p2
    have p0 : 0 ≤ u := p0
    have p1 : u < 4 := p1
    have p2 : C3.Ok := p2
    have htn : vN [.ref 1000000 0, .int .i64 4] [codO C2] = (u, C3) := (vN_eq q2 (by omega)).trans hne
    have hvC : goodA vA vO vP [.ref 1000000 0, .int .i64 2] [codO C3] = true := vA_good (by omega) (by omega) p2
    have hyC : vPost (C3, 2) (valA vA vO vP wv [.ref 1000000 0, .int .i64 2] [codO C3]) := vA_post hwv (by omega) (by omega) p2
    have hwr : IntKind.wrap .i64 (12 + u) = 12 + u := wrap_lit (by omega) (by omega)
    exact leaf1 (op := 12 + u) (y := valA vA vO vP wv [.ref 1000000 0, .int .i64 2] [codO C3]) k1 k2 h3 h4 hyC ⟨by omega, by omega, by omega, by omega, fun h => by rcases (show u = 0 ∨ u = 1 ∨ u = 2 ∨ u = 3 by omega) with rfl | rfl | rfl | rfl <;> cases h⟩ (hc _ ((test_2 (gB 9 C) (goodA vA vO vP) (goodA cA cO CODES.Ok) vN (valA vA vO vP wv) (valA cA cO CODES.Ok wk) (goodS (tS [117, 115, 101, 114] [97, 103, 101] 2) (tI 2)) (valS (tS [117, 115, 101, 114] [97, 103, 101] 2) (tI 2) w) C D (t1 := (4, C2)) ht5 rfl rfl (t4 := (u, C3)) htn rfl).trans ((congrArg (fun b => cond b _ _) hg9).trans (by simp only [a5, a4, a2, cond_false, cond_true, hg5, hn4, hn2, hv2, hv3, hz, hvC, hwr] <;> rfl))))
set_option maxHeartbeats 400000 in
set_option maxRecDepth 100000 in
theorem test_ex3 (h9 : nextR C 9 = (3, D)) : ∃ x, tPost x ∧ Ct V2.P V2.G 47 (cA C) (cO C) (φQ x) := by
  have hT := entB_ok (m := 9) (by omega) hC h9
  have k1 : keyB [117, 115, 101, 114] = true := by kernel_rfl
  have k2 : keyB [97, 112, 112] = true := by kernel_rfl
  obtain ⟨w, hw, hl⟩ := test_loop [117, 115, 101, 114] [97, 112, 112] 4 (by omega) (by omega) (gB 9 C) (fun l os => cond (argN 9 l) (3, D) (vN l os)) (fun C' h' => gB_eq h' (by omega) (by omega)) (fun C' h' => by
    show cond (argN 9 [.ref 1000000 0, .int .i64 3]) (3, D) (vN [.ref 1000000 0, .int .i64 3] [codO C']) = _
    rw [argN_ne (by decide)]; exact vN_eq h' (by omega)) wv hwv [entC 104 cA cO CODES.Ok wk φT]
  have hc := fun r he => ct_loops (V := V2) (f := 47) (l := cA C) (os := cO C) (r := r) (n := 9) (d := 3) (T := [entB 9 C (3, D), entC 58 vA vO vP wv φV, entC 104 cA cO CODES.Ok wk φT]) mixed2 funcs2 (tabOk_cons hT (tabOk_cons htv (tabOk_cons htk tabOk_nil))) (loopsOk_cons (hl _) loopsOk_nil) he
  obtain ⟨q0, q1, q2⟩ := nextR_ok hD (m := 5) (by omega)
  cases h5e : nextR D 5 with
  | mk r C2 =>
  rw [h5e] at q0 q1 q2
  have q0 : 0 ≤ r := q0
  have q1 : r < 5 := q1
  have q2 : C2.Ok := q2
  have ht5 : vN [.ref 1000000 0, .int .i64 5] [codO D] = (r, C2) := (vN_eq hD (by omega)).trans h5e
  have a5 : argN 9 [.ref 1000000 0, .int .i64 5] = false := argN_ne (by decide)
  have a4 : argN 9 [.ref 1000000 0, .int .i64 4] = false := argN_ne (by decide)
  have a2 : argN 9 [.ref 1000000 0, .int .i64 2] = false := argN_ne (by decide)
  have hg9 : gB 9 C [.ref 1000000 0, .int .i64 (IntKind.wrap .i64 (((8 : Nat) : Int) + 1))] [codO C] = true := gB_eq (n := 9) hC (by omega) fun _ => rfl
  have hg5 : gB 9 C [.ref 1000000 0, .int .i64 5] [codO D] = true := gB_eq hD (by omega) (by omega)
  have hn4 : gB 9 C [.ref 1000000 0, .int .i64 4] [codO C2] = true := gB_eq q2 (by omega) (by omega)
  have hn2 : gB 9 C [.ref 1000000 0, .int .i64 2] [codO C2] = true := gB_eq q2 (by omega) (by omega)
  have hv2 : goodA vA vO vP [.ref 1000000 0, .int .i64 4] [codO C2] = true := vA_good (by omega) (by omega) q2
  have hv3 : goodA vA vO vP [.ref 1000000 0, .int .i64 3] [codO C2] = true := vA_good (by omega) (by omega) q2
  have hy2 : vPost (C2, 4) (valA vA vO vP wv [.ref 1000000 0, .int .i64 4] [codO C2]) := vA_post hwv (by omega) (by omega) q2
  have hy3 : vPost (C2, 3) (valA vA vO vP wv [.ref 1000000 0, .int .i64 3] [codO C2]) := vA_post hwv (by omega) (by omega) q2
  have hz : goodS (tS [117, 115, 101, 114] [97, 112, 112] 4) (tI 4) (TS0 [117, 115, 101, 114] [97, 112, 112] 4 C2) = true := tS_good [117, 115, 101, 114] [97, 112, 112] 4 q2
  have hzp : tZ 4 (valS (tS [117, 115, 101, 114] [97, 112, 112] 4) (tI 4) w (TS0 [117, 115, 101, 114] [97, 112, 112] 4 C2)) := tS_post [117, 115, 101, 114] [97, 112, 112] 4 hw q2
  have hr : r = 0 ∨ r = 1 ∨ r = 2 ∨ r = 3 ∨ r = 4 := by omega
  have h3 : ([117, 115, 101, 114] : List UInt8).length ≤ 100 := by decide
  have h4 : ([97, 112, 112] : List UInt8).length ≤ 100 := by decide
  rcases hr with rfl | rfl | rfl | rfl | rfl
  · exact leaf0 (D := C2) k1 k2 h3 h4 q2 (hc _ ((test_3 (gB 9 C) (goodA vA vO vP) (goodA cA cO CODES.Ok) vN (valA vA vO vP wv) (valA cA cO CODES.Ok wk) (goodS (tS [117, 115, 101, 114] [97, 112, 112] 4) (tI 4)) (valS (tS [117, 115, 101, 114] [97, 112, 112] 4) (tI 4) w) C D (t1 := (0, C2)) ht5 rfl rfl rfl rfl).trans ((congrArg (fun b => cond b _ _) hg9).trans (by simp only [a5, a4, a2, cond_false, cond_true, hg5, hn4, hn2, hv2, hv3, hz] <;> rfl))))
  · generalize hz2 : valS (tS [117, 115, 101, 114] [97, 112, 112] 4) (tI 4) w (TS0 [117, 115, 101, 114] [97, 112, 112] 4 C2) = z at hzp
    exact leafL (o := .no) k1 k2 h3 h4 hzp (hc (.agg (exC 8 [117, 115, 101, 114] [97, 112, 112] (.sl .no 4 z.1.length (getV z.1))), [codO z.2]) ((test_3 (gB 9 C) (goodA vA vO vP) (goodA cA cO CODES.Ok) vN (valA vA vO vP wv) (valA cA cO CODES.Ok wk) (goodS (tS [117, 115, 101, 114] [97, 112, 112] 4) (tI 4)) (valS (tS [117, 115, 101, 114] [97, 112, 112] 4) (tI 4) w) C D (t1 := (1, C2)) ht5 (t2 := z) (by simp only [a5, cond_false]; exact hz2) rfl rfl rfl).trans ((congrArg (fun b => cond b _ _) hg9).trans (by simp only [a5, a4, a2, cond_false, cond_true, hg5, hn4, hn2, hv2, hv3, hz] <;> rfl))))
  · exact leaf1 (op := 7) (y := valA vA vO vP wv [.ref 1000000 0, .int .i64 4] [codO C2]) k1 k2 h3 h4 hy2 ⟨by omega, by omega, by omega, by omega, by intro h; cases h⟩ (hc _ ((test_3 (gB 9 C) (goodA vA vO vP) (goodA cA cO CODES.Ok) vN (valA vA vO vP wv) (valA cA cO CODES.Ok wk) (goodS (tS [117, 115, 101, 114] [97, 112, 112] 4) (tI 4)) (valS (tS [117, 115, 101, 114] [97, 112, 112] 4) (tI 4) w) C D (t1 := (2, C2)) ht5 rfl rfl rfl rfl).trans ((congrArg (fun b => cond b _ _) hg9).trans (by simp only [a5, a4, a2, cond_false, cond_true, hg5, hn4, hn2, hv2, hv3, hz] <;> rfl))))
  · obtain ⟨p0, p1, p2⟩ := nextR_ok q2 (m := 4) (by omega)
    cases hne : nextR C2 4 with
    | mk u C3 =>
    rw [hne] at p0 p1 p2
    have p0 : 0 ≤ u := p0
    have p1 : u < 4 := p1
    have p2 : C3.Ok := p2
    have htn : vN [.ref 1000000 0, .int .i64 4] [codO C2] = (u, C3) := (vN_eq q2 (by omega)).trans hne
    have hvC : goodA vA vO vP [.ref 1000000 0, .int .i64 4] [codO C3] = true := vA_good (by omega) (by omega) p2
    have hyC : vPost (C3, 4) (valA vA vO vP wv [.ref 1000000 0, .int .i64 4] [codO C3]) := vA_post hwv (by omega) (by omega) p2
    have hwr : IntKind.wrap .i64 (12 + u) = 12 + u := wrap_lit (by omega) (by omega)
    exact leaf1 (op := 12 + u) (y := valA vA vO vP wv [.ref 1000000 0, .int .i64 4] [codO C3]) k1 k2 h3 h4 hyC ⟨by omega, by omega, by omega, by omega, fun h => by rcases (show u = 0 ∨ u = 1 ∨ u = 2 ∨ u = 3 by omega) with rfl | rfl | rfl | rfl <;> cases h⟩ (hc _ ((test_3 (gB 9 C) (goodA vA vO vP) (goodA cA cO CODES.Ok) vN (valA vA vO vP wv) (valA cA cO CODES.Ok wk) (goodS (tS [117, 115, 101, 114] [97, 112, 112] 4) (tI 4)) (valS (tS [117, 115, 101, 114] [97, 112, 112] 4) (tI 4) w) C D (t1 := (3, C2)) ht5 rfl rfl (t4 := (u, C3)) htn rfl).trans ((congrArg (fun b => cond b _ _) hg9).trans (by simp only [a5, a4, a2, cond_false, cond_true, hg5, hn4, hn2, hv2, hv3, hz, hvC, hwr] <;> rfl))))
  · obtain ⟨p0, p1, p2⟩ := nextR_ok q2 (m := 4) (by omega)
    cases hne : nextR C2 4 with
    | mk u C3 =>
    rw [hne] at p0 p1 p2
    have p0 : 0 ≤ u := p0
    have p1 : u < 4 := p1
    have p2 : C3.Ok := p2
    have htn : vN [.ref 1000000 0, .int .i64 4] [codO C2] = (u, C3) := (vN_eq q2 (by omega)).trans hne
    have hvC : goodA vA vO vP [.ref 1000000 0, .int .i64 4] [codO C3] = true := vA_good (by omega) (by omega) p2
    have hyC : vPost (C3, 4) (valA vA vO vP wv [.ref 1000000 0, .int .i64 4] [codO C3]) := vA_post hwv (by omega) (by omega) p2
    have hwr : IntKind.wrap .i64 (12 + u) = 12 + u := wrap_lit (by omega) (by omega)
    exact leaf1 (op := 12 + u) (y := valA vA vO vP wv [.ref 1000000 0, .int .i64 4] [codO C3]) k1 k2 h3 h4 hyC ⟨by omega, by omega, by omega, by omega, fun h => by rcases (show u = 0 ∨ u = 1 ∨ u = 2 ∨ u = 3 by omega) with rfl | rfl | rfl | rfl <;> cases h⟩ (hc _ ((test_3 (gB 9 C) (goodA vA vO vP) (goodA cA cO CODES.Ok) vN (valA vA vO vP wv) (valA cA cO CODES.Ok wk) (goodS (tS [117, 115, 101, 114] [97, 112, 112] 4) (tI 4)) (valS (tS [117, 115, 101, 114] [97, 112, 112] 4) (tI 4) w) C D (t1 := (4, C2)) ht5 rfl rfl (t4 := (u, C3)) htn rfl).trans ((congrArg (fun b => cond b _ _) hg9).trans (by simp only [a5, a4, a2, cond_false, cond_true, hg5, hn4, hn2, hv2, hv3, hz, hvC, hwr] <;> rfl))))
set_option maxHeartbeats 400000 in
set_option maxRecDepth 100000 in
theorem test_ex4 (h9 : nextR C 9 = (4, D)) : ∃ x, tPost x ∧ Ct V2.P V2.G 47 (cA C) (cO C) (φQ x) := by
  have hT := entB_ok (m := 9) (by omega) hC h9
  have k1 : keyB [117, 115, 101, 114] = true := by kernel_rfl
  have k2 : keyB [98, 101, 116, 97] = true := by kernel_rfl
  obtain ⟨w, hw, hl⟩ := test_loop [117, 115, 101, 114] [98, 101, 116, 97] 1 (by omega) (by omega) (gB 9 C) (fun l os => cond (argN 9 l) (4, D) (vN l os)) (fun C' h' => gB_eq h' (by omega) (by omega)) (fun C' h' => by
    show cond (argN 9 [.ref 1000000 0, .int .i64 3]) (4, D) (vN [.ref 1000000 0, .int .i64 3] [codO C']) = _
    rw [argN_ne (by decide)]; exact vN_eq h' (by omega)) wv hwv [entC 104 cA cO CODES.Ok wk φT]
  have hc := fun r he => ct_loops (V := V2) (f := 47) (l := cA C) (os := cO C) (r := r) (n := 9) (d := 3) (T := [entB 9 C (4, D), entC 58 vA vO vP wv φV, entC 104 cA cO CODES.Ok wk φT]) mixed2 funcs2 (tabOk_cons hT (tabOk_cons htv (tabOk_cons htk tabOk_nil))) (loopsOk_cons (hl _) loopsOk_nil) he
  obtain ⟨q0, q1, q2⟩ := nextR_ok hD (m := 5) (by omega)
  cases h5e : nextR D 5 with
  | mk r C2 =>
  rw [h5e] at q0 q1 q2
  have q0 : 0 ≤ r := q0
  have q1 : r < 5 := q1
  have q2 : C2.Ok := q2
  have ht5 : vN [.ref 1000000 0, .int .i64 5] [codO D] = (r, C2) := (vN_eq hD (by omega)).trans h5e
  have a5 : argN 9 [.ref 1000000 0, .int .i64 5] = false := argN_ne (by decide)
  have a4 : argN 9 [.ref 1000000 0, .int .i64 4] = false := argN_ne (by decide)
  have a2 : argN 9 [.ref 1000000 0, .int .i64 2] = false := argN_ne (by decide)
  have hg9 : gB 9 C [.ref 1000000 0, .int .i64 (IntKind.wrap .i64 (((8 : Nat) : Int) + 1))] [codO C] = true := gB_eq (n := 9) hC (by omega) fun _ => rfl
  have hg5 : gB 9 C [.ref 1000000 0, .int .i64 5] [codO D] = true := gB_eq hD (by omega) (by omega)
  have hn4 : gB 9 C [.ref 1000000 0, .int .i64 4] [codO C2] = true := gB_eq q2 (by omega) (by omega)
  have hn2 : gB 9 C [.ref 1000000 0, .int .i64 2] [codO C2] = true := gB_eq q2 (by omega) (by omega)
  have hv2 : goodA vA vO vP [.ref 1000000 0, .int .i64 1] [codO C2] = true := vA_good (by omega) (by omega) q2
  have hv3 : goodA vA vO vP [.ref 1000000 0, .int .i64 3] [codO C2] = true := vA_good (by omega) (by omega) q2
  have hy2 : vPost (C2, 1) (valA vA vO vP wv [.ref 1000000 0, .int .i64 1] [codO C2]) := vA_post hwv (by omega) (by omega) q2
  have hy3 : vPost (C2, 3) (valA vA vO vP wv [.ref 1000000 0, .int .i64 3] [codO C2]) := vA_post hwv (by omega) (by omega) q2
  have hz : goodS (tS [117, 115, 101, 114] [98, 101, 116, 97] 1) (tI 1) (TS0 [117, 115, 101, 114] [98, 101, 116, 97] 1 C2) = true := tS_good [117, 115, 101, 114] [98, 101, 116, 97] 1 q2
  have hzp : tZ 1 (valS (tS [117, 115, 101, 114] [98, 101, 116, 97] 1) (tI 1) w (TS0 [117, 115, 101, 114] [98, 101, 116, 97] 1 C2)) := tS_post [117, 115, 101, 114] [98, 101, 116, 97] 1 hw q2
  have hr : r = 0 ∨ r = 1 ∨ r = 2 ∨ r = 3 ∨ r = 4 := by omega
  have h3 : ([117, 115, 101, 114] : List UInt8).length ≤ 100 := by decide
  have h4 : ([98, 101, 116, 97] : List UInt8).length ≤ 100 := by decide
  rcases hr with rfl | rfl | rfl | rfl | rfl
  · exact leaf0 (D := C2) k1 k2 h3 h4 q2 (hc _ ((test_4 (gB 9 C) (goodA vA vO vP) (goodA cA cO CODES.Ok) vN (valA vA vO vP wv) (valA cA cO CODES.Ok wk) (goodS (tS [117, 115, 101, 114] [98, 101, 116, 97] 1) (tI 1)) (valS (tS [117, 115, 101, 114] [98, 101, 116, 97] 1) (tI 1) w) C D (t1 := (0, C2)) ht5 rfl rfl).trans ((congrArg (fun b => cond b _ _) hg9).trans (by simp only [a5, a4, a2, cond_false, cond_true, hg5, hn4, hn2, hv2, hv3, hz] <;> rfl))))
  · generalize hz2 : valS (tS [117, 115, 101, 114] [98, 101, 116, 97] 1) (tI 1) w (TS0 [117, 115, 101, 114] [98, 101, 116, 97] 1 C2) = z at hzp
    exact leafL (o := .no) k1 k2 h3 h4 hzp (hc (.agg (exC 8 [117, 115, 101, 114] [98, 101, 116, 97] (.sl .no 4 z.1.length (getV z.1))), [codO z.2]) ((test_4 (gB 9 C) (goodA vA vO vP) (goodA cA cO CODES.Ok) vN (valA vA vO vP wv) (valA cA cO CODES.Ok wk) (goodS (tS [117, 115, 101, 114] [98, 101, 116, 97] 1) (tI 1)) (valS (tS [117, 115, 101, 114] [98, 101, 116, 97] 1) (tI 1) w) C D (t1 := (1, C2)) ht5 (t2 := z) (by simp only [a5, cond_false]; exact hz2) rfl).trans ((congrArg (fun b => cond b _ _) hg9).trans (by simp only [a5, a4, a2, cond_false, cond_true, hg5, hn4, hn2, hv2, hv3, hz] <;> rfl))))
  · exact leaf1 (op := 7) (y := valA vA vO vP wv [.ref 1000000 0, .int .i64 1] [codO C2]) k1 k2 h3 h4 hy2 ⟨by omega, by omega, by omega, by omega, by intro h; cases h⟩ (hc _ ((test_4 (gB 9 C) (goodA vA vO vP) (goodA cA cO CODES.Ok) vN (valA vA vO vP wv) (valA cA cO CODES.Ok wk) (goodS (tS [117, 115, 101, 114] [98, 101, 116, 97] 1) (tI 1)) (valS (tS [117, 115, 101, 114] [98, 101, 116, 97] 1) (tI 1) w) C D (t1 := (2, C2)) ht5 rfl rfl).trans ((congrArg (fun b => cond b _ _) hg9).trans (by simp only [a5, a4, a2, cond_false, cond_true, hg5, hn4, hn2, hv2, hv3, hz] <;> rfl))))
  · exact leaf1 (op := 7) (y := valA vA vO vP wv [.ref 1000000 0, .int .i64 1] [codO C2]) k1 k2 h3 h4 hy2 ⟨by omega, by omega, by omega, by omega, by intro h; cases h⟩ (hc _ ((test_4 (gB 9 C) (goodA vA vO vP) (goodA cA cO CODES.Ok) vN (valA vA vO vP wv) (valA cA cO CODES.Ok wk) (goodS (tS [117, 115, 101, 114] [98, 101, 116, 97] 1) (tI 1)) (valS (tS [117, 115, 101, 114] [98, 101, 116, 97] 1) (tI 1) w) C D (t1 := (3, C2)) ht5 rfl rfl).trans ((congrArg (fun b => cond b _ _) hg9).trans (by simp only [a5, a4, a2, cond_false, cond_true, hg5, hn4, hn2, hv2, hv3, hz] <;> rfl))))
  · exact leaf1 (op := 7) (y := valA vA vO vP wv [.ref 1000000 0, .int .i64 1] [codO C2]) k1 k2 h3 h4 hy2 ⟨by omega, by omega, by omega, by omega, by intro h; cases h⟩ (hc _ ((test_4 (gB 9 C) (goodA vA vO vP) (goodA cA cO CODES.Ok) vN (valA vA vO vP wv) (valA cA cO CODES.Ok wk) (goodS (tS [117, 115, 101, 114] [98, 101, 116, 97] 1) (tI 1)) (valS (tS [117, 115, 101, 114] [98, 101, 116, 97] 1) (tI 1) w) C D (t1 := (4, C2)) ht5 rfl rfl).trans ((congrArg (fun b => cond b _ _) hg9).trans (by simp only [a5, a4, a2, cond_false, cond_true, hg5, hn4, hn2, hv2, hv3, hz] <;> rfl))))
set_option maxHeartbeats 400000 in
set_option maxRecDepth 100000 in
theorem test_ex5 (h9 : nextR C 9 = (5, D)) : ∃ x, tPost x ∧ Ct V2.P V2.G 47 (cA C) (cO C) (φQ x) := by
  have hT := entB_ok (m := 9) (by omega) hC h9
  have k1 : keyB [117, 115, 101, 114] = true := by kernel_rfl
  have k2 : keyB [99, 111, 117, 110, 116, 114, 121] = true := by kernel_rfl
  obtain ⟨w, hw, hl⟩ := test_loop [117, 115, 101, 114] [99, 111, 117, 110, 116, 114, 121] 3 (by omega) (by omega) (gB 9 C) (fun l os => cond (argN 9 l) (5, D) (vN l os)) (fun C' h' => gB_eq h' (by omega) (by omega)) (fun C' h' => by
    show cond (argN 9 [.ref 1000000 0, .int .i64 3]) (5, D) (vN [.ref 1000000 0, .int .i64 3] [codO C']) = _
    rw [argN_ne (by decide)]; exact vN_eq h' (by omega)) wv hwv [entC 104 cA cO CODES.Ok wk φT]
  have hc := fun r he => ct_loops (V := V2) (f := 47) (l := cA C) (os := cO C) (r := r) (n := 9) (d := 3) (T := [entB 9 C (5, D), entC 58 vA vO vP wv φV, entC 104 cA cO CODES.Ok wk φT]) mixed2 funcs2 (tabOk_cons hT (tabOk_cons htv (tabOk_cons htk tabOk_nil))) (loopsOk_cons (hl _) loopsOk_nil) he
  obtain ⟨q0, q1, q2⟩ := nextR_ok hD (m := 5) (by omega)
  cases h5e : nextR D 5 with
  | mk r C2 =>
  rw [h5e] at q0 q1 q2
  have q0 : 0 ≤ r := q0
  have q1 : r < 5 := q1
  have q2 : C2.Ok := q2
  have ht5 : vN [.ref 1000000 0, .int .i64 5] [codO D] = (r, C2) := (vN_eq hD (by omega)).trans h5e
  have a5 : argN 9 [.ref 1000000 0, .int .i64 5] = false := argN_ne (by decide)
  have a4 : argN 9 [.ref 1000000 0, .int .i64 4] = false := argN_ne (by decide)
  have a2 : argN 9 [.ref 1000000 0, .int .i64 2] = false := argN_ne (by decide)
  have hg9 : gB 9 C [.ref 1000000 0, .int .i64 (IntKind.wrap .i64 (((8 : Nat) : Int) + 1))] [codO C] = true := gB_eq (n := 9) hC (by omega) fun _ => rfl
  have hg5 : gB 9 C [.ref 1000000 0, .int .i64 5] [codO D] = true := gB_eq hD (by omega) (by omega)
  have hn4 : gB 9 C [.ref 1000000 0, .int .i64 4] [codO C2] = true := gB_eq q2 (by omega) (by omega)
  have hn2 : gB 9 C [.ref 1000000 0, .int .i64 2] [codO C2] = true := gB_eq q2 (by omega) (by omega)
  have hv2 : goodA vA vO vP [.ref 1000000 0, .int .i64 3] [codO C2] = true := vA_good (by omega) (by omega) q2
  have hv3 : goodA vA vO vP [.ref 1000000 0, .int .i64 3] [codO C2] = true := vA_good (by omega) (by omega) q2
  have hy2 : vPost (C2, 3) (valA vA vO vP wv [.ref 1000000 0, .int .i64 3] [codO C2]) := vA_post hwv (by omega) (by omega) q2
  have hy3 : vPost (C2, 3) (valA vA vO vP wv [.ref 1000000 0, .int .i64 3] [codO C2]) := vA_post hwv (by omega) (by omega) q2
  have hz : goodS (tS [117, 115, 101, 114] [99, 111, 117, 110, 116, 114, 121] 3) (tI 3) (TS0 [117, 115, 101, 114] [99, 111, 117, 110, 116, 114, 121] 3 C2) = true := tS_good [117, 115, 101, 114] [99, 111, 117, 110, 116, 114, 121] 3 q2
  have hzp : tZ 3 (valS (tS [117, 115, 101, 114] [99, 111, 117, 110, 116, 114, 121] 3) (tI 3) w (TS0 [117, 115, 101, 114] [99, 111, 117, 110, 116, 114, 121] 3 C2)) := tS_post [117, 115, 101, 114] [99, 111, 117, 110, 116, 114, 121] 3 hw q2
  have hr : r = 0 ∨ r = 1 ∨ r = 2 ∨ r = 3 ∨ r = 4 := by omega
  have h3 : ([117, 115, 101, 114] : List UInt8).length ≤ 100 := by decide
  have h4 : ([99, 111, 117, 110, 116, 114, 121] : List UInt8).length ≤ 100 := by decide
  rcases hr with rfl | rfl | rfl | rfl | rfl
  · exact leaf0 (D := C2) k1 k2 h3 h4 q2 (hc _ ((test_5 (gB 9 C) (goodA vA vO vP) (goodA cA cO CODES.Ok) vN (valA vA vO vP wv) (valA cA cO CODES.Ok wk) (goodS (tS [117, 115, 101, 114] [99, 111, 117, 110, 116, 114, 121] 3) (tI 3)) (valS (tS [117, 115, 101, 114] [99, 111, 117, 110, 116, 114, 121] 3) (tI 3) w) C D (t1 := (0, C2)) ht5 rfl rfl rfl rfl rfl rfl).trans ((congrArg (fun b => cond b _ _) hg9).trans (by simp only [a5, a4, a2, cond_false, cond_true, hg5, hn4, hn2, hv2, hv3, hz] <;> rfl))))
  · generalize hz2 : valS (tS [117, 115, 101, 114] [99, 111, 117, 110, 116, 114, 121] 3) (tI 3) w (TS0 [117, 115, 101, 114] [99, 111, 117, 110, 116, 114, 121] 3 C2) = z at hzp
    exact leafL (o := .no) k1 k2 h3 h4 hzp (hc (.agg (exC 8 [117, 115, 101, 114] [99, 111, 117, 110, 116, 114, 121] (.sl .no 4 z.1.length (getV z.1))), [codO z.2]) ((test_5 (gB 9 C) (goodA vA vO vP) (goodA cA cO CODES.Ok) vN (valA vA vO vP wv) (valA cA cO CODES.Ok wk) (goodS (tS [117, 115, 101, 114] [99, 111, 117, 110, 116, 114, 121] 3) (tI 3)) (valS (tS [117, 115, 101, 114] [99, 111, 117, 110, 116, 114, 121] 3) (tI 3) w) C D (t1 := (1, C2)) ht5 (t2 := z) (by simp only [a5, cond_false]; exact hz2) rfl rfl rfl rfl rfl).trans ((congrArg (fun b => cond b _ _) hg9).trans (by simp only [a5, a4, a2, cond_false, cond_true, hg5, hn4, hn2, hv2, hv3, hz] <;> rfl))))
  · exact leaf1 (op := 11) (y := valA vA vO vP wv [.ref 1000000 0, .int .i64 3] [codO C2]) k1 k2 h3 h4 hy3 ⟨by omega, by omega, by omega, by omega, fun _ => rfl⟩ (hc _ ((test_5 (gB 9 C) (goodA vA vO vP) (goodA cA cO CODES.Ok) vN (valA vA vO vP wv) (valA cA cO CODES.Ok wk) (goodS (tS [117, 115, 101, 114] [99, 111, 117, 110, 116, 114, 121] 3) (tI 3)) (valS (tS [117, 115, 101, 114] [99, 111, 117, 110, 116, 114, 121] 3) (tI 3) w) C D (t1 := (2, C2)) ht5 rfl rfl rfl rfl rfl rfl).trans ((congrArg (fun b => cond b _ _) hg9).trans (by simp only [a5, a4, a2, cond_false, cond_true, hg5, hn4, hn2, hv2, hv3, hz] <;> rfl))))
  · obtain ⟨p0, p1, p2⟩ := nextR_ok q2 (m := 2) (by omega)
    cases hne : nextR C2 2 with
    | mk u C3 =>
    rw [hne] at p0 p1 p2
    have p0 : 0 ≤ u := p0
    have p1 : u < 2 := p1
    have p2 : C3.Ok := p2
    have htn : vN [.ref 1000000 0, .int .i64 2] [codO C2] = (u, C3) := (vN_eq q2 (by omega)).trans hne
    have hvC : goodA vA vO vP [.ref 1000000 0, .int .i64 3] [codO C3] = true := vA_good (by omega) (by omega) p2
    have hyC : vPost (C3, 3) (valA vA vO vP wv [.ref 1000000 0, .int .i64 3] [codO C3]) := vA_post hwv (by omega) (by omega) p2
    have hwr : IntKind.wrap .i64 (9 + u) = 9 + u := wrap_lit (by omega) (by omega)
    exact leaf1 (op := 9 + u) (y := valA vA vO vP wv [.ref 1000000 0, .int .i64 3] [codO C3]) k1 k2 h3 h4 hyC ⟨by omega, by omega, by omega, by omega, fun _ => rfl⟩ (hc _ ((test_5 (gB 9 C) (goodA vA vO vP) (goodA cA cO CODES.Ok) vN (valA vA vO vP wv) (valA cA cO CODES.Ok wk) (goodS (tS [117, 115, 101, 114] [99, 111, 117, 110, 116, 114, 121] 3) (tI 3)) (valS (tS [117, 115, 101, 114] [99, 111, 117, 110, 116, 114, 121] 3) (tI 3) w) C D (t1 := (3, C2)) ht5 rfl rfl (t4 := (u, C3)) htn rfl rfl rfl).trans ((congrArg (fun b => cond b _ _) hg9).trans (by simp only [a5, a4, a2, cond_false, cond_true, hg5, hn4, hn2, hv2, hv3, hz, hvC, hwr] <;> rfl))))
  · obtain ⟨p0, p1, p2⟩ := nextR_ok q2 (m := 4) (by omega)
    cases hne : nextR C2 4 with
    | mk u C3 =>
    rw [hne] at p0 p1 p2
    have p0 : 0 ≤ u := p0
    have p1 : u < 4 := p1
    have p2 : C3.Ok := p2
    have htn : vN [.ref 1000000 0, .int .i64 4] [codO C2] = (u, C3) := (vN_eq q2 (by omega)).trans hne
    have hvC : goodA vA vO vP [.ref 1000000 0, .int .i64 3] [codO C3] = true := vA_good (by omega) (by omega) p2
    have hyC : vPost (C3, 3) (valA vA vO vP wv [.ref 1000000 0, .int .i64 3] [codO C3]) := vA_post hwv (by omega) (by omega) p2
    have hwr : IntKind.wrap .i64 (12 + u) = 12 + u := wrap_lit (by omega) (by omega)
    exact leaf1 (op := 12 + u) (y := valA vA vO vP wv [.ref 1000000 0, .int .i64 3] [codO C3]) k1 k2 h3 h4 hyC ⟨by omega, by omega, by omega, by omega, fun _ => rfl⟩ (hc _ ((test_5 (gB 9 C) (goodA vA vO vP) (goodA cA cO CODES.Ok) vN (valA vA vO vP wv) (valA cA cO CODES.Ok wk) (goodS (tS [117, 115, 101, 114] [99, 111, 117, 110, 116, 114, 121] 3) (tI 3)) (valS (tS [117, 115, 101, 114] [99, 111, 117, 110, 116, 114, 121] 3) (tI 3) w) C D (t1 := (4, C2)) ht5 rfl rfl rfl rfl (t6 := (u, C3)) htn rfl).trans ((congrArg (fun b => cond b _ _) hg9).trans (by simp only [a5, a4, a2, cond_false, cond_true, hg5, hn4, hn2, hv2, hv3, hz, hvC, hwr] <;> rfl))))
set_option maxHeartbeats 400000 in
set_option maxRecDepth 100000 in
theorem test_ex6 (h9 : nextR C 9 = (6, D)) : ∃ x, tPost x ∧ Ct V2.P V2.G 47 (cA C) (cO C) (φQ x) := by
  have hT := entB_ok (m := 9) (by omega) hC h9
  have k1 : keyB [117, 115, 101, 114] = true := by kernel_rfl
  have k2 : keyB [112, 108, 97, 110] = true := by kernel_rfl
  obtain ⟨w, hw, hl⟩ := test_loop [117, 115, 101, 114] [112, 108, 97, 110] 3 (by omega) (by omega) (gB 9 C) (fun l os => cond (argN 9 l) (6, D) (vN l os)) (fun C' h' => gB_eq h' (by omega) (by omega)) (fun C' h' => by
    show cond (argN 9 [.ref 1000000 0, .int .i64 3]) (6, D) (vN [.ref 1000000 0, .int .i64 3] [codO C']) = _
    rw [argN_ne (by decide)]; exact vN_eq h' (by omega)) wv hwv [entC 104 cA cO CODES.Ok wk φT]
  have hc := fun r he => ct_loops (V := V2) (f := 47) (l := cA C) (os := cO C) (r := r) (n := 9) (d := 3) (T := [entB 9 C (6, D), entC 58 vA vO vP wv φV, entC 104 cA cO CODES.Ok wk φT]) mixed2 funcs2 (tabOk_cons hT (tabOk_cons htv (tabOk_cons htk tabOk_nil))) (loopsOk_cons (hl _) loopsOk_nil) he
  obtain ⟨q0, q1, q2⟩ := nextR_ok hD (m := 5) (by omega)
  cases h5e : nextR D 5 with
  | mk r C2 =>
  rw [h5e] at q0 q1 q2
  have q0 : 0 ≤ r := q0
  have q1 : r < 5 := q1
  have q2 : C2.Ok := q2
  have ht5 : vN [.ref 1000000 0, .int .i64 5] [codO D] = (r, C2) := (vN_eq hD (by omega)).trans h5e
  have a5 : argN 9 [.ref 1000000 0, .int .i64 5] = false := argN_ne (by decide)
  have a4 : argN 9 [.ref 1000000 0, .int .i64 4] = false := argN_ne (by decide)
  have a2 : argN 9 [.ref 1000000 0, .int .i64 2] = false := argN_ne (by decide)
  have hg9 : gB 9 C [.ref 1000000 0, .int .i64 (IntKind.wrap .i64 (((8 : Nat) : Int) + 1))] [codO C] = true := gB_eq (n := 9) hC (by omega) fun _ => rfl
  have hg5 : gB 9 C [.ref 1000000 0, .int .i64 5] [codO D] = true := gB_eq hD (by omega) (by omega)
  have hn4 : gB 9 C [.ref 1000000 0, .int .i64 4] [codO C2] = true := gB_eq q2 (by omega) (by omega)
  have hn2 : gB 9 C [.ref 1000000 0, .int .i64 2] [codO C2] = true := gB_eq q2 (by omega) (by omega)
  have hv2 : goodA vA vO vP [.ref 1000000 0, .int .i64 3] [codO C2] = true := vA_good (by omega) (by omega) q2
  have hv3 : goodA vA vO vP [.ref 1000000 0, .int .i64 3] [codO C2] = true := vA_good (by omega) (by omega) q2
  have hy2 : vPost (C2, 3) (valA vA vO vP wv [.ref 1000000 0, .int .i64 3] [codO C2]) := vA_post hwv (by omega) (by omega) q2
  have hy3 : vPost (C2, 3) (valA vA vO vP wv [.ref 1000000 0, .int .i64 3] [codO C2]) := vA_post hwv (by omega) (by omega) q2
  have hz : goodS (tS [117, 115, 101, 114] [112, 108, 97, 110] 3) (tI 3) (TS0 [117, 115, 101, 114] [112, 108, 97, 110] 3 C2) = true := tS_good [117, 115, 101, 114] [112, 108, 97, 110] 3 q2
  have hzp : tZ 3 (valS (tS [117, 115, 101, 114] [112, 108, 97, 110] 3) (tI 3) w (TS0 [117, 115, 101, 114] [112, 108, 97, 110] 3 C2)) := tS_post [117, 115, 101, 114] [112, 108, 97, 110] 3 hw q2
  have hr : r = 0 ∨ r = 1 ∨ r = 2 ∨ r = 3 ∨ r = 4 := by omega
  have h3 : ([117, 115, 101, 114] : List UInt8).length ≤ 100 := by decide
  have h4 : ([112, 108, 97, 110] : List UInt8).length ≤ 100 := by decide
  rcases hr with rfl | rfl | rfl | rfl | rfl
  · exact leaf0 (D := C2) k1 k2 h3 h4 q2 (hc _ ((test_6 (gB 9 C) (goodA vA vO vP) (goodA cA cO CODES.Ok) vN (valA vA vO vP wv) (valA cA cO CODES.Ok wk) (goodS (tS [117, 115, 101, 114] [112, 108, 97, 110] 3) (tI 3)) (valS (tS [117, 115, 101, 114] [112, 108, 97, 110] 3) (tI 3) w) C D (t1 := (0, C2)) ht5 rfl rfl rfl rfl rfl rfl).trans ((congrArg (fun b => cond b _ _) hg9).trans (by simp only [a5, a4, a2, cond_false, cond_true, hg5, hn4, hn2, hv2, hv3, hz] <;> rfl))))
  · generalize hz2 : valS (tS [117, 115, 101, 114] [112, 108, 97, 110] 3) (tI 3) w (TS0 [117, 115, 101, 114] [112, 108, 97, 110] 3 C2) = z at hzp
    exact leafL (o := .no) k1 k2 h3 h4 hzp (hc (.agg (exC 8 [117, 115, 101, 114] [112, 108, 97, 110] (.sl .no 4 z.1.length (getV z.1))), [codO z.2]) ((test_6 (gB 9 C) (goodA vA vO vP) (goodA cA cO CODES.Ok) vN (valA vA vO vP wv) (valA cA cO CODES.Ok wk) (goodS (tS [117, 115, 101, 114] [112, 108, 97, 110] 3) (tI 3)) (valS (tS [117, 115, 101, 114] [112, 108, 97, 110] 3) (tI 3) w) C D (t1 := (1, C2)) ht5 (t2 := z) (by simp only [a5, cond_false]; exact hz2) rfl rfl rfl rfl rfl).trans ((congrArg (fun b => cond b _ _) hg9).trans (by simp only [a5, a4, a2, cond_false, cond_true, hg5, hn4, hn2, hv2, hv3, hz] <;> rfl))))
  · exact leaf1 (op := 11) (y := valA vA vO vP wv [.ref 1000000 0, .int .i64 3] [codO C2]) k1 k2 h3 h4 hy3 ⟨by omega, by omega, by omega, by omega, fun _ => rfl⟩ (hc _ ((test_6 (gB 9 C) (goodA vA vO vP) (goodA cA cO CODES.Ok) vN (valA vA vO vP wv) (valA cA cO CODES.Ok wk) (goodS (tS [117, 115, 101, 114] [112, 108, 97, 110] 3) (tI 3)) (valS (tS [117, 115, 101, 114] [112, 108, 97, 110] 3) (tI 3) w) C D (t1 := (2, C2)) ht5 rfl rfl rfl rfl rfl rfl).trans ((congrArg (fun b => cond b _ _) hg9).trans (by simp only [a5, a4, a2, cond_false, cond_true, hg5, hn4, hn2, hv2, hv3, hz] <;> rfl))))
  · obtain ⟨p0, p1, p2⟩ := nextR_ok q2 (m := 2) (by omega)
    cases hne : nextR C2 2 with
    | mk u C3 =>
    rw [hne] at p0 p1 p2
    have p0 : 0 ≤ u := p0
    have p1 : u < 2 := p1
    have p2 : C3.Ok := p2
    have htn : vN [.ref 1000000 0, .int .i64 2] [codO C2] = (u, C3) := (vN_eq q2 (by omega)).trans hne
    have hvC : goodA vA vO vP [.ref 1000000 0, .int .i64 3] [codO C3] = true := vA_good (by omega) (by omega) p2
    have hyC : vPost (C3, 3) (valA vA vO vP wv [.ref 1000000 0, .int .i64 3] [codO C3]) := vA_post hwv (by omega) (by omega) p2
    have hwr : IntKind.wrap .i64 (9 + u) = 9 + u := wrap_lit (by omega) (by omega)
    exact leaf1 (op := 9 + u) (y := valA vA vO vP wv [.ref 1000000 0, .int .i64 3] [codO C3]) k1 k2 h3 h4 hyC ⟨by omega, by omega, by omega, by omega, fun _ => rfl⟩ (hc _ ((test_6 (gB 9 C) (goodA vA vO vP) (goodA cA cO CODES.Ok) vN (valA vA vO vP wv) (valA cA cO CODES.Ok wk) (goodS (tS [117, 115, 101, 114] [112, 108, 97, 110] 3) (tI 3)) (valS (tS [117, 115, 101, 114] [112, 108, 97, 110] 3) (tI 3) w) C D (t1 := (3, C2)) ht5 rfl rfl (t4 := (u, C3)) htn rfl rfl rfl).trans ((congrArg (fun b => cond b _ _) hg9).trans (by simp only [a5, a4, a2, cond_false, cond_true, hg5, hn4, hn2, hv2, hv3, hz, hvC, hwr] <;> rfl))))
  · obtain ⟨p0, p1, p2⟩ := nextR_ok q2 (m := 4) (by omega)
    cases hne : nextR C2 4 with
    | mk u C3 =>
    rw [hne] at p0 p1 p2
    have p0 : 0 ≤ u := p0
    have p1 : u < 4 := p1
    have p2 : C3.Ok := p2
    have htn : vN [.ref 1000000 0, .int .i64 4] [codO C2] = (u, C3) := (vN_eq q2 (by omega)).trans hne
    have hvC : goodA vA vO vP [.ref 1000000 0, .int .i64 3] [codO C3] = true := vA_good (by omega) (by omega) p2
    have hyC : vPost (C3, 3) (valA vA vO vP wv [.ref 1000000 0, .int .i64 3] [codO C3]) := vA_post hwv (by omega) (by omega) p2
    have hwr : IntKind.wrap .i64 (12 + u) = 12 + u := wrap_lit (by omega) (by omega)
    exact leaf1 (op := 12 + u) (y := valA vA vO vP wv [.ref 1000000 0, .int .i64 3] [codO C3]) k1 k2 h3 h4 hyC ⟨by omega, by omega, by omega, by omega, fun _ => rfl⟩ (hc _ ((test_6 (gB 9 C) (goodA vA vO vP) (goodA cA cO CODES.Ok) vN (valA vA vO vP wv) (valA cA cO CODES.Ok wk) (goodS (tS [117, 115, 101, 114] [112, 108, 97, 110] 3) (tI 3)) (valS (tS [117, 115, 101, 114] [112, 108, 97, 110] 3) (tI 3) w) C D (t1 := (4, C2)) ht5 rfl rfl rfl rfl (t6 := (u, C3)) htn rfl).trans ((congrArg (fun b => cond b _ _) hg9).trans (by simp only [a5, a4, a2, cond_false, cond_true, hg5, hn4, hn2, hv2, hv3, hz, hvC, hwr] <;> rfl))))
set_option maxHeartbeats 400000 in
set_option maxRecDepth 100000 in
theorem test_ex7 (h9 : nextR C 9 = (7, D)) : ∃ x, tPost x ∧ Ct V2.P V2.G 47 (cA C) (cO C) (φQ x) := by
  have hT := entB_ok (m := 9) (by omega) hC h9
  have k1 : keyB [117, 115, 101, 114] = true := by kernel_rfl
  have k2 : keyB [116, 97, 103, 115] = true := by kernel_rfl
  obtain ⟨w, hw, hl⟩ := test_loop [117, 115, 101, 114] [116, 97, 103, 115] 5 (by omega) (by omega) (gB 9 C) (fun l os => cond (argN 9 l) (7, D) (vN l os)) (fun C' h' => gB_eq h' (by omega) (by omega)) (fun C' h' => by
    show cond (argN 9 [.ref 1000000 0, .int .i64 3]) (7, D) (vN [.ref 1000000 0, .int .i64 3] [codO C']) = _
    rw [argN_ne (by decide)]; exact vN_eq h' (by omega)) wv hwv [entC 104 cA cO CODES.Ok wk φT]
  have hc := fun r he => ct_loops (V := V2) (f := 47) (l := cA C) (os := cO C) (r := r) (n := 9) (d := 3) (T := [entB 9 C (7, D), entC 58 vA vO vP wv φV, entC 104 cA cO CODES.Ok wk φT]) mixed2 funcs2 (tabOk_cons hT (tabOk_cons htv (tabOk_cons htk tabOk_nil))) (loopsOk_cons (hl _) loopsOk_nil) he
  obtain ⟨q0, q1, q2⟩ := nextR_ok hD (m := 5) (by omega)
  cases h5e : nextR D 5 with
  | mk r C2 =>
  rw [h5e] at q0 q1 q2
  have q0 : 0 ≤ r := q0
  have q1 : r < 5 := q1
  have q2 : C2.Ok := q2
  have ht5 : vN [.ref 1000000 0, .int .i64 5] [codO D] = (r, C2) := (vN_eq hD (by omega)).trans h5e
  have a5 : argN 9 [.ref 1000000 0, .int .i64 5] = false := argN_ne (by decide)
  have a4 : argN 9 [.ref 1000000 0, .int .i64 4] = false := argN_ne (by decide)
  have a2 : argN 9 [.ref 1000000 0, .int .i64 2] = false := argN_ne (by decide)
  have hg9 : gB 9 C [.ref 1000000 0, .int .i64 (IntKind.wrap .i64 (((8 : Nat) : Int) + 1))] [codO C] = true := gB_eq (n := 9) hC (by omega) fun _ => rfl
  have hg5 : gB 9 C [.ref 1000000 0, .int .i64 5] [codO D] = true := gB_eq hD (by omega) (by omega)
  have hn4 : gB 9 C [.ref 1000000 0, .int .i64 4] [codO C2] = true := gB_eq q2 (by omega) (by omega)
  have hn2 : gB 9 C [.ref 1000000 0, .int .i64 2] [codO C2] = true := gB_eq q2 (by omega) (by omega)
  have hv2 : goodA vA vO vP [.ref 1000000 0, .int .i64 5] [codO C2] = true := vA_good (by omega) (by omega) q2
  have hv3 : goodA vA vO vP [.ref 1000000 0, .int .i64 3] [codO C2] = true := vA_good (by omega) (by omega) q2
  have hy2 : vPost (C2, 5) (valA vA vO vP wv [.ref 1000000 0, .int .i64 5] [codO C2]) := vA_post hwv (by omega) (by omega) q2
  have hy3 : vPost (C2, 3) (valA vA vO vP wv [.ref 1000000 0, .int .i64 3] [codO C2]) := vA_post hwv (by omega) (by omega) q2
  have hz : goodS (tS [117, 115, 101, 114] [116, 97, 103, 115] 5) (tI 5) (TS0 [117, 115, 101, 114] [116, 97, 103, 115] 5 C2) = true := tS_good [117, 115, 101, 114] [116, 97, 103, 115] 5 q2
  have hzp : tZ 5 (valS (tS [117, 115, 101, 114] [116, 97, 103, 115] 5) (tI 5) w (TS0 [117, 115, 101, 114] [116, 97, 103, 115] 5 C2)) := tS_post [117, 115, 101, 114] [116, 97, 103, 115] 5 hw q2
  have hr : r = 0 ∨ r = 1 ∨ r = 2 ∨ r = 3 ∨ r = 4 := by omega
  have h3 : ([117, 115, 101, 114] : List UInt8).length ≤ 100 := by decide
  have h4 : ([116, 97, 103, 115] : List UInt8).length ≤ 100 := by decide
  rcases hr with rfl | rfl | rfl | rfl | rfl
  · exact leaf0 (D := C2) k1 k2 h3 h4 q2 (hc _ ((test_7 (gB 9 C) (goodA vA vO vP) (goodA cA cO CODES.Ok) vN (valA vA vO vP wv) (valA cA cO CODES.Ok wk) (goodS (tS [117, 115, 101, 114] [116, 97, 103, 115] 5) (tI 5)) (valS (tS [117, 115, 101, 114] [116, 97, 103, 115] 5) (tI 5) w) C D (t1 := (0, C2)) ht5 rfl rfl).trans ((congrArg (fun b => cond b _ _) hg9).trans (by simp only [a5, a4, a2, cond_false, cond_true, hg5, hn4, hn2, hv2, hv3, hz] <;> rfl))))
  · exact leaf1 (op := 7) (y := valA vA vO vP wv [.ref 1000000 0, .int .i64 5] [codO C2]) k1 k2 h3 h4 hy2 ⟨by omega, by omega, by omega, by omega, by intro h; cases h⟩ (hc _ ((test_7 (gB 9 C) (goodA vA vO vP) (goodA cA cO CODES.Ok) vN (valA vA vO vP wv) (valA cA cO CODES.Ok wk) (goodS (tS [117, 115, 101, 114] [116, 97, 103, 115] 5) (tI 5)) (valS (tS [117, 115, 101, 114] [116, 97, 103, 115] 5) (tI 5) w) C D (t1 := (1, C2)) ht5 rfl rfl).trans ((congrArg (fun b => cond b _ _) hg9).trans (by simp only [a5, a4, a2, cond_false, cond_true, hg5, hn4, hn2, hv2, hv3, hz] <;> rfl))))
  · exact leaf1 (op := 11) (y := valA vA vO vP wv [.ref 1000000 0, .int .i64 3] [codO C2]) k1 k2 h3 h4 hy3 ⟨by omega, by omega, by omega, by omega, fun _ => rfl⟩ (hc _ ((test_7 (gB 9 C) (goodA vA vO vP) (goodA cA cO CODES.Ok) vN (valA vA vO vP wv) (valA cA cO CODES.Ok wk) (goodS (tS [117, 115, 101, 114] [116, 97, 103, 115] 5) (tI 5)) (valS (tS [117, 115, 101, 114] [116, 97, 103, 115] 5) (tI 5) w) C D (t1 := (2, C2)) ht5 rfl rfl).trans ((congrArg (fun b => cond b _ _) hg9).trans (by simp only [a5, a4, a2, cond_false, cond_true, hg5, hn4, hn2, hv2, hv3, hz] <;> rfl))))
  · exact leaf1 (op := 7) (y := valA vA vO vP wv [.ref 1000000 0, .int .i64 5] [codO C2]) k1 k2 h3 h4 hy2 ⟨by omega, by omega, by omega, by omega, by intro h; cases h⟩ (hc _ ((test_7 (gB 9 C) (goodA vA vO vP) (goodA cA cO CODES.Ok) vN (valA vA vO vP wv) (valA cA cO CODES.Ok wk) (goodS (tS [117, 115, 101, 114] [116, 97, 103, 115] 5) (tI 5)) (valS (tS [117, 115, 101, 114] [116, 97, 103, 115] 5) (tI 5) w) C D (t1 := (3, C2)) ht5 rfl rfl).trans ((congrArg (fun b => cond b _ _) hg9).trans (by simp only [a5, a4, a2, cond_false, cond_true, hg5, hn4, hn2, hv2, hv3, hz] <;> rfl))))
  · exact leaf1 (op := 7) (y := valA vA vO vP wv [.ref 1000000 0, .int .i64 5] [codO C2]) k1 k2 h3 h4 hy2 ⟨by omega, by omega, by omega, by omega, by intro h; cases h⟩ (hc _ ((test_7 (gB 9 C) (goodA vA vO vP) (goodA cA cO CODES.Ok) vN (valA vA vO vP wv) (valA cA cO CODES.Ok wk) (goodS (tS [117, 115, 101, 114] [116, 97, 103, 115] 5) (tI 5)) (valS (tS [117, 115, 101, 114] [116, 97, 103, 115] 5) (tI 5) w) C D (t1 := (4, C2)) ht5 rfl rfl).trans ((congrArg (fun b => cond b _ _) hg9).trans (by simp only [a5, a4, a2, cond_false, cond_true, hg5, hn4, hn2, hv2, hv3, hz] <;> rfl))))
end
end Go.SH

namespace Go.SH
open Go Go.Ab Go.Proofs
set_option linter.unusedVariables false
set_option linter.unusedSimpArgs false
theorem key_cells (s : List UInt8) : ∀ j, j < [(⟨3, 0, s, []⟩ : VAL)].length → ∀ (i : Nat) (u u' : AV), (fillGet zV [(0, .agg [.int .i64 3, .int .i64 0, .str s, .sl .fit 0 0 fun _ => []])] j)[i]? = some u → (([(⟨3, 0, s, []⟩ : VAL)].getD j default).c)[i]? = some u' → u'.one = true ∧ ∀ c x, Rep c u x → Rep c u' x := fun j hj i u u' hu hu' => by
  match j, hj with
  | 0, _ =>
    have hu : [AV.int .i64 3, .int .i64 0, .str s, .sl .fit 0 0 fun _ => []][i]? = some u := hu
    match i with
    | 0 => simp only [List.getElem?_cons_zero, Option.some.injEq] at hu; subst hu; have hu' : some (AV.int .i64 3) = some u' := hu'; simp only [Option.some.injEq] at hu'; subst hu'; exact ⟨rfl, fun _ _ h => h⟩
    | 1 => simp only [List.getElem?_cons_succ, List.getElem?_cons_zero, Option.some.injEq] at hu; subst hu; have hu' : some (AV.int .i64 0) = some u' := hu'; simp only [Option.some.injEq] at hu'; subst hu'; exact ⟨rfl, fun _ _ h => h⟩
    | 2 => simp only [List.getElem?_cons_succ, List.getElem?_cons_zero, Option.some.injEq] at hu; subst hu; have hu' : some (AV.str s) = some u' := hu'; simp only [Option.some.injEq] at hu'; subst hu'; exact ⟨rfl, fun _ _ h => h⟩
    | 3 => simp only [List.getElem?_cons_succ, List.getElem?_cons_zero, Option.some.injEq] at hu; subst hu; have hu' : some (strsA []) = some u' := hu'; simp only [Option.some.injEq] at hu'; subst hu'; exact ⟨rfl, fun _ => sl_fit⟩
    | i + 4 => simp at hu
section
variable {C D : CODES} (hC : C.Ok) (hD : D.Ok) {wv : CODES × Int → VAL × CODES} (hwv : ∀ a, vP a → vPost a (wv a)) (htv : ∀ l os, (entC 58 vA vO vP wv φV).pre l os = true → Ct V2.P V2.G (entC 58 vA vO vP wv φV).f l os ((entC 58 vA vO vP wv φV).ans l os))
  {wk : CODES → List UInt8 × CODES} (hwk : ∀ C, C.Ok → (wk C).1 ∈ keysL10 ∧ (wk C).2.Ok) (htk : ∀ l os, (entC 104 cA cO CODES.Ok wk φT).pre l os = true → Ct V2.P V2.G (entC 104 cA cO CODES.Ok wk φT).f l os ((entC 104 cA cO CODES.Ok wk φT).ans l os))
include hC hD hwv htv hwk htk
set_option maxHeartbeats 400000 in
set_option maxRecDepth 100000 in
theorem test_ex8 (h9 : nextR C 9 = (8, D)) : ∃ x, tPost x ∧ Ct V2.P V2.G 47 (cA C) (cO C) (φQ x) := by
  have hT := entB_ok (m := 9) (by omega) hC h9
  have k1 : keyB [117, 115, 101, 114] = true := by kernel_rfl
  have k2 : keyB [107, 101, 121] = true := by kernel_rfl
  obtain ⟨w, hw, hl⟩ := test_loop [] [] 2 (by omega) (by omega) (gB 9 C) (fun l os => cond (argN 9 l) (8, D) (vN l os)) (fun C' h' => gB_eq h' (by omega) (by omega)) (fun C' h' => by
    show cond (argN 9 [.ref 1000000 0, .int .i64 3]) (8, D) (vN [.ref 1000000 0, .int .i64 3] [codO C']) = _
    rw [argN_ne (by decide)]; exact vN_eq h' (by omega)) wv hwv [entC 104 cA cO CODES.Ok wk φT]
  have hc := fun r he => ct_loops (V := V2) (f := 47) (l := cA C) (os := cO C) (r := r) (n := 9) (d := 3) (T := [entB 9 C (8, D), entC 58 vA vO vP wv φV, entC 104 cA cO CODES.Ok wk φT]) mixed2 funcs2 (tabOk_cons hT (tabOk_cons htv (tabOk_cons htk tabOk_nil))) (loopsOk_cons (hl _) loopsOk_nil) he
  have hg9 : gB 9 C [.ref 1000000 0, .int .i64 (IntKind.wrap .i64 (((8 : Nat) : Int) + 1))] [codO C] = true := gB_eq (n := 9) hC (by omega) fun _ => rfl
  have hgk : goodA cA cO CODES.Ok [.ref 1000000 0] [codO D] = true := goodA_eq (A := cA) (O := cO) (v := D) hD
  have hvk : (valA cA cO CODES.Ok wk [.ref 1000000 0] [codO D]).1 ∈ keysL10 ∧ (valA cA cO CODES.Ok wk [.ref 1000000 0] [codO D]).2.Ok := valA_post (A := cA) (O := cO) (Post := fun (_ : CODES) (x : List UInt8 × CODES) => x.1 ∈ keysL10 ∧ x.2.Ok) hwk (fun a b x _ _ hx => hx) hD
  generalize hy : valA cA cO CODES.Ok wk [.ref 1000000 0] [codO D] = y at hvk
  obtain ⟨v1, v2⟩ := hvk
  obtain ⟨g1, g2, g3⟩ := keys_good _ v1
  have e1 := hc (.agg (exC 7 [117, 115, 101, 114] [107, 101, 121] (.sl .fit 4 1 (fillGet zV [(0, .agg [.int .i64 3, .int .i64 0, .str y.1, .sl .fit 0 0 fun _ => []])]))), [codO y.2]) ((test_8 (gB 9 C) (goodA vA vO vP) (goodA cA cO CODES.Ok) vN (valA vA vO vP wv) (valA cA cO CODES.Ok wk) (goodS (tS [] [] 2) (tI 2)) (valS (tS [] [] 2) (tI 2) w) C D (t1 := y) hy).trans ((congrArg (fun b => cond b _ _) hg9).trans ((congrArg (fun b => cond b _ _) hgk).trans rfl)))
  exact ⟨(.mk 7 [117, 115, 101, 114] [107, 101, 121] [⟨3, 0, y.1, []⟩] [], y.2), ⟨⟨part_test (by omega) (by omega) k1 k2 (by intro v hv; simp at hv; subst hv; exact g2) (by simp) rfl (by intro h; cases h), rfl, .mk _ (by show 4 ≤ maxS; unfold maxS; omega) (by show 3 ≤ maxS; unfold maxS; omega) ⟨by show 1 ≤ _; omega, by intro v hv; have : v ∈ [(⟨3, 0, y.1, []⟩ : VAL)] := hv; simp at this; subst this; exact g3⟩ (by show 0 ≤ _; omega) (by intro v hv; cases hv)⟩, v2⟩, test_ct (l := [⟨3, 0, y.1, []⟩]) (key_cells y.1) e1⟩
end
/-- Test: it answers a test, whatever the codes are. -/
theorem test_ex (C : CODES) (hC : C.Ok) : ∃ x, tPost x ∧ Ct V2.P V2.G 47 (cA C) (cO C) (φQ x) := by
  obtain ⟨wv, hwv, htv⟩ := ent_ex (V := V2) (f := 58) (A := vA) (O := vO) (Pre := vP) (φ := φV) (Post := vPost) value_ex
  obtain ⟨wk, hwk, htk⟩ := ent_ex (V := V2) (f := 104) (A := cA) (O := cO) (Pre := CODES.Ok) (φ := φT) (Post := fun (_ : CODES) (x : List UInt8 × CODES) => x.1 ∈ keysL10 ∧ x.2.Ok) key_ex
  obtain ⟨h0, h1, h2⟩ := nextR_ok hC (m := 9) (by omega)
  cases h9 : nextR C 9 with
  | mk r D =>
  rw [h9] at h0 h1 h2
  have h0 : 0 ≤ r := h0
  have h1 : r < 9 := h1
  have hr : r = 0 ∨ r = 1 ∨ r = 2 ∨ r = 3 ∨ r = 4 ∨ r = 5 ∨ r = 6 ∨ r = 7 ∨ r = 8 := by omega
  rcases hr with rfl | rfl | rfl | rfl | rfl | rfl | rfl | rfl | rfl
  · exact test_ex0 hC h2 hwv htv hwk htk h9
  · exact test_ex1 hC h2 hwv htv hwk htk h9
  · exact test_ex2 hC h2 hwv htv hwk htk h9
  · exact test_ex3 hC h2 hwv htv hwk htk h9
  · exact test_ex4 hC h2 hwv htv hwk htk h9
  · exact test_ex5 hC h2 hwv htv hwk htk h9
  · exact test_ex6 hC h2 hwv htv hwk htk h9
  · exact test_ex7 hC h2 hwv htv hwk htk h9
  · exact test_ex8 hC h2 hwv htv hwk htk h9
end Go.SH

namespace Go.SH
open Go Go.Ab Go.Proofs
set_option linter.unusedVariables false
set_option linter.unusedSimpArgs false
def nilS : AV := .sl .fit 0 0 fun _ => []
def φC (x : EXP × CODES) : AV × List AO := (.agg (expC x.1.op x.1.kind x.1.name x.1.vals x.1.kids.length (EXP.row x.1.kids)), [codO x.2])
def exK (op : Int) (ks : AV) : List AV := [.int .i64 op, .str [], .str [], .sl .fit 0 0 fun _ => [], ks]
inductive KID where
  | plain (e : EXP)
  | neg (e : EXP)
def KID.e : KID → EXP
  | .plain e => e
  | .neg e => notX e
def eC (e : EXP) : List AV := expC e.op e.kind e.name e.vals e.kids.length (EXP.row e.kids)
def KID.c : KID → List AV
  | .plain e => eC e
  | .neg e => exK 4 (.sl .fit 5 1 (fillGet ex0 [(0, .agg (eC e))]))
def getX (l : List KID) (j : Nat) : List AV := (l.map KID.c).getD j ex0
def XS0 (op lv n : Int) (C : CODES) : St := { env := [(0, .ref keyBase 0), (1, nilS), (2, .int .i64 lv), (6, .ref 6 0), (8, .int .i64 op), (9, .ref 9 0), (10, .int .i64 n), (11, .int .i64 0)], objs := [(6, .cells ex0), (9, .cells (exK op (.sl (.key 81) 5 0 fun _ => ex0))), (keyBase, codO C), (81, .own 5 0)] }
def XS (op lv n : Int) (m : Nat) (get : Nat → List AV) (C : CODES) (i : Nat) : St := { env := [(0, .ref keyBase 0), (1, nilS), (2, .int .i64 lv), (6, .ref 6 0), (8, .int .i64 op), (9, .ref 9 0), (10, .int .i64 n), (11, .int .i64 i)], objs := [(6, .cells ex0), (9, .cells (exK op (.sl (.key 81) 5 m get))), (81, .own 5 m), (keyBase, codO C)] }
def XE (op : Int) (m : Nat) (get : Nat → List AV) (C : CODES) : St := { env := [(6, .ref 6 0), (9, .ref 9 0)], objs := [(6, .cells ex0), (9, .cells (exK op (.sl (.key 81) 5 m get))), (81, .own 5 m), (keyBase, codO C)] }
def outX (op : Int) (x : List KID × CODES) (k : Ex → St → Res) : Res := k (.exit 1) (XE op x.1.length (getX x.1) x.2)
set_option maxRecDepth 100000 in
theorem xpr_r0 (ge gx : List AV → List AO → Bool) (ve : List AV → List AO → Int × CODES) (vx : List AV → List AO → EXP × CODES) (T : List Ent) (L : List (List Nat × Orc)) (m : Nat) (op lv n : Int) (C : CODES) (kn : St → Res) (k : Ex → St → Res) {t1 : EXP × CODES} (h_t1 : vx [.ref 1000000 0, .sl .fit 0 0 fun x => [], .int .i64 (IntKind.wrap IntKind.i64 (lv - 1))] [codO C] = t1) : roundR (V2.run (mkE 19 ge ve φX :: mkE 13 gx vx φC :: T) 3 [] L [] 13) 13 m [1, 1, 1, 0, 1, 0, 1, 1, 1, 1, 1, 1, 1, 0, 1, 1, 1, 0, 1, 0] (XS0 op lv n C) kn k =
  cond (decide (0 < n)) (cond (gx [.ref 1000000 0, .sl .fit 0 0 fun x => [], .int .i64 (IntKind.wrap IntKind.i64 (lv - 1))] [codO C]) (cond (EXP.op (Prod.fst t1) == op) (kn (XS op lv n 1 (appGet 0 1 (fun x => exK 0 (.sl .fit 0 0 fun x => [])) (fillGet (exK 0 (.sl .fit 0 0 fun x => [])) [(0, .agg (exK 4 (.sl .fit 5 1 (fillGet (exK 0 (.sl .fit 0 0 fun x => [])) [(0, .agg (eC (Prod.fst t1)))]))))])) (Prod.snd t1) ((0 + 1) % Int.natAbs (2 ^ IntKind.bits IntKind.i64)))) (kn (XS op lv n 1 (appGet 0 1 (fun x => exK 0 (.sl .fit 0 0 fun x => [])) (fillGet (exK 0 (.sl .fit 0 0 fun x => [])) [(0, .agg (eC (Prod.fst t1)))])) (Prod.snd t1) ((0 + 1) % Int.natAbs (2 ^ IntKind.bits IntKind.i64))))) (none)) (k (.exit 1) (XE op 0 (fun x => exK 0 (.sl .fit 0 0 fun x => [])) C)) := by subst h_t1; kernel_rfl
set_option maxRecDepth 100000 in
theorem xpr_r (ge gx : List AV → List AO → Bool) (ve : List AV → List AO → Int × CODES) (vx : List AV → List AO → EXP × CODES) (T : List Ent) (L : List (List Nat × Orc)) (m : Nat) (op lv n : Int) (q : Nat) (get : Nat → List AV) (C : CODES) (i : Nat) (kn : St → Res) (k : Ex → St → Res) {t1 : EXP × CODES} (h_t1 : vx [.ref 1000000 0, .sl .fit 0 0 fun x => [], .int .i64 (IntKind.wrap IntKind.i64 (lv - 1))] [codO C] = t1) : roundR (V2.run (mkE 19 ge ve φX :: mkE 13 gx vx φC :: T) 3 [] L [] 13) 13 m [1, 1, 1, 0, 1, 0, 1, 1, 1, 1, 1, 1, 1, 0, 1, 1, 1, 0, 1, 0] (XS op lv n (q + 1) get C i) kn k =
  cond (decide ((↑i : Int) < n)) (cond (gx [.ref 1000000 0, .sl .fit 0 0 fun x => [], .int .i64 (IntKind.wrap IntKind.i64 (lv - 1))] [codO C]) (cond (EXP.op (Prod.fst t1) == op) (cond (roomy (88) (q + 1 + 1) && Nat.beq (q + 1) (q + 1)) (kn ({ env := [(0, .ref 1000000 0), (1, .sl .fit 0 0 fun x => []), (2, .int .i64 lv), (6, .ref 6 0), (8, .int .i64 op), (9, .ref 9 0), (10, .int .i64 n), (11, .int .i64 (IntKind.wrap IntKind.i64 ((↑i : Int) + 1)))], objs := [(6, .cells (exK 0 (.sl .fit 0 0 fun x => []))), (9, .cells (exK op (.sl (.key 81) 5 (q + 1 + 1) (appGet (q + 1) 1 get (fillGet (exK 0 (.sl .fit 0 0 fun x => [])) [(0, .agg (exK 4 (.sl .fit 5 1 (fillGet (exK 0 (.sl .fit 0 0 fun x => [])) [(0, .agg (eC (Prod.fst t1)))]))))]))))), (81, .own 5 (q + 1 + 1)), (1000000, codO (Prod.snd t1))] })) (none)) (cond (roomy (88) (q + 1 + 1) && Nat.beq (q + 1) (q + 1)) (kn ({ env := [(0, .ref 1000000 0), (1, .sl .fit 0 0 fun x => []), (2, .int .i64 lv), (6, .ref 6 0), (8, .int .i64 op), (9, .ref 9 0), (10, .int .i64 n), (11, .int .i64 (IntKind.wrap IntKind.i64 ((↑i : Int) + 1)))], objs := [(6, .cells (exK 0 (.sl .fit 0 0 fun x => []))), (9, .cells (exK op (.sl (.key 81) 5 (q + 1 + 1) (appGet (q + 1) 1 get (fillGet (exK 0 (.sl .fit 0 0 fun x => [])) [(0, .agg (eC (Prod.fst t1)))]))))), (81, .own 5 (q + 1 + 1)), (1000000, codO (Prod.snd t1))] })) (none))) (none)) (k (.exit 1) (XE op (q + 1) get C)) := by subst h_t1; kernel_rfl
set_option maxRecDepth 100000 in
theorem xpr_e (ge gx gt : List AV → List AO → Bool) (ve : List AV → List AO → Int × CODES) (vx vt : List AV → List AO → EXP × CODES) (w : St → Bool) (v : St → List KID × CODES) (o lv : Int) (C : CODES) {t1 : Int × CODES} (h_t1 : ve [.ref 1000000 0, .int .i64 8] [codO C] = t1) {t2 : EXP × CODES} (h_t2 : vt [.ref 1000000 0] [codO (Prod.snd t1)] = t2) {t3 : EXP × CODES} (h_t3 : vx [.ref 1000000 0, .sl .fit 0 0 fun x => [], .int .i64 (IntKind.wrap IntKind.i64 (lv - 1))] [codO (Prod.snd t1)] = t3) {t4 : Int × CODES} (h_t4 : ve [.ref 1000000 0, .int .i64 2] [codO (Prod.snd t1)] = t4) {t5 : Int × CODES} (h_t5 : ve [.ref 1000000 0, .int .i64 2] [codO (Prod.snd t4)] = t5) {t6 : List KID × CODES} (h_t6 : v (XS0 (IntKind.wrap IntKind.i64 (2 + Prod.fst t4)) lv (IntKind.wrap IntKind.i64 (2 + Prod.fst t5)) (Prod.snd t5)) = t6) : runF (V2.run [mkE 19 ge ve φX, mkE 13 gx vx φC, mkE 47 gt vt φC] 3 [] [([1, 1, 1, 0, 1, 0, 1, 1, 1, 1, 1, 1, 1, 0, 1, 1, 1, 0, 1, 0], mkO w v (outX o))] [] 13) 9 13 [.ref keyBase 0, nilS, .int .i64 lv] [codO C] =
  cond (ge [.ref 1000000 0, .int .i64 8] [codO C]) (cond (bif decide (lv ≤ 1) then decide (Prod.fst t1 ≥ 4) else false) (cond (IntKind.wrap IntKind.i64 (Prod.fst t1 - 4) == 0) (some ((.agg (exK 1 (.sl .fit 0 0 fun x => [])), [codO (Prod.snd t1)]))) (cond (IntKind.wrap IntKind.i64 (Prod.fst t1 - 4) == 3) (cond (gt [.ref 1000000 0] [codO (Prod.snd t1)]) (some ((.agg (eC (Prod.fst t2)), [codO (Prod.snd t2)]))) (none)) (cond (IntKind.wrap IntKind.i64 (Prod.fst t1 - 4) == 4) (cond (gx [.ref 1000000 0, .sl .fit 0 0 fun x => [], .int .i64 (IntKind.wrap IntKind.i64 (lv - 1))] [codO (Prod.snd t1)]) (some ((.agg (exK 4 (.sl .fit 5 1 (fillGet (exK 0 (.sl .fit 0 0 fun x => [])) [(0, .agg (eC (Prod.fst t3)))]))), [codO (Prod.snd t3)]))) (none)) (cond (IntKind.wrap IntKind.i64 (Prod.fst t1 - 4) == 5) (cond (IntKind.wrap IntKind.i64 (Prod.fst t1 - 4) == 5) (cond (ge [.ref 1000000 0, .int .i64 2] [codO (Prod.snd t1)]) (cond (ge [.ref 1000000 0, .int .i64 2] [codO (Prod.snd t4)]) (cond (w (XS0 (IntKind.wrap IntKind.i64 (2 + Prod.fst t4)) lv (IntKind.wrap IntKind.i64 (2 + Prod.fst t5)) (Prod.snd t5))) (some ((.agg (exK o (.sl .no 5 (List.length (Prod.fst t6)) (getX (Prod.fst t6)))), [codO (Prod.snd t6)]))) (none)) (none)) (none)) (cond (gt [.ref 1000000 0] [codO (Prod.snd t1)]) (some ((.agg (eC (Prod.fst t2)), [codO (Prod.snd t2)]))) (none))) (cond (IntKind.wrap IntKind.i64 (Prod.fst t1 - 4) == 6) (cond (ge [.ref 1000000 0, .int .i64 2] [codO (Prod.snd t1)]) (cond (ge [.ref 1000000 0, .int .i64 2] [codO (Prod.snd t4)]) (cond (w (XS0 (IntKind.wrap IntKind.i64 (2 + Prod.fst t4)) lv (IntKind.wrap IntKind.i64 (2 + Prod.fst t5)) (Prod.snd t5))) (some ((.agg (exK o (.sl .no 5 (List.length (Prod.fst t6)) (getX (Prod.fst t6)))), [codO (Prod.snd t6)]))) (none)) (none)) (none)) (cond (gt [.ref 1000000 0] [codO (Prod.snd t1)]) (some ((.agg (eC (Prod.fst t2)), [codO (Prod.snd t2)]))) (none))))))) (cond (Prod.fst t1 == 0) (some ((.agg (exK 1 (.sl .fit 0 0 fun x => [])), [codO (Prod.snd t1)]))) (cond (Prod.fst t1 == 3) (cond (gt [.ref 1000000 0] [codO (Prod.snd t1)]) (some ((.agg (eC (Prod.fst t2)), [codO (Prod.snd t2)]))) (none)) (cond (Prod.fst t1 == 4) (cond (gx [.ref 1000000 0, .sl .fit 0 0 fun x => [], .int .i64 (IntKind.wrap IntKind.i64 (lv - 1))] [codO (Prod.snd t1)]) (some ((.agg (exK 4 (.sl .fit 5 1 (fillGet (exK 0 (.sl .fit 0 0 fun x => [])) [(0, .agg (eC (Prod.fst t3)))]))), [codO (Prod.snd t3)]))) (none)) (cond (Prod.fst t1 == 5) (cond (Prod.fst t1 == 5) (cond (ge [.ref 1000000 0, .int .i64 2] [codO (Prod.snd t1)]) (cond (ge [.ref 1000000 0, .int .i64 2] [codO (Prod.snd t4)]) (cond (w (XS0 (IntKind.wrap IntKind.i64 (2 + Prod.fst t4)) lv (IntKind.wrap IntKind.i64 (2 + Prod.fst t5)) (Prod.snd t5))) (some ((.agg (exK o (.sl .no 5 (List.length (Prod.fst t6)) (getX (Prod.fst t6)))), [codO (Prod.snd t6)]))) (none)) (none)) (none)) (cond (gt [.ref 1000000 0] [codO (Prod.snd t1)]) (some ((.agg (eC (Prod.fst t2)), [codO (Prod.snd t2)]))) (none))) (cond (Prod.fst t1 == 6) (cond (ge [.ref 1000000 0, .int .i64 2] [codO (Prod.snd t1)]) (cond (ge [.ref 1000000 0, .int .i64 2] [codO (Prod.snd t4)]) (cond (w (XS0 (IntKind.wrap IntKind.i64 (2 + Prod.fst t4)) lv (IntKind.wrap IntKind.i64 (2 + Prod.fst t5)) (Prod.snd t5))) (some ((.agg (exK o (.sl .no 5 (List.length (Prod.fst t6)) (getX (Prod.fst t6)))), [codO (Prod.snd t6)]))) (none)) (none)) (none)) (cond (gt [.ref 1000000 0] [codO (Prod.snd t1)]) (some ((.agg (eC (Prod.fst t2)), [codO (Prod.snd t2)]))) (none)))))))) (none) := by subst h_t6 h_t5 h_t4 h_t3 h_t2 h_t1; kernel_rfl
end Go.SH

namespace Go.SH
open Go Go.Ab Go.Proofs
set_option linter.unusedVariables false
set_option linter.unusedSimpArgs false
abbrev XSt := CODES ⊕ (List KID × CODES)
def xA (lv : Int) (_ : CODES) : List AV := [.ref keyBase 0, nilS, .int .i64 lv]
def xPost (q : Nat) (x : EXP × CODES) : Prop := (VE q x.1 ∧ x.1.Ok) ∧ x.2.Ok
def okK (op : Int) (q : Nat) (k : KID) : Prop := VE (q + 1) k.e ∧ k.e.op ≠ op ∧ k.e.Ok
def xS (op lv : Int) (n : Nat) : XSt → St
  | .inl C => XS0 op lv n C
  | .inr (l, C) => XS op lv n l.length (getX l) C l.length
def xI (op : Int) (q n : Nat) : XSt → Prop
  | .inl C => C.Ok
  | .inr (l, C) => C.Ok ∧ 1 ≤ l.length ∧ l.length ≤ n ∧ ∀ k ∈ l, okK op q k
def xM : XSt → Nat
  | .inl _ => 5
  | .inr (l, _) => 4 - l.length
def xZ (op : Int) (q n : Nat) (z : List KID × CODES) : Prop := z.1.length = n ∧ (∀ k ∈ z.1, okK op q k) ∧ z.2.Ok
instance : Inhabited (List KID × CODES) := ⟨([], default)⟩
theorem getX_app (l : List KID) (k : KID) : appGet l.length 1 (getX l) (fillGet ex0 [(0, .agg k.c)]) = getX (l ++ [k]) := by
  funext j
  unfold appGet getX
  by_cases h : j < l.length
  · rw [bltT h]
    simp [List.getD, h, List.getElem?_append_left]
  · have hb : Nat.blt j l.length = false := by
      cases e : Nat.blt j l.length with
      | false => rfl
      | true => exact absurd (ltB e) h
    rw [hb, cond_false]
    by_cases h1 : j = l.length
    · subst h1
      rw [bltT (by omega), cond_true, Nat.sub_self]
      simp [fillGet, AV.cells, List.getD]
    · have hb1 : Nat.blt j (l.length + 1) = false := by
        cases e : Nat.blt j (l.length + 1) with
        | false => rfl
        | true => exact absurd (ltB e) (by omega)
      rw [hb1, cond_false]
      simp only [List.map_append, List.map_cons, List.map_nil, List.getD]
      rw [List.getElem?_eq_none (by simp; omega), List.getElem?_eq_none (by simp; omega)]
theorem notX_ok {e : EXP} (h : e.Ok) : (notX e).Ok := .mk _ (by show 0 ≤ maxS; unfold maxS; omega) (by show 0 ≤ maxS; unfold maxS; omega) ⟨by show 0 ≤ _; omega, by intro v hv; cases hv⟩ (by show 1 ≤ _; omega) (by intro v hv; have : v ∈ [e] := hv; simp at this; subst this; exact h)
/-- The kid that comes of an answer. -/
def kidOf (op : Int) (e : EXP) : KID := bif e.op == op then .neg e else .plain e
theorem kidOf_ok {op : Int} {q : Nat} {x : EXP × CODES} (hop : op = 2 ∨ op = 3) (h : xPost q x) : okK op q (kidOf op x.1) := by
  unfold kidOf
  cases hb : (x.1.op == op) with
  | true => exact ⟨h.1.1.not, by show (4 : Int) ≠ op; omega, notX_ok h.1.2⟩
  | false => exact ⟨h.1.1.up, beq_eq_false_iff_ne.1 hb, h.1.2⟩
theorem xA_good {lv : Int} {C : CODES} (h : C.Ok) : goodA (xA lv) cO CODES.Ok [.ref 1000000 0, nilS, .int .i64 lv] [codO C] = true := goodA_eq (A := xA lv) (O := cO) (v := C) h
theorem xA_post {lv : Int} {q : Nat} {wx : CODES → EXP × CODES} (hwx : ∀ C, C.Ok → xPost q (wx C)) {C : CODES} (h : C.Ok) : xPost q (valA (xA lv) cO CODES.Ok wx [.ref 1000000 0, nilS, .int .i64 lv] [codO C]) := valA_post (A := xA lv) (O := cO) (a := C) (Post := fun (_ : CODES) (x : EXP × CODES) => xPost q x) hwx (fun _ _ _ _ _ h => h) h
theorem expr_loop (op lv : Int) (n q : Nat) (hop : op = 2 ∨ op = 3) (h2 : 2 ≤ n) (h3 : n ≤ 3) (ge : List AV → List AO → Bool) (ve : List AV → List AO → Int × CODES)
    (wx : CODES → EXP × CODES) (hwx : ∀ C, C.Ok → xPost q (wx C)) (T : List Ent) :
    ∃ w : XSt → List KID × CODES, (∀ v, xI op q n v → xZ op q n (w v)) ∧ ∀ L, LoopOk (V2.run (mkE 19 ge ve φX :: entC 13 (xA (IntKind.wrap .i64 (lv - 1))) cO CODES.Ok wx φC :: T) 3 [] L [] 13) 13 [1, 1, 1, 0, 1, 0, 1, 1, 1, 1, 1, 1, 1, 0, 1, 1, 1, 0, 1, 0] (mkO (goodS (xS op lv n) (xI op q n)) (valS (xS op lv n) (xI op q n) w) (outX op)) := by
  refine loop_ex (Xf := fun L => V2.run (mkE 19 ge ve φX :: entC 13 (xA (IntKind.wrap .i64 (lv - 1))) cO CODES.Ok wx φC :: T) 3 [] L [] 13) (b := subC (bodyOf V2.P 13) ([1, 1, 1, 0, 1, 0, 1, 1, 1, 1, 1, 1, 1, 0, 1, 1, 1, 0, 1, 0] ++ [0])) (xS op lv n) (xI op q n) xM (outX op) (fun _ => xZ op q n) (fun _ => by kernel_rfl) 9 fun v hv => ?_
  have hgv : ∀ C : CODES, C.Ok → goodA (xA (IntKind.wrap .i64 (lv - 1))) cO CODES.Ok [.ref 1000000 0, .sl .fit 0 0 fun x => [], .int .i64 (IntKind.wrap .i64 (lv - 1))] [codO C] = true := fun C hC => xA_good hC
  have hvv : ∀ C : CODES, C.Ok → xPost q (valA (xA (IntKind.wrap .i64 (lv - 1))) cO CODES.Ok wx [.ref 1000000 0, .sl .fit 0 0 fun x => [], .int .i64 (IntKind.wrap .i64 (lv - 1))] [codO C]) := fun C hC => xA_post hwx hC
  cases v with
  | inl C =>
    have hC : C.Ok := hv
    have hp := hvv C hC
    have hk := kidOf_ok hop hp
    have hn : (0 : Int) < (n : Int) := by omega
    refine .inr ⟨.inr ([kidOf op (valA (xA (IntKind.wrap .i64 (lv - 1))) cO CODES.Ok wx [.ref 1000000 0, .sl .fit 0 0 fun x => [], .int .i64 (IntKind.wrap .i64 (lv - 1))] [codO C]).1], (valA (xA (IntKind.wrap .i64 (lv - 1))) cO CODES.Ok wx [.ref 1000000 0, .sl .fit 0 0 fun x => [], .int .i64 (IntKind.wrap .i64 (lv - 1))] [codO C]).2), ?_, by show 4 - 1 < 5; omega, fun _ h => h, fun L k kn => ?_⟩
    · exact ⟨hp.2, by show 1 ≤ 1; omega, by show 1 ≤ n; omega, fun v hv => by simp at hv; subst hv; exact hk⟩
    · refine (xpr_r0 ge _ ve _ T L _ op lv n C kn k rfl).trans ?_
      rw [hgv C hC, decide_eq_true hn]
      revert hp hk
      generalize valA (xA (IntKind.wrap .i64 (lv - 1))) cO CODES.Ok wx [.ref 1000000 0, .sl .fit 0 0 fun x => [], .int .i64 (IntKind.wrap .i64 (lv - 1))] [codO C] = x
      intro hp hk
      have h1 := getX_app [] (kidOf op x.1)
      have h0 : (fun _ : Nat => ex0) = getX [] := by funext j; rfl
      unfold kidOf at h1 ⊢
      cases hb : (x.1.op == op) with
      | true =>
        rw [hb] at h1
        show kn _ = kn (XS op lv n 1 (getX [.neg x.1]) x.2 1)
        congr 1
        show XS op lv n 1 (appGet 0 1 (fun _ => ex0) (fillGet ex0 [(0, .agg (KID.c (.neg x.1)))])) x.2 1 = _
        rw [h0]; exact congrArg (fun g => XS op lv n 1 g x.2 1) h1
      | false =>
        rw [hb] at h1
        show kn _ = kn (XS op lv n 1 (getX [.plain x.1]) x.2 1)
        congr 1
        show XS op lv n 1 (appGet 0 1 (fun _ => ex0) (fillGet ex0 [(0, .agg (KID.c (.plain x.1)))])) x.2 1 = _
        rw [h0]; exact congrArg (fun g => XS op lv n 1 g x.2 1) h1
  | inr y =>
    obtain ⟨l, C⟩ := y
    obtain ⟨hC, l1, l3, lv'⟩ := hv
    obtain ⟨m, hm⟩ : ∃ m, l.length = m + 1 := ⟨l.length - 1, by omega⟩
    have hp := hvv C hC
    have hk := kidOf_ok hop hp
    by_cases hi : (l.length : Int) < (n : Int)
    · refine .inr ⟨.inr (l ++ [kidOf op (valA (xA (IntKind.wrap .i64 (lv - 1))) cO CODES.Ok wx [.ref 1000000 0, .sl .fit 0 0 fun x => [], .int .i64 (IntKind.wrap .i64 (lv - 1))] [codO C]).1], (valA (xA (IntKind.wrap .i64 (lv - 1))) cO CODES.Ok wx [.ref 1000000 0, .sl .fit 0 0 fun x => [], .int .i64 (IntKind.wrap .i64 (lv - 1))] [codO C]).2), ?_, ?_, fun _ h => h, fun L k kn => ?_⟩
      · refine ⟨hp.2, by simp, by simp; omega, fun v hv => ?_⟩
        rcases List.mem_append.1 hv with hv | hv
        · exact lv' v hv
        · simp at hv; subst hv; exact hk
      · show 4 - (l ++ [_]).length < 4 - l.length
        rw [List.length_append, List.length_singleton]; omega
      · have := xpr_r ge (goodA (xA (IntKind.wrap .i64 (lv - 1))) cO CODES.Ok) ve (valA (xA (IntKind.wrap .i64 (lv - 1))) cO CODES.Ok wx) T L 9 op lv n m (getX l) C l.length kn k rfl
        rw [← hm] at this
        refine this.trans ?_
        rw [decide_eq_true hi, hgv C hC, wrap_next (n := 4) (by omega) (by omega)]
        have hr : (roomy 88 (l.length + 1) && Nat.beq l.length l.length) = true := by
          have : l.length = 1 ∨ l.length = 2 ∨ l.length = 3 := by omega
          rcases this with e | e | e <;> rw [e] <;> rfl
        rw [hr]
        revert hp hk
        generalize valA (xA (IntKind.wrap .i64 (lv - 1))) cO CODES.Ok wx [.ref 1000000 0, .sl .fit 0 0 fun x => [], .int .i64 (IntKind.wrap .i64 (lv - 1))] [codO C] = x
        intro hp hk
        have h1 := getX_app l (kidOf op x.1)
        show _ = kn (XS op lv n (l ++ [_]).length (getX (l ++ [_])) _ (l ++ [_]).length)
        rw [List.length_append, List.length_singleton, ← h1]
        unfold kidOf
        cases hb : (x.1.op == op) with
        | true => rfl
        | false => rfl
    · refine .inl ⟨(l, C), ⟨by show l.length = n; omega, lv', hC⟩, fun L k kn => ?_⟩
      have := xpr_r ge (goodA (xA (IntKind.wrap .i64 (lv - 1))) cO CODES.Ok) ve (valA (xA (IntKind.wrap .i64 (lv - 1))) cO CODES.Ok wx) T L 9 op lv n m (getX l) C l.length kn k rfl
      rw [← hm] at this
      refine this.trans ?_
      rw [decide_eq_false hi]; rfl
end Go.SH

namespace Go.SH
open Go Go.Ab Go.Proofs
set_option linter.unusedVariables false
set_option linter.unusedSimpArgs false
set_option maxRecDepth 100000 in
theorem xpr1_0 (ge gt : List AV → List AO → Bool) (vt : List AV → List AO → EXP × CODES) (C D : CODES)  : runF (V2.run [mkE 19 ge (fun _ _ => (0, D)) φX, mkE 47 gt vt φC] 3 [] [] [] 13) 9 13 [.ref keyBase 0, nilS, .int .i64 1] [codO C] =
  cond (ge [.ref 1000000 0, .int .i64 8] [codO C]) (some ((.agg (exK 1 (.sl .fit 0 0 fun x => [])), [codO D]))) (none) := by kernel_rfl
set_option maxRecDepth 100000 in
theorem xpr1_1 (ge gt : List AV → List AO → Bool) (vt : List AV → List AO → EXP × CODES) (C D : CODES) {t1 : EXP × CODES} (h_t1 : vt [.ref 1000000 0] [codO D] = t1) : runF (V2.run [mkE 19 ge (fun _ _ => (1, D)) φX, mkE 47 gt vt φC] 3 [] [] [] 13) 9 13 [.ref keyBase 0, nilS, .int .i64 1] [codO C] =
  cond (ge [.ref 1000000 0, .int .i64 8] [codO C]) (cond (gt [.ref 1000000 0] [codO D]) (some ((.agg (eC (Prod.fst t1)), [codO (Prod.snd t1)]))) (none)) (none) := by subst h_t1; kernel_rfl
set_option maxRecDepth 100000 in
theorem xpr1_2 (ge gt : List AV → List AO → Bool) (vt : List AV → List AO → EXP × CODES) (C D : CODES) {t1 : EXP × CODES} (h_t1 : vt [.ref 1000000 0] [codO D] = t1) : runF (V2.run [mkE 19 ge (fun _ _ => (2, D)) φX, mkE 47 gt vt φC] 3 [] [] [] 13) 9 13 [.ref keyBase 0, nilS, .int .i64 1] [codO C] =
  cond (ge [.ref 1000000 0, .int .i64 8] [codO C]) (cond (gt [.ref 1000000 0] [codO D]) (some ((.agg (eC (Prod.fst t1)), [codO (Prod.snd t1)]))) (none)) (none) := by subst h_t1; kernel_rfl
set_option maxRecDepth 100000 in
theorem xpr1_3 (ge gt : List AV → List AO → Bool) (vt : List AV → List AO → EXP × CODES) (C D : CODES) {t1 : EXP × CODES} (h_t1 : vt [.ref 1000000 0] [codO D] = t1) : runF (V2.run [mkE 19 ge (fun _ _ => (3, D)) φX, mkE 47 gt vt φC] 3 [] [] [] 13) 9 13 [.ref keyBase 0, nilS, .int .i64 1] [codO C] =
  cond (ge [.ref 1000000 0, .int .i64 8] [codO C]) (cond (gt [.ref 1000000 0] [codO D]) (some ((.agg (eC (Prod.fst t1)), [codO (Prod.snd t1)]))) (none)) (none) := by subst h_t1; kernel_rfl
set_option maxRecDepth 100000 in
theorem xpr1_4 (ge gt : List AV → List AO → Bool) (vt : List AV → List AO → EXP × CODES) (C D : CODES)  : runF (V2.run [mkE 19 ge (fun _ _ => (4, D)) φX, mkE 47 gt vt φC] 3 [] [] [] 13) 9 13 [.ref keyBase 0, nilS, .int .i64 1] [codO C] =
  cond (ge [.ref 1000000 0, .int .i64 8] [codO C]) (some ((.agg (exK 1 (.sl .fit 0 0 fun x => [])), [codO D]))) (none) := by kernel_rfl
set_option maxRecDepth 100000 in
theorem xpr1_5 (ge gt : List AV → List AO → Bool) (vt : List AV → List AO → EXP × CODES) (C D : CODES) {t1 : EXP × CODES} (h_t1 : vt [.ref 1000000 0] [codO D] = t1) : runF (V2.run [mkE 19 ge (fun _ _ => (5, D)) φX, mkE 47 gt vt φC] 3 [] [] [] 13) 9 13 [.ref keyBase 0, nilS, .int .i64 1] [codO C] =
  cond (ge [.ref 1000000 0, .int .i64 8] [codO C]) (cond (gt [.ref 1000000 0] [codO D]) (some ((.agg (eC (Prod.fst t1)), [codO (Prod.snd t1)]))) (none)) (none) := by subst h_t1; kernel_rfl
set_option maxRecDepth 100000 in
theorem xpr1_6 (ge gt : List AV → List AO → Bool) (vt : List AV → List AO → EXP × CODES) (C D : CODES) {t1 : EXP × CODES} (h_t1 : vt [.ref 1000000 0] [codO D] = t1) : runF (V2.run [mkE 19 ge (fun _ _ => (6, D)) φX, mkE 47 gt vt φC] 3 [] [] [] 13) 9 13 [.ref keyBase 0, nilS, .int .i64 1] [codO C] =
  cond (ge [.ref 1000000 0, .int .i64 8] [codO C]) (cond (gt [.ref 1000000 0] [codO D]) (some ((.agg (eC (Prod.fst t1)), [codO (Prod.snd t1)]))) (none)) (none) := by subst h_t1; kernel_rfl
set_option maxRecDepth 100000 in
theorem xpr1_7 (ge gt : List AV → List AO → Bool) (vt : List AV → List AO → EXP × CODES) (C D : CODES) {t1 : EXP × CODES} (h_t1 : vt [.ref 1000000 0] [codO D] = t1) : runF (V2.run [mkE 19 ge (fun _ _ => (7, D)) φX, mkE 47 gt vt φC] 3 [] [] [] 13) 9 13 [.ref keyBase 0, nilS, .int .i64 1] [codO C] =
  cond (ge [.ref 1000000 0, .int .i64 8] [codO C]) (cond (gt [.ref 1000000 0] [codO D]) (some ((.agg (eC (Prod.fst t1)), [codO (Prod.snd t1)]))) (none)) (none) := by subst h_t1; kernel_rfl
end Go.SH

namespace Go.SH
open Go Go.Ab Go.Proofs
set_option linter.unusedVariables false
set_option linter.unusedSimpArgs false
theorem expC_keys (op : Int) (kd nm : List UInt8) (vs : List VAL) (n : Nat) (g : Nat → List AV) : keysL (expC op kd nm vs n g) = [] := by simp [expC, AV.keys, keysL, valL]
theorem expC_one {op : Int} {kd nm : List UInt8} {vs : List VAL} {n : Nat} {g : Nat → List AV} {i : Nat} {u : AV} (h : (expC op kd nm vs n g)[i]? = some u) : u.one = true := by
  match i with
  | 0 => simp [expC] at h; subst h; rfl
  | 1 => simp [expC] at h; subst h; rfl
  | 2 => simp [expC] at h; subst h; rfl
  | 3 => simp [expC] at h; subst h; rfl
  | 4 => simp [expC] at h; subst h; rfl
  | i + 5 => simp [expC] at h
/-- One list of cells may be told as another. -/
def Tells (a b : List AV) : Prop := ∀ (i : Nat) (u u' : AV), a[i]? = some u → b[i]? = some u' → u'.one = true ∧ ∀ c x, Rep c u x → Rep c u' x
theorem tells_refl (e : EXP) : Tells (eC e) (eC e) := fun i u u' h1 h2 => by
  rw [h1] at h2
  simp only [Option.some.injEq] at h2
  subst h2
  exact ⟨expC_one h1, fun _ _ h => h⟩
theorem row_eC {l : List EXP} {j : Nat} (h : j < l.length) : EXP.row l j = eC (l.getD j default) := by rw [EXP.row_at h, EXP.c_eq]; rfl
theorem tells_exK {op : Int} {ks : List EXP} {o : Own} {get : Nat → List AV} (hg : ∀ j, j < ks.length → Tells (get j) (EXP.row ks j)) : Tells (exK op (.sl o 5 ks.length get)) (expC op [] [] [] ks.length (EXP.row ks)) := fun i u u' hu hu' => by
  unfold exK expC at *
  match i with
  | 0 => simp only [List.getElem?_cons_zero, Option.some.injEq] at hu hu'; subst hu hu'; exact ⟨rfl, fun _ x h => h⟩
  | 1 => simp only [List.getElem?_cons_succ, List.getElem?_cons_zero, Option.some.injEq] at hu hu'; subst hu hu'; exact ⟨rfl, fun _ x h => h⟩
  | 2 => simp only [List.getElem?_cons_succ, List.getElem?_cons_zero, Option.some.injEq] at hu hu'; subst hu hu'; exact ⟨rfl, fun _ x h => h⟩
  | 3 => simp only [List.getElem?_cons_succ, List.getElem?_cons_zero, Option.some.injEq] at hu hu'; subst hu hu'; exact ⟨rfl, fun _ => sl_fit⟩
  | 4 =>
    simp only [List.getElem?_cons_succ, List.getElem?_cons_zero, Option.some.injEq] at hu hu'; subst hu hu'
    exact ⟨rfl, fun c => sl_map (fun j hj => by rw [row_eC hj]; exact ⟨rfl, expC_keys _ _ _ _ _ _⟩) fun j i u u' hj h1 h2 => ⟨(hg j hj i u u' h1 h2).1, fun x => (hg j hj i u u' h1 h2).2 c x⟩⟩
  | i + 5 => simp at hu
theorem tells_ex0 {op : Int} {g : Nat → List AV} : Tells (exK op (.sl .fit 0 0 g)) (expC op [] [] [] 0 (EXP.row [])) := fun i u u' hu hu' => by
  unfold exK expC at *
  match i with
  | 0 => simp only [List.getElem?_cons_zero, Option.some.injEq] at hu hu'; subst hu hu'; exact ⟨rfl, fun _ x h => h⟩
  | 1 => simp only [List.getElem?_cons_succ, List.getElem?_cons_zero, Option.some.injEq] at hu hu'; subst hu hu'; exact ⟨rfl, fun _ x h => h⟩
  | 2 => simp only [List.getElem?_cons_succ, List.getElem?_cons_zero, Option.some.injEq] at hu hu'; subst hu hu'; exact ⟨rfl, fun _ x h => h⟩
  | 3 => simp only [List.getElem?_cons_succ, List.getElem?_cons_zero, Option.some.injEq] at hu hu'; subst hu hu'; exact ⟨rfl, fun _ => sl_fit⟩
  | 4 => simp only [List.getElem?_cons_succ, List.getElem?_cons_zero, Option.some.injEq] at hu hu'; subst hu hu'; exact ⟨rfl, fun _ => sl_fit⟩
  | i + 5 => simp at hu
theorem tells_ct {f : FuncId} {A : List AV} {O : List AO} {a : List AV} {e : EXP} {D : CODES} (hl : a.length = 5) (ht : Tells a (eC e)) (h : Ct V2.P V2.G f A O (.agg a, [codO D])) : Ct V2.P V2.G f A O (φC (e, D)) :=
  h.res (by show (AV.agg (eC e)).keys = []; exact expC_keys _ _ _ _ _ _) fun c v hv => agg_map (us := a) (us' := eC e) (by rw [hl]; rfl) (fun i u u' hu hu' => ⟨(ht i u u' hu hu').1, fun x => (ht i u u' hu hu').2 c x⟩) hv
/-- A not, as it is built. -/
theorem tells_not (e : EXP) : Tells (exK 4 (.sl .fit 5 1 (fillGet ex0 [(0, .agg (eC e))]))) (eC (notX e)) :=
  tells_exK (ks := [e]) fun j hj => by
    match j, hj with
    | 0, _ =>
      rw [row_eC (by simp)]
      exact tells_refl e
theorem tells_kid (k : KID) : Tells k.c (eC k.e) := by
  cases k with
  | plain e => exact tells_refl e
  | neg e => exact tells_not e
theorem tells_pair (op : Int) (l : List KID) {o : Own} : Tells (exK op (.sl o 5 l.length (getX l))) (eC (pairX op (l.map KID.e))) := by
  have h := tells_exK (op := op) (ks := l.map KID.e) (o := o) (get := getX l) fun j hj => by
    have hj : j < l.length := by simpa using hj
    rw [row_eC (by simpa using hj)]
    unfold getX
    simp only [List.getD, List.getElem?_map, List.getElem?_eq_getElem hj, Option.map_some, Option.getD_some]
    exact tells_kid _
  rw [List.length_map] at h
  exact fun i u u' h1 h2 => h i u u' h1 (by rw [← h2]; unfold eC pairX; simp only [EXP.op, EXP.kind, EXP.name, EXP.vals, EXP.kids, List.length_map])
theorem nul_ok (op : Int) : (EXP.mk op [] [] [] []).Ok := .mk _ (by show 0 ≤ maxS; unfold maxS; omega) (by show 0 ≤ maxS; unfold maxS; omega) ⟨by show 0 ≤ _; omega, by intro v hv; cases hv⟩ (by show 0 ≤ _; omega) (by intro v hv; cases hv)
theorem true_ve : VE 1 (.mk 1 [] [] [] []) := .mk _ _ (by kernel_rfl) fun k hk => by cases hk
theorem pair_ok {op : Int} {ks : List EXP} (h : ks.length ≤ 3) (hk : ∀ k ∈ ks, k.Ok) : (pairX op ks).Ok := .mk _ (by show 0 ≤ maxS; unfold maxS; omega) (by show 0 ≤ maxS; unfold maxS; omega) ⟨by show 0 ≤ _; omega, by intro v hv; cases hv⟩ (by show ks.length ≤ _; omega) hk
end Go.SH

namespace Go.SH
open Go Go.Ab Go.Proofs
set_option linter.unusedVariables false
set_option linter.unusedSimpArgs false
set_option linter.unusedSectionVars false
theorem testC_ex (C : CODES) (hC : C.Ok) : ∃ x, tPost x ∧ Ct V2.P V2.G 47 (cA C) (cO C) (φC x) := by
  obtain ⟨x, h1, h2⟩ := test_ex C hC
  refine ⟨x, h1, ?_⟩
  unfold φQ at h2
  rw [x.1.c_eq] at h2
  exact h2
theorem tPost.x {x : EXP × CODES} (h : tPost x) (d : Nat) : xPost (2 * d + 1) x := ⟨⟨h.1.ve.le (by omega), h.1.2.2⟩, h.2⟩
section
variable {C : CODES} (hC : C.Ok) {wt : CODES → EXP × CODES} (hwt : ∀ C, C.Ok → tPost (wt C)) (htt : ∀ l os, (entC 47 cA cO CODES.Ok wt φC).pre l os = true → Ct V2.P V2.G (entC 47 cA cO CODES.Ok wt φC).f l os ((entC 47 cA cO CODES.Ok wt φC).ans l os))
include hC hwt htt
theorem xpr_ex1 : ∃ x, xPost 1 x ∧ Ct V2.P V2.G 13 (xA 1 C) (cO C) (φC x) := by
  obtain ⟨h0, h1, h2⟩ := nextR_ok hC (m := 8) (by omega)
  have hn := next_ok C hC 8 (by omega)
  revert h0 h1 h2 hn
  generalize nextR C 8 = y
  obtain ⟨r, D⟩ := y
  intro h0 h1 h2 hn
  have hr : r = 0 ∨ r = 1 ∨ r = 2 ∨ r = 3 ∨ r = 4 ∨ r = 5 ∨ r = 6 ∨ r = 7 := by have h0 : 0 ≤ r := h0; have h1 : r < 8 := h1; omega
  have hT := entK_ok (φ := φX) hn
  have h2 : D.Ok := h2
  have hg : goodA (fun _ : Unit => [.ref keyBase 0, .int .i64 8]) (fun _ => [codO C]) (fun _ => True) [.ref 1000000 0, .int .i64 8] [codO C] = true := gK_eq _ _
  have hgt : goodA cA cO CODES.Ok [.ref 1000000 0] [codO D] = true := goodA_eq (A := cA) (O := cO) (v := D) h2
  have hp : tPost (valA cA cO CODES.Ok wt [.ref 1000000 0] [codO D]) := valA_post (A := cA) (O := cO) (a := D) (Post := fun (_ : CODES) (x : EXP × CODES) => tPost x) hwt (fun _ _ _ _ _ h => h) h2
  rcases hr with rfl | rfl | rfl | rfl | rfl | rfl | rfl | rfl
  · have hc := ct_loops (V := V2) (f := 13) (l := xA 1 C) (os := cO C) (n := 9) (d := 3) (L := []) (T := [entK 19 [.ref keyBase 0, .int .i64 8] [codO C] ((0 : Int), D) φX, entC 47 cA cO CODES.Ok wt φC]) mixed2 funcs2 (tabOk_cons hT (tabOk_cons htt tabOk_nil)) loopsOk_nil ((xpr1_0 _ (goodA cA cO CODES.Ok) (valA cA cO CODES.Ok wt) C D).trans ((congrArg (fun b => cond b _ _) hg).trans rfl))
    exact ⟨(.mk 1 [] [] [] [], D), ⟨⟨true_ve, nul_ok 1⟩, h2⟩, tells_ct (a := exK 1 (.sl .fit 0 0 fun _ => [])) rfl tells_ex0 hc⟩
  · have hc := ct_loops (V := V2) (f := 13) (l := xA 1 C) (os := cO C) (n := 9) (d := 3) (L := []) (T := [entK 19 [.ref keyBase 0, .int .i64 8] [codO C] ((1 : Int), D) φX, entC 47 cA cO CODES.Ok wt φC]) mixed2 funcs2 (tabOk_cons hT (tabOk_cons htt tabOk_nil)) loopsOk_nil ((xpr1_1 _ (goodA cA cO CODES.Ok) (valA cA cO CODES.Ok wt) C D rfl).trans ((congrArg (fun b => cond b _ _) hg).trans ((congrArg (fun b => cond b _ _) hgt).trans rfl)))
    exact ⟨_, hp.x 0, hc⟩
  · have hc := ct_loops (V := V2) (f := 13) (l := xA 1 C) (os := cO C) (n := 9) (d := 3) (L := []) (T := [entK 19 [.ref keyBase 0, .int .i64 8] [codO C] ((2 : Int), D) φX, entC 47 cA cO CODES.Ok wt φC]) mixed2 funcs2 (tabOk_cons hT (tabOk_cons htt tabOk_nil)) loopsOk_nil ((xpr1_2 _ (goodA cA cO CODES.Ok) (valA cA cO CODES.Ok wt) C D rfl).trans ((congrArg (fun b => cond b _ _) hg).trans ((congrArg (fun b => cond b _ _) hgt).trans rfl)))
    exact ⟨_, hp.x 0, hc⟩
  · have hc := ct_loops (V := V2) (f := 13) (l := xA 1 C) (os := cO C) (n := 9) (d := 3) (L := []) (T := [entK 19 [.ref keyBase 0, .int .i64 8] [codO C] ((3 : Int), D) φX, entC 47 cA cO CODES.Ok wt φC]) mixed2 funcs2 (tabOk_cons hT (tabOk_cons htt tabOk_nil)) loopsOk_nil ((xpr1_3 _ (goodA cA cO CODES.Ok) (valA cA cO CODES.Ok wt) C D rfl).trans ((congrArg (fun b => cond b _ _) hg).trans ((congrArg (fun b => cond b _ _) hgt).trans rfl)))
    exact ⟨_, hp.x 0, hc⟩
  · have hc := ct_loops (V := V2) (f := 13) (l := xA 1 C) (os := cO C) (n := 9) (d := 3) (L := []) (T := [entK 19 [.ref keyBase 0, .int .i64 8] [codO C] ((4 : Int), D) φX, entC 47 cA cO CODES.Ok wt φC]) mixed2 funcs2 (tabOk_cons hT (tabOk_cons htt tabOk_nil)) loopsOk_nil ((xpr1_4 _ (goodA cA cO CODES.Ok) (valA cA cO CODES.Ok wt) C D).trans ((congrArg (fun b => cond b _ _) hg).trans rfl))
    exact ⟨(.mk 1 [] [] [] [], D), ⟨⟨true_ve, nul_ok 1⟩, h2⟩, tells_ct (a := exK 1 (.sl .fit 0 0 fun _ => [])) rfl tells_ex0 hc⟩
  · have hc := ct_loops (V := V2) (f := 13) (l := xA 1 C) (os := cO C) (n := 9) (d := 3) (L := []) (T := [entK 19 [.ref keyBase 0, .int .i64 8] [codO C] ((5 : Int), D) φX, entC 47 cA cO CODES.Ok wt φC]) mixed2 funcs2 (tabOk_cons hT (tabOk_cons htt tabOk_nil)) loopsOk_nil ((xpr1_5 _ (goodA cA cO CODES.Ok) (valA cA cO CODES.Ok wt) C D rfl).trans ((congrArg (fun b => cond b _ _) hg).trans ((congrArg (fun b => cond b _ _) hgt).trans rfl)))
    exact ⟨_, hp.x 0, hc⟩
  · have hc := ct_loops (V := V2) (f := 13) (l := xA 1 C) (os := cO C) (n := 9) (d := 3) (L := []) (T := [entK 19 [.ref keyBase 0, .int .i64 8] [codO C] ((6 : Int), D) φX, entC 47 cA cO CODES.Ok wt φC]) mixed2 funcs2 (tabOk_cons hT (tabOk_cons htt tabOk_nil)) loopsOk_nil ((xpr1_6 _ (goodA cA cO CODES.Ok) (valA cA cO CODES.Ok wt) C D rfl).trans ((congrArg (fun b => cond b _ _) hg).trans ((congrArg (fun b => cond b _ _) hgt).trans rfl)))
    exact ⟨_, hp.x 0, hc⟩
  · have hc := ct_loops (V := V2) (f := 13) (l := xA 1 C) (os := cO C) (n := 9) (d := 3) (L := []) (T := [entK 19 [.ref keyBase 0, .int .i64 8] [codO C] ((7 : Int), D) φX, entC 47 cA cO CODES.Ok wt φC]) mixed2 funcs2 (tabOk_cons hT (tabOk_cons htt tabOk_nil)) loopsOk_nil ((xpr1_7 _ (goodA cA cO CODES.Ok) (valA cA cO CODES.Ok wt) C D rfl).trans ((congrArg (fun b => cond b _ _) hg).trans ((congrArg (fun b => cond b _ _) hgt).trans rfl)))
    exact ⟨_, hp.x 0, hc⟩
variable {d : Nat} (hd : 1 ≤ d) (hd3 : d ≤ 3) {wx : CODES → EXP × CODES} (hwx : ∀ C, C.Ok → xPost (2 * d - 1) (wx C)) (htx : ∀ l os, (entC 13 (xA d) cO CODES.Ok wx φC).pre l os = true → Ct V2.P V2.G (entC 13 (xA d) cO CODES.Ok wx φC).f l os ((entC 13 (xA d) cO CODES.Ok wx φC).ans l os))
include hd hd3 hwx htx
theorem xpr_exS : ∃ x, xPost (2 * d + 1) x ∧ Ct V2.P V2.G 13 (xA ((d : Int) + 1) C) (cO C) (φC x) := by
  have hlv : IntKind.wrap .i64 ((d : Int) + 1 - 1) = (d : Int) := by rw [wrap_i64 (by omega) (by omega)]; omega
  obtain ⟨h0, h1, h2⟩ := nextR_ok hC (m := 8) (by omega)
  cases h8 : nextR C 8 with
  | mk r D =>
  rw [h8] at h0 h1 h2
  have h0 : 0 ≤ r := h0
  have h1 : r < 8 := h1
  have h2 : D.Ok := h2
  obtain ⟨p0, p1, p2⟩ := nextR_ok h2 (m := 2) (by omega)
  cases h4 : nextR D 2 with
  | mk u D2 =>
  rw [h4] at p0 p1 p2
  have p0 : 0 ≤ u := p0
  have p1 : u < 2 := p1
  have p2 : D2.Ok := p2
  obtain ⟨s0, s1, s2⟩ := nextR_ok p2 (m := 2) (by omega)
  cases h5 : nextR D2 2 with
  | mk n' D3 =>
  rw [h5] at s0 s1 s2
  have s0 : 0 ≤ n' := s0
  have s1 : n' < 2 := s1
  have s2 : D3.Ok := s2
  obtain ⟨n, hn⟩ : ∃ n : Nat, 2 + n' = (n : Int) := ⟨(2 + n').toNat, by omega⟩
  obtain ⟨w, hw, hl⟩ := expr_loop (2 + u) ((d : Int) + 1) n (2 * d - 1) (by omega) (by omega) (by omega) gN vN wx hwx [entC 47 cA cO CODES.Ok wt φC]
  rw [hlv] at hl
  have hc := fun r he => ct_loops (V := V2) (f := 13) (l := xA ((d : Int) + 1) C) (os := cO C) (r := r) (n := 9) (d := 3) (T := [entN, entC 13 (xA d) cO CODES.Ok wx φC, entC 47 cA cO CODES.Ok wt φC]) mixed2 funcs2 (tabOk_cons entN_ok (tabOk_cons htx (tabOk_cons htt tabOk_nil))) (loopsOk_cons (hl _) loopsOk_nil) he
  have hg8 : gN [.ref 1000000 0, .int .i64 8] [codO C] = true := gN_eq hC (by omega)
  have hgD : gN [.ref 1000000 0, .int .i64 2] [codO D] = true := gN_eq h2 (by omega)
  have hgD2 : gN [.ref 1000000 0, .int .i64 2] [codO D2] = true := gN_eq p2 (by omega)
  have hgt : goodA cA cO CODES.Ok [.ref 1000000 0] [codO D] = true := goodA_eq (A := cA) (O := cO) (v := D) h2
  have hp : tPost (valA cA cO CODES.Ok wt [.ref 1000000 0] [codO D]) := valA_post (A := cA) (O := cO) (a := D) (Post := fun (_ : CODES) (x : EXP × CODES) => tPost x) hwt (fun _ _ _ _ _ h => h) h2
  have hgx : goodA (xA d) cO CODES.Ok [.ref 1000000 0, .sl .fit 0 0 fun x => [], .int .i64 (d : Int)] [codO D] = true := xA_good h2
  have hpx : xPost (2 * d - 1) (valA (xA d) cO CODES.Ok wx [.ref 1000000 0, .sl .fit 0 0 fun x => [], .int .i64 (d : Int)] [codO D]) := xA_post hwx h2
  have w2 : IntKind.wrap .i64 (2 + u) = 2 + u := wrap_i64 (by omega) (by omega)
  have w3 : IntKind.wrap .i64 (2 + n') = (n : Int) := by rw [hn]; exact wrap_i64 (by omega) (by omega)
  have hz : goodS (xS (2 + u) ((d : Int) + 1) n) (xI (2 + u) (2 * d - 1) n) (XS0 (2 + u) ((d : Int) + 1) n D3) = true := goodS_eq (S := xS (2 + u) ((d : Int) + 1) n) (v := Sum.inl D3) s2
  have hzp : xZ (2 + u) (2 * d - 1) n (valS (xS (2 + u) ((d : Int) + 1) n) (xI (2 + u) (2 * d - 1) n) w (XS0 (2 + u) ((d : Int) + 1) n D3)) := valS_post (S := xS (2 + u) ((d : Int) + 1) n) (a := Sum.inl D3) (Post := fun (_ : XSt) (x : List KID × CODES) => xZ (2 + u) (2 * d - 1) n x) hw (fun _ _ _ _ h => h) s2
  have hlt : (bif decide ((d : Int) + 1 ≤ 1) then decide (r ≥ 4) else false) = false := by rw [decide_eq_false (by omega)]; rfl
  generalize hv : valS (xS (2 + u) ((d : Int) + 1) n) (xI (2 + u) (2 * d - 1) n) w (XS0 (2 + u) ((d : Int) + 1) n D3) = z at hzp
  generalize hy : valA (xA d) cO CODES.Ok wx [.ref 1000000 0, .sl .fit 0 0 fun x => [], .int .i64 (d : Int)] [codO D] = y at hpx
  generalize ht : valA cA cO CODES.Ok wt [.ref 1000000 0] [codO D] = t at hp
  have e := xpr_e gN (goodA (xA d) cO CODES.Ok) (goodA cA cO CODES.Ok) vN (valA (xA d) cO CODES.Ok wx) (valA cA cO CODES.Ok wt) (goodS (xS (2 + u) ((d : Int) + 1) n) (xI (2 + u) (2 * d - 1) n)) (valS (xS (2 + u) ((d : Int) + 1) n) (xI (2 + u) (2 * d - 1) n) w) (2 + u) ((d : Int) + 1) C (t1 := (r, D)) ((vN_eq hC (by omega)).trans h8) (t2 := t) ht (t3 := y) (by rw [hlv]; exact hy) (t4 := (u, D2)) ((vN_eq h2 (by omega)).trans h4) (t5 := (n', D3)) ((vN_eq p2 (by omega)).trans h5) (t6 := z) (by rw [show (2 : Int) + Prod.fst (u, D2) = 2 + u from rfl, show (2 : Int) + Prod.fst (n', D3) = 2 + n' from rfl, w2, w3]; exact hv)
  simp only [hlt, hg8, hgD, hgD2, hgt, hlv, hgx, w2, w3, hz, cond_true, cond_false] at e
  obtain ⟨z1, z2, z3⟩ := hzp
  have hpair : z.1.length = n → xPost (2 * d + 1) (pairX (2 + u) (z.1.map KID.e), z.2) := fun hzn => by
    refine ⟨⟨(VE.pair (l := 2 * d - 1 + 1) (by omega) (by rw [List.length_map]; omega) (by rw [List.length_map]; omega) (fun k hk => ?_) fun k hk => ?_).le (by omega), pair_ok (by rw [List.length_map]; omega) fun k hk => ?_⟩, z3⟩
    all_goals
      obtain ⟨q, hq, rfl⟩ := List.mem_map.1 hk
    · exact (z2 q hq).2.1
    · exact (z2 q hq).1
    · exact (z2 q hq).2.2
  have hr : r = 0 ∨ r = 1 ∨ r = 2 ∨ r = 3 ∨ r = 4 ∨ r = 5 ∨ r = 6 ∨ r = 7 := by omega
  rcases hr with rfl | rfl | rfl | rfl | rfl | rfl | rfl | rfl
  · exact ⟨(.mk 1 [] [] [] [], D), ⟨⟨true_ve.le (by omega), nul_ok 1⟩, h2⟩, tells_ct (a := exK 1 (.sl .fit 0 0 fun _ => [])) rfl tells_ex0 (hc _ (e.trans rfl))⟩
  · exact ⟨t, hp.x d, hc _ (e.trans rfl)⟩
  · exact ⟨t, hp.x d, hc _ (e.trans rfl)⟩
  · exact ⟨t, hp.x d, hc _ (e.trans rfl)⟩
  · exact ⟨(notX y.1, y.2), ⟨⟨hpx.1.1.not.le (by omega), notX_ok hpx.1.2⟩, hpx.2⟩, tells_ct (a := exK 4 (.sl .fit 5 1 (fillGet ex0 [(0, .agg (eC y.1))]))) rfl (tells_not y.1) (hc _ (e.trans rfl))⟩
  · exact ⟨(pairX (2 + u) (z.1.map KID.e), z.2), hpair z1, tells_ct (a := exK (2 + u) (.sl .no 5 z.1.length (getX z.1))) rfl (tells_pair (2 + u) z.1) (hc _ (e.trans rfl))⟩
  · exact ⟨(pairX (2 + u) (z.1.map KID.e), z.2), hpair z1, tells_ct (a := exK (2 + u) (.sl .no 5 z.1.length (getX z.1))) rfl (tells_pair (2 + u) z.1) (hc _ (e.trans rfl))⟩
  · exact ⟨t, hp.x d, hc _ (e.trans rfl)⟩
end
/-- Expr with no segments. -/
theorem xpr_ex : ∀ d : Nat, d ≤ 3 → ∀ C : CODES, C.Ok → ∃ x, xPost (2 * d + 1) x ∧ Ct V2.P V2.G 13 (xA ((d : Int) + 1) C) (cO C) (φC x)
  | 0, _, C, hC => by
    obtain ⟨wt, hwt, htt⟩ := ent_ex (V := V2) (f := 47) (A := cA) (O := cO) (Pre := CODES.Ok) (φ := φC) (Post := fun (_ : CODES) (x : EXP × CODES) => tPost x) testC_ex
    exact xpr_ex1 hC hwt htt
  | d + 1, hd, C, hC => by
    obtain ⟨wt, hwt, htt⟩ := ent_ex (V := V2) (f := 47) (A := cA) (O := cO) (Pre := CODES.Ok) (φ := φC) (Post := fun (_ : CODES) (x : EXP × CODES) => tPost x) testC_ex
    obtain ⟨wx, hwx, htx⟩ := ent_ex (V := V2) (f := 13) (A := xA ((d : Int) + 1)) (O := cO) (Pre := CODES.Ok) (φ := φC) (Post := fun (_ : CODES) (x : EXP × CODES) => xPost (2 * d + 1) x) (xpr_ex d (by omega))
    exact xpr_exS hC hwt htt (d := d + 1) (by omega) hd (wx := wx) hwx htx
end Go.SH

namespace Go.SH
open Go Go.Ab Go.Proofs
set_option linter.unusedVariables false
set_option linter.unusedSimpArgs false
def B1 (p : PART) (n i : Nat) : St := { env := [(1, .int .i64 n), (10, kidsA p), (11, .int .i64 p.n), (12, .int .i64 i)], objs := [] }
def B2 (p : PART) (n i : Nat) : St := { env := [(1, .ref 1 0), (3, .int .i64 n), (4, .int .i64 i)], objs := [(1, .cells p.c)] }
def outB1 (x : Nat) (k : Ex → St → Res) : Res := k (.exit 0) { env := [(1, .int .i64 x)], objs := [] }
def outB2 (x : Nat) (k : Ex → St → Res) : Res := k (.exit 0) { env := [(3, .int .i64 x)], objs := [] }
def φK (x : Nat) : AV × List AO := (.int .i64 x, [])
set_option maxRecDepth 100000 in
theorem count_r (ge : List AV → List AO → Bool) (ve : List AV → List AO → Nat) (L : List (List Nat × Orc)) (m : Nat) (p : PART) (n i : Nat) (kn : St → Res) (k : Ex → St → Res) {t1 : Nat} (h_t1 : ve [.agg (kidC p (Int.toNat (↑i : Int))), .int .i64 (↑n : Int)] [] = t1) : roundR (V2.run [mkE 105 ge ve φK] 3 [] L [] 105) 105 m [1, 1, 0, 1, 0] (B1 p n i) kn k =
  cond (decide ((↑i : Int) < (↑(PART.n p) : Int))) (cond (within (↑i : Int) (PART.n p)) (cond (decide ((↑n : Int) > 60)) (k (.exit 0) ({ env := [(1, .int .i64 (↑n : Int))], objs := [] })) (cond (ge [.agg (kidC p (Int.toNat (↑i : Int))), .int .i64 (↑n : Int)] []) (kn ({ env := [(1, .int .i64 (↑t1 : Int)), (10, kidsA p), (11, .int .i64 (↑(PART.n p) : Int)), (12, .int .i64 (IntKind.wrap IntKind.i64 ((↑i : Int) + 1)))], objs := [] })) (none))) (none)) (k (.exit 0) ({ env := [(1, .int .i64 (↑n : Int))], objs := [] })) := by subst h_t1; kernel_rfl
set_option maxRecDepth 100000 in
theorem count_m (ge : List AV → List AO → Bool) (ve : List AV → List AO → Nat) (g : St → Bool) (v : St → Nat) (p : PART) (n : Nat) {t1 : Nat} (h_t1 : v { env := [(1, .int .i64 (IntKind.wrap IntKind.i64 ((↑n : Int) + 1))), (10, kidsA p), (11, .int .i64 (↑(PART.n p) : Int)), (12, .int .i64 0)], objs := [] } = t1) : runF (V2.run [mkE 105 ge ve φK] 3 [] [([1, 1, 0, 1, 0], mkO g v outB1)] [] 105) 9 105 [.agg p.c, .int .i64 n] [] =
  cond (g { env := [(1, .int .i64 (IntKind.wrap IntKind.i64 ((↑n : Int) + 1))), (10, kidsA p), (11, .int .i64 (↑(PART.n p) : Int)), (12, .int .i64 0)], objs := [] }) (some ((.int .i64 (↑t1 : Int), []))) (none) := by subst h_t1; kernel_rfl
set_option maxRecDepth 100000 in
theorem parts_m (ge : List AV → List AO → Bool) (ve : List AV → List AO → Nat) (p : PART) {t1 : Nat} (h_t1 : ve [.agg (PART.c p), .int .i64 0] [] = t1) : runF (V2.run [mkE 105 ge ve φK] 3 [] [] [] 48) 9 48 [.agg p.c] [] =
  cond (ge [.agg (PART.c p), .int .i64 0] []) (some ((.int .i64 (↑t1 : Int), []))) (none) := by subst h_t1; kernel_rfl
set_option maxRecDepth 100000 in
theorem psum_r (ge : List AV → List AO → Bool) (ve : List AV → List AO → Nat) (L : List (List Nat × Orc)) (m : Nat) (p : PART) (n i : Nat) (kn : St → Res) (k : Ex → St → Res) {t1 : Nat} (h_t1 : ve [.agg (kidC p (Int.toNat (↑i : Int)))] [] = t1) : roundR (V2.run [mkE 49 ge ve φK] 3 [] L [] 49) 49 m [1, 1, 0, 1, 0] (B2 p n i) kn k =
  cond (bif decide ((↑i : Int) < (↑(PART.n p) : Int)) then decide ((↑n : Int) ≤ 60) else false) (cond (within (↑i : Int) (PART.n p)) (cond (ge [.agg (kidC p (Int.toNat (↑i : Int)))] []) (kn ({ env := [(1, .ref 1 0), (3, .int .i64 (IntKind.wrap IntKind.i64 ((↑n : Int) + (↑t1 : Int)))), (4, .int .i64 (IntKind.wrap IntKind.i64 ((↑i : Int) + 1)))], objs := [(1, .cells (PART.c p))] })) (none)) (none)) (k (.exit 0) ({ env := [(3, .int .i64 (↑n : Int))], objs := [] })) := by subst h_t1; kernel_rfl
set_option maxRecDepth 100000 in
theorem psum_m (ge : List AV → List AO → Bool) (ve : List AV → List AO → Nat) (g : St → Bool) (v : St → Nat) (p : PART) {t1 : Nat} (h_t1 : v (B2 p 1 0) = t1) : runF (V2.run [mkE 49 ge ve φK] 3 [] [([1, 1, 0, 1, 0], mkO g v outB2)] [] 49) 9 49 [.agg p.c] [] =
  cond (g (B2 p 1 0)) (some ((.int .i64 (bif decide (61 < (↑t1 : Int)) then 61 else (↑t1 : Int)), []))) (none) := by subst h_t1; kernel_rfl
end Go.SH

namespace Go.SH
open Go Go.Ab Go.Proofs
set_option linter.unusedVariables false
set_option linter.unusedSimpArgs false
def countI (l : List EXP) (i n : Nat) : Nat := countL (l.drop i) n
theorem countI_end (l : List EXP) (n : Nat) {i : Nat} (h : ¬ i < l.length) : countI l i n = n := by
  unfold countI
  rw [List.drop_eq_nil_of_le (by omega), countL]
theorem countI_step (l : List EXP) (n : Nat) {i : Nat} (h : i < l.length) : countI l i n = bif decide (n > 60) then n else countI l (i + 1) (countE (l.getD i default) n) := by
  unfold countI
  rw [List.drop_eq_getElem_cons h, countL]
  simp only [List.getD, List.getElem?_eq_getElem h, Option.getD_some]
def rsumI (l : List EXP) (i n : Nat) : Nat := rsumL (l.drop i) n
theorem rsumI_end (l : List EXP) (n : Nat) {i : Nat} (h : ¬ i < l.length) : rsumI l i n = n := by
  unfold rsumI
  rw [List.drop_eq_nil_of_le (by omega), rsumL]
theorem rsumI_step (l : List EXP) (n : Nat) {i : Nat} (h : i < l.length) : rsumI l i n = bif decide (n ≤ 60) then rsumI l (i + 1) (n + rpartsE (l.getD i default)) else n := by
  unfold rsumI
  rw [List.drop_eq_getElem_cons h, rsumL]
  simp only [List.getD, List.getElem?_eq_getElem h, Option.getD_some]
theorem rparts_le (e : EXP) : rpartsE e ≤ 61 := by rw [rparts_min]; omega
theorem count_le {e : EXP} {n : Nat} (h : n ≤ 60) : countE e n ≤ 61 := by rw [count_min e n h]; omega
def kA (x : EXP × Nat) : List AV := [.agg x.1.c, .int .i64 x.2]
def kW (x : EXP × Nat) : Nat := countE x.1 x.2
theorem kInj (a b : EXP × Nat) (h : kA a = kA b) : kW a = kW b := by
  obtain ⟨e, n⟩ := a
  obtain ⟨e', n'⟩ := b
  simp only [kA, List.cons.injEq, AV.agg.injEq, AV.int.injEq, true_and, and_true] at h
  have h1 := EXP.c_inj _ _ h.1
  have h2 : n = n' := by omega
  subst h1 h2; rfl
def kP (e : EXP) (x : EXP × Nat) : Prop := x.1 ∈ e.kids ∧ x.2 ≤ 60
theorem gK1 {P : EXP × Nat → Prop} {k : EXP} {n : Nat} (h : P (k, n)) : gF kA P [.agg k.c, .int .i64 n] [] = true := gF_eq (A := kA) (a := (k, n)) h
theorem vK1 {P : EXP × Nat → Prop} {k : EXP} {n : Nat} (h : P (k, n)) : vF kA P kW [.agg k.c, .int .i64 n] [] = countE k n := vF_eq (A := kA) (a := (k, n)) kInj h
theorem B1_inj (e : EXP) (a b : Nat × Nat) (h : B1 e.part a.2 a.1 = B1 e.part b.2 b.1) : countI e.kids a.1 a.2 = countI e.kids b.1 b.2 := by
  simp only [B1, St.mk.injEq, List.cons.injEq, Prod.mk.injEq, AV.int.injEq, and_true, true_and] at h
  rw [show a.1 = b.1 by omega, show a.2 = b.2 by omega]
theorem B2_inj (e : EXP) (a b : Nat × Nat) (h : B2 e.part a.2 a.1 = B2 e.part b.2 b.1) : rsumI e.kids a.1 a.2 = rsumI e.kids b.1 b.2 := by
  simp only [B2, St.mk.injEq, List.cons.injEq, Prod.mk.injEq, AV.int.injEq, and_true, true_and] at h
  rw [show a.1 = b.1 by omega, show a.2 = b.2 by omega]
theorem count_ok : ∀ e : EXP, e.Ok → ∀ n : Nat, n ≤ 60 → Ct V2.P V2.G 105 [.agg e.c, .int .i64 n] [] (φK (countE e n)) := by
  intro e he
  induction he with
  | mk e h1 h2 h3 h4 h5 ih =>
  intro n0 hn0
  have hl := fun L => loopOk_of (X := V2.run [mkE 105 (gF kA (kP e)) (vF kA (kP e) kW) φK] 3 [] L [] 105) (f := 105) (p := [1, 1, 0, 1, 0]) (b := subC (bodyOf V2.P 105) ([1, 1, 0, 1, 0] ++ [0]))
    (fun x : Nat × Nat => B1 e.part x.2 x.1) (fun x => x.1 ≤ e.kids.length ∧ x.2 ≤ 61) (fun x => e.kids.length - x.1) (fun x => countI e.kids x.1 x.2) outB1 (by kernel_rfl) 9 (fun x hx k kn hk => by
      obtain ⟨i, n⟩ := x
      obtain ⟨hx1, hx2⟩ := hx
      show roundR _ _ _ _ (B1 e.part n i) kn k = outB1 (countI e.kids i n) k
      by_cases h : i < e.kids.length
      · rw [countI_step _ _ h]
        by_cases h60 : n > 60
        · refine (count_r _ _ L _ e.part n i kn k rfl).trans ?_
          rw [show e.part.n = e.kids.length from rfl, lt_true h, within_lt h, decide_eq_true (show (n : Int) > 60 by omega), decide_eq_true h60]; rfl
        · have hm : kP e (e.kid i, n) := ⟨kid_mem h, by show n ≤ 60; omega⟩
          refine (count_r _ _ L _ e.part n i kn k (t1 := countE (e.kid i) n) (by rw [Int.toNat_natCast, kidC_eq h]; exact vK1 hm)).trans ?_
          rw [show e.part.n = e.kids.length from rfl, lt_true h, within_lt h, decide_eq_false (show ¬ (n : Int) > 60 by omega), decide_eq_false h60, Int.toNat_natCast, kidC_eq h, gK1 hm, wrap_next h (by omega)]
          exact hk (i + 1, countE (e.kid i) n) ⟨by show i + 1 ≤ _; omega, count_le (by omega)⟩ (by show e.kids.length - (i + 1) < e.kids.length - i; omega)
      · refine (count_r _ _ L _ e.part n i kn k rfl).trans ?_
        rw [show e.part.n = e.kids.length from rfl, lt_false h, countI_end _ _ h]; rfl)
  have hv : valS (fun x : Nat × Nat => B1 e.part x.2 x.1) (fun x => x.1 ≤ e.kids.length ∧ x.2 ≤ 61) (fun x => countI e.kids x.1 x.2) (B1 e.part (n0 + 1) 0) = countI e.kids 0 (n0 + 1) := valS_eq (S := fun x : Nat × Nat => B1 e.part x.2 x.1) (v := (0, n0 + 1)) (fun a b _ _ h => B1_inj e a b h) ⟨Nat.zero_le _, by show n0 + 1 ≤ 61; omega⟩
  have hg : goodS (fun x : Nat × Nat => B1 e.part x.2 x.1) (fun x => x.1 ≤ e.kids.length ∧ x.2 ≤ 61) (B1 e.part (n0 + 1) 0) = true := goodS_eq (S := fun x : Nat × Nat => B1 e.part x.2 x.1) (v := (0, n0 + 1)) ⟨Nat.zero_le _, by show n0 + 1 ≤ 61; omega⟩
  refine ct_loops (V := V2) (n := 9) (d := 3) (T := [entF 105 kA (kP e) kW φK]) mixed2 funcs2 (tabOk_cons (entF_ok fun x hx => ih x.1 hx.1 x.2 hx.2) tabOk_nil) (loopsOk_cons (hl _) loopsOk_nil) ?_
  rw [← e.part_eq]
  have w1 : IntKind.wrap .i64 ((n0 : Int) + 1) = ((n0 + 1 : Nat) : Int) := wrap_small (by omega)
  refine (count_m _ _ _ _ e.part n0 (t1 := countI e.kids 0 (n0 + 1)) (by rw [w1]; exact hv)).trans ?_
  rw [w1]
  refine (congrArg (fun b => cond b _ _) hg).trans ?_
  rw [countE_eq]; rfl
theorem cparts_ok (e : EXP) (h : e.Ok) : Ct V2.P V2.G 48 [.agg e.c] [] (φK (countE e 0)) := by
  refine ct_loops (V := V2) (n := 9) (d := 3) (L := []) (T := [entF 105 kA (fun x => x = (e, 0)) kW φK]) mixed2 funcs2 (tabOk_cons (entF_ok fun x hx => by subst hx; exact count_ok e h 0 (by omega)) tabOk_nil) loopsOk_nil ?_
  rw [← e.part_eq]
  refine (parts_m _ _ e.part (t1 := countE e 0) (by rw [e.part_eq]; exact vK1 (P := fun x => x = (e, 0)) rfl)).trans ?_
  rw [e.part_eq]
  exact (congrArg (fun b => cond b _ _) (gK1 (P := fun x => x = (e, 0)) (k := e) (n := 0) rfl)).trans rfl
theorem rsum_ok : ∀ e : EXP, e.Ok → Ct V2.P V2.G 49 [.agg e.c] [] (φK (rpartsE e)) := by
  intro e he
  induction he with
  | mk e h1 h2 h3 h4 h5 ih =>
  have hl := fun L => loopOk_of (X := V2.run [mkE 49 (gF expA (· ∈ e.kids)) (vF expA (· ∈ e.kids) rpartsE) φK] 3 [] L [] 49) (f := 49) (p := [1, 1, 0, 1, 0]) (b := subC (bodyOf V2.P 49) ([1, 1, 0, 1, 0] ++ [0]))
    (fun x : Nat × Nat => B2 e.part x.2 x.1) (fun x => x.1 ≤ e.kids.length ∧ x.2 ≤ 121) (fun x => e.kids.length - x.1) (fun x => rsumI e.kids x.1 x.2) outB2 (by kernel_rfl) 9 (fun x hx k kn hk => by
      obtain ⟨i, n⟩ := x
      obtain ⟨hx1, hx2⟩ := hx
      show roundR _ _ _ _ (B2 e.part n i) kn k = outB2 (rsumI e.kids i n) k
      by_cases h : i < e.kids.length
      · rw [rsumI_step _ _ h]
        by_cases h60 : n ≤ 60
        · have hm := kid_mem h
          refine (psum_r _ _ L _ e.part n i kn k (t1 := rpartsE (e.kid i)) (by rw [Int.toNat_natCast, kidC_eq h]; exact vF_eq (A := expA) (expA_inj rpartsE) hm)).trans ?_
          have hle := rparts_le (e.kid i)
          have w2 : IntKind.wrap .i64 ((n : Int) + (rpartsE (e.kid i) : Int)) = ((n + rpartsE (e.kid i) : Nat) : Int) := by rw [wrap_i64 (by omega) (by omega)]; rfl
          rw [show e.part.n = e.kids.length from rfl, lt_true h, within_lt h, decide_eq_true (show (n : Int) ≤ 60 by omega), decide_eq_true h60, Int.toNat_natCast, kidC_eq h, show gF expA (· ∈ e.kids) [.agg (e.kid i).c] [] = true from gF_eq (A := expA) hm, wrap_next h (by omega), w2]
          exact hk (i + 1, n + rpartsE (e.kid i)) ⟨by show i + 1 ≤ _; omega, by show n + rpartsE (e.kid i) ≤ 121; omega⟩ (by show e.kids.length - (i + 1) < e.kids.length - i; omega)
        · refine (psum_r _ _ L _ e.part n i kn k rfl).trans ?_
          rw [show e.part.n = e.kids.length from rfl, lt_true h, decide_eq_false (show ¬ (n : Int) ≤ 60 by omega), decide_eq_false h60]; rfl
      · refine (psum_r _ _ L _ e.part n i kn k rfl).trans ?_
        rw [show e.part.n = e.kids.length from rfl, lt_false h, rsumI_end _ _ h]; rfl)
  have hv : valS (fun x : Nat × Nat => B2 e.part x.2 x.1) (fun x => x.1 ≤ e.kids.length ∧ x.2 ≤ 121) (fun x => rsumI e.kids x.1 x.2) (B2 e.part 1 0) = rsumI e.kids 0 1 := valS_eq (S := fun x : Nat × Nat => B2 e.part x.2 x.1) (v := (0, 1)) (fun a b _ _ h => B2_inj e a b h) ⟨Nat.zero_le _, by show 1 ≤ 121; omega⟩
  have hg : goodS (fun x : Nat × Nat => B2 e.part x.2 x.1) (fun x => x.1 ≤ e.kids.length ∧ x.2 ≤ 121) (B2 e.part 1 0) = true := goodS_eq (S := fun x : Nat × Nat => B2 e.part x.2 x.1) (v := (0, 1)) ⟨Nat.zero_le _, by show 1 ≤ 121; omega⟩
  refine ct_loops (V := V2) (n := 9) (d := 3) (T := [entF 49 expA (· ∈ e.kids) rpartsE φK]) mixed2 funcs2 (tabOk_cons (entF_ok fun k hk => ih k hk) tabOk_nil) (loopsOk_cons (hl _) loopsOk_nil) ?_
  rw [← e.part_eq]
  refine (psum_m _ _ _ _ e.part (t1 := rsumI e.kids 0 1) hv).trans ?_
  refine (congrArg (fun b => cond b _ _) hg).trans ?_
  rw [rpartsE_eq]
  show some (AV.int .i64 (bif decide (61 < (((rsumL e.kids 1 : Nat)) : Int)) then 61 else ((rsumL e.kids 1 : Nat) : Int)), []) = some (AV.int .i64 ((min (rsumL e.kids 1) 61 : Nat) : Int), [])
  by_cases h : rsumL e.kids 1 ≤ 61
  · rw [decide_eq_false (by omega), show min (rsumL e.kids 1) 61 = rsumL e.kids 1 by omega]; rfl
  · rw [decide_eq_true (by omega), show min (rsumL e.kids 1) 61 = 61 by omega]; rfl
/-- Both count alike. -/
theorem parts_same (e : EXP) : countE e 0 = rpartsE e := by rw [count_min e 0 (by omega), rparts_min]; omega
end Go.SH

namespace Go.SH
open Go Go.Ab Go.Proofs
set_option linter.unusedVariables false
set_option linter.unusedSimpArgs false
/-- The kid of the wide condition. -/
def wideK (e : EXP) : EXP := (kidOf 3 e).e
def allX (e : EXP) (w : Nat) : EXP := pairX 3 (List.replicate w (wideK e))
theorem wideK_ok {e : EXP} {q : Nat} (h : VE q e) (h' : e.Ok) (C : CODES) (hC : C.Ok) : VE (q + 1) (wideK e) ∧ (wideK e).op ≠ 3 ∧ (wideK e).Ok := kidOf_ok (op := 3) (x := (e, C)) (.inr rfl) ⟨⟨h, h'⟩, hC⟩
theorem all_law {e : EXP} {w : Nat} (hv : VE 8 (wideK e)) (ho : (wideK e).op ≠ 3) (h2 : 2 ≤ w) (h13 : w ≤ 13) : (exprE (allX e w) == 0) = (decide (w ≤ 12) && decide (countE (allX e w) 0 ≤ 60)) := by
  have hl : (List.replicate w (wideK e)).length = w := List.length_replicate ..
  by_cases h : w ≤ 12
  · have hp : VE 9 (allX e w) := VE.pair (.inr rfl) (by rw [hl]; exact h2) (by rw [hl]; exact h) (fun k hk => by rw [(List.mem_replicate.1 hk).2]; exact ho) fun k hk => by rw [(List.mem_replicate.1 hk).2]; exact hv
    rw [expr_good hp (by omega), decide_eq_true h, Bool.true_and, count_min _ 0 (by omega)]
    by_cases hs : (allX e w).size ≤ 60
    · rw [decide_eq_true hs, decide_eq_true (by omega)]
    · rw [decide_eq_false hs, decide_eq_false (by omega)]
  · have hp : partE (allX e w).part = 5 := part_wide (.inr rfl) (by rw [hl]; omega)
    have hlv : levelE (allX e w) 0 = 5 := by unfold levelE; rw [decide_eq_false (by omega)]; exact hp
    rw [decide_eq_false h, Bool.false_and]
    unfold exprE
    rw [walkE_eq, decide_eq_false (by omega), hlv]; rfl
theorem nest_law {t : EXP} {d : Nat} (ht : testOk t) (hd : d ≤ 11) : (exprE (notN d t) == 0) = decide (d < 10) := by
  by_cases h : d < 10
  · have hs : t.size = 1 := by rw [t.size_eq, ht.2.1, sizeL]
    rw [expr_good (notN_good ht.ve d) (by omega), notN_size, hs, decide_eq_true (show d + 1 ≤ 60 by omega), decide_eq_true h]
  · have := notN_deep t d 0 0 (by omega) (by omega)
    unfold exprE
    rw [this, decide_eq_false h]; rfl
theorem notN_ok {t : EXP} (h : t.Ok) : ∀ d, (notN d t).Ok
  | 0 => h
  | d + 1 => notX_ok (notN_ok h d)
theorem all_ok {e : EXP} {w : Nat} (h13 : w ≤ 13) (h : (wideK e).Ok) : (allX e w).Ok := .mk _ (by show 0 ≤ maxS; unfold maxS; omega) (by show 0 ≤ maxS; unfold maxS; omega) ⟨by show 0 ≤ _; omega, by intro v hv; cases hv⟩ (by show (List.replicate w (wideK e)).length ≤ _; rw [List.length_replicate]; omega) fun k hk => by
  have hk : k ∈ List.replicate w (wideK e) := hk
  rw [(List.mem_replicate.1 hk).2]; exact h
/-- The wide condition, as its loop builds it. -/
theorem all_kids (e : EXP) (w : Nat) : (List.replicate w (kidOf 3 e)).map KID.e = List.replicate w (wideK e) := by rw [List.map_replicate]; rfl
theorem tells_all (e : EXP) (w : Nat) {o : Own} : Tells (exK 3 (.sl o 5 w (getX (List.replicate w (kidOf 3 e))))) (eC (allX e w)) := by
  have h := tells_pair 3 (List.replicate w (kidOf 3 e)) (o := o)
  rw [List.length_replicate, all_kids] at h
  exact h
end Go.SH

namespace Go.Ab
open Go Go.RowKit
/-- What such a function hands back: the pointer, the object behind it. -/
def finishN (X : Cfg) (fn : Func) (s : St) : Option (AV × List AO) :=
  match resultL X s fn.results.toList with
  | some [.ref k off] => (match alook s.objs k with
    | some o => cond (isNil o.keys) (some (.ref keyBase off, [o.ren fun _ => keyBase])) none
    | none => none)
  | _ => none
def runFN (X : Cfg) (n : Nat) (f : FuncId) (args : List AV) : Option (AV × List AO) :=
  match X.P.funcs[f]? with
  | some fn => (match fn.body with
    | some c => runC X f n c [] { env := enterEnv args 0, objs := enterObjs [] keyBase } fun e s =>
        (match e with
        | .exit _ => none
        | _ => finishN X fn s)
    | none => none)
  | none => none
theorem runFN_sound {X : Cfg} (hX : CallsOk X) (hm : X.P.follows .mixedOrders = true) {f : FuncId} (hO : OracOk X f) {fn : Func} (hf : X.P.funcs[f]? = some fn) (hok : ∀ c, fn.body = some c → codeOk fn.ntmps c = true) {n : Nat} {args : List AV}
    {r : AV} {os' : List AO} (he : runFN X n f args = some (r, os')) : CallOk X.P X.G f args [] r os' := by
  unfold runFN at he
  rw [hf] at he
  dsimp only at he
  cases hbody : fn.body with
  | none => simp [hbody] at he
  | some code =>
    simp only [hbody] at he
    have hcode := hok code hbody
    intro c0 vs hgood hobjs hsz hrep hkeys
    let a0 : Act := { tmps := vs ++ Array.replicate (fn.ntmps - vs.size) undef, defers := [] }
    let B : Base := { c0 := c0, D := held c0 (enterObjs [] keyBase), K := live (enterObjs [] keyBase), G := X.G, N := a0.tmps.size }
    let s0 : St := { env := enterEnv args 0, objs := enterObjs [] keyBase }
    have hN : fn.ntmps ≤ B.N := by simp [B, a0]; omega
    have hcode' : codeOk B.N code = true := codeOk_mono hN hcode
    have hget : ∀ t v, s0.get t = some v → args[t]? = some v := fun t v hv => by
      have : alook (enterEnv args 0) t = some v := hv
      rw [alook_enterEnv, if_pos (Nat.zero_le _)] at this; simpa using this
    have hval : ∀ t v, args[t]? = some v → Rep c0 v (a0.tmps.getD t undef) := fun t v hv => by
      have hlt : t < vs.size := by rw [hsz]; exact (List.getElem?_eq_some_iff.1 hv).1
      have e : a0.tmps.getD t undef = vs.getD t undef := by
        simp only [a0, Array.getD_eq_getD_getElem?]
        rw [Array.getElem?_append_left hlt]
      rw [e]; exact hrep t v hv
    have hplain : ∀ t v, s0.get t = some v → v.isGrd = false := fun t v hv => by
      have := hval t v (hget t v hv)
      generalize a0.tmps.getD t undef = V at this
      cases this <;> rfl
    have h0 : Rel B c0 s0 a0 := by
      refine ⟨hgood, ⟨rfl, rfl, rfl, Nat.le_refl _, fun _ _ _ => rfl, Ext.refl _ _, fun _ _ _ _ hi => hi⟩, hobjs, fun t v hv => EnvRep.of_rep (hplain t v hv) (hval t v (hget t v hv)),
        fun t v hv k hk => hkeys k (keys_mem_of (hget t v hv) k hk), fun k o b ho hb => .inr ⟨k, o, ho, hb⟩, rfl, rfl, fun k hk => hk⟩
    refine calls_of_wp hf hbody ?_
    refine runC_sound (B := B) hX rfl hm (fun k hk => (live_enter hk).1) f hO code [] (by simp [bodyOf, subC, hf, hbody]) hcode' n s0 c0 a0 _ (r, os') _ he h0 hplain fun ex s' c' a' hex hr' hn' => ?_
    have hfin : finishN X fn s' = some (r, os') → a'.defers = [] ∧ ∃ v, (results fn a'.tmps).run X.P c'.w = .ok v c'.w ∧ ∃ c2 x, Ending.returned v = .returned x ∧ c2.w = c'.w ∧ Good X.G c2 ∧
      Frame { c0 := c0, D := held c0 (enterObjs [] keyBase), K := live (enterObjs [] keyBase), G := X.G, N := 0 } c2 ∧
      Objs c2 (enterObjs os' keyBase) ∧ Rep c2 r x ∧ (∀ k ∈ r.keys, live (enterObjs os' keyBase) k) ∧
      ∀ k o b, alook (enterObjs os' keyBase) k = some o → excl c2 k o = some b → c0.w.heap.size ≤ b ∨ held c0 (enterObjs [] keyBase) b := by
      intro hfin
      refine ⟨hr'.defers, ?_⟩
      unfold finishN at hfin
      cases h1 : resultL X s' fn.results.toList with
      | none => simp [h1] at hfin
      | some rs =>
      rw [h1] at hfin
      split at hfin
      · rename_i k off hrs
        simp only [Option.some.injEq] at hrs
        subst hrs
        cases ho : alook s'.objs k with
        | none => simp [ho] at hfin
        | some o =>
        simp only [ho] at hfin
        obtain ⟨hb, hfin⟩ := cond_none hfin
        simp only [Option.some.injEq, Prod.mk.injEq] at hfin
        obtain ⟨rfl, rfl⟩ := hfin
        have hnil : o.keys = [] := by cases hk : o.keys with | nil => rfl | cons q l => simp [hk, isNil] at hb
        obtain ⟨xs, hs, hrun⟩ := resultL_sound X hr' hn' h1
        have hl : xs.length = 1 := by rw [hs.1]; rfl
        obtain ⟨x, rfl⟩ := List.length_eq_one_iff.1 hl
        have hx : Rep c' (.ref k off) x := (hs.2 0 (.ref k off) rfl).rep
        have hm' : (fn.results.mapM (m := Sem) (resF a'.tmps)).run X.P c'.w = .ok [x].toArray c'.w := by
          rw [Array.mapM_eq_mapM_toList]
          simp only [Sem.run_map]
          rw [hrun]; rfl
        have hres : (results fn a'.tmps).run X.P c'.w = .ok x c'.w := by
          rw [results_eq]
          simp only [Sem.run_bind, hm', Result.andThen_ok]
          rfl
        let c2 : Cx := { w := c'.w, I := c'.I, β := fun _ => c'.β k, κ := fun _ => c'.κ k, fr := fun _ => c'.fr k }
        have hone : ∀ q o', alook (enterObjs [o.ren fun _ => keyBase] keyBase) q = some o' → q = keyBase ∧ o' = o.ren fun _ => keyBase := by
          intro q o' h
          simp only [enterObjs, alook] at h
          cases hq : Nat.beq keyBase q with
          | true => rw [hq] at h; simp at h; exact ⟨(beqT hq).symm, h.symm⟩
          | false => rw [hq] at h; simp at h
        have hlive : live (enterObjs [o.ren fun _ => keyBase] keyBase) keyBase := ⟨_, rfl⟩
        have hno : ∀ q, ¬ live (enterObjs [] keyBase) q := by rintro q ⟨o', h⟩; cases h
        refine ⟨x, hres, c2, x, rfl, rfl, ⟨hr'.good.there, fun g cs hg => (hr'.good.globs g cs hg).ext (ks := fun _ => False) ⟨fun _ _ _ _ hv => hv, fun _ _ hi => hi, fun _ hk => hk.elim, fun _ hk => hk.elim⟩ (by simp [AV.keys])⟩,
          ⟨hr'.frame.os, hr'.frame.output, hr'.frame.tape, hr'.frame.size, hr'.frame.block, ⟨hr'.frame.ext.cell, hr'.frame.ext.I, fun q hq => absurd hq (hno q), fun q hq => absurd hq (hno q)⟩, hr'.frame.new⟩,
          ⟨fun q o' h => ?_, fun q o1 q' o2 b h h' hne => ?_, fun q o' h p hp => ?_⟩, ?_, fun q hq => ?_, fun q o' b h hb' => ?_⟩
        · obtain ⟨rfl, rfl⟩ := hone q o' h
          exact (hr'.objs.rep k o ho).ren rfl rfl rfl rfl rfl fun q hq => by rw [hnil] at hq; cases hq
        · obtain ⟨e1, _⟩ := hone q o1 h
          obtain ⟨e2, _⟩ := hone q' o2 h'
          exact absurd (e1.trans e2.symm) hne
        · obtain ⟨rfl, rfl⟩ := hone q o' h
          obtain ⟨q', hq', _⟩ := AO.ren_keys _ _ p hp
          rw [hnil] at hq'; cases hq'
        · exact Rep.ren (c := c') (c' := c2) (m := fun _ => keyBase) (fun _ _ _ _ hv => hv) (fun _ _ hi => hi) hx fun q hq => by
            have : q = k := by simpa [AV.keys] using hq
            subst this; exact ⟨rfl, fun _ _ h => h⟩
        · have : q = keyBase := by simpa [AV.keys] using hq
          subst this; exact hlive
        · obtain ⟨rfl, rfl⟩ := hone q o' h
          rw [show excl c2 keyBase (o.ren fun _ => keyBase) = excl c' k o from excl_ren rfl rfl] at hb'
          exact hr'.mine k o b ho hb'
      · cases hfin
    cases ex with
    | exit id => simp at hex
    | nor => exact hfin hex
    | ret => exact hfin hex
/-- Its contract, by a run without loops. -/
theorem ct_new {V : Env} {T : List Ent} {d : Nat} {f : FuncId} {n : Nat} {l : List AV} {r : AV × List AO} (hm : V.P.follows .mixedOrders = true) (hP : FuncsOk V.P) (hT : TabOk V T)
    (he : runFN (V.run T d [] [] [] f) n f l = some r) : Ct V.P V.G f l [] r := by
  have hO : OracOk (V.run T d [] [] [] f) f := by
    refine ⟨fun p g hg => ?_, fun p g hg => ?_, fun p g hg => ?_⟩
    all_goals
      simp only [Env.run, Nat.beq_refl, cond_true] at hg
      exact absurd (orGet_mem hg) (List.not_mem_nil)
  have hh := he
  unfold runFN at hh
  cases hf : (V.run T d [] [] [] f).P.funcs[f]? with
  | none => simp only [hf] at hh; cases hh
  | some fn =>
    have hf' : V.P.funcs[f]? = some fn := hf
    obtain ⟨h1, h2⟩ := hP f fn hf'
    refine ⟨runFN_sound (X := V.run T d [] [] [] f) (calls_tab hm hP hT d [] [] [] f) hm hO hf h2 he, fn, hf', h1, ?_⟩
    cases hb : fn.body with
    | none => simp only [hf, hb] at hh; cases hh
    | some c => rfl
end Go.Ab

namespace Go.Ab
open Go Go.RowKit
variable {B : Base} {c : Cx} {s : St} {a : Act}
/-- One list of cells may be told as another. -/
def Told (cs cs' : List AV) : Prop := cs'.length = cs.length ∧ keysL cs' = [] ∧ ∀ (i : Nat) (u u' : AV), cs[i]? = some u → cs'[i]? = some u' → u'.one = true ∧ ∀ c x, Rep c u x → Rep c u' x
inductive ObjLe : AO → AO → Prop
  | same (o) : ObjLe o o
  | cells (cs cs') : Told cs cs' → ObjLe (.cells cs) (.cells cs')
  | grw (sz n get get') : (∀ j, j < n → get' j = get j) → ObjLe (.grw sz n get) (.grw sz n get')
inductive ObjsLe : List (Nat × AO) → List (Nat × AO) → Prop
  | nil : ObjsLe [] []
  | cons (k o o' r r') : ObjLe o o' → ObjsLe r r' → ObjsLe ((k, o) :: r) ((k, o') :: r')
theorem ObjsLe.look {l l' : List (Nat × AO)} (h : ObjsLe l l') (k : Nat) : (alook l k = none ∧ alook l' k = none) ∨ ∃ o o', alook l k = some o ∧ alook l' k = some o' ∧ ObjLe o o' := by
  induction h with
  | nil => exact .inl ⟨rfl, rfl⟩
  | cons q o o' r r' h1 _ ih =>
    simp only [alook]
    cases hb : Nat.beq q k with
    | true => exact .inr ⟨o, o', rfl, rfl, h1⟩
    | false => exact ih
theorem ObjLe.excl {o o' : AO} (h : ObjLe o o') (k : Nat) : excl c k o' = excl c k o := by cases h <;> rfl
theorem ObjLe.keys {o o' : AO} (h : ObjLe o o') : o' = o ∨ o'.keys = [] := by
  cases h with
  | same => exact .inl rfl
  | cells cs cs' h => exact .inr h.2.1
  | grw sz n get get' h => exact .inr rfl
theorem ObjLe.rep {o o' : AO} (h : ObjLe o o') {k : Nat} (hr : ObjRep c k o) : ObjRep c k o' := by
  cases h with
  | same => exact hr
  | cells cs cs' h =>
    obtain ⟨⟨⟨vs, t, hh, hs, hv⟩, h1⟩, hI, hf⟩ := hr
    have hg : ∀ (i : Nat) (u' : AV), cs'[i]? = some u' → ∃ u, cs[i]? = some u := fun i u' hu => by
      have := (List.getElem?_eq_some_iff.1 hu).1
      rw [h.1] at this
      exact ⟨_, List.getElem?_eq_getElem this⟩
    refine ⟨⟨⟨vs, t, hh, by rw [h.1]; exact hs, fun i u' hu => ?_⟩, fun i u' hu => ?_⟩, hI, hf⟩
    · obtain ⟨u, hu0⟩ := hg i u' hu
      exact (h.2.2 i u u' hu0 hu).2 _ _ (hv i u hu0)
    · obtain ⟨u, hu0⟩ := hg i u' hu
      exact (h.2.2 i u u' hu0 hu).1
  | grw sz n get get' h =>
    obtain ⟨h0, hfr, hm⟩ := hr
    refine ⟨h0, hfr, ?_⟩
    cases hc : c.κ k with
    | none => simp only [hc] at hm; exact hm
    | some p =>
      obtain ⟨a, cap⟩ := p
      simp only [hc] at hm ⊢
      refine ⟨hm.1, fun hlt => ?_⟩
      obtain ⟨⟨vs, t, hh, hs, hv⟩, had, hl, h1, hfree⟩ := hm.2 hlt
      exact ⟨⟨vs, t, hh, hs, fun j i u hj hu => hv j i u hj (by rwa [h j hj] at hu)⟩, had, fun j hj => by rw [h j hj]; exact hl j hj, fun j i u hj hu => h1 j i u hj (by rwa [h j hj] at hu), hfree⟩
theorem Rel.weak (h : Rel B c s a) {objs' : List (Nat × AO)} (hw : ObjsLe s.objs objs') : Rel B c { env := s.env, objs := objs' } a := by
  have hlive : ∀ k, live s.objs k → live objs' k := fun k hk => by
    obtain ⟨o, hk⟩ := hk
    rcases hw.look k with ⟨h1, _⟩ | ⟨_, o', _, h2, _⟩
    · rw [h1] at hk; cases hk
    · exact ⟨o', h2⟩
  have hback : ∀ {k o'}, alook objs' k = some o' → ∃ o, alook s.objs k = some o ∧ ObjLe o o' := fun {k o'} hk => by
    rcases hw.look k with ⟨_, h1⟩ | ⟨o, o2, h1, h2, h3⟩
    · rw [h1] at hk; cases hk
    · rw [h2] at hk; cases hk; exact ⟨o, h1, h3⟩
  refine ⟨h.good, h.frame, ⟨fun k o' hk => ?_, fun k o' q o2 b hk hq hne hb => ?_, fun k o' hk q hq => ?_⟩, h.env, fun t v hv k hk => hlive k (h.closed t v hv k hk), fun k o' b hk hb => ?_, h.tmps, h.defers, fun k hk => hlive k (h.kept k hk)⟩
  · obtain ⟨o, h1, h2⟩ := hback hk
    exact h2.rep (h.objs.rep k o h1)
  · obtain ⟨o, h1, h2⟩ := hback hk
    obtain ⟨o3, h3, h4⟩ := hback hq
    rw [h4.excl]
    rw [h2.excl] at hb
    exact h.objs.apart k o q o3 b h1 h3 hne hb
  · obtain ⟨o, h1, h2⟩ := hback hk
    rcases h2.keys with rfl | h0
    · exact hlive q (h.objs.closed k _ h1 q hq)
    · rw [h0] at hq; cases hq
  · obtain ⟨o, h1, h2⟩ := hback hk
    rw [h2.excl] at hb
    exact h.mine k o b h1 hb
open Classical in
/-- States of a family told in other words. -/
theorem viewOk_weak {α : Type} [Inhabited α] (S S' : α → St) (Inv : α → Prop) (hS : ∀ v, Inv v → (S' v).env = (S v).env ∧ ObjsLe (S v).objs (S' v).objs) : ViewOk (mkV (goodS S Inv) (valS S Inv id) S') := by
  intro s k r h
  unfold mkV at h
  obtain ⟨hg, h⟩ := cond_none h
  have hx : ∃ v, Inv v ∧ S v = s := of_decide_eq_true hg
  unfold valS at h
  rw [dif_pos hx, id] at h
  obtain ⟨h1, h2⟩ := hx.choose_spec
  obtain ⟨e1, e2⟩ := hS _ h1
  refine ⟨_, h, fun B c a hr hn => ⟨c, rfl, ?_, ?_⟩⟩
  · rw [h2] at e1 e2
    have := hr.weak e2
    rw [← e1] at this
    exact this
  · intro t v hv
    refine hn t v ?_
    rw [← h2]
    show alook (S hx.choose).env t = some v
    rw [← e1]; exact hv
end Go.Ab
