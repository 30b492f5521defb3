/- The draws: Wide, Number, Name: contracts; a split: its contract. The draws: a split: its contract. A view of a state in which less is told: variables' cells told in other words. A view in which a slice that was stored into is read alone from here on. The draws: a split that is spoilt: equations. The draws: a split that is spoilt: its contract. The draws: a split that is spoilt: its contract. The draws: Expr: equations. The draws: Expr: its loop. The draws: Expr at one level: equations. The draws: Expr: how its answers are told. The draws: Expr: its contract. The draws: Condition: equations. The draws: Condition: how its answers are told; its loops and views. The draws: Condition: its loops and views. The draws: Condition: its contract. The draws: Condition: its contract, any condition. The draws: an experiment that is spoilt: equations. The draws: an experiment that is spoilt: its contract. A function that hands back a pointer to a new object: its contract by a run. New and Mod (for the laws of the spoilt draws). The draws: Serve, and a Serve that is spoilt: equations. The draws: a flag that is spoilt: equations. The draws: Serve, a Serve that is spoilt, Keys, long: contracts. The  -/
import Derived.Test.YtnldpiohcmgkdaaGreatDoorX4
namespace Go.SH
open Go Go.Ab Go.Proofs
set_option linter.unusedVariables false
set_option linter.unusedSimpArgs false
theorem cT {α : Sort _} {b : Bool} {x y : α} (h : b = true) : cond b x y = x := by rw [h]; rfl
theorem cF {α : Sort _} {b : Bool} {x y : α} (h : b = false) : cond b x y = y := by rw [h]; rfl
def wdP (x : CODES × Int) : Prop := x.1.Ok ∧ 1 ≤ x.2 ∧ x.2 ≤ 65536
def wdPost (x : CODES × Int) (y : Int × CODES) : Prop := 0 ≤ y.1 ∧ y.1 < x.2 ∧ y.2.Ok
theorem wdPost_kind (a b : CODES × Int) (y : Int × CODES) (h : nA a = nA b) (_ : nO a = nO b) (hy : wdPost a y) : wdPost b y := by
  simp only [nA, List.cons.injEq, AV.int.injEq, true_and, and_true] at h
  unfold wdPost at *
  rw [← h]; exact hy
theorem wide_ex (x : CODES × Int) (hx : wdP x) : ∃ y : Int × CODES, wdPost x y ∧ Ct V2.P V2.G 22 (nA x) (nO x) (φX y) := by
  obtain ⟨C, m⟩ := x
  obtain ⟨hC, m1, m2⟩ := hx
  have hC : C.Ok := hC
  have m1 : 1 ≤ m := m1
  have m2 : m ≤ 65536 := m2
  obtain ⟨a0, a1, aD⟩ := nextR_ok hC (m := 256) (by omega)
  obtain ⟨b0, b1, bD⟩ := nextR_ok aD (m := 256) (by omega)
  have e := wide_m gN vN C m (t1 := nextR C 256) (vN_eq hC (by omega)) (t2 := nextR (nextR C 256).2 256) (vN_eq aD (by omega))
  have hw : IntKind.wrap .i64 (IntKind.wrap .i64 (256 * (nextR C 256).1) + (nextR (nextR C 256).2 256).1) = 256 * (nextR C 256).1 + (nextR (nextR C 256).2 256).1 := by
    rw [wrap_i64 (x := 256 * (nextR C 256).1) (by omega) (by omega), wrap_i64 (by omega) (by omega)]
  rw [hw, gN_eq hC (by omega), gN_eq aD (by omega), show (m != 0) = true by simp; omega] at e
  refine ⟨(Int.tmod (256 * (nextR C 256).1 + (nextR (nextR C 256).2 256).1) m, (nextR (nextR C 256).2 256).2), ⟨Int.tmod_nonneg _ (by omega), Int.tmod_lt_of_pos _ (by omega), bD⟩, ?_⟩
  exact ct_loops (V := V2) (f := 22) (n := 9) (d := 3) (T := [entN]) (L := []) mixed2 funcs2 (tabOk_cons entN_ok tabOk_nil) loopsOk_nil e
theorem number_ex (C : CODES) (h : C.Ok) : ∃ x : Int × CODES, ((-2305843009213693952 ≤ x.1 ∧ x.1 ≤ 2305843009213693952) ∧ x.2.Ok) ∧ Ct V2.P V2.G 51 (cA C) (cO C) (φX x) := by
  obtain ⟨h0, h1, h2⟩ := nextR_ok h (m := 15) (by omega)
  have hn := next_ok C h 15 (by omega)
  revert h0 h1 h2 hn
  generalize nextR C 15 = y
  obtain ⟨r, D⟩ := y
  intro h0 h1 h2 hn
  have hr : r = 0 ∨ r = 1 ∨ r = 2 ∨ r = 3 ∨ r = 4 ∨ r = 5 ∨ r = 6 ∨ r = 7 ∨ r = 8 ∨ r = 9 ∨ r = 10 ∨ r = 11 ∨ r = 12 ∨ r = 13 ∨ r = 14 := by have h0 : 0 ≤ r := h0; have h1 : r < 15 := h1; omega
  have hT := entK_ok (φ := φX) hn
  have hg : goodA (fun _ : Unit => [.ref keyBase 0, .int .i64 15]) (fun _ => [codO C]) (fun _ => True) [.ref 1000000 0, .int .i64 15] [codO C] = true := gK_eq _ _
  rcases hr with rfl | rfl | rfl | rfl | rfl | rfl | rfl | rfl | rfl | rfl | rfl | rfl | rfl | rfl | rfl
  · exact ⟨(0, D), ⟨(show (-2305843009213693952 : Int) ≤ 0 ∧ 0 ≤ (2305843009213693952 : Int) by decide), h2⟩, ct_loops (V := V2) (f := 51) (n := 9) (d := 3) (L := []) (T := [entK 19 [.ref keyBase 0, .int .i64 15] [codO C] (0, D) φX]) mixed2 funcs2 (tabOk_cons hT tabOk_nil) loopsOk_nil ((number_0 _ C D).trans (cT hg))⟩
  · exact ⟨((-1), D), ⟨(show (-2305843009213693952 : Int) ≤ (-1) ∧ (-1) ≤ (2305843009213693952 : Int) by decide), h2⟩, ct_loops (V := V2) (f := 51) (n := 9) (d := 3) (L := []) (T := [entK 19 [.ref keyBase 0, .int .i64 15] [codO C] (1, D) φX]) mixed2 funcs2 (tabOk_cons hT tabOk_nil) loopsOk_nil ((number_1 _ C D).trans (cT hg))⟩
  · exact ⟨(1, D), ⟨(show (-2305843009213693952 : Int) ≤ 1 ∧ 1 ≤ (2305843009213693952 : Int) by decide), h2⟩, ct_loops (V := V2) (f := 51) (n := 9) (d := 3) (L := []) (T := [entK 19 [.ref keyBase 0, .int .i64 15] [codO C] (2, D) φX]) mixed2 funcs2 (tabOk_cons hT tabOk_nil) loopsOk_nil ((number_2 _ C D).trans (cT hg))⟩
  · exact ⟨(2, D), ⟨(show (-2305843009213693952 : Int) ≤ 2 ∧ 2 ≤ (2305843009213693952 : Int) by decide), h2⟩, ct_loops (V := V2) (f := 51) (n := 9) (d := 3) (L := []) (T := [entK 19 [.ref keyBase 0, .int .i64 15] [codO C] (3, D) φX]) mixed2 funcs2 (tabOk_cons hT tabOk_nil) loopsOk_nil ((number_3 _ C D).trans (cT hg))⟩
  · exact ⟨(8, D), ⟨(show (-2305843009213693952 : Int) ≤ 8 ∧ 8 ≤ (2305843009213693952 : Int) by decide), h2⟩, ct_loops (V := V2) (f := 51) (n := 9) (d := 3) (L := []) (T := [entK 19 [.ref keyBase 0, .int .i64 15] [codO C] (4, D) φX]) mixed2 funcs2 (tabOk_cons hT tabOk_nil) loopsOk_nil ((number_4 _ C D).trans (cT hg))⟩
  · exact ⟨(9, D), ⟨(show (-2305843009213693952 : Int) ≤ 9 ∧ 9 ≤ (2305843009213693952 : Int) by decide), h2⟩, ct_loops (V := V2) (f := 51) (n := 9) (d := 3) (L := []) (T := [entK 19 [.ref keyBase 0, .int .i64 15] [codO C] (5, D) φX]) mixed2 funcs2 (tabOk_cons hT tabOk_nil) loopsOk_nil ((number_5 _ C D).trans (cT hg))⟩
  · exact ⟨(10000, D), ⟨(show (-2305843009213693952 : Int) ≤ 10000 ∧ 10000 ≤ (2305843009213693952 : Int) by decide), h2⟩, ct_loops (V := V2) (f := 51) (n := 9) (d := 3) (L := []) (T := [entK 19 [.ref keyBase 0, .int .i64 15] [codO C] (6, D) φX]) mixed2 funcs2 (tabOk_cons hT tabOk_nil) loopsOk_nil ((number_6 _ C D).trans (cT hg))⟩
  · exact ⟨(10001, D), ⟨(show (-2305843009213693952 : Int) ≤ 10001 ∧ 10001 ≤ (2305843009213693952 : Int) by decide), h2⟩, ct_loops (V := V2) (f := 51) (n := 9) (d := 3) (L := []) (T := [entK 19 [.ref keyBase 0, .int .i64 15] [codO C] (7, D) φX]) mixed2 funcs2 (tabOk_cons hT tabOk_nil) loopsOk_nil ((number_7 _ C D).trans (cT hg))⟩
  · exact ⟨(1099511627776, D), ⟨(show (-2305843009213693952 : Int) ≤ 1099511627776 ∧ 1099511627776 ≤ (2305843009213693952 : Int) by decide), h2⟩, ct_loops (V := V2) (f := 51) (n := 9) (d := 3) (L := []) (T := [entK 19 [.ref keyBase 0, .int .i64 15] [codO C] (8, D) φX]) mixed2 funcs2 (tabOk_cons hT tabOk_nil) loopsOk_nil ((number_8 _ C D).trans (cT hg))⟩
  · exact ⟨(1099511627777, D), ⟨(show (-2305843009213693952 : Int) ≤ 1099511627777 ∧ 1099511627777 ≤ (2305843009213693952 : Int) by decide), h2⟩, ct_loops (V := V2) (f := 51) (n := 9) (d := 3) (L := []) (T := [entK 19 [.ref keyBase 0, .int .i64 15] [codO C] (9, D) φX]) mixed2 funcs2 (tabOk_cons hT tabOk_nil) loopsOk_nil ((number_9 _ C D).trans (cT hg))⟩
  · exact ⟨((-1099511627777), D), ⟨(show (-2305843009213693952 : Int) ≤ (-1099511627777) ∧ (-1099511627777) ≤ (2305843009213693952 : Int) by decide), h2⟩, ct_loops (V := V2) (f := 51) (n := 9) (d := 3) (L := []) (T := [entK 19 [.ref keyBase 0, .int .i64 15] [codO C] (10, D) φX]) mixed2 funcs2 (tabOk_cons hT tabOk_nil) loopsOk_nil ((number_10 _ C D).trans (cT hg))⟩
  · exact ⟨(1099511627777, D), ⟨(show (-2305843009213693952 : Int) ≤ 1099511627777 ∧ 1099511627777 ≤ (2305843009213693952 : Int) by decide), h2⟩, ct_loops (V := V2) (f := 51) (n := 9) (d := 3) (L := []) (T := [entK 19 [.ref keyBase 0, .int .i64 15] [codO C] (11, D) φX]) mixed2 funcs2 (tabOk_cons hT tabOk_nil) loopsOk_nil ((number_11 _ C D).trans (cT hg))⟩
  · exact ⟨(4, D), ⟨(show (-2305843009213693952 : Int) ≤ 4 ∧ 4 ≤ (2305843009213693952 : Int) by decide), h2⟩, ct_loops (V := V2) (f := 51) (n := 9) (d := 3) (L := []) (T := [entK 19 [.ref keyBase 0, .int .i64 15] [codO C] (12, D) φX]) mixed2 funcs2 (tabOk_cons hT tabOk_nil) loopsOk_nil ((number_12 _ C D).trans (cT hg))⟩
  · exact ⟨(5, D), ⟨(show (-2305843009213693952 : Int) ≤ 5 ∧ 5 ≤ (2305843009213693952 : Int) by decide), h2⟩, ct_loops (V := V2) (f := 51) (n := 9) (d := 3) (L := []) (T := [entK 19 [.ref keyBase 0, .int .i64 15] [codO C] (13, D) φX]) mixed2 funcs2 (tabOk_cons hT tabOk_nil) loopsOk_nil ((number_13 _ C D).trans (cT hg))⟩
  · exact ⟨(6, D), ⟨(show (-2305843009213693952 : Int) ≤ 6 ∧ 6 ≤ (2305843009213693952 : Int) by decide), h2⟩, ct_loops (V := V2) (f := 51) (n := 9) (d := 3) (L := []) (T := [entK 19 [.ref keyBase 0, .int .i64 15] [codO C] (14, D) φX]) mixed2 funcs2 (tabOk_cons hT tabOk_nil) loopsOk_nil ((number_14 _ C D).trans (cT hg))⟩
theorem name_ex (C : CODES) (h : C.Ok) : ∃ x : List UInt8 × CODES, (x.1.length ≤ 40 ∧ x.2.Ok) ∧ Ct V2.P V2.G 50 (cA C) (cO C) (φT x) := by
  obtain ⟨h0, h1, h2⟩ := nextR_ok h (m := 15) (by omega)
  have hn := next_ok C h 15 (by omega)
  revert h0 h1 h2 hn
  generalize nextR C 15 = y
  obtain ⟨r, D⟩ := y
  intro h0 h1 h2 hn
  have hr : r = 0 ∨ r = 1 ∨ r = 2 ∨ r = 3 ∨ r = 4 ∨ r = 5 ∨ r = 6 ∨ r = 7 ∨ r = 8 ∨ r = 9 ∨ r = 10 ∨ r = 11 ∨ r = 12 ∨ r = 13 ∨ r = 14 := by have h0 : 0 ≤ r := h0; have h1 : r < 15 := h1; omega
  have hT := entK_ok (φ := φX) hn
  have hg : goodA (fun _ : Unit => [.ref keyBase 0, .int .i64 15]) (fun _ => [codO C]) (fun _ => True) [.ref 1000000 0, .int .i64 15] [codO C] = true := gK_eq _ _
  rcases hr with rfl | rfl | rfl | rfl | rfl | rfl | rfl | rfl | rfl | rfl | rfl | rfl | rfl | rfl | rfl
  · exact ⟨([], D), ⟨(show ([] : List UInt8).length ≤ 40 by decide), h2⟩, ct_loops (V := V2) (f := 50) (n := 9) (d := 3) (L := []) (T := [entK 19 [.ref keyBase 0, .int .i64 15] [codO C] (0, D) φX]) mixed2 funcs2 (tabOk_cons hT tabOk_nil) loopsOk_nil ((name_0 _ C D).trans (cT hg))⟩
  · exact ⟨([66, 97, 100], D), ⟨(show ([66, 97, 100] : List UInt8).length ≤ 40 by decide), h2⟩, ct_loops (V := V2) (f := 50) (n := 9) (d := 3) (L := []) (T := [entK 19 [.ref keyBase 0, .int .i64 15] [codO C] (1, D) φX]) mixed2 funcs2 (tabOk_cons hT tabOk_nil) loopsOk_nil ((name_1 _ C D).trans (cT hg))⟩
  · exact ⟨([57, 97], D), ⟨(show ([57, 97] : List UInt8).length ≤ 40 by decide), h2⟩, ct_loops (V := V2) (f := 50) (n := 9) (d := 3) (L := []) (T := [entK 19 [.ref keyBase 0, .int .i64 15] [codO C] (2, D) φX]) mixed2 funcs2 (tabOk_cons hT tabOk_nil) loopsOk_nil ((name_2 _ C D).trans (cT hg))⟩
  · exact ⟨([111, 110], D), ⟨(show ([111, 110] : List UInt8).length ≤ 40 by decide), h2⟩, ct_loops (V := V2) (f := 50) (n := 9) (d := 3) (L := []) (T := [entK 19 [.ref keyBase 0, .int .i64 15] [codO C] (3, D) φX]) mixed2 funcs2 (tabOk_cons hT tabOk_nil) loopsOk_nil ((name_3 _ C D).trans (cT hg))⟩
  · exact ⟨([107, 101, 121], D), ⟨(show ([107, 101, 121] : List UInt8).length ≤ 40 by decide), h2⟩, ct_loops (V := V2) (f := 50) (n := 9) (d := 3) (L := []) (T := [entK 19 [.ref keyBase 0, .int .i64 15] [codO C] (4, D) φX]) mixed2 funcs2 (tabOk_cons hT tabOk_nil) loopsOk_nil ((name_4 _ C D).trans (cT hg))⟩
  · exact ⟨([122, 122], D), ⟨(show ([122, 122] : List UInt8).length ≤ 40 by decide), h2⟩, ct_loops (V := V2) (f := 50) (n := 9) (d := 3) (L := []) (T := [entK 19 [.ref keyBase 0, .int .i64 15] [codO C] (5, D) φX]) mixed2 funcs2 (tabOk_cons hT tabOk_nil) loopsOk_nil ((name_5 _ C D).trans (cT hg))⟩
  · exact ⟨([97], D), ⟨(show ([97] : List UInt8).length ≤ 40 by decide), h2⟩, ct_loops (V := V2) (f := 50) (n := 9) (d := 3) (L := []) (T := [entK 19 [.ref keyBase 0, .int .i64 15] [codO C] (6, D) φX]) mixed2 funcs2 (tabOk_cons hT tabOk_nil) loopsOk_nil ((name_6 _ C D).trans (cT hg))⟩
  · exact ⟨([97, 108, 112, 104, 97], D), ⟨(show ([97, 108, 112, 104, 97] : List UInt8).length ≤ 40 by decide), h2⟩, ct_loops (V := V2) (f := 50) (n := 9) (d := 3) (L := []) (T := [entK 19 [.ref keyBase 0, .int .i64 15] [codO C] (7, D) φX]) mixed2 funcs2 (tabOk_cons hT tabOk_nil) loopsOk_nil ((name_7 _ C D).trans (cT hg))⟩
  · exact ⟨([102, 97], D), ⟨(show ([102, 97] : List UInt8).length ≤ 40 by decide), h2⟩, ct_loops (V := V2) (f := 50) (n := 9) (d := 3) (L := []) (T := [entK 19 [.ref keyBase 0, .int .i64 15] [codO C] (8, D) φX]) mixed2 funcs2 (tabOk_cons hT tabOk_nil) loopsOk_nil ((name_8 _ C D).trans (cT hg))⟩
  · exact ⟨([102, 98], D), ⟨(show ([102, 98] : List UInt8).length ≤ 40 by decide), h2⟩, ct_loops (V := V2) (f := 50) (n := 9) (d := 3) (L := []) (T := [entK 19 [.ref keyBase 0, .int .i64 15] [codO C] (9, D) φX]) mixed2 funcs2 (tabOk_cons hT tabOk_nil) loopsOk_nil ((name_9 _ C D).trans (cT hg))⟩
  · exact ⟨([108, 97], D), ⟨(show ([108, 97] : List UInt8).length ≤ 40 by decide), h2⟩, ct_loops (V := V2) (f := 50) (n := 9) (d := 3) (L := []) (T := [entK 19 [.ref keyBase 0, .int .i64 15] [codO C] (10, D) φX]) mixed2 funcs2 (tabOk_cons hT tabOk_nil) loopsOk_nil ((name_10 _ C D).trans (cT hg))⟩
  · exact ⟨([120, 97], D), ⟨(show ([120, 97] : List UInt8).length ≤ 40 by decide), h2⟩, ct_loops (V := V2) (f := 50) (n := 9) (d := 3) (L := []) (T := [entK 19 [.ref keyBase 0, .int .i64 15] [codO C] (11, D) φX]) mixed2 funcs2 (tabOk_cons hT tabOk_nil) loopsOk_nil ((name_11 _ C D).trans (cT hg))⟩
  · exact ⟨([97, 98, 99, 100, 101, 102, 103, 104, 105, 106, 107, 108, 109, 110, 111, 112, 113, 114, 115, 116, 117, 118, 119, 120, 121, 122, 48, 49, 50, 51, 52, 53, 54], D), ⟨(show ([97, 98, 99, 100, 101, 102, 103, 104, 105, 106, 107, 108, 109, 110, 111, 112, 113, 114, 115, 116, 117, 118, 119, 120, 121, 122, 48, 49, 50, 51, 52, 53, 54] : List UInt8).length ≤ 40 by decide), h2⟩, ct_loops (V := V2) (f := 50) (n := 9) (d := 3) (L := []) (T := [entK 19 [.ref keyBase 0, .int .i64 15] [codO C] (12, D) φX]) mixed2 funcs2 (tabOk_cons hT tabOk_nil) loopsOk_nil ((name_12 _ C D).trans (cT hg))⟩
  · exact ⟨([117, 115, 101, 114], D), ⟨(show ([117, 115, 101, 114] : List UInt8).length ≤ 40 by decide), h2⟩, ct_loops (V := V2) (f := 50) (n := 9) (d := 3) (L := []) (T := [entK 19 [.ref keyBase 0, .int .i64 15] [codO C] (13, D) φX]) mixed2 funcs2 (tabOk_cons hT tabOk_nil) loopsOk_nil ((name_13 _ C D).trans (cT hg))⟩
  · exact ⟨([97, 46, 98], D), ⟨(show ([97, 46, 98] : List UInt8).length ≤ 40 by decide), h2⟩, ct_loops (V := V2) (f := 50) (n := 9) (d := 3) (L := []) (T := [entK 19 [.ref keyBase 0, .int .i64 15] [codO C] (14, D) φX]) mixed2 funcs2 (tabOk_cons hT tabOk_nil) loopsOk_nil ((name_14 _ C D).trans (cT hg))⟩
abbrev RG := Int × Int × Int
def chainR (n : Int) : Int → Int → List RG → Prop
  | _, _, [] => True
  | a, v, r :: l => r.1 = a ∧ a < r.2.1 ∧ 1 ≤ r.2.2 ∧ r.2.2 ≤ n ∧ r.2.2 ≠ v ∧ chainR n r.2.1 r.2.2 l
def endR : Int → Int → List RG → Int × Int
  | a, v, [] => (a, v)
  | _, _, r :: l => endR r.2.1 r.2.2 l
theorem chainR_app {n : Int} {r : RG} : ∀ {l : List RG} {a v : Int}, chainR n a v l → r.1 = (endR a v l).1 → (endR a v l).1 < r.2.1 → 1 ≤ r.2.2 → r.2.2 ≤ n → r.2.2 ≠ (endR a v l).2 → chainR n a v (l ++ [r])
  | [], a, v, _, h1, h2, h3, h4, h5 => ⟨h1, h2, h3, h4, h5, trivial⟩
  | q :: l, a, v, h, h1, h2, h3, h4, h5 => ⟨h.1, h.2.1, h.2.2.1, h.2.2.2.1, h.2.2.2.2.1, chainR_app h.2.2.2.2.2 h1 h2 h3 h4 h5⟩
theorem endR_app {r : RG} : ∀ {l : List RG} {a v : Int}, endR a v (l ++ [r]) = (r.2.1, r.2.2)
  | [], _, _ => rfl
  | q :: l, _, _ => endR_app (l := l)
theorem getR_app (l : List RG) (r : RG) : appGet l.length 1 (getR l) (fillGet (rngC (0, 0, 0)) [(0, .agg (rngC r))]) = getR (l ++ [r]) := by
  funext j
  unfold appGet getR
  by_cases h : j < l.length
  · rw [bltT h]
    simp [List.getD, h, List.getElem?_append_left]
  · have hb : Nat.blt j l.length = false := by
      cases e : Nat.blt j l.length with
      | false => rfl
      | true => exact absurd (ltB e) h
    rw [hb, cond_false]
    by_cases h1 : j = l.length
    · subst h1
      rw [bltT (by omega), cond_true, Nat.sub_self]
      simp [fillGet, AV.cells, List.getD]
    · have hb1 : Nat.blt j (l.length + 1) = false := by
        cases e : Nat.blt j (l.length + 1) with
        | false => rfl
        | true => exact absurd (ltB e) (by omega)
      rw [hb1, cond_false]
      simp only [List.getD]
      rw [List.getElem?_eq_none (by omega), List.getElem?_eq_none (by simp; omega)]
abbrev SSt := CODES ⊕ (List RG × CODES)
def sS (n : Int) : SSt → St
  | .inl C => SS0 n C
  | .inr (l, C) => SS n (endR 0 0 l).1 (endR 0 0 l).2 l.length (getR l) C l.length
def sI (n : Int) : SSt → Prop
  | .inl C => C.Ok
  | .inr (l, C) => C.Ok ∧ 1 ≤ l.length ∧ l.length ≤ 3 ∧ chainR n 0 0 l ∧ 0 ≤ (endR 0 0 l).1 ∧ (endR 0 0 l).1 < 10000 ∧ 1 ≤ (endR 0 0 l).2 ∧ (endR 0 0 l).2 ≤ n ∧ 2 ≤ n
def sM : SSt → Nat
  | .inl _ => 5
  | .inr (l, _) => 4 - l.length
def sZ (n : Int) (y : SY) : Prop := y.C.Ok ∧ (y.b = false → y.l.length = y.q + 1 ∧ y.l.length ≤ 3 ∧ chainR n 0 0 y.l ∧ (y.a, y.v) = endR 0 0 y.l ∧ 0 ≤ y.a ∧ y.a < 10000 ∧ 1 ≤ y.v ∧ y.v ≤ n ∧ 2 ≤ n)
theorem turn_var {n v w : Int} (hn : n ≤ 1000) (h1 : 1 ≤ v) (h2 : v ≤ n) (h : v = w) (hn2 : 2 ≤ n) : IntKind.wrap .i64 (1 + Int.tmod v n) ≠ w ∧ 1 ≤ IntKind.wrap .i64 (1 + Int.tmod v n) ∧ IntKind.wrap .i64 (1 + Int.tmod v n) ≤ n := by
  have t0 := Int.tmod_nonneg n (show 0 ≤ v by omega)
  have t1 := Int.tmod_lt_of_pos v (show 0 < n by omega)
  rw [wrap_i64 (by omega) (by omega)]
  refine ⟨?_, by omega, by omega⟩
  by_cases he : v = n
  · subst he
    rw [Int.tmod_self]; omega
  · rw [Int.tmod_eq_of_lt (by omega) (by omega)]; omega
theorem getR_nil : getR [] = fun _ => rngC (0, 0, 0) := by funext j; rfl
def splN (n at' last tt : Int) (q : Nat) (get : Nat → List AV) (C : CODES) (i : Int) (kn : St → Res) (k : Ex → St → Res) (vv : Int) : Res :=
  cond (decide (tt ≥ 10000)) (k (.exit 0) (SE n at' last (q + 1) get C))
    (cond (roomy 24 (q + 1 + 1) && Nat.beq (q + 1) (q + 1)) (kn (SS n tt vv (q + 1 + 1) (appGet (q + 1) 1 get (fillGet (rngC (0, 0, 0)) [(0, .agg (rngC (at', tt, vv)))])) C (IntKind.wrap .i64 (i + 1)))) none)
theorem vary {n t last : Int} (hn : n ≤ 1000) (h2 : 2 ≤ n) (t0 : 0 ≤ t) (t1 : t < n) : ∃ vv : Int, vv ≠ last ∧ 1 ≤ vv ∧ vv ≤ n ∧ ∀ X : Int → Res, cond (IntKind.wrap .i64 (1 + t) == last) (cond (n != 0) (X (IntKind.wrap .i64 (1 + Int.tmod (IntKind.wrap .i64 (1 + t)) n))) none) (X (IntKind.wrap .i64 (1 + t))) = X vv := by
  have hw : IntKind.wrap .i64 (1 + t) = 1 + t := wrap_i64 (by omega) (by omega)
  rw [hw]
  by_cases hl : 1 + t = last
  · obtain ⟨a, b, c⟩ := turn_var hn (v := 1 + t) (by omega) (by omega) hl h2
    refine ⟨_, a, b, c, fun X => ?_⟩
    rw [beq_iff_eq.2 hl, show (n != 0) = true by simp; omega]; rfl
  · refine ⟨1 + t, hl, by omega, by omega, fun X => ?_⟩
    rw [beq_eq_false_iff_ne.2 hl]; rfl
theorem split_loop (n : Int) (h1 : 1 ≤ n) (h8 : n ≤ 1000) (ww : CODES × Int → Int × CODES) (hww : ∀ x, wdP x → wdPost x (ww x)) :
    ∃ w : SSt → SY, (∀ v, sI n v → sZ n (w v)) ∧ ∀ L, LoopOk (V2.run [mkE 19 gN vN φX, entC 22 nA nO wdP ww φX] 3 [] L [] 20) 20 [1, 1, 1, 0, 1, 0] (mkO (goodS (sS n) (sI n)) (valS (sS n) (sI n) w) (outS n)) := by
  refine loop_ex (Xf := fun L => V2.run [mkE 19 gN vN φX, entC 22 nA nO wdP ww φX] 3 [] L [] 20) (b := subC (bodyOf V2.P 20) ([1, 1, 1, 0, 1, 0] ++ [0])) (sS n) (sI n) sM (outS n) (fun _ => sZ n) (fun _ => by kernel_rfl) 9 fun v hv => ?_
  have hgw : ∀ D : CODES, D.Ok → goodA nA nO wdP [.ref 1000000 0, .int .i64 5000] [codO D] = true := fun D hD => goodA_eq (A := nA) (O := nO) (v := (D, 5000)) ⟨hD, by show (1 : Int) ≤ 5000; omega, by show (5000 : Int) ≤ 65536; omega⟩
  have hpw : ∀ D : CODES, D.Ok → wdPost (D, 5000) (valA nA nO wdP ww [.ref 1000000 0, .int .i64 5000] [codO D]) := fun D hD => valA_post (A := nA) (O := nO) (a := (D, 5000)) (Post := wdPost) hww wdPost_kind ⟨hD, by show (1 : Int) ≤ 5000; omega, by show (5000 : Int) ≤ 65536; omega⟩
  cases v with
  | inl C =>
    have hC : C.Ok := hv
    obtain ⟨a0, a1, aD⟩ := nextR_ok hC (m := 4) (by omega)
    obtain ⟨b0, b1, bD⟩ := hpw _ aD
    generalize hy2 : valA nA nO wdP ww [.ref 1000000 0, .int .i64 5000] [codO (nextR C 4).2] = y2 at b0 b1 bD
    have b1 : y2.1 < 5000 := b1
    obtain ⟨c0, c1, cD⟩ := nextR_ok bD (m := n) h1
    by_cases hgo : 0 < (nextR C 4).1 ∧ n > 1
    · have hv1 : IntKind.wrap .i64 (1 + (nextR y2.2 n).1) = 1 + (nextR y2.2 n).1 := wrap_i64 (by omega) (by omega)
      have ht1 : IntKind.wrap .i64 (IntKind.wrap .i64 (0 + 1) + y2.1) = 1 + y2.1 := by rw [show IntKind.wrap .i64 (0 + 1) = 1 from rfl]; exact wrap_i64 (by omega) (by omega)
      refine .inr ⟨.inr ([(0, 1 + y2.1, 1 + (nextR y2.2 n).1)], (nextR y2.2 n).2), ⟨cD, by simp, by simp, ⟨rfl, by show 0 < 1 + y2.1; omega, by show 1 ≤ 1 + (nextR y2.2 n).1; omega, by show 1 + (nextR y2.2 n).1 ≤ n; omega, by show 1 + (nextR y2.2 n).1 ≠ 0; omega, trivial⟩, by show 0 ≤ 1 + y2.1; omega, by show 1 + y2.1 < 10000; omega, by show 1 ≤ 1 + (nextR y2.2 n).1; omega, by show 1 + (nextR y2.2 n).1 ≤ n; omega, by omega⟩, by show 4 - 1 < 5; omega, fun _ h => h, fun L k kn => ?_⟩
      refine (dsp_r0 gN (goodA nA nO wdP) vN (valA nA nO wdP ww) L 9 n C kn k (t1 := nextR C 4) (vN_eq hC (by omega)) (t2 := y2) hy2 (t3 := nextR y2.2 n) (vN_eq bD h1)).trans ?_
      rw [hv1, ht1]
      refine (cT (gN_eq hC (by omega))).trans ?_
      refine (cT (by rw [decide_eq_true hgo.1, decide_eq_true hgo.2]; rfl)).trans ?_
      refine (cT (hgw _ aD)).trans ?_
      refine (cT (gN_eq bD h1)).trans ?_
      refine (cF (beq_eq_false_iff_ne.2 (by omega))).trans ?_
      refine (cF (decide_eq_false (by omega))).trans ?_
      have hg := getR_app [] (0, 1 + y2.1, 1 + (nextR y2.2 n).1)
      rw [getR_nil] at hg
      show kn (SS n (1 + y2.1) (1 + (nextR y2.2 n).1) 1 (appGet 0 1 (fun _ => rngC (0, 0, 0)) (fillGet (rngC (0, 0, 0)) [(0, .agg (rngC (0, 1 + y2.1, 1 + (nextR y2.2 n).1)))])) (nextR y2.2 n).2 1) = kn (SS n (1 + y2.1) (1 + (nextR y2.2 n).1) 1 (getR [(0, 1 + y2.1, 1 + (nextR y2.2 n).1)]) (nextR y2.2 n).2 1)
      exact congrArg (fun g => kn (SS n (1 + y2.1) (1 + (nextR y2.2 n).1) 1 g (nextR y2.2 n).2 1)) hg
    · refine .inl ⟨⟨true, [], 0, 0, 0, (nextR C 4).2⟩, ⟨aD, fun h => by cases h⟩, fun L k kn => ?_⟩
      refine (dsp_r0 gN (goodA nA nO wdP) vN (valA nA nO wdP ww) L 9 n C kn k (t1 := nextR C 4) (vN_eq hC (by omega)) (t2 := y2) hy2 (t3 := nextR y2.2 n) (vN_eq bD h1)).trans ?_
      refine (cT (gN_eq hC (by omega))).trans ?_
      refine (cF ?_).trans rfl
      by_cases h0 : 0 < (nextR C 4).1
      · rw [decide_eq_true h0, decide_eq_false (show ¬ n > 1 from fun h => hgo ⟨h0, h⟩)]; rfl
      · rw [decide_eq_false h0]; rfl
  | inr y =>
    obtain ⟨l, C⟩ := y
    obtain ⟨hC, l1, l3, hch, e0, e1, e2, e3, n2⟩ := hv
    obtain ⟨q, hq⟩ : ∃ q, l.length = q + 1 := ⟨l.length - 1, by omega⟩
    obtain ⟨a0, a1, aD⟩ := nextR_ok hC (m := 4) (by omega)
    obtain ⟨b0, b1, bD⟩ := hpw _ aD
    generalize hy2 : valA nA nO wdP ww [.ref 1000000 0, .int .i64 5000] [codO (nextR C 4).2] = y2 at b0 b1 bD
    have b1 : y2.1 < 5000 := b1
    obtain ⟨c0, c1, cD⟩ := nextR_ok bD (m := n) h1
    generalize ha : (endR 0 0 l).1 = at' at e0 e1
    generalize hl : (endR 0 0 l).2 = last at e2 e3
    have hS : sS n (.inr (l, C)) = SS n at' last (q + 1) (getR l) C (l.length : Int) := by
      show SS n (endR 0 0 l).1 (endR 0 0 l).2 l.length (getR l) C l.length = _
      rw [ha, hl, hq]
    have ht1 : IntKind.wrap .i64 (IntKind.wrap .i64 (at' + 1) + y2.1) = at' + 1 + y2.1 := by rw [wrap_i64 (x := at' + 1) (by omega) (by omega)]; exact wrap_i64 (by omega) (by omega)
    obtain ⟨vv, v1, v2, v3, hvv⟩ := vary (last := last) h8 n2 c0 c1
    have hE : ∀ D : CODES, D.Ok → sZ n ⟨false, l, q, at', last, D⟩ := fun D hD => ⟨hD, fun _ => ⟨hq, l3, hch, by show (at', last) = endR 0 0 l; rw [← ha, ← hl], e0, e1, e2, e3, n2⟩⟩
    have hround : ∀ L (k : Ex → St → Res) (kn : St → Res), roundR (V2.run [mkE 19 gN vN φX, entC 22 nA nO wdP ww φX] 3 [] L [] 20) 20 9 [1, 1, 1, 0, 1, 0] (sS n (.inr (l, C))) kn k =
        cond (decide ((l.length : Int) < (nextR C 4).1)) (splN n at' last (at' + 1 + y2.1) q (getR l) (nextR y2.2 n).2 l.length kn k vv) (k (.exit 0) (SE n at' last (q + 1) (getR l) (nextR C 4).2)) := fun L k kn => by
      rw [hS]
      refine (dsp_r gN (goodA nA nO wdP) vN (valA nA nO wdP ww) L 9 n at' last q (getR l) C l.length kn k (t1 := nextR C 4) (vN_eq hC (by omega)) (t2 := y2) hy2 (t3 := nextR y2.2 n) (vN_eq bD h1)).trans ?_
      rw [ht1]
      refine (cT (gN_eq hC (by omega))).trans ?_
      rw [decide_eq_true (show n > 1 by omega)]
      by_cases hgo : (l.length : Int) < (nextR C 4).1
      · rw [decide_eq_true hgo]
        refine (cT rfl).trans ?_
        refine (cT (hgw _ aD)).trans ?_
        refine (cT (gN_eq bD h1)).trans ?_
        exact hvv (splN n at' last (at' + 1 + y2.1) q (getR l) (nextR y2.2 n).2 l.length kn k)
      · rw [decide_eq_false hgo]
        exact cF rfl
    by_cases hgo : (l.length : Int) < (nextR C 4).1
    · by_cases hto : at' + 1 + y2.1 ≥ 10000
      · refine .inl ⟨⟨false, l, q, at', last, (nextR y2.2 n).2⟩, hE _ cD, fun L k kn => ?_⟩
        refine (hround L k kn).trans ?_
        rw [decide_eq_true hgo]
        unfold splN
        rw [decide_eq_true hto]; rfl
      · have hl3 : l.length + 1 ≤ 3 := by omega
        refine .inr ⟨.inr (l ++ [(at', at' + 1 + y2.1, vv)], (nextR y2.2 n).2), ⟨cD, by simp, by rw [List.length_append, List.length_singleton]; exact hl3, chainR_app hch ha.symm (by show (endR 0 0 l).1 < at' + 1 + y2.1; omega) v2 v3 (by show vv ≠ (endR 0 0 l).2; rw [hl]; exact v1), by rw [endR_app]; show 0 ≤ at' + 1 + y2.1; omega, by rw [endR_app]; show at' + 1 + y2.1 < 10000; omega, by rw [endR_app]; exact v2, by rw [endR_app]; exact v3, n2⟩, by show 4 - (l ++ [_]).length < 4 - l.length; rw [List.length_append, List.length_singleton]; omega, fun _ h => h, fun L k kn => ?_⟩
        refine (hround L k kn).trans ?_
        rw [decide_eq_true hgo]
        unfold splN
        rw [decide_eq_false hto]
        have hr : (roomy 24 (q + 1 + 1) && Nat.beq (q + 1) (q + 1)) = true := by
          rw [Nat.beq_refl, Bool.and_true]
          unfold roomy
          exact Nat.ble_eq_true_of_le (by omega)
        rw [hr]
        have hg := getR_app l (at', at' + 1 + y2.1, vv)
        rw [hq] at hg
        show kn (SS n (at' + 1 + y2.1) vv (q + 1 + 1) (appGet (q + 1) 1 (getR l) (fillGet (rngC (0, 0, 0)) [(0, .agg (rngC (at', at' + 1 + y2.1, vv)))])) (nextR y2.2 n).2 (IntKind.wrap .i64 ((l.length : Int) + 1))) = kn (SS n (endR 0 0 (l ++ [_])).1 (endR 0 0 (l ++ [_])).2 (l ++ [_]).length (getR (l ++ [_])) (nextR y2.2 n).2 ((l ++ [_]).length : Nat))
        rw [hg, endR_app, List.length_append, List.length_singleton, wrap_i64 (by omega) (by omega), hq]
        rfl
    · refine .inl ⟨⟨false, l, q, at', last, (nextR C 4).2⟩, hE _ aD, fun L k kn => ?_⟩
      refine (hround L k kn).trans ?_
      rw [decide_eq_false hgo]; rfl
end Go.SH

namespace Go.SH
open Go Go.Ab Go.Proofs
set_option linter.unusedVariables false
set_option linter.unusedSimpArgs false
def spP (x : CODES × Int) : Prop := x.1.Ok ∧ 1 ≤ x.2 ∧ x.2 ≤ 1000
def spPost (x : CODES × Int) (y : List RG × CODES) : Prop := chainR x.2 0 0 y.1 ∧ (endR 0 0 y.1).1 = 10000 ∧ 1 ≤ y.1.length ∧ y.1.length ≤ 4 ∧ y.2.Ok
theorem spPost_kind (a b : CODES × Int) (y : List RG × CODES) (h : nA a = nA b) (_ : nO a = nO b) (hy : spPost a y) : spPost b y := by
  simp only [nA, List.cons.injEq, AV.int.injEq, true_and, and_true] at h
  unfold spPost at *
  rw [← h]; exact hy
instance : Inhabited (List RG × CODES) := ⟨([], default)⟩
theorem dsplit_ex (x : CODES × Int) (hx : spP x) : ∃ y : List RG × CODES, spPost x y ∧ Ct V2.P V2.G 20 (nA x) (nO x) (φRg y) := by
  obtain ⟨C, n⟩ := x
  obtain ⟨hC, h1, h8⟩ := hx
  have hC : C.Ok := hC
  have h1 : 1 ≤ n := h1
  have h8 : n ≤ 1000 := h8
  obtain ⟨ww, hww, htw⟩ := ent_ex (V := V2) (f := 22) (A := nA) (O := nO) (Pre := wdP) (φ := φX) (Post := wdPost) wide_ex
  obtain ⟨w, hw, hl⟩ := split_loop n h1 h8 ww hww
  have hc := fun r he => ct_loops (V := V2) (f := 20) (l := nA (C, n)) (os := nO (C, n)) (r := r) (n := 9) (d := 3) (T := [entN, entC 22 nA nO wdP ww φX]) mixed2 funcs2 (tabOk_cons entN_ok (tabOk_cons htw tabOk_nil)) (loopsOk_cons (hl _) loopsOk_nil) he
  have hg : goodS (sS n) (sI n) (SS0 n C) = true := goodS_eq (S := sS n) (v := Sum.inl C) hC
  have hp : sZ n (valS (sS n) (sI n) w (SS0 n C)) := valS_post (S := sS n) (a := Sum.inl C) (Post := fun (_ : SSt) (y : SY) => sZ n y) hw (fun _ _ _ _ h => h) hC
  generalize hy : valS (sS n) (sI n) w (SS0 n C) = y at hp
  obtain ⟨yD, yp⟩ := hp
  have e := dsp_m gN (goodA nA nO wdP) vN (valA nA nO wdP ww) (goodS (sS n) (sI n)) (valS (sS n) (sI n) w) n C (t1 := y) hy (t2 := nextR y.C n) (vN_eq yD h1)
  obtain ⟨c0, c1, cD⟩ := nextR_ok yD (m := n) h1
  have e := e.trans (cT hg)
  cases hb : y.b with
  | true =>
    rw [hb] at e
    have e := (e.trans (cT rfl)).trans (cT (gN_eq yD h1))
    have hv : IntKind.wrap .i64 (1 + (nextR y.C n).1) = 1 + (nextR y.C n).1 := wrap_i64 (by omega) (by omega)
    rw [hv] at e
    have e := e.trans (cF (beq_eq_false_iff_ne.2 (by omega)))
    refine ⟨([(0, 10000, 1 + (nextR y.C n).1)], (nextR y.C n).2), ⟨⟨rfl, by show (0 : Int) < 10000; omega, by show 1 ≤ 1 + (nextR y.C n).1; omega, by show 1 + (nextR y.C n).1 ≤ n; omega, by show 1 + (nextR y.C n).1 ≠ 0; omega, trivial⟩, rfl, by simp, by simp, cD⟩, hc _ (e.trans ?_)⟩
    have hgr := getR_app [] (0, 10000, 1 + (nextR y.C n).1)
    rw [getR_nil] at hgr
    exact congrArg (fun g => some (AV.sl .no 3 1 g, [codO (nextR y.C n).2])) hgr
  | false =>
    obtain ⟨p1, p2, p3, p4, p5, p6, p7, p8, p9⟩ := yp hb
    rw [hb] at e
    have e := (e.trans (cF rfl)).trans (cT (gN_eq yD h1))
    obtain ⟨vv, v1, v2, v3, hvv⟩ := vary (last := y.v) h8 p9 c0 c1
    have e := e.trans (hvv fun vv => cond (roomy 24 (y.q + 1 + 1) && Nat.beq (y.q + 1) (y.q + 1)) (some (.sl .no 3 (y.q + 1 + 1) (appGet (y.q + 1) 1 (getR y.l) (fillGet (rngC (0, 0, 0)) [(0, .agg (rngC (y.a, 10000, vv)))])), [codO (nextR y.C n).2])) none)
    have hr : (roomy 24 (y.q + 1 + 1) && Nat.beq (y.q + 1) (y.q + 1)) = true := by
      rw [Nat.beq_refl, Bool.and_true]
      unfold roomy
      exact Nat.ble_eq_true_of_le (by omega)
    have ha : y.a = (endR 0 0 y.l).1 := by rw [← p4]
    have hv : y.v = (endR 0 0 y.l).2 := by rw [← p4]
    refine ⟨(y.l ++ [(y.a, 10000, vv)], (nextR y.C n).2), ⟨chainR_app p3 ha (by rw [← ha]; exact p6) v2 v3 (by rw [← hv]; exact v1), by rw [endR_app], by simp, by simp; omega, cD⟩, hc _ ((e.trans (cT hr)).trans ?_)⟩
    have hgr := getR_app y.l (y.a, 10000, vv)
    rw [p1] at hgr
    unfold φRg rngL
    simp only [List.length_append, List.length_singleton, p1]
    exact congrArg (fun g => some (AV.sl .no 3 (y.q + 1 + 1) g, [codO (nextR y.C n).2])) hgr
theorem chain_at {n : Int} : ∀ {l : List RG} {a v : Int} (i : Nat), chainR n a v l → i < l.length → 1 ≤ (l.getD i (0, 0, 0)).2.2 ∧ (l.getD i (0, 0, 0)).2.2 ≤ n ∧ (l.getD i (0, 0, 0)).1 < (l.getD i (0, 0, 0)).2.1 ∧
    (i = 0 → (l.getD i (0, 0, 0)).1 = a ∧ (l.getD i (0, 0, 0)).2.2 ≠ v) ∧ (∀ j, i = j + 1 → (l.getD i (0, 0, 0)).1 = (l.getD j (0, 0, 0)).2.1 ∧ (l.getD i (0, 0, 0)).2.2 ≠ (l.getD j (0, 0, 0)).2.2)
  | [], _, _, i, _, hi => by simp at hi
  | r :: l, a, v, 0, h, _ => ⟨h.2.2.1, h.2.2.2.1, by have := h.1; have := h.2.1; show r.1 < r.2.1; omega, fun _ => ⟨h.1, h.2.2.2.2.1⟩, fun j hj => by omega⟩
  | r :: l, a, v, i + 1, h, hi => by
    obtain ⟨p1, p2, p3, p4, p5⟩ := chain_at i h.2.2.2.2.2 (by simpa using hi)
    refine ⟨p1, p2, p3, fun h => by omega, fun j hj => ?_⟩
    obtain rfl : i = j := by omega
    cases i with
    | zero => exact p4 rfl
    | succ i => exact p5 i rfl
theorem endR_last : ∀ {l : List RG} {a v : Int}, l ≠ [] → endR a v l = ((l.getD (l.length - 1) (0, 0, 0)).2.1, (l.getD (l.length - 1) (0, 0, 0)).2.2)
  | [], _, _, h => absurd rfl h
  | [r], _, _, _ => rfl
  | r :: q :: l, a, v, _ => by
    have := endR_last (l := q :: l) (a := r.2.1) (v := r.2.2) (by simp)
    show endR r.2.1 r.2.2 (q :: l) = _
    rw [this]
    simp
theorem scan_nothing {τ : Type} [Inhabited τ] {n : Nat} {stop : Nat → Option τ} (h : ∀ i, i < n → stop i = none) : ∀ d i, (scan n (· + 1) stop d i).1 = false
  | 0, _ => rfl
  | d + 1, i => by
    simp only [scan]
    by_cases hi : i < n
    · rw [if_pos hi, h i hi]; exact scan_nothing h d (i + 1)
    · rw [if_neg hi]
theorem split_good {n : Int} {l : List RG} (h : chainR n 0 0 l) (he : (endR 0 0 l).1 = 10000) (h1 : 1 ≤ l.length) (h16 : l.length ≤ 16) : splitE l n = 0 := by
  have hs : (splitSeek l n).1 = false := scan_nothing (fun i hi => by
    obtain ⟨p1, p2, p3, p4, p5⟩ := chain_at i h hi
    have hp : (l.getD i (0, 0, 0)).1 = (prevR l i).2.1 ∧ (l.getD i (0, 0, 0)).2.2 ≠ (prevR l i).2.2 := by
      cases i with
      | zero => exact p4 rfl
      | succ i => rw [prevR_succ]; exact p5 i rfl
    unfold splitStop
    rw [decide_eq_false (show ¬ (l.getD i (0, 0, 0)).2.2 < 1 by omega), decide_eq_false (show ¬ (l.getD i (0, 0, 0)).2.2 > n by omega), hp.1, decide_eq_false (show ¬ (l.getD i (0, 0, 0)).2.1 ≤ (prevR l i).2.1 by omega), beq_eq_false_iff_ne.2 hp.2]
    simp) _ _
  have hl : (prevR l l.length).2.1 = 10000 := by
    obtain ⟨k, hk⟩ : ∃ k, l.length = k + 1 := ⟨l.length - 1, by omega⟩
    rw [hk, prevR_succ, ← he, endR_last (by intro h0; subst h0; simp at h1)]
    rw [hk]; rfl
  unfold splitE
  rw [decide_eq_false (by omega), hs, hl]; rfl
def inR (b : Int) (r : RG) : Bool := decide (r.1 ≤ b) && decide (b < r.2.1)
def hits (b : Int) : List RG → Nat
  | [] => 0
  | r :: l => (bif inR b r then 1 else 0) + hits b l
def pickL (b : Int) : List RG → Int
  | [] => 0
  | r :: l => bif inR b r then r.2.2 else pickL b l
end Go.SH

namespace Go.Ab
open Go Go.RowKit
variable {B : Base} {c : Cx} {s : St} {a : Act}
def Told (cs cs' : List AV) : Prop := cs'.length = cs.length ∧ keysL cs' = [] ∧ ∀ (i : Nat) (u u' : AV), cs[i]? = some u → cs'[i]? = some u' → u'.one = true ∧ ∀ c x, Rep c u x → Rep c u' x
inductive ObjLe : AO → AO → Prop
  | same (o) : ObjLe o o
  | cells (cs cs') : Told cs cs' → ObjLe (.cells cs) (.cells cs')
  | grw (sz n get get') : (∀ j, j < n → get' j = get j) → ObjLe (.grw sz n get) (.grw sz n get')
inductive ObjsLe : List (Nat × AO) → List (Nat × AO) → Prop
  | nil : ObjsLe [] []
  | cons (k o o' r r') : ObjLe o o' → ObjsLe r r' → ObjsLe ((k, o) :: r) ((k, o') :: r')
theorem ObjsLe.look {l l' : List (Nat × AO)} (h : ObjsLe l l') (k : Nat) : (alook l k = none ∧ alook l' k = none) ∨ ∃ o o', alook l k = some o ∧ alook l' k = some o' ∧ ObjLe o o' := by
  induction h with
  | nil => exact .inl ⟨rfl, rfl⟩
  | cons q o o' r r' h1 _ ih =>
    simp only [alook]
    cases hb : Nat.beq q k with
    | true => exact .inr ⟨o, o', rfl, rfl, h1⟩
    | false => exact ih
theorem ObjLe.excl {o o' : AO} (h : ObjLe o o') (k : Nat) : excl c k o' = excl c k o := by cases h <;> rfl
theorem ObjLe.keys {o o' : AO} (h : ObjLe o o') : o' = o ∨ o'.keys = [] := by
  cases h with
  | same => exact .inl rfl
  | cells cs cs' h => exact .inr h.2.1
  | grw sz n get get' h => exact .inr rfl
theorem ObjLe.rep {o o' : AO} (h : ObjLe o o') {k : Nat} (hr : ObjRep c k o) : ObjRep c k o' := by
  cases h with
  | same => exact hr
  | cells cs cs' h =>
    obtain ⟨⟨⟨vs, t, hh, hs, hv⟩, h1⟩, hI, hf⟩ := hr
    have hg : ∀ (i : Nat) (u' : AV), cs'[i]? = some u' → ∃ u, cs[i]? = some u := fun i u' hu => by
      have := (List.getElem?_eq_some_iff.1 hu).1
      rw [h.1] at this
      exact ⟨_, List.getElem?_eq_getElem this⟩
    refine ⟨⟨⟨vs, t, hh, by rw [h.1]; exact hs, fun i u' hu => ?_⟩, fun i u' hu => ?_⟩, hI, hf⟩
    · obtain ⟨u, hu0⟩ := hg i u' hu
      exact (h.2.2 i u u' hu0 hu).2 _ _ (hv i u hu0)
    · obtain ⟨u, hu0⟩ := hg i u' hu
      exact (h.2.2 i u u' hu0 hu).1
  | grw sz n get get' h =>
    obtain ⟨h0, hfr, hm⟩ := hr
    refine ⟨h0, hfr, ?_⟩
    cases hc : c.κ k with
    | none => simp only [hc] at hm; exact hm
    | some p =>
      obtain ⟨a, cap⟩ := p
      simp only [hc] at hm ⊢
      refine ⟨hm.1, fun hlt => ?_⟩
      obtain ⟨⟨vs, t, hh, hs, hv⟩, had, hl, h1, hfree⟩ := hm.2 hlt
      exact ⟨⟨vs, t, hh, hs, fun j i u hj hu => hv j i u hj (by rwa [h j hj] at hu)⟩, had, fun j hj => by rw [h j hj]; exact hl j hj, fun j i u hj hu => h1 j i u hj (by rwa [h j hj] at hu), hfree⟩
theorem Rel.weak (h : Rel B c s a) {objs' : List (Nat × AO)} (hw : ObjsLe s.objs objs') : Rel B c { env := s.env, objs := objs' } a := by
  have hlive : ∀ k, live s.objs k → live objs' k := fun k hk => by
    obtain ⟨o, hk⟩ := hk
    rcases hw.look k with ⟨h1, _⟩ | ⟨_, o', _, h2, _⟩
    · rw [h1] at hk; cases hk
    · exact ⟨o', h2⟩
  have hback : ∀ {k o'}, alook objs' k = some o' → ∃ o, alook s.objs k = some o ∧ ObjLe o o' := fun {k o'} hk => by
    rcases hw.look k with ⟨_, h1⟩ | ⟨o, o2, h1, h2, h3⟩
    · rw [h1] at hk; cases hk
    · rw [h2] at hk; cases hk; exact ⟨o, h1, h3⟩
  refine ⟨h.good, h.frame, ⟨fun k o' hk => ?_, fun k o' q o2 b hk hq hne hb => ?_, fun k o' hk q hq => ?_⟩, h.env, fun t v hv k hk => hlive k (h.closed t v hv k hk), fun k o' b hk hb => ?_, h.tmps, h.defers, fun k hk => hlive k (h.kept k hk)⟩
  · obtain ⟨o, h1, h2⟩ := hback hk
    exact h2.rep (h.objs.rep k o h1)
  · obtain ⟨o, h1, h2⟩ := hback hk
    obtain ⟨o3, h3, h4⟩ := hback hq
    rw [h4.excl]
    rw [h2.excl] at hb
    exact h.objs.apart k o q o3 b h1 h3 hne hb
  · obtain ⟨o, h1, h2⟩ := hback hk
    rcases h2.keys with rfl | h0
    · exact hlive q (h.objs.closed k _ h1 q hq)
    · rw [h0] at hq; cases hq
  · obtain ⟨o, h1, h2⟩ := hback hk
    rw [h2.excl] at hb
    exact h.mine k o b h1 hb
open Classical in
theorem viewOk_weak {α : Type} [Inhabited α] (S S' : α → St) (Inv : α → Prop) (hS : ∀ v, Inv v → (S' v).env = (S v).env ∧ ObjsLe (S v).objs (S' v).objs) : ViewOk (mkV (goodS S Inv) (valS S Inv id) S') := by
  intro s k r h
  unfold mkV at h
  obtain ⟨hg, h⟩ := cond_none h
  have hx : ∃ v, Inv v ∧ S v = s := of_decide_eq_true hg
  unfold valS at h
  rw [dif_pos hx, id] at h
  obtain ⟨h1, h2⟩ := hx.choose_spec
  obtain ⟨e1, e2⟩ := hS _ h1
  refine ⟨_, h, fun B c a hr hn => ⟨c, rfl, ?_, ?_⟩⟩
  · rw [h2] at e1 e2
    have := hr.weak e2
    rw [← e1] at this
    exact this
  · intro t v hv
    refine hn t v ?_
    rw [← h2]
    show alook (S hx.choose).env t = some v
    rw [← e1]; exact hv
end Go.Ab

namespace Go.Ab
open Go Go.RowKit
variable {B : Base} {c : Cx} {s : St} {a : Act}
def fzSlot (s : St) (t : Nat) : Option St := (s.get t).bind fun v => (freezeA s.objs v).map fun r => ({ env := s.env, objs := r.2 } : St).put (some t) r.1
def fzCell (s : St) (ob off : Nat) : Option St :=
  match s.obj ob with
  | some (.cells cs) => (cs[off]?).bind fun v => (freezeA s.objs v).bind fun r => (match alook r.2 ob with
    | some (.cells cs') => some { env := s.env, objs := aput r.2 ob (.cells (cs'.set off r.1)) }
    | _ => none)
  | _ => none
theorem fzSlot_sound {t : Nat} {s' : St} (h : Rel B c s a) (hn : NoGrd s) (he : fzSlot s t = some s') : ∃ c', c'.w = c.w ∧ Rel B c' s' a ∧ NoGrd s' := by
  unfold fzSlot at he
  obtain ⟨v, hv, he⟩ := opt_bind he
  obtain ⟨⟨v', objs'⟩, hf, rfl⟩ := opt_map he
  have hp := hn t v hv
  have hr : Rep c v (a.tmps.getD t undef) := by
    have := h.env t v hv
    cases v <;> first | exact this | simp [AV.isGrd] at hp
  obtain ⟨c', e1, e2, e3, _, _⟩ := freezeA_sound h ⟨hr, h.closed t v hv, hp⟩ hf
  have hn' : NoGrd { env := s.env, objs := objs' } := fun q u hu => hn q u hu
  exact ⟨c', e1, e2.reslot e3 hn', hn'.put e3.plain⟩
open Classical in
theorem viewOk_step {α : Type} [Inhabited α] (S S' : α → St) (Inv : α → Prop) (hS : ∀ v, Inv v → ∀ (B : Base) (c : Cx) (a : Act), Rel B c (S v) a → NoGrd (S v) → ∃ c', c'.w = c.w ∧ Rel B c' (S' v) a ∧ NoGrd (S' v)) : ViewOk (mkV (goodS S Inv) (valS S Inv id) S') := by
  intro s k r h
  unfold mkV at h
  obtain ⟨hg, h⟩ := cond_none h
  have hx : ∃ v, Inv v ∧ S v = s := of_decide_eq_true hg
  unfold valS at h
  rw [dif_pos hx, id] at h
  obtain ⟨h1, h2⟩ := hx.choose_spec
  exact ⟨_, h, fun B c a hr hn => hS _ h1 B c a (by rw [h2]; exact hr) (by rw [h2]; exact hn)⟩
end Go.Ab

namespace Go.SH
open Go Go.Ab Go.Proofs
set_option linter.unusedVariables false
set_option linter.unusedSimpArgs false
noncomputable def V3 : Env := { V2 with hint := fun f t => cond (Nat.beq f 55) (hn [0, 1, 6] [75] [] []) (V2.hint f t), grow := fun o => cond (Nat.beq o.type 37) (match o.dst with | some d => Nat.beq d 8 || Nat.beq d 75 | none => false) false, brk := fun o => match o.dst with | some d => cond (Nat.beq d 14) (Nat.beq o.type 29) (cond (Nat.beq d 15) (Nat.beq o.type 3) (Nat.beq d 16 && Nat.beq o.type 4)) | none => false }
structure RV where
  k : Nat
  n : Nat
  get : Nat → List AV
  C : CODES
instance : Inhabited RV := ⟨⟨0, 0, fun _ => [], default⟩⟩
def RS1 (n : Nat) (x : List (Int × Int × Int) × CODES) : St := { env := [(0, .ref keyBase 0), (1, .gsl 8 3 n)], objs := [(8, .grw 3 n (getR x.1)), (keyBase, codO x.2)] }
def RS2 (x : RV) : St := { env := [(1, .sl .no 3 x.n x.get)], objs := [(keyBase, codO x.C), (x.k, .own 3 x.n)] }
def RL0 (C : CODES) : St := { env := [(0, .ref keyBase 0), (1, .sl .fit 0 0 fun _ => []), (6, .int .i64 0)], objs := [(keyBase, codO C)] }
def RL (m : Nat) (get : Nat → List AV) (C : CODES) (i : Int) : St := { env := [(0, .ref keyBase 0), (1, .gsl 75 3 m), (6, .int .i64 i)], objs := [(75, .grw 3 m get), (keyBase, codO C)] }
def RE (m : Nat) (get : Nat → List AV) (C : CODES) : St := { env := [(1, .gsl 75 3 m)], objs := [(75, .grw 3 m get), (keyBase, codO C)] }
structure RO where
  m : Nat
  get : Nat → List AV
  C : CODES
instance : Inhabited RO := ⟨⟨0, fun _ => [], default⟩⟩
def outR (x : RO) (k : Ex → St → Res) : Res := k (.exit 1) (RE x.m x.get x.C)
structure RP where
  m : Nat
  l : List (Int × Int × Int)
  C : CODES
instance : Inhabited RP := ⟨⟨0, [], default⟩⟩
def RS3 (x : RP) : St := RE x.m (getR x.l) x.C
set_option maxRecDepth 100000 in
theorem rg_nil (ge gu : List AV → List AO → Bool) (ve vu : List AV → List AO → Int × CODES) (get : Nat → List AV) (C : CODES)  : runF (V2.run [mkE 19 ge ve φX, mkE 51 gu vu φX] 3 [] [] [] 55) 9 55 [.ref keyBase 0, .sl .no 3 0 get] [codO C] =
  some ((.sl .no 3 0 (appGet 0 0 (fun x => []) get), [codO C])) := by kernel_rfl
set_option maxRecDepth 100000 in
theorem rg_r0 (ge : List AV → List AO → Bool) (ve : List AV → List AO → Int × CODES) (T : List Ent) (L : List (List Nat × Orc)) (v1 v2 v3 : Vw) (m : Nat) (C : CODES) (kn : St → Res) (k : Ex → St → Res) {t1 : Int × CODES} (h_t1 : ve [.ref 1000000 0, .int .i64 2] [codO C] = t1) : roundR (V3.run (mkE 19 ge ve φX :: T) 3 [] L [([1, 1, 1], v1), ([1, 1, 1, 1, 1], v2), ([1, 1, 1, 1, 0, 1, 0, 1, 1, 1, 1, 1, 1, 1, 1, 1, 1, 1, 0, 1, 1], v3)] 55) 55 m [1, 1, 1, 1, 0, 1, 0, 1, 1, 1, 1, 1, 1, 1, 1, 1, 1, 1, 0, 1, 0, 1, 0] (RL0 C) kn k =
  cond (ge [.ref 1000000 0, .int .i64 2] [codO C]) (cond (decide (0 < IntKind.wrap IntKind.i64 (16 + Prod.fst t1))) (kn (RL 1 (appGet 0 1 (fun x => []) (fillGet [.int .i64 0, .int .i64 0, .int .i64 0] [(0, .agg [.int .i64 0, .int .i64 (IntKind.wrap IntKind.i64 (0 + 1)), .int .i64 (IntKind.wrap IntKind.i64 (1 + Int.tmod 0 2))])])) (Prod.snd t1) (IntKind.wrap IntKind.i64 (0 + 1)))) (k (.exit 1) ({ env := [(1, .sl .fit 0 0 fun x => [])], objs := [(1000000, codO (Prod.snd t1))] }))) (none) := by subst h_t1; kernel_rfl
set_option maxRecDepth 100000 in
theorem rg_r (ge : List AV → List AO → Bool) (ve : List AV → List AO → Int × CODES) (T : List Ent) (L : List (List Nat × Orc)) (v1 v2 v3 : Vw) (m : Nat) (q : Nat) (get : Nat → List AV) (C : CODES) (i : Nat) (kn : St → Res) (k : Ex → St → Res) {t1 : Int × CODES} (h_t1 : ve [.ref 1000000 0, .int .i64 2] [codO C] = t1) : roundR (V3.run (mkE 19 ge ve φX :: T) 3 [] L [([1, 1, 1], v1), ([1, 1, 1, 1, 1], v2), ([1, 1, 1, 1, 0, 1, 0, 1, 1, 1, 1, 1, 1, 1, 1, 1, 1, 1, 0, 1, 1], v3)] 55) 55 m [1, 1, 1, 1, 0, 1, 0, 1, 1, 1, 1, 1, 1, 1, 1, 1, 1, 1, 0, 1, 0, 1, 0] (RL (q + 1) get C i) kn k =
  cond (ge [.ref 1000000 0, .int .i64 2] [codO C]) (cond (decide ((↑i : Int) < IntKind.wrap IntKind.i64 (16 + Prod.fst t1))) (cond (roomy (24) (q + 1 + 1) && Nat.beq (q + 1) (q + 1)) (kn (RL (q + 1 + 1) (appGet (q + 1) 1 get (fillGet [.int .i64 0, .int .i64 0, .int .i64 0] [(0, .agg [.int .i64 (↑i : Int), .int .i64 (IntKind.wrap IntKind.i64 ((↑i : Int) + 1)), .int .i64 (IntKind.wrap IntKind.i64 (1 + Int.tmod (↑i : Int) 2))])])) (Prod.snd t1) (IntKind.wrap IntKind.i64 ((↑i : Int) + 1)))) (none)) (k (.exit 1) (RE (q + 1) get (Prod.snd t1)))) (none) := by subst h_t1; kernel_rfl
set_option maxRecDepth 100000 in
theorem rg_3 (ge gu : List AV → List AO → Bool) (ve vu : List AV → List AO → Int × CODES) (D : CODES) (q : Nat) (get : Nat → List AV) (C : CODES) {t1 : Int × CODES} (h_t1 : ve [.ref 1000000 0, .int .i64 (↑(0 + (q + 1)) : Int)] [codO C] = t1) : runF (V2.run [mkE 19 ge (fun l os => cond (argN 6 l) (3, D) (ve l os)) φX, mkE 51 gu vu φX] 3 [] [] [] 55) 9 55 [.ref keyBase 0, .sl .no 3 (q + 1) get] [codO C] =
  cond (roomy (24) (0 + (q + 1))) (cond (ge [.ref 1000000 0, .int .i64 (↑(0 + (q + 1)) : Int)] [codO C]) (cond (ge [.ref 1000000 0, .int .i64 6] [codO (Prod.snd (bif argN 6 [.ref 1000000 0, .int .i64 (↑(0 + (q + 1)) : Int)] then (3, D) else t1))]) (cond (decide (0 ≤ (↑0 : Int)) && (decide ((↑0 : Int) ≤ Prod.fst (bif argN 6 [.ref 1000000 0, .int .i64 (↑(0 + (q + 1)) : Int)] then (3, D) else t1)) && decide (Prod.fst (bif argN 6 [.ref 1000000 0, .int .i64 (↑(0 + (q + 1)) : Int)] then (3, D) else t1) ≤ (↑(0 + (q + 1)) : Int)))) (some ((.sl .no 3 (Int.toNat (Prod.fst (bif argN 6 [.ref 1000000 0, .int .i64 (↑(0 + (q + 1)) : Int)] then (3, D) else t1)) - Int.toNat (↑0 : Int)) fun j => appGet 0 (q + 1) (fun x => []) get (Int.toNat (↑0 : Int) + j), [codO D]))) (none)) (none)) (none)) (none) := by subst h_t1; kernel_rfl
set_option maxRecDepth 100000 in
theorem rg_m (ge gu : List AV → List AO → Bool) (ve vu : List AV → List AO → Int × CODES) (g1 g2 g3 g4 : St → Bool) (v1 : St → List (Int × Int × Int) × CODES) (v2 : St → RV) (v3 : St → RO) (v4 : St → RP) (q : Nat) (l : List (Int × Int × Int)) (C : CODES) {t1 : List (Int × Int × Int) × CODES} (h_t1 : v1 { env := [(0, .ref 1000000 0), (1, AV.gsl 8 3 (0 + (q + 1)))], objs := [(8, AO.grw 3 (0 + (q + 1)) (appGet 0 (q + 1) (fun x => []) (getR l))), (1000000, codO C)] } = t1) {t2 : Int × CODES} (h_t2 : ve [.ref 1000000 0, .int .i64 (↑(q + 1) : Int)] [codO (Prod.snd t1)] = t2) {t3 : Int × CODES} (h_t3 : ve [.ref 1000000 0, .int .i64 6] [codO (Prod.snd t2)] = t3) {t4 : Int × CODES} (h_t4 : vu [.ref 1000000 0] [codO (Prod.snd t3)] = t4) {t5 : RV} (h_t5 : v2 { env := [(1, AV.gsl 8 3 (q + 1))], objs := [(8, AO.grw 3 (q + 1) fun j => bif Nat.beq j (Int.toNat (Prod.fst t2)) then [.int .i64 (Prod.fst t4), .int .i64 (Prod.fst (Prod.snd (List.getD (Prod.fst t1) (Int.toNat (Prod.fst t2)) (0, 0, 0)))), .int .i64 (Prod.snd (Prod.snd (List.getD (Prod.fst t1) (Int.toNat (Prod.fst t2)) (0, 0, 0))))] else rngC (List.getD (Prod.fst t1) j (0, 0, 0))), (1000000, codO (Prod.snd t4))] } = t5) {t6 : RV} (h_t6 : v2 { env := [(1, AV.gsl 8 3 (q + 1))], objs := [(8, AO.grw 3 (q + 1) fun j => bif Nat.beq j (Int.toNat (Prod.fst t2)) then [.int .i64 (Prod.fst (List.getD (Prod.fst t1) (Int.toNat (Prod.fst t2)) (0, 0, 0))), .int .i64 (Prod.fst t4), .int .i64 (Prod.snd (Prod.snd (List.getD (Prod.fst t1) (Int.toNat (Prod.fst t2)) (0, 0, 0))))] else rngC (List.getD (Prod.fst t1) j (0, 0, 0))), (1000000, codO (Prod.snd t4))] } = t6) {t7 : RV} (h_t7 : v2 { env := [(1, AV.gsl 8 3 (q + 1))], objs := [(8, AO.grw 3 (q + 1) fun j => bif Nat.beq j (Int.toNat (Prod.fst t2)) then [.int .i64 (Prod.fst (List.getD (Prod.fst t1) (Int.toNat (Prod.fst t2)) (0, 0, 0))), .int .i64 (Prod.fst (Prod.snd (List.getD (Prod.fst t1) (Int.toNat (Prod.fst t2)) (0, 0, 0)))), .int .i64 (Prod.fst t4)] else rngC (List.getD (Prod.fst t1) j (0, 0, 0))), (1000000, codO (Prod.snd t4))] } = t7) {t8 : RV} (h_t8 : v2 { env := [(1, AV.gsl 8 3 (q + 1 + 1))], objs := [(8, AO.grw 3 (q + 1 + 1) (appGet (q + 1) 1 (getR (Prod.fst t1)) (fillGet [.int .i64 0, .int .i64 0, .int .i64 0] [(0, .agg (rngC (List.getD (Prod.fst t1) (Int.toNat (Prod.fst t2)) (0, 0, 0))))]))), (1000000, codO (Prod.snd t3))] } = t8) {t9 : RO} (h_t9 : v3 { env := [(0, .ref 1000000 0), (1, .sl .fit 0 0 fun x => []), (6, .int .i64 0)], objs := [(1000000, codO (Prod.snd t3))] } = t9) {t10 : RP} (h_t10 : v4 (RE (RO.m t9) (RO.get t9) (RO.C t9)) = t10) {t11 : RV} (h_t11 : v2 (RE (RP.m t10) (fun j => bif Nat.beq j (Int.toNat (IntKind.wrap IntKind.i64 ((↑(RP.m t10) : Int) - 1))) then [.int .i64 (Prod.fst (List.getD (RP.l t10) (Int.toNat (IntKind.wrap IntKind.i64 ((↑(RP.m t10) : Int) - 1))) (0, 0, 0))), .int .i64 10000, .int .i64 (Prod.snd (Prod.snd (List.getD (RP.l t10) (Int.toNat (IntKind.wrap IntKind.i64 ((↑(RP.m t10) : Int) - 1))) (0, 0, 0))))] else rngC (List.getD (RP.l t10) j (0, 0, 0))) (RP.C t10)) = t11) {t12 : RV} (h_t12 : v2 { env := [(1, AV.gsl 8 3 (q + 1))], objs := [(8, AO.grw 3 (q + 1) (getR (Prod.fst t1))), (1000000, codO (Prod.snd t3))] } = t12) : runF (V3.run [mkE 19 ge ve φX, mkE 51 gu vu φX] 3 [] [([1, 1, 1, 1, 0, 1, 0, 1, 1, 1, 1, 1, 1, 1, 1, 1, 1, 1, 0, 1, 0, 1, 0], mkO g3 v3 outR)] [([1, 1, 1], mkV g1 v1 (RS1 (q + 1))), ([1, 1, 1, 1, 1], mkV g2 v2 RS2), ([1, 1, 1, 1, 0, 1, 0, 1, 1, 1, 1, 1, 1, 1, 1, 1, 1, 1, 0, 1, 1], mkV g4 v4 RS3)] 55) 9 55 [.ref keyBase 0, .sl .no 3 (q + 1) (getR l)] [codO C] =
  cond (roomy (24) (0 + (q + 1))) (cond (g1 { env := [(0, .ref 1000000 0), (1, AV.gsl 8 3 (0 + (q + 1)))], objs := [(8, AO.grw 3 (0 + (q + 1)) (appGet 0 (q + 1) (fun x => []) (getR l))), (1000000, codO C)] }) (cond (ge [.ref 1000000 0, .int .i64 (↑(q + 1) : Int)] [codO (Prod.snd t1)]) (cond (ge [.ref 1000000 0, .int .i64 6] [codO (Prod.snd t2)]) (cond (Prod.fst t3 == 0) (cond (gu [.ref 1000000 0] [codO (Prod.snd t3)]) (cond (within (Prod.fst t2) (q + 1) && Nat.beq (q + 1) (q + 1)) (cond (Nat.blt (Int.toNat (Prod.fst t2)) (q + 1) && Nat.beq (q + 1) (q + 1)) (cond (g2 { env := [(1, AV.gsl 8 3 (q + 1))], objs := [(8, AO.grw 3 (q + 1) fun j => bif Nat.beq j (Int.toNat (Prod.fst t2)) then [.int .i64 (Prod.fst t4), .int .i64 (Prod.fst (Prod.snd (List.getD (Prod.fst t1) (Int.toNat (Prod.fst t2)) (0, 0, 0)))), .int .i64 (Prod.snd (Prod.snd (List.getD (Prod.fst t1) (Int.toNat (Prod.fst t2)) (0, 0, 0))))] else rngC (List.getD (Prod.fst t1) j (0, 0, 0))), (1000000, codO (Prod.snd t4))] }) (some ((.sl .no 3 (RV.n t5) (RV.get t5), [codO (RV.C t5)]))) (none)) (none)) (none)) (none)) (cond (Prod.fst t3 == 1) (cond (gu [.ref 1000000 0] [codO (Prod.snd t3)]) (cond (within (Prod.fst t2) (q + 1) && Nat.beq (q + 1) (q + 1)) (cond (Nat.blt (Int.toNat (Prod.fst t2)) (q + 1) && Nat.beq (q + 1) (q + 1)) (cond (g2 { env := [(1, AV.gsl 8 3 (q + 1))], objs := [(8, AO.grw 3 (q + 1) fun j => bif Nat.beq j (Int.toNat (Prod.fst t2)) then [.int .i64 (Prod.fst (List.getD (Prod.fst t1) (Int.toNat (Prod.fst t2)) (0, 0, 0))), .int .i64 (Prod.fst t4), .int .i64 (Prod.snd (Prod.snd (List.getD (Prod.fst t1) (Int.toNat (Prod.fst t2)) (0, 0, 0))))] else rngC (List.getD (Prod.fst t1) j (0, 0, 0))), (1000000, codO (Prod.snd t4))] }) (some ((.sl .no 3 (RV.n t6) (RV.get t6), [codO (RV.C t6)]))) (none)) (none)) (none)) (none)) (cond (Prod.fst t3 == 2) (cond (gu [.ref 1000000 0] [codO (Prod.snd t3)]) (cond (within (Prod.fst t2) (q + 1) && Nat.beq (q + 1) (q + 1)) (cond (Nat.blt (Int.toNat (Prod.fst t2)) (q + 1) && Nat.beq (q + 1) (q + 1)) (cond (g2 { env := [(1, AV.gsl 8 3 (q + 1))], objs := [(8, AO.grw 3 (q + 1) fun j => bif Nat.beq j (Int.toNat (Prod.fst t2)) then [.int .i64 (Prod.fst (List.getD (Prod.fst t1) (Int.toNat (Prod.fst t2)) (0, 0, 0))), .int .i64 (Prod.fst (Prod.snd (List.getD (Prod.fst t1) (Int.toNat (Prod.fst t2)) (0, 0, 0)))), .int .i64 (Prod.fst t4)] else rngC (List.getD (Prod.fst t1) j (0, 0, 0))), (1000000, codO (Prod.snd t4))] }) (some ((.sl .no 3 (RV.n t7) (RV.get t7), [codO (RV.C t7)]))) (none)) (none)) (none)) (none)) (cond (Prod.fst t3 == 3) (none) (cond (Prod.fst t3 == 4) (cond (within (Prod.fst t2) (q + 1) && Nat.beq (q + 1) (q + 1)) (cond (Nat.blt (Int.toNat (Prod.fst t2)) (q + 1) && Nat.beq (q + 1) (q + 1)) (cond (roomy (24) (q + 1 + 1) && Nat.beq (q + 1) (q + 1)) (cond (g2 { env := [(1, AV.gsl 8 3 (q + 1 + 1))], objs := [(8, AO.grw 3 (q + 1 + 1) (appGet (q + 1) 1 (getR (Prod.fst t1)) (fillGet [.int .i64 0, .int .i64 0, .int .i64 0] [(0, .agg (rngC (List.getD (Prod.fst t1) (Int.toNat (Prod.fst t2)) (0, 0, 0))))]))), (1000000, codO (Prod.snd t3))] }) (some ((.sl .no 3 (RV.n t8) (RV.get t8), [codO (RV.C t8)]))) (none)) (none)) (none)) (none)) (cond (Prod.fst t3 == 5) (cond (g3 { env := [(0, .ref 1000000 0), (1, .sl .fit 0 0 fun x => []), (6, .int .i64 0)], objs := [(1000000, codO (Prod.snd t3))] }) (cond (g4 (RE (RO.m t9) (RO.get t9) (RO.C t9))) (cond (within (IntKind.wrap IntKind.i64 ((↑(RP.m t10) : Int) - 1)) (RP.m t10) && Nat.beq (RP.m t10) (RP.m t10)) (cond (Nat.blt (Int.toNat (IntKind.wrap IntKind.i64 ((↑(RP.m t10) : Int) - 1))) (RP.m t10) && Nat.beq (RP.m t10) (RP.m t10)) (cond (g2 (RE (RP.m t10) (fun j => bif Nat.beq j (Int.toNat (IntKind.wrap IntKind.i64 ((↑(RP.m t10) : Int) - 1))) then [.int .i64 (Prod.fst (List.getD (RP.l t10) (Int.toNat (IntKind.wrap IntKind.i64 ((↑(RP.m t10) : Int) - 1))) (0, 0, 0))), .int .i64 10000, .int .i64 (Prod.snd (Prod.snd (List.getD (RP.l t10) (Int.toNat (IntKind.wrap IntKind.i64 ((↑(RP.m t10) : Int) - 1))) (0, 0, 0))))] else rngC (List.getD (RP.l t10) j (0, 0, 0))) (RP.C t10))) (some ((.sl .no 3 (RV.n t11) (RV.get t11), [codO (RV.C t11)]))) (none)) (none)) (none)) (none)) (none)) (cond (g2 { env := [(1, AV.gsl 8 3 (q + 1))], objs := [(8, AO.grw 3 (q + 1) (getR (Prod.fst t1))), (1000000, codO (Prod.snd t3))] }) (some ((.sl .no 3 (RV.n t12) (RV.get t12), [codO (RV.C t12)]))) (none)))))))) (none)) (none)) (none)) (none) := by subst h_t12 h_t11 h_t10 h_t9 h_t8 h_t7 h_t6 h_t5 h_t4 h_t3 h_t2 h_t1; kernel_rfl
end Go.SH

namespace Go.SH
open Go Go.Ab Go.Proofs
set_option linter.unusedVariables false
set_option linter.unusedSimpArgs false
theorem mixed3 : V3.P.follows .mixedOrders = true := mixed
theorem funcs3 : FuncsOk V3.P := funcs
def rdec : List AV → RG
  | [.int _ a, .int _ b, .int _ c] => (a, b, c)
  | _ => (0, 0, 0)
def rowOk (a : List AV) : Prop := a = rngC (rdec a)
theorem rowOk_rng (r : RG) : rowOk (rngC r) := rfl
theorem rng_told {f : FuncId} {A : List AV} {O os : List AO} {n : Nat} {get : Nat → List AV} (hg : ∀ j, j < n → rowOk (get j)) (h : Ct V2.P V2.G f A O (.sl .no 3 n get, os)) : Ct V2.P V2.G f A O (rngL ((List.range n).map fun j => rdec (get j)), os) := by
  refine h.res (by simp [rngL, AV.keys]) fun c v hv => ?_
  have hl : ((List.range n).map fun j => rdec (get j)).length = n := by simp
  have := Rep.slWeak (get' := fun j => rngC (((List.range n).map fun j => rdec (get j)).getD j (0, 0, 0))) (fun j hj => by
    rw [hg j hj]
    simp [List.getD, hj]) hv
  unfold rngL
  rw [hl]; exact this
abbrev RSt := CODES ⊕ RO
def rS : RSt → St
  | .inl C => RL0 C
  | .inr x => RL x.m x.get x.C x.m
def rI : RSt → Prop
  | .inl C => C.Ok
  | .inr x => x.C.Ok ∧ 1 ≤ x.m ∧ x.m ≤ 17 ∧ ∀ j, j < x.m → rowOk (x.get j)
def rM : RSt → Nat
  | .inl _ => 20
  | .inr x => 18 - x.m
def rZ (x : RO) : Prop := x.C.Ok ∧ 16 ≤ x.m ∧ x.m ≤ 17 ∧ ∀ j, j < x.m → rowOk (x.get j)
theorem rowOk_app {m : Nat} {get : Nat → List AV} {z : List AV} {a b c : Int} (h : ∀ j, j < m → rowOk (get j)) : ∀ j, j < m + 1 → rowOk (appGet m 1 get (fillGet z [(0, .agg [.int .i64 a, .int .i64 b, .int .i64 c])]) j) := by
  intro j hj
  by_cases hm : j < m
  · rw [appGet_lt hm]; exact h j hm
  · obtain rfl : j = m := by omega
    rw [appGet_ge (Nat.le_refl _) (by omega), Nat.sub_self]
    exact rowOk_rng (a, b, c)
theorem ranges_loop (T : List Ent) : ∃ w : RSt → RO, (∀ v, rI v → rZ (w v)) ∧ ∀ (i : Vw × Vw × Vw × List (List Nat × Orc)), LoopOk (V3.run (mkE 19 gN vN φX :: T) 3 [] i.2.2.2 [([1, 1, 1], i.1), ([1, 1, 1, 1, 1], i.2.1), ([1, 1, 1, 1, 0, 1, 0, 1, 1, 1, 1, 1, 1, 1, 1, 1, 1, 1, 0, 1, 1], i.2.2.1)] 55) 55 [1, 1, 1, 1, 0, 1, 0, 1, 1, 1, 1, 1, 1, 1, 1, 1, 1, 1, 0, 1, 0, 1, 0] (mkO (goodS rS rI) (valS rS rI w) outR) := by
  refine loop_ex (Xf := fun i : Vw × Vw × Vw × List (List Nat × Orc) => V3.run (mkE 19 gN vN φX :: T) 3 [] i.2.2.2 [([1, 1, 1], i.1), ([1, 1, 1, 1, 1], i.2.1), ([1, 1, 1, 1, 0, 1, 0, 1, 1, 1, 1, 1, 1, 1, 1, 1, 1, 1, 0, 1, 1], i.2.2.1)] 55) (b := subC (bodyOf V3.P 55) ([1, 1, 1, 1, 0, 1, 0, 1, 1, 1, 1, 1, 1, 1, 1, 1, 1, 1, 0, 1, 0, 1, 0] ++ [0])) rS rI rM outR (fun _ => rZ) (fun _ => by kernel_rfl) 9 fun v hv => ?_
  cases v with
  | inl C =>
    have hC : C.Ok := hv
    obtain ⟨a0, a1, aD⟩ := nextR_ok hC (m := 2) (by omega)
    refine .inr ⟨.inr ⟨1, appGet 0 1 (fun _ => []) (fillGet (rngC (0, 0, 0)) [(0, .agg [.int .i64 0, .int .i64 (IntKind.wrap .i64 (0 + 1)), .int .i64 (IntKind.wrap .i64 (1 + Int.tmod 0 2))])]), (nextR C 2).2⟩, ⟨aD, Nat.le_refl _, by show 1 ≤ 17; omega, rowOk_app (m := 0) (fun j hj => absurd hj (by omega))⟩, by show 18 - 1 < 20; omega, fun _ h => h, fun i k kn => ?_⟩
    refine (rg_r0 gN vN T i.2.2.2 i.1 i.2.1 i.2.2.1 9 C kn k (t1 := nextR C 2) (vN_eq hC (by omega))).trans ?_
    refine (cT (gN_eq hC (by omega))).trans ?_
    refine (cT (decide_eq_true (by rw [wrap_i64 (by omega) (by omega)]; omega))).trans ?_
    rfl
  | inr x =>
    obtain ⟨m, get, C⟩ := x
    obtain ⟨hC, m1, m17, hr⟩ : C.Ok ∧ 1 ≤ m ∧ m ≤ 17 ∧ ∀ j, j < m → rowOk (get j) := hv
    obtain ⟨q, rfl⟩ : ∃ q, m = q + 1 := ⟨m - 1, by omega⟩
    obtain ⟨a0, a1, aD⟩ := nextR_ok hC (m := 2) (by omega)
    have hw : IntKind.wrap .i64 (16 + (nextR C 2).1) = 16 + (nextR C 2).1 := wrap_i64 (by omega) (by omega)
    by_cases hi : ((q + 1 : Nat) : Int) < 16 + (nextR C 2).1
    · refine .inr ⟨.inr ⟨q + 1 + 1, appGet (q + 1) 1 get (fillGet (rngC (0, 0, 0)) [(0, .agg [.int .i64 ((q + 1 : Nat) : Int), .int .i64 (IntKind.wrap .i64 (((q + 1 : Nat) : Int) + 1)), .int .i64 (IntKind.wrap .i64 (1 + Int.tmod ((q + 1 : Nat) : Int) 2))])]), (nextR C 2).2⟩, ⟨aD, by show 1 ≤ q + 1 + 1; omega, by show q + 1 + 1 ≤ 17; omega, rowOk_app hr⟩, by show 18 - (q + 1 + 1) < 18 - (q + 1); omega, fun _ h => h, fun i k kn => ?_⟩
      refine (rg_r gN vN T i.2.2.2 i.1 i.2.1 i.2.2.1 9 q get C (q + 1) kn k (t1 := nextR C 2) (vN_eq hC (by omega))).trans ?_
      refine (cT (gN_eq hC (by omega))).trans ?_
      refine (cT (by rw [hw]; exact decide_eq_true hi)).trans ?_
      have hro : (roomy 24 (q + 1 + 1) && Nat.beq (q + 1) (q + 1)) = true := by
        rw [Nat.beq_refl, Bool.and_true]
        unfold roomy
        exact Nat.ble_eq_true_of_le (by omega)
      refine (cT hro).trans ?_
      rw [wrap_i64 (x := ((q + 1 : Nat) : Int) + 1) (by omega) (by omega)]
      rfl
    · refine .inl ⟨⟨q + 1, get, (nextR C 2).2⟩, ⟨aD, by show 16 ≤ q + 1; omega, m17, hr⟩, fun i k kn => ?_⟩
      refine (rg_r gN vN T i.2.2.2 i.1 i.2.1 i.2.2.1 9 q get C (q + 1) kn k (t1 := nextR C 2) (vN_eq hC (by omega))).trans ?_
      refine (cT (gN_eq hC (by omega))).trans ?_
      exact (cF (by rw [hw]; exact decide_eq_false hi)).trans rfl
def rV1 (q : Nat) (l : List RG) (C : CODES) : St := { env := [(0, .ref keyBase 0), (1, .gsl 8 3 (0 + (q + 1)))], objs := [(8, .grw 3 (0 + (q + 1)) (appGet 0 (q + 1) (fun _ => []) (getR l))), (keyBase, codO C)] }
theorem view1_ok (q : Nat) (l : List RG) (C : CODES) : ViewOk (mkV (goodS (fun _ : Unit => rV1 q l C) (fun _ => True)) (fun _ => (l, C)) (RS1 (q + 1))) := by
  have h0 : 0 + (q + 1) = q + 1 := by omega
  have := viewOk_weak (α := Unit) (fun _ => rV1 q l C) (fun _ => RS1 (q + 1) (l, C)) (fun _ => True) fun _ _ => by
    refine ⟨by unfold rV1 RS1; rw [h0], .cons _ _ _ _ _ ?_ (.cons _ _ _ _ _ (.same _) .nil)⟩
    rw [h0]
    exact .grw _ _ _ _ fun j hj => by
      rw [appGet_ge (Nat.zero_le _) (by omega)]; rfl
  exact this
def rV3 (z : RO) : St := RE z.m z.get z.C
def rlOf (z : RO) : List RG := (List.range z.m).map fun j => rdec (z.get j)
theorem view3_ok (z : RO) (hz : rZ z) : ViewOk (mkV (goodS (fun _ : Unit => rV3 z) (fun _ => True)) (fun _ => (⟨z.m, rlOf z, z.C⟩ : RP)) RS3) := by
  have := viewOk_weak (α := Unit) (fun _ => rV3 z) (fun _ => RS3 ⟨z.m, rlOf z, z.C⟩) (fun _ => True) fun _ _ => by
    refine ⟨rfl, .cons _ _ _ _ _ (.grw _ _ _ _ fun j hj => ?_) (.cons _ _ _ _ _ (.same _) .nil)⟩
    have h := hz.2.2.2 j hj
    show rngC ((rlOf z).getD j (0, 0, 0)) = z.get j
    unfold rlOf
    simp only [List.getD, List.getElem?_map, List.getElem?_range hj, Option.map_some, Option.getD_some]
    exact h.symm
  exact this
def rV2 (v : RV) : St := { env := [(1, .gsl v.k 3 v.n)], objs := [(v.k, .grw 3 v.n v.get), (keyBase, codO v.C)] }
theorem rV2_inj (a b : RV) (h : rV2 a = rV2 b) : a = b := by
  obtain ⟨k, n, g, C⟩ := a
  obtain ⟨k', n', g', C'⟩ := b
  simp only [rV2, St.mk.injEq, List.cons.injEq, Prod.mk.injEq, AV.gsl.injEq, AO.grw.injEq, true_and, and_true] at h
  obtain ⟨⟨h1, h2⟩, ⟨_, _, h3⟩, h4⟩ := h
  have h5 := codO_inj h4
  subst h1 h2 h3 h5; rfl
theorem Rel.perm {B : Base} {c : Cx} {s : St} {a : Act} (h : Rel B c s a) {objs' : List (Nat × AO)} (hp : ∀ q, alook objs' q = alook s.objs q) : Rel B c { env := s.env, objs := objs' } a := by
  have hl : ∀ q, live s.objs q → live objs' q := fun q ⟨o, ho⟩ => ⟨o, by rw [hp]; exact ho⟩
  refine h.less (fun k hk => hl k (h.kept k hk)) (fun t v hv => hv) (fun k o ho => ?_) (fun t v hv k hk => hl k (h.closed t v hv k hk)) (fun k o ho q hq => ?_)
  · have : alook objs' k = some o := ho
    rw [hp] at this; exact this
  · have : alook objs' k = some o := ho
    rw [hp] at this
    exact hl q (h.objs.closed k o this q hq)
theorem alook_swap {α : Type} {a b : Nat} (h : a ≠ b) (x y : α) (q : Nat) : alook [(a, x), (b, y)] q = alook [(b, y), (a, x)] q := by
  simp only [alook]
  by_cases ha : a = q
  · subst ha; rw [Nat.beq_refl, beqF (fun e => h e.symm)]; rfl
  · rw [beqF ha]
    by_cases hb : b = q
    · subst hb; rw [Nat.beq_refl]; rfl
    · rw [beqF hb]; rfl
theorem view2_ok : ViewOk (mkV (goodS rV2 (fun v => v.k ≠ keyBase)) (valS rV2 (fun v => v.k ≠ keyBase) id) RS2) := by
  refine viewOk_step rV2 RS2 (fun v => v.k ≠ keyBase) fun v hk B c a hr hn => ?_
  have hf : fzSlot (rV2 v) 1 = some ({ env := [(1, .sl .no 3 v.n v.get)], objs := [(v.k, .own 3 v.n), (keyBase, codO v.C)] } : St) := by
    simp [fzSlot, rV2, St.get, alook, freezeA, Nat.beq_refl, guardO, aput, St.put]
  obtain ⟨c', e1, e2, e3⟩ := fzSlot_sound hr hn hf
  exact ⟨c', e1, Rel.perm e2 fun q => alook_swap (fun e => hk e.symm) _ _ q, fun t u hu => e3 t u hu⟩
end Go.SH

namespace Go.SH
open Go Go.Ab Go.Proofs
set_option linter.unusedVariables false
set_option linter.unusedSimpArgs false
def rgPost (y : List RG × CODES) : Prop := y.1.length ≤ 17 ∧ y.2.Ok
theorem number_cA (C : CODES) (h : C.Ok) : ∃ x : Int × CODES, x.2.Ok ∧ Ct V2.P V2.G 51 (cA C) (cO C) (φX x) := by
  obtain ⟨x, h1, h2⟩ := number_ex C h
  exact ⟨x, h1.2, h2⟩
theorem rowOk_if {i : Nat} {a b c : Int} {l : List RG} : ∀ j, rowOk (bif Nat.beq j i then [.int .i64 a, .int .i64 b, .int .i64 c] else rngC (l.getD j (0, 0, 0))) := fun j => by
  cases Nat.beq j i with
  | true => exact rowOk_rng (a, b, c)
  | false => exact rowOk_rng _
theorem rg_fin {C : CODES} {l : List RG} {n : Nat} {get : Nat → List AV} {D : CODES} (hn : n ≤ 17) (hD : D.Ok) (hg : ∀ j, j < n → rowOk (get j)) (h : Ct V2.P V2.G 55 [.ref keyBase 0, rngL l] [codO C] (.sl .no 3 n get, [codO D])) :
    ∃ y : List RG × CODES, rgPost y ∧ Ct V2.P V2.G 55 [.ref keyBase 0, rngL l] [codO C] (φRg y) :=
  ⟨((List.range n).map fun j => rdec (get j), D), ⟨by simpa using hn, hD⟩, rng_told hg h⟩
theorem ranges_ex (C : CODES) (hC : C.Ok) (l : List RG) (hl : l.length ≤ 5) : ∃ y : List RG × CODES, rgPost y ∧ Ct V2.P V2.G 55 [.ref keyBase 0, rngL l] [codO C] (φRg y) := by
  obtain ⟨wu, hwu, htu⟩ := ent_ex (V := V2) (f := 51) (A := cA) (O := cO) (Pre := CODES.Ok) (φ := φX) (Post := fun (_ : CODES) (x : Int × CODES) => x.2.Ok) number_cA
  have hgu : ∀ D : CODES, D.Ok → goodA cA cO CODES.Ok [.ref 1000000 0] [codO D] = true := fun D hD => goodA_eq (A := cA) (O := cO) (v := D) hD
  have hpu : ∀ D : CODES, D.Ok → (valA cA cO CODES.Ok wu [.ref 1000000 0] [codO D]).2.Ok := fun D hD => valA_post (A := cA) (O := cO) (a := D) (Post := fun (_ : CODES) (x : Int × CODES) => x.2.Ok) hwu (fun _ _ _ _ _ h => h) hD
  rcases hq : l.length with _ | q
  · have hc := ct_loops (V := V2) (f := 55) (n := 9) (d := 3) (L := []) (T := [entN, entC 51 cA cO CODES.Ok wu φX]) mixed2 funcs2 (tabOk_cons entN_ok (tabOk_cons htu tabOk_nil)) loopsOk_nil (rg_nil gN (goodA cA cO CODES.Ok) vN (valA cA cO CODES.Ok wu) (getR l) C)
    have ha : [AV.ref keyBase 0, rngL l] = [.ref keyBase 0, .sl .no 3 0 (getR l)] := by unfold rngL; rw [hq]; rfl
    refine rg_fin (n := 0) (get := appGet 0 0 (fun x => []) (getR l)) (by omega) hC (fun j hj => absurd hj (by omega)) ?_
    rw [ha]; exact hc
  · have ha : [AV.ref keyBase 0, rngL l] = [.ref keyBase 0, .sl .no 3 (q + 1) (getR l)] := by unfold rngL; rw [hq]; rfl
    have hq5 : q + 1 ≤ 5 := by omega
    obtain ⟨a0, a1, aD⟩ := nextR_ok hC (m := ((q + 1 : Nat) : Int)) (by omega)
    obtain ⟨b0, b1, bD⟩ := nextR_ok aD (m := 6) (by omega)
    by_cases h3 : (nextR (nextR C ((q + 1 : Nat) : Int)).2 6).1 = 3
    · -- a front of it
      cases hx : nextR (nextR C ((q + 1 : Nat) : Int)).2 6 with
      | mk r D =>
      rw [hx] at h3 bD
      have h3 : r = 3 := h3
      subst h3
      have hT := entB_ok (m := 6) (by omega) aD hx
      have e := rg_3 (gB 6 (nextR C ((q + 1 : Nat) : Int)).2) (goodA cA cO CODES.Ok) vN (valA cA cO CODES.Ok wu) D q (getR l) C (t1 := nextR C ((q + 1 : Nat) : Int)) (by rw [Nat.zero_add]; exact vN_eq hC (by omega))
      rw [Nat.zero_add] at e
      rw [argN_ne (m := 6) (n := ((q + 1 : Nat) : Int)) (by omega)] at e
      simp only [cond_false] at e
      have hr : roomy 24 (q + 1) = true := by unfold roomy; exact Nat.ble_eq_true_of_le (by omega)
      have e := e.trans (cT hr)
      have e := e.trans (cT (gB_eq (m := 6) hC (by omega) (fun h => by omega)))
      have e := e.trans (cT (gB_eq (m := 6) aD (by omega) (fun h => rfl)))
      have e := e.trans (cT (by
        rw [decide_eq_true (show (0 : Int) ≤ 0 by omega), decide_eq_true a0, decide_eq_true (Int.le_of_lt a1)]; rfl))
      have hc := ct_loops (V := V2) (f := 55) (n := 9) (d := 3) (L := []) (T := [entB 6 (nextR C ((q + 1 : Nat) : Int)).2 (3, D), entC 51 cA cO CODES.Ok wu φX]) mixed2 funcs2 (tabOk_cons hT (tabOk_cons htu tabOk_nil)) loopsOk_nil e
      refine rg_fin (n := Int.toNat (nextR C ((q + 1 : Nat) : Int)).1 - 0) (get := fun j => appGet 0 (q + 1) (fun x => []) (getR l) (0 + j)) (by omega) bD (fun j hj => ?_) ?_
      · rw [appGet_ge (Nat.zero_le _) (by omega)]
        exact rowOk_rng _
      · rw [ha]; exact hc
    · obtain ⟨w, hw, hlp⟩ := ranges_loop [entC 51 cA cO CODES.Ok wu φX]
      cases hx : nextR (nextR C ((q + 1 : Nat) : Int)).2 6 with
      | mk r D =>
      rw [hx] at h3 b0 b1 bD
      have h3 : r ≠ 3 := h3
      have b0 : 0 ≤ r := b0
      have b1 : r < 6 := b1
      have bD : D.Ok := bD
      have hz : rZ (valS rS rI w (RL0 D)) := valS_post (S := rS) (a := Sum.inl D) (Post := fun (_ : RSt) (y : RO) => rZ y) hw (fun _ _ _ _ h => h) bD
      have hgz : goodS rS rI (RL0 D) = true := goodS_eq (S := rS) (v := Sum.inl D) bD
      generalize hzz : valS rS rI w (RL0 D) = z at hz
      have hv2 : ∀ v : RV, v.k ≠ keyBase → valS rV2 (fun v => v.k ≠ keyBase) id (rV2 v) = v := fun v hv => valS_eq (S := rV2) (fun a b _ _ h => rV2_inj a b h) hv
      have hg2 : ∀ v : RV, v.k ≠ keyBase → goodS rV2 (fun v => v.k ≠ keyBase) (rV2 v) = true := fun v hv => goodS_eq (S := rV2) hv
      have k8 : (8 : Nat) ≠ keyBase := by decide
      have k75 : (75 : Nat) ≠ keyBase := by decide
      cases hy : nextR C ((q + 1 : Nat) : Int) with
      | mk i D1 =>
      rw [hy] at a0 a1 aD hx
      have a0 : 0 ≤ i := a0
      have a1 : i < ((q + 1 : Nat) : Int) := a1
      have aD : D1.Ok := aD
      have hc := fun r he => ct_of_run (V := V3) (f := 55) (l := [.ref keyBase 0, .sl .no 3 (q + 1) (getR l)]) (os := [codO C]) (r := r) (n := 9) (d := 3) (C := []) (T := [entN, entC 51 cA cO CODES.Ok wu φX])
        (L := [([1, 1, 1, 1, 0, 1, 0, 1, 1, 1, 1, 1, 1, 1, 1, 1, 1, 1, 0, 1, 0, 1, 0], mkO (goodS rS rI) (valS rS rI w) outR)])
        (W := [([1, 1, 1], mkV (goodS (fun _ : Unit => rV1 q l C) (fun _ => True)) (fun _ => (l, C)) (RS1 (q + 1))), ([1, 1, 1, 1, 1], mkV (goodS rV2 (fun v => v.k ≠ keyBase)) (valS rV2 (fun v => v.k ≠ keyBase) id) RS2), ([1, 1, 1, 1, 0, 1, 0, 1, 1, 1, 1, 1, 1, 1, 1, 1, 1, 1, 0, 1, 1], mkV (goodS (fun _ : Unit => rV3 z) (fun _ => True)) (fun _ => (⟨z.m, rlOf z, z.C⟩ : RP)) RS3)])
        mixed3 funcs3 (tabOk_cons entN_ok (tabOk_cons htu tabOk_nil)) (fun _ h => (List.not_mem_nil h).elim) (loopsOk_cons (hlp (_, _, _, _)) loopsOk_nil)
        (fun q hq => by
          simp only [List.mem_cons, List.not_mem_nil, or_false] at hq
          rcases hq with rfl | rfl | rfl
          · exact view1_ok _ _ _
          · exact view2_ok
          · exact view3_ok z hz) he
      have hin : (within i (q + 1) && Nat.beq (q + 1) (q + 1)) = true := by
        rw [Nat.beq_refl, Bool.and_true]; exact within_of a0 a1
      have hlt : (Nat.blt i.toNat (q + 1) && Nat.beq (q + 1) (q + 1)) = true := by
        rw [Nat.beq_refl, Bool.and_true]; exact bltT (by omega)
      have hzi : IntKind.wrap .i64 ((z.m : Int) - 1) = ((z.m - 1 : Nat) : Int) := by
        obtain ⟨_, z1, z2, _⟩ := hz
        rw [wrap_i64 (by omega) (by omega)]; omega
      have e := rg_m gN (goodA cA cO CODES.Ok) vN (valA cA cO CODES.Ok wu) (goodS (fun _ : Unit => rV1 q l C) (fun _ => True)) (goodS rV2 (fun v => v.k ≠ keyBase)) (goodS rS rI) (goodS (fun _ : Unit => rV3 z) (fun _ => True)) (fun _ => (l, C)) (valS rV2 (fun v => v.k ≠ keyBase) id) (valS rS rI w) (fun _ => (⟨z.m, rlOf z, z.C⟩ : RP)) q l C
        (t1 := (l, C)) rfl (t2 := (i, D1)) ((vN_eq hC (by omega)).trans hy) (t3 := (r, D)) ((vN_eq aD (by omega)).trans hx) (t4 := valA cA cO CODES.Ok wu [.ref 1000000 0] [codO D]) rfl
        (hv2 ⟨8, q + 1, _, _⟩ k8) (hv2 ⟨8, q + 1, _, _⟩ k8) (hv2 ⟨8, q + 1, _, _⟩ k8) (hv2 ⟨8, q + 1 + 1, _, _⟩ k8) (t9 := z) hzz (t10 := ⟨z.m, rlOf z, z.C⟩) rfl (hv2 ⟨75, z.m, _, _⟩ k75) (hv2 ⟨8, q + 1, _, _⟩ k8)
      have hr : roomy 24 (0 + (q + 1)) = true := by unfold roomy; exact Nat.ble_eq_true_of_le (by omega)
      have hr1 : (roomy 24 (q + 1 + 1) && Nat.beq (q + 1) (q + 1)) = true := by
        rw [Nat.beq_refl, Bool.and_true]; unfold roomy; exact Nat.ble_eq_true_of_le (by omega)
      have e := (((e.trans (cT hr)).trans (cT (goodS_eq (S := fun _ : Unit => rV1 q l C) (v := ()) trivial))).trans (cT (gN_eq hC (by omega)))).trans (cT (gN_eq aD (by omega)))
      have hu := hpu D bD
      have hrr : r = 0 ∨ r = 1 ∨ r = 2 ∨ r = 4 ∨ r = 5 := by omega
      rw [ha]
      have fin : ∀ (n : Nat) (get : Nat → List AV) (E : CODES), n ≤ 17 → E.Ok → (∀ j, j < n → rowOk (get j)) → Ct V2.P V2.G 55 [.ref keyBase 0, .sl .no 3 (q + 1) (getR l)] [codO C] (.sl .no 3 n get, [codO E]) →
          ∃ y : List RG × CODES, rgPost y ∧ Ct V2.P V2.G 55 [.ref keyBase 0, .sl .no 3 (q + 1) (getR l)] [codO C] (φRg y) := fun n get E h1 h2 h4 h5 => by
        have := rg_fin (C := C) (l := l) h1 h2 h4 (by rw [ha]; exact h5)
        rw [ha] at this; exact this
      rcases hrr with rfl | rfl | rfl | rfl | rfl
      · have e := ((((e.trans (cT rfl)).trans (cT (hgu D bD))).trans (cT hin)).trans (cT hlt)).trans (cT (hg2 ⟨8, q + 1, _, _⟩ k8))
        exact fin (q + 1) _ _ (by omega) hu (fun j _ => rowOk_if j) (hc _ e)
      · have e := (((((e.trans (cF rfl)).trans (cT rfl)).trans (cT (hgu D bD))).trans (cT hin)).trans (cT hlt)).trans (cT (hg2 ⟨8, q + 1, _, _⟩ k8))
        exact fin (q + 1) _ _ (by omega) hu (fun j _ => rowOk_if j) (hc _ e)
      · have e := ((((((e.trans (cF rfl)).trans (cF rfl)).trans (cT rfl)).trans (cT (hgu D bD))).trans (cT hin)).trans (cT hlt)).trans (cT (hg2 ⟨8, q + 1, _, _⟩ k8))
        exact fin (q + 1) _ _ (by omega) hu (fun j _ => rowOk_if j) (hc _ e)
      · have e := ((((((((e.trans (cF rfl)).trans (cF rfl)).trans (cF rfl)).trans (cF rfl)).trans (cT rfl)).trans (cT hin)).trans (cT hlt)).trans (cT hr1)).trans (cT (hg2 ⟨8, q + 1 + 1, _, _⟩ k8))
        exact fin (q + 1 + 1) _ _ (by omega) bD (rowOk_app (fun j _ => rowOk_rng _)) (hc _ e)
      · obtain ⟨z0, z1, z2, z3⟩ := hz
        have hin5 : (within (IntKind.wrap .i64 ((z.m : Int) - 1)) z.m && Nat.beq z.m z.m) = true := by
          rw [Nat.beq_refl, Bool.and_true, hzi]; exact within_of (by omega) (by omega)
        have hlt5 : (Nat.blt (IntKind.wrap .i64 ((z.m : Int) - 1)).toNat z.m && Nat.beq z.m z.m) = true := by
          rw [Nat.beq_refl, Bool.and_true, hzi]; exact bltT (by omega)
        have e := (((((e.trans (cF rfl)).trans (cF rfl)).trans (cF rfl)).trans (cF rfl)).trans (cF rfl)).trans (cT rfl)
        have e := ((e.trans (cT hgz)).trans (cT (goodS_eq (S := fun _ : Unit => rV3 z) (v := ()) trivial)))
        have e := ((e.trans (cT hin5)).trans (cT hlt5)).trans (cT (hg2 ⟨75, z.m, _, _⟩ k75))
        exact fin z.m _ _ z2 z0 (fun j _ => rowOk_if j) (hc _ e)
end Go.SH

namespace Go.SH
open Go Go.Ab Go.Proofs
set_option linter.unusedVariables false
set_option linter.unusedSimpArgs false
def nilS : AV := .sl .fit 0 0 fun _ => []
def φC (x : EXP × CODES) : AV × List AO := (.agg (expC x.1.op x.1.kind x.1.name x.1.vals x.1.kids.length (EXP.row x.1.kids)), [codO x.2])
def exK (op : Int) (ks : AV) : List AV := [.int .i64 op, .str [], .str [], .sl .fit 0 0 fun _ => [], ks]
inductive KID where
  | plain (e : EXP)
  | neg (e : EXP)
def KID.e : KID → EXP
  | .plain e => e
  | .neg e => notX e
def eC (e : EXP) : List AV := expC e.op e.kind e.name e.vals e.kids.length (EXP.row e.kids)
def KID.c : KID → List AV
  | .plain e => eC e
  | .neg e => exK 4 (.sl .fit 5 1 (fillGet ex0 [(0, .agg (eC e))]))
def getX (l : List KID) (j : Nat) : List AV := (l.map KID.c).getD j ex0
def XS0 (op lv n : Int) (C : CODES) : St := { env := [(0, .ref keyBase 0), (1, nilS), (2, .int .i64 lv), (6, .ref 6 0), (8, .int .i64 op), (9, .ref 9 0), (10, .int .i64 n), (11, .int .i64 0)], objs := [(6, .cells ex0), (9, .cells (exK op (.sl (.key 81) 5 0 fun _ => ex0))), (keyBase, codO C), (81, .own 5 0)] }
def XS (op lv n : Int) (m : Nat) (get : Nat → List AV) (C : CODES) (i : Nat) : St := { env := [(0, .ref keyBase 0), (1, nilS), (2, .int .i64 lv), (6, .ref 6 0), (8, .int .i64 op), (9, .ref 9 0), (10, .int .i64 n), (11, .int .i64 i)], objs := [(6, .cells ex0), (9, .cells (exK op (.sl (.key 81) 5 m get))), (81, .own 5 m), (keyBase, codO C)] }
def XE (op : Int) (m : Nat) (get : Nat → List AV) (C : CODES) : St := { env := [(6, .ref 6 0), (9, .ref 9 0)], objs := [(6, .cells ex0), (9, .cells (exK op (.sl (.key 81) 5 m get))), (81, .own 5 m), (keyBase, codO C)] }
def outX (op : Int) (x : List KID × CODES) (k : Ex → St → Res) : Res := k (.exit 1) (XE op x.1.length (getX x.1) x.2)
end Go.SH

namespace Go.SH
open Go Go.Ab Go.Proofs
set_option linter.unusedVariables false
set_option linter.unusedSimpArgs false
abbrev XSt := CODES ⊕ (List KID × CODES)
def xA (lv : Int) (_ : CODES) : List AV := [.ref keyBase 0, nilS, .int .i64 lv]
def xPost (q : Nat) (x : EXP × CODES) : Prop := (VE q x.1 ∧ x.1.Ok) ∧ x.2.Ok
def okK (op : Int) (q : Nat) (k : KID) : Prop := VE (q + 1) k.e ∧ k.e.op ≠ op ∧ k.e.Ok
def xS (op lv : Int) (n : Nat) : XSt → St
  | .inl C => XS0 op lv n C
  | .inr (l, C) => XS op lv n l.length (getX l) C l.length
def xI (op : Int) (q n : Nat) : XSt → Prop
  | .inl C => C.Ok
  | .inr (l, C) => C.Ok ∧ 1 ≤ l.length ∧ l.length ≤ n ∧ ∀ k ∈ l, okK op q k
def xM : XSt → Nat
  | .inl _ => 5
  | .inr (l, _) => 4 - l.length
def xZ (op : Int) (q n : Nat) (z : List KID × CODES) : Prop := z.1.length = n ∧ (∀ k ∈ z.1, okK op q k) ∧ z.2.Ok
instance : Inhabited (List KID × CODES) := ⟨([], default)⟩
def kidOf (op : Int) (e : EXP) : KID := bif e.op == op then .neg e else .plain e
end Go.SH

namespace Go.SH
open Go Go.Ab Go.Proofs
set_option linter.unusedVariables false
set_option linter.unusedSimpArgs false
end Go.SH

namespace Go.SH
open Go Go.Ab Go.Proofs
set_option linter.unusedVariables false
set_option linter.unusedSimpArgs false
def Tells (a b : List AV) : Prop := ∀ (i : Nat) (u u' : AV), a[i]? = some u → b[i]? = some u' → u'.one = true ∧ ∀ c x, Rep c u x → Rep c u' x
end Go.SH

namespace Go.SH
open Go Go.Ab Go.Proofs
set_option linter.unusedVariables false
set_option linter.unusedSimpArgs false
set_option linter.unusedSectionVars false
theorem tPost.x {x : EXP × CODES} (h : tPost x) (d : Nat) : xPost (2 * d + 1) x := ⟨⟨h.1.ve.le (by omega), h.1.2.2⟩, h.2⟩
section
variable {C : CODES} (hC : C.Ok) {wt : CODES → EXP × CODES} (hwt : ∀ C, C.Ok → tPost (wt C)) (htt : ∀ l os, (entC 47 cA cO CODES.Ok wt φC).pre l os = true → Ct V2.P V2.G (entC 47 cA cO CODES.Ok wt φC).f l os ((entC 47 cA cO CODES.Ok wt φC).ans l os))
include hC hwt htt
variable {d : Nat} (hd : 1 ≤ d) (hd3 : d ≤ 3) {wx : CODES → EXP × CODES} (hwx : ∀ C, C.Ok → xPost (2 * d - 1) (wx C)) (htx : ∀ l os, (entC 13 (xA d) cO CODES.Ok wx φC).pre l os = true → Ct V2.P V2.G (entC 13 (xA d) cO CODES.Ok wx φC).f l os ((entC 13 (xA d) cO CODES.Ok wx φC).ans l os))
include hd hd3 hwx htx
end
end Go.SH

namespace Go.SH
open Go Go.Ab Go.Proofs
set_option linter.unusedVariables false
set_option linter.unusedSimpArgs false
noncomputable def V4 : Env := { V3 with
  hint := fun f t => cond (Nat.beq f 14) (cond (Nat.beq t 23) (hn [0, 3, 4, 6] [3, 4] [] []) (cond (Nat.beq t 29) (hn [0, 3, 4, 7, 8] [3, 4, 7] [] []) (V3.hint f t))) (V3.hint f t)
  trim := fun f p => cond (Nat.beq f 14) (trGet [tr [1, 1, 0, 1, 0, 1, 1, 1, 1, 1, 1, 1, 1, 1, 1, 1, 1, 1, 1, 1, 0, 1, 0, 0, 0, 1, 1] [3, 4] [3, 4], tr [1, 1, 0, 1, 0, 1, 1, 1, 1, 1, 1, 1, 1, 1, 1, 1, 1, 1, 1, 1, 1, 1, 0, 1, 0, 1, 0, 0, 0, 1, 1] [3, 4, 7] [3, 4, 7], tr [1, 0, 1, 0, 1] [0, 3, 4] [3, 4, 20], tr [1, 0, 1, 0, 1, 1, 1] [3, 4] [3, 4, 20], tr [1, 1] [0, 3, 4] [3, 4], tr [1, 1, 1] [3, 4] [3, 4, 61, 65, 83, 87], tr [1, 1, 0, 1, 0, 1, 1, 1, 1, 1, 1, 1, 1, 1, 1, 1, 1, 1, 1, 1, 0, 1, 0, 0, 1, 1] [0, 3, 4, 6] [3, 4], tr [1, 1, 0, 1, 0, 1, 1, 1, 1, 1, 1, 1, 1, 1, 1, 1, 1, 1, 1, 1, 1, 1, 0, 1, 0, 1, 0, 0, 1, 1] [0, 3, 4, 7, 8] [3, 4, 7, 110, 114] ] p) (V3.trim f p)
  grow := fun o => cond (Nat.beq o.type 23) (match o.dst with | some d => Nat.beq d 20 | none => false) (V3.grow o) }
def xc (op : Int) (kd nm : List UInt8) (m : Nat) (gv : Nat → List AV) (n : Nat) (g : Nat → List AV) : List AV := [.int .i64 op, .str kd, .str nm, .sl .no 4 m gv, .sl .no 5 n g]
structure KV where
  op : Int
  kd : List UInt8
  nm : List UInt8
  m : Nat
  gv : Nat → List AV
  n : Nat
  g : Nat → List AV
  C : CODES
instance : Inhabited KV := ⟨⟨0, [], [], 0, fun _ => [], 0, fun _ => [], default⟩⟩
def gcell (op : Int) (kd nm : List UInt8) (m : Nat) (gv : Nat → List AV) (n : Nat) : List AV := [.int .i64 op, .str kd, .str nm, .sl .no 4 m gv, .gsl 20 5 n]
structure K1 where
  op : Int
  kd : List UInt8
  nm : List UInt8
  m : Nat
  gv : Nat → List AV
  l : List EXP
  C : CODES
instance : Inhabited K1 := ⟨⟨0, [], [], 0, fun _ => [], [], default⟩⟩
def getE (l : List EXP) (j : Nat) : List AV := eC (l.getD j default)
def CS1 (n : Nat) (x : K1) : St := { env := [(0, .ref keyBase 0), (3, .ref 3 0), (4, .ref 4 0)], objs := [(3, .cells (gcell x.op x.kd x.nm x.m x.gv n)), (4, .cells ex0), (20, .grw 5 n (getE x.l)), (keyBase, codO x.C)] }
def CS2 (x : KV) : St := { env := [(3, .ref 3 0), (4, .ref 4 0)], objs := [(3, .cells (xc x.op x.kd x.nm x.m x.gv x.n x.g)), (4, .cells ex0), (20, .own 5 x.n), (keyBase, codO x.C)] }
def NL (t : EXP) (C : CODES) (i : Int) : St := { env := [(0, .ref keyBase 0), (3, .ref 3 0), (4, .ref 4 0), (6, .int .i64 i)], objs := [(3, .cells (eC t)), (4, .cells ex0), (keyBase, codO C)] }
def SN (x : EXP × CODES × Int) : St := NL x.1 x.2.1 x.2.2
def KL (y : KV) (op : Int) (kd nm : List UInt8) (m : Nat) (gv : Nat → List AV) (n : Nat) (g : Nat → List AV) (C : CODES) (i : Int) : St := { env := [(0, .ref keyBase 0), (3, .ref 3 0), (4, .ref 4 0), (7, .ref 7 0), (8, .int .i64 i)], objs := [(3, .cells (xc y.op y.kd y.nm y.m y.gv y.n y.g)), (4, .cells ex0), (7, .cells (xc op kd nm m gv n g)), (keyBase, codO C)] }
def SK (y : KV) (x : KV × Int) : St := { env := [(0, .ref keyBase 0), (3, .ref 3 0), (4, .ref 4 0), (7, .ref 7 0), (8, .int .i64 x.2)], objs := [(3, .cells (xc y.op y.kd y.nm y.m y.gv y.n y.g)), (4, .cells ex0), (7, .cells (xc x.1.op x.1.kd x.1.nm x.1.m x.1.gv (x.1.n + 1) x.1.g)), (110, .own 5 (x.1.n + 1)), (keyBase, codO x.1.C)] }
def outN (x : EXP × CODES) (k : Ex → St → Res) : Res := k (.exit 1) { env := [(3, .ref 3 0), (4, .ref 4 0)], objs := [(3, .cells (eC x.1)), (4, .cells ex0), (keyBase, codO x.2)] }
def outK (y : KV) (x : KV) (k : Ex → St → Res) : Res := k (.exit 3) { env := [(3, .ref 3 0), (4, .ref 4 0), (7, .ref 7 0)], objs := [(3, .cells (xc y.op y.kd y.nm y.m y.gv y.n y.g)), (4, .cells ex0), (7, .cells (xc x.op x.kd x.nm x.m x.gv (x.n + 1) x.g)), (keyBase, codO x.C)] }
set_option maxRecDepth 100000 in
theorem any_m (ge gv : List AV → List AO → Bool) (ve : List AV → List AO → Int × CODES) (vv : List AV → List AO → VAL × CODES) (C : CODES) {t1 : Int × CODES} (h_t1 : ve [.ref 1000000 0, .int .i64 5] [codO C] = t1) {t2 : VAL × CODES} (h_t2 : vv [.ref 1000000 0, .int .i64 (IntKind.wrap IntKind.i64 (1 + Prod.fst t1))] [codO (Prod.snd t1)] = t2) : runF (V2.run [mkE 19 ge ve φX, mkE 58 gv vv φV] 3 [] [] [] 29) 9 29 [.ref keyBase 0] [codO C] =
  cond (ge [.ref 1000000 0, .int .i64 5] [codO C]) (cond (gv [.ref 1000000 0, .int .i64 (IntKind.wrap IntKind.i64 (1 + Prod.fst t1))] [codO (Prod.snd t1)]) (some ((.agg (VAL.c (Prod.fst t2)), [codO (Prod.snd t2)]))) (none)) (none) := by subst h_t2 h_t1; kernel_rfl
end Go.SH

namespace Go.SH
open Go Go.Ab Go.Proofs
set_option linter.unusedVariables false
set_option linter.unusedSimpArgs false
inductive Fit (b : Nat) : EXP → Prop
  | mk (e : EXP) : lenS e.kind → lenS e.name → e.vals.length ≤ b → (∀ v ∈ e.vals, v.Ok) → e.kids.length ≤ b → (∀ k ∈ e.kids, Fit b k) → Fit b e
theorem Fit.ok {b : Nat} (hb : b ≤ 1048576) {e : EXP} (h : Fit b e) : e.Ok := by
  induction h with
  | mk e h1 h2 h3 h4 h5 _ ih => exact .mk e h1 h2 ⟨by omega, h4⟩ (Nat.le_trans h5 hb) ih
theorem Fit.mono {b b' : Nat} (hb : b ≤ b') {e : EXP} (h : Fit b e) : Fit b' e := by
  induction h with
  | mk e h1 h2 h3 h4 h5 _ ih => exact .mk e h1 h2 (Nat.le_trans h3 hb) h4 (Nat.le_trans h5 hb) ih
theorem VE.fit {l : Nat} {e : EXP} (h : VE l e) (ho : e.Ok) : Fit 20 e := by
  induction h with
  | mk l e h1 h2 ih =>
    cases ho with
    | mk _ o1 o2 o3 o4 o5 =>
      have hp : e.part.n ≤ 12 ∧ e.part.vals.length ≤ 20 := by
        unfold partE at h1
        by_cases hc : (decide (e.part.n > 12) || decide (e.part.vals.length > 20)) = true
        · rw [hc] at h1
          cases h5 : (decide (e.part.op < 1) || decide (e.part.op > 15)) <;> cases h6 : !countB e.part <;> simp [h5, h6] at h1
        · simp only [Bool.or_eq_true, decide_eq_true_eq, not_or] at hc
          omega
      exact .mk e o1 o2 hp.2 o3.2 (show e.part.n ≤ 20 by omega) fun k hk => ih k hk (o5 k hk)
def TA (u u' : AV) : Prop := u'.one = true ∧ ∀ c x, Rep c u x → Rep c u' x
def rowV (a : List AV) : Prop := ∃ v : VAL, v.Ok ∧ Tells a v.c
def rowX (b : Nat) (a : List AV) : Prop := ∃ e : EXP, Fit b e ∧ Tells a (eC e)
def ccPost (b : Nat) (x : EXP × CODES) : Prop := Fit (b + 11) x.1 ∧ x.2.Ok
def kA (x : EXP × CODES) : List AV := [.ref keyBase 0, .agg (eC x.1)]
def kO (x : EXP × CODES) : List AO := [codO x.2]
def gVl (l : List VAL) (j : Nat) : List AV := (l.getD j default).c
theorem rowX.mono {b b' : Nat} (h : b ≤ b') {a : List AV} (hr : rowX b a) : rowX b' a := by
  obtain ⟨e, h1, h2⟩ := hr
  exact ⟨e, h1.mono h, h2⟩
theorem any_ex (C : CODES) (hC : C.Ok) : ∃ x : VAL × CODES, (x.1.Ok ∧ x.2.Ok) ∧ Ct V2.P V2.G 29 (cA C) (cO C) (φV x) := by
  obtain ⟨wv, hwv, htv⟩ := ent_ex (V := V2) (f := 58) (A := vA) (O := vO) (Pre := vP) (φ := φV) (Post := vPost) value_ex
  obtain ⟨h0, h1, h2⟩ := nextR_ok hC (m := 5) (by omega)
  have hw : IntKind.wrap .i64 (1 + (nextR C 5).1) = 1 + (nextR C 5).1 := wrap_i64 (by omega) (by omega)
  have hP : vP ((nextR C 5).2, 1 + (nextR C 5).1) := ⟨h2, by show 1 ≤ 1 + (nextR C 5).1; omega, by show 1 + (nextR C 5).1 ≤ 5; omega⟩
  have hp : vPost ((nextR C 5).2, 1 + (nextR C 5).1) (valA vA vO vP wv (vA ((nextR C 5).2, 1 + (nextR C 5).1)) (vO ((nextR C 5).2, 1 + (nextR C 5).1))) := valA_post hwv vA_kind hP
  have e := any_m gN (goodA vA vO vP) vN (valA vA vO vP wv) C (t1 := nextR C 5) (vN_eq hC (by omega)) (t2 := valA vA vO vP wv (vA ((nextR C 5).2, 1 + (nextR C 5).1)) (vO ((nextR C 5).2, 1 + (nextR C 5).1))) (by rw [hw]; rfl)
  rw [hw] at e
  have e := (e.trans (cT (gN_eq hC (by omega)))).trans (cT (goodA_eq (A := vA) (O := vO) hP))
  exact ⟨_, ⟨hp.1.2.2, hp.2⟩, ct_loops (V := V2) (f := 29) (n := 9) (d := 3) (L := []) (T := [entN, entC 58 vA vO vP wv φV]) mixed2 funcs2 (tabOk_cons entN_ok (tabOk_cons htv tabOk_nil)) loopsOk_nil e⟩
end Go.SH

namespace Go.SH
open Go Go.Ab Go.Proofs
set_option linter.unusedVariables false
set_option linter.unusedSimpArgs false
def PA : List Nat := [1, 0, 1, 0, 1]
def nB (x : EXP × CODES × Int) : St := { env := [(0, .ref keyBase 0), (3, .ref 3 0), (4, .ref 4 0), (6, .int .i64 x.2.2)], objs := [(3, .cells (exK 4 (.sl .fit 5 1 (fillGet ex0 [(0, .agg (eC x.1))])))), (4, .cells ex0), (keyBase, codO x.2.1)] }
def nBI (b : Nat) (x : EXP × CODES × Int) : Prop := Fit b x.1
noncomputable def vwN (b : Nat) (s : St) : EXP × CODES × Int := (notX (valS nB (nBI b) id s).1, (valS nB (nBI b) id s).2)
instance : Inhabited (EXP × CODES × Int) := ⟨(default, default, 0)⟩
def nS (x : EXP × CODES × Nat) : St := NL x.1 x.2.1 (x.2.2 : Int)
def nI (b : Nat) (x : EXP × CODES × Nat) : Prop := Fit b x.1 ∧ x.2.1.Ok ∧ x.2.2 ≤ 12
instance : Inhabited (EXP × CODES × Nat) := ⟨(default, default, 0)⟩
def kB (y : KV) (x : KV × Int) : St := { env := [(0, .ref keyBase 0), (3, .ref 3 0), (4, .ref 4 0), (7, .ref 7 0), (8, .int .i64 x.2)], objs := [(3, .cells (xc y.op y.kd y.nm y.m y.gv y.n y.g)), (4, .cells ex0), (7, .cells [.int .i64 x.1.op, .str x.1.kd, .str x.1.nm, .sl .no 4 x.1.m x.1.gv, .sl (.key 110) 5 (x.1.n + 1) x.1.g]), (110, .own 5 (x.1.n + 1)), (keyBase, codO x.1.C)] }
instance : Inhabited (KV × Int) := ⟨(default, 0)⟩
def kS (y : KV) (v : KV × Nat) : St := KL y v.1.op v.1.kd v.1.nm v.1.m v.1.gv v.1.n v.1.g v.1.C (v.2 : Int)
structure kOk (b m0 : Nat) (x : KV) : Prop where
  kd : lenS x.kd
  nm : lenS x.nm
  m : x.m ≤ m0
  gv : ∀ j, j < x.m → rowV (x.gv j)
  C : x.C.Ok
def kI (b m0 : Nat) (v : KV × Nat) : Prop := kOk b m0 v.1 ∧ v.2 ≤ 11 ∧ v.2 ≤ v.1.n ∧ v.1.n ≤ b + v.2 ∧ ∀ j, j < v.1.n → rowX b (v.1.g j)
def kZ (b m0 : Nat) (x : KV) : Prop := kOk b m0 x ∧ x.n + 1 ≤ b + 11 ∧ ∀ j, j < x.n + 1 → rowX b (x.g j)
instance : Inhabited (KV × Nat) := ⟨(default, 0)⟩
def bB (x : KV) : St := { env := [(3, .ref 3 0), (4, .ref 4 0)], objs := [(3, .cells (gcell x.op x.kd x.nm x.m x.gv x.n)), (4, .cells ex0), (20, .grw 5 x.n x.g), (keyBase, codO x.C)] }
end Go.SH

namespace Go.SH
open Go Go.Ab Go.Proofs
set_option linter.unusedVariables false
set_option linter.unusedSimpArgs false
set_option linter.unusedSectionVars false
theorem Fit.kd {b : Nat} {e : EXP} (h : Fit b e) : lenS e.kind := by cases h; assumption
theorem Fit.nm {b : Nat} {e : EXP} (h : Fit b e) : lenS e.name := by cases h; assumption
theorem Fit.vl {b : Nat} {e : EXP} (h : Fit b e) : e.vals.length ≤ b := by cases h; assumption
section
variable {b : Nat} (hb : 20 ≤ b) (hb' : b ≤ 1000) {e : EXP} (he : Fit b e) {C D0 D : CODES} (hC : C.Ok) (hD0 : D0.Ok) (hD : D.Ok) (hs : (e.kids.length = 0 ∧ D0 = C) ∨ (∃ q, e.kids.length = q + 1 ∧ nextR C 3 = (0, D0)))
include hb hb' he hC hD0 hD hs
end
end Go.SH

namespace Go.SH
open Go Go.Ab Go.Proofs
set_option linter.unusedVariables false
set_option linter.unusedSimpArgs false
def kP (b n : Nat) (x : EXP × CODES) : Prop := Fit b x.1 ∧ x.2.Ok ∧ SizeOf.sizeOf x.1 < n
end Go.SH

namespace Go.SH
open Go Go.Ab Go.Proofs
set_option linter.unusedVariables false
set_option linter.unusedSimpArgs false
noncomputable def V5 : Env := { V4 with hint := fun f t => cond (Nat.beq f 21) (hn [0, 3, 4, 5] [3, 4, 64] [] [(3, 5, 64, 45)]) (V4.hint f t) }
def zE : EXP := .mk 0 [] [] [] []
def xC (k l f s : List UInt8) (st : Int) (cl ar : AV) (w : EXP) : List AV := [.str k, .str l, .str f, .str s, .int .i64 st, cl, ar, .int .i64 w.op, .str w.kind, .str w.name, valL w.vals, .sl .no 5 w.kids.length (EXP.row w.kids)]
def x0 : List AV := [.str [], .str [], .str [], .str [], .int .i64 0, .sl .fit 0 0 fun _ => [], .sl .fit 0 0 fun _ => [], .int .i64 0, .str [], .str [], .sl .fit 0 0 fun _ => [], .sl .fit 0 0 fun _ => [] ]
def spA (x : (Int × Int)) : Nat → List AV := fun _ => [.int .i64 x.1, .int .i64 x.2]
def XS0' (l : List RG) (C : CODES) : St := { env := [(0, .ref keyBase 0), (3, .ref 3 0), (4, .ref 4 0), (5, .int .i64 0)], objs := [(3, .cells (xC [] [] [] [] 0 (.sl (.key 64) 2 0 fun _ => [.int .i64 0, .int .i64 0]) (rngL l) zE)), (4, .cells x0), (keyBase, codO C), (64, .own 2 0)] }
def XSm (l : List RG) (m : Nat) (get : Nat → List AV) (C : CODES) (i : Int) : St := { env := [(0, .ref keyBase 0), (3, .ref 3 0), (4, .ref 4 0), (5, .int .i64 i)], objs := [(3, .cells (xC [] [] [] [] 0 (.sl (.key 64) 2 m get) (rngL l) zE)), (4, .cells x0), (64, .own 2 m), (keyBase, codO C)] }
structure XO where
  m : Nat
  get : Nat → List AV
  C : CODES
instance : Inhabited XO := ⟨⟨0, fun _ => [], default⟩⟩
def outX5 (l : List RG) (x : XO) (k : Ex → St → Res) : Res := k (.exit 1) { env := [(3, .ref 3 0), (4, .ref 4 0)], objs := [(3, .cells (xC [] [] [] [] 0 (.sl (.key 64) 2 x.m x.get) (rngL l) zE)), (4, .cells x0), (64, .own 2 x.m), (keyBase, codO x.C)] }
end Go.SH

namespace Go.SH
open Go Go.Ab Go.Proofs
set_option linter.unusedVariables false
set_option linter.unusedSimpArgs false
theorem Ct.args {P : Program} {G : Nat → Option (List AV)} {f : FuncId} {l l' : List AV} {os : List AO} {r : AV × List AO} (hl : l.length = l'.length) (hk : keysL l' = keysL l) (hr : ∀ (i : Nat) (u u' : AV), l[i]? = some u → l'[i]? = some u' → ∀ c x, Rep c u x → Rep c u' x) (h : Ct P G f l' os r) : Ct P G f l os r := by
  refine ⟨fun c0 vs hg ho h1 h2 h3 => h.1 c0 vs hg ho (by rw [h1, hl]) (fun i u' hu => ?_) (fun k hk' => h3 k (by rw [← hk]; exact hk')), h.2⟩
  have hi : i < l.length := by rw [hl]; exact (List.getElem?_eq_some_iff.1 hu).1
  exact hr i l[i] u' (List.getElem?_eq_getElem hi) hu c0 _ (h2 i _ (List.getElem?_eq_getElem hi))
def sdec : List AV → Int × Int
  | [.int _ a, .int _ b] => (a, b)
  | _ => (0, 0)
def rowS (a : List AV) : Prop := a = spnC (sdec a)
def φEx (x : EXPT × CODES) : AV × List AO := (.agg x.1.c, [codO x.2])
def exPost (x : EXPT × CODES) : Prop := x.1.claims.length ≤ 20 ∧ x.1.arms.length ≤ 20 ∧ x.2.Ok
abbrev ESt := CODES ⊕ XO
def eS (l : List RG) : ESt → St
  | .inl C => XS0' l C
  | .inr x => XSm l x.m x.get x.C x.m
def eI : ESt → Prop
  | .inl C => C.Ok
  | .inr x => x.C.Ok ∧ 1 ≤ x.m ∧ x.m ≤ 17 ∧ ∀ j, j < x.m → rowS (x.get j)
def eM : ESt → Nat
  | .inl _ => 20
  | .inr x => 18 - x.m
def eZ (x : XO) : Prop := x.C.Ok ∧ x.m ≤ 17 ∧ ∀ j, j < x.m → rowS (x.get j)
def xA5 (x : (Int × Int) × List RG × CODES) : List AV := [.ref keyBase 0, .agg (xC [] [] [] [] 0 (.sl .no 2 1 (spA x.1)) (rngL x.2.1) zE)]
def xO5 (x : (Int × Int) × List RG × CODES) : List AO := [codO x.2.2]
def rA5 (x : List RG × CODES) : List AV := [.ref keyBase 0, rngL x.1]
def rO5 (x : List RG × CODES) : List AO := [codO x.2]
end Go.SH

namespace Go.Ab
open Go Go.RowKit
def finishN (X : Cfg) (fn : Func) (s : St) : Option (AV × List AO) :=
  match resultL X s fn.results.toList with
  | some [.ref k off] => (match alook s.objs k with
    | some o => cond (isNil o.keys) (some (.ref keyBase off, [o.ren fun _ => keyBase])) none
    | none => none)
  | _ => none
def runFN (X : Cfg) (n : Nat) (f : FuncId) (args : List AV) : Option (AV × List AO) :=
  match X.P.funcs[f]? with
  | some fn => (match fn.body with
    | some c => runC X f n c [] { env := enterEnv args 0, objs := enterObjs [] keyBase } fun e s =>
        (match e with
        | .exit _ => none
        | _ => finishN X fn s)
    | none => none)
  | none => none
theorem runFN_sound {X : Cfg} (hX : CallsOk X) (hm : X.P.follows .mixedOrders = true) {f : FuncId} (hO : OracOk X f) {fn : Func} (hf : X.P.funcs[f]? = some fn) (hok : ∀ c, fn.body = some c → codeOk fn.ntmps c = true) {n : Nat} {args : List AV}
    {r : AV} {os' : List AO} (he : runFN X n f args = some (r, os')) : CallOk X.P X.G f args [] r os' := by
  unfold runFN at he
  rw [hf] at he
  dsimp only at he
  cases hbody : fn.body with
  | none => simp [hbody] at he
  | some code =>
    simp only [hbody] at he
    have hcode := hok code hbody
    intro c0 vs hgood hobjs hsz hrep hkeys
    let a0 : Act := { tmps := vs ++ Array.replicate (fn.ntmps - vs.size) undef, defers := [] }
    let B : Base := { c0 := c0, D := held c0 (enterObjs [] keyBase), K := live (enterObjs [] keyBase), G := X.G, N := a0.tmps.size }
    let s0 : St := { env := enterEnv args 0, objs := enterObjs [] keyBase }
    have hN : fn.ntmps ≤ B.N := by simp [B, a0]; omega
    have hcode' : codeOk B.N code = true := codeOk_mono hN hcode
    have hget : ∀ t v, s0.get t = some v → args[t]? = some v := fun t v hv => by
      have : alook (enterEnv args 0) t = some v := hv
      rw [alook_enterEnv, if_pos (Nat.zero_le _)] at this; simpa using this
    have hval : ∀ t v, args[t]? = some v → Rep c0 v (a0.tmps.getD t undef) := fun t v hv => by
      have hlt : t < vs.size := by rw [hsz]; exact (List.getElem?_eq_some_iff.1 hv).1
      have e : a0.tmps.getD t undef = vs.getD t undef := by
        simp only [a0, Array.getD_eq_getD_getElem?]
        rw [Array.getElem?_append_left hlt]
      rw [e]; exact hrep t v hv
    have hplain : ∀ t v, s0.get t = some v → v.isGrd = false := fun t v hv => by
      have := hval t v (hget t v hv)
      generalize a0.tmps.getD t undef = V at this
      cases this <;> rfl
    have h0 : Rel B c0 s0 a0 := by
      refine ⟨hgood, ⟨rfl, rfl, rfl, Nat.le_refl _, fun _ _ _ => rfl, Ext.refl _ _, fun _ _ _ _ hi => hi⟩, hobjs, fun t v hv => EnvRep.of_rep (hplain t v hv) (hval t v (hget t v hv)),
        fun t v hv k hk => hkeys k (keys_mem_of (hget t v hv) k hk), fun k o b ho hb => .inr ⟨k, o, ho, hb⟩, rfl, rfl, fun k hk => hk⟩
    refine calls_of_wp hf hbody ?_
    refine runC_sound (B := B) hX rfl hm (fun k hk => (live_enter hk).1) f hO code [] (by simp [bodyOf, subC, hf, hbody]) hcode' n s0 c0 a0 _ (r, os') _ he h0 hplain fun ex s' c' a' hex hr' hn' => ?_
    have hfin : finishN X fn s' = some (r, os') → a'.defers = [] ∧ ∃ v, (results fn a'.tmps).run X.P c'.w = .ok v c'.w ∧ ∃ c2 x, Ending.returned v = .returned x ∧ c2.w = c'.w ∧ Good X.G c2 ∧
      Frame { c0 := c0, D := held c0 (enterObjs [] keyBase), K := live (enterObjs [] keyBase), G := X.G, N := 0 } c2 ∧
      Objs c2 (enterObjs os' keyBase) ∧ Rep c2 r x ∧ (∀ k ∈ r.keys, live (enterObjs os' keyBase) k) ∧
      ∀ k o b, alook (enterObjs os' keyBase) k = some o → excl c2 k o = some b → c0.w.heap.size ≤ b ∨ held c0 (enterObjs [] keyBase) b := by
      intro hfin
      refine ⟨hr'.defers, ?_⟩
      unfold finishN at hfin
      cases h1 : resultL X s' fn.results.toList with
      | none => simp [h1] at hfin
      | some rs =>
      rw [h1] at hfin
      split at hfin
      · rename_i k off hrs
        simp only [Option.some.injEq] at hrs
        subst hrs
        cases ho : alook s'.objs k with
        | none => simp [ho] at hfin
        | some o =>
        simp only [ho] at hfin
        obtain ⟨hb, hfin⟩ := cond_none hfin
        simp only [Option.some.injEq, Prod.mk.injEq] at hfin
        obtain ⟨rfl, rfl⟩ := hfin
        have hnil : o.keys = [] := by cases hk : o.keys with | nil => rfl | cons q l => simp [hk, isNil] at hb
        obtain ⟨xs, hs, hrun⟩ := resultL_sound X hr' hn' h1
        have hl : xs.length = 1 := by rw [hs.1]; rfl
        obtain ⟨x, rfl⟩ := List.length_eq_one_iff.1 hl
        have hx : Rep c' (.ref k off) x := (hs.2 0 (.ref k off) rfl).rep
        have hm' : (fn.results.mapM (m := Sem) (resF a'.tmps)).run X.P c'.w = .ok [x].toArray c'.w := by
          rw [Array.mapM_eq_mapM_toList]
          simp only [Sem.run_map]
          rw [hrun]; rfl
        have hres : (results fn a'.tmps).run X.P c'.w = .ok x c'.w := by
          rw [results_eq]
          simp only [Sem.run_bind, hm', Result.andThen_ok]
          rfl
        let c2 : Cx := { w := c'.w, I := c'.I, β := fun _ => c'.β k, κ := fun _ => c'.κ k, fr := fun _ => c'.fr k }
        have hone : ∀ q o', alook (enterObjs [o.ren fun _ => keyBase] keyBase) q = some o' → q = keyBase ∧ o' = o.ren fun _ => keyBase := by
          intro q o' h
          simp only [enterObjs, alook] at h
          cases hq : Nat.beq keyBase q with
          | true => rw [hq] at h; simp at h; exact ⟨(beqT hq).symm, h.symm⟩
          | false => rw [hq] at h; simp at h
        have hlive : live (enterObjs [o.ren fun _ => keyBase] keyBase) keyBase := ⟨_, rfl⟩
        have hno : ∀ q, ¬ live (enterObjs [] keyBase) q := by rintro q ⟨o', h⟩; cases h
        refine ⟨x, hres, c2, x, rfl, rfl, ⟨hr'.good.there, fun g cs hg => (hr'.good.globs g cs hg).ext (ks := fun _ => False) ⟨fun _ _ _ _ hv => hv, fun _ _ hi => hi, fun _ hk => hk.elim, fun _ hk => hk.elim⟩ (by simp [AV.keys])⟩,
          ⟨hr'.frame.os, hr'.frame.output, hr'.frame.tape, hr'.frame.size, hr'.frame.block, ⟨hr'.frame.ext.cell, hr'.frame.ext.I, fun q hq => absurd hq (hno q), fun q hq => absurd hq (hno q)⟩, hr'.frame.new⟩,
          ⟨fun q o' h => ?_, fun q o1 q' o2 b h h' hne => ?_, fun q o' h p hp => ?_⟩, ?_, fun q hq => ?_, fun q o' b h hb' => ?_⟩
        · obtain ⟨rfl, rfl⟩ := hone q o' h
          exact (hr'.objs.rep k o ho).ren rfl rfl rfl rfl rfl fun q hq => by rw [hnil] at hq; cases hq
        · obtain ⟨e1, _⟩ := hone q o1 h
          obtain ⟨e2, _⟩ := hone q' o2 h'
          exact absurd (e1.trans e2.symm) hne
        · obtain ⟨rfl, rfl⟩ := hone q o' h
          obtain ⟨q', hq', _⟩ := AO.ren_keys _ _ p hp
          rw [hnil] at hq'; cases hq'
        · exact Rep.ren (c := c') (c' := c2) (m := fun _ => keyBase) (fun _ _ _ _ hv => hv) (fun _ _ hi => hi) hx fun q hq => by
            have : q = k := by simpa [AV.keys] using hq
            subst this; exact ⟨rfl, fun _ _ h => h⟩
        · have : q = keyBase := by simpa [AV.keys] using hq
          subst this; exact hlive
        · obtain ⟨rfl, rfl⟩ := hone q o' h
          rw [show excl c2 keyBase (o.ren fun _ => keyBase) = excl c' k o from excl_ren rfl rfl] at hb'
          exact hr'.mine k o b ho hb'
      · cases hfin
    cases ex with
    | exit id => simp at hex
    | nor => exact hfin hex
    | ret => exact hfin hex
theorem ct_new {V : Env} {T : List Ent} {d : Nat} {f : FuncId} {n : Nat} {l : List AV} {r : AV × List AO} (hm : V.P.follows .mixedOrders = true) (hP : FuncsOk V.P) (hT : TabOk V T)
    (he : runFN (V.run T d [] [] [] f) n f l = some r) : Ct V.P V.G f l [] r := by
  have hO : OracOk (V.run T d [] [] [] f) f := by
    refine ⟨fun p g hg => ?_, fun p g hg => ?_, fun p g hg => ?_⟩
    all_goals
      simp only [Env.run, Nat.beq_refl, cond_true] at hg
      exact absurd (orGet_mem hg) (List.not_mem_nil)
  have hh := he
  unfold runFN at hh
  cases hf : (V.run T d [] [] [] f).P.funcs[f]? with
  | none => simp only [hf] at hh; cases hh
  | some fn =>
    have hf' : V.P.funcs[f]? = some fn := hf
    obtain ⟨h1, h2⟩ := hP f fn hf'
    refine ⟨runFN_sound (X := V.run T d [] [] [] f) (calls_tab hm hP hT d [] [] [] f) hm hO hf h2 he, fn, hf', h1, ?_⟩
    cases hb : fn.body with
    | none => simp only [hf, hb] at hh; cases hh
    | some c => rfl
end Go.Ab

namespace Go.SH
open Go Go.Ab Go.Proofs
set_option linter.unusedVariables false
set_option linter.unusedSimpArgs false
def φNew (C : CODES) : AV × List AO := (.ref keyBase 0, [codO C])
set_option maxRecDepth 100000 in
theorem new_m (n : Nat) (g : Nat → Int) (m : Int)  : runFN (V2.run [] 3 [] [] [] 12) 9 12 [.sl .no 1 n fun j => [.int .u8 (g j)], .int .i64 m] =
  cond (decide ((↑n : Int) > m)) (cond (decide (0 ≤ (↑0 : Int)) && (decide ((↑0 : Int) ≤ m) && decide (m ≤ (↑n : Int)))) (some ((.ref 1000000 0, [.cells [.sl .no 1 (Int.toNat m - Int.toNat (↑0 : Int)) fun j => [.int .u8 (g (Int.toNat (↑0 : Int) + j))], .int .i64 0] ]))) (none)) (some ((.ref 1000000 0, [.cells [.sl .no 1 n fun j => [.int .u8 (g j)], .int .i64 0] ]))) := by kernel_rfl
theorem new_ok {n : Nat} {g : Nat → Int} (hg : ∀ j, j < n → 0 ≤ g j ∧ g j < 256) {m : Int} (h0 : 0 ≤ m) (h1 : m ≤ 1000) : ∃ C : CODES, C.Ok ∧ Ct V2.P V2.G 12 [.sl .no 1 n fun j => [.int .u8 (g j)], .int .i64 m] [] (φNew C) := by
  have e := new_m n g m
  by_cases h : (n : Int) > m
  · rw [decide_eq_true h, decide_eq_true (show (0 : Int) ≤ 0 from Int.le_refl _), decide_eq_true (show (0 : Int) ≤ m from h0), decide_eq_true (show m ≤ (n : Int) by omega)] at e
    have hz : (fun j => [AV.int .u8 (g (Int.toNat 0 + j))]) = fun j => [AV.int .u8 (g j)] := by
      funext j; rw [show Int.toNat 0 = 0 from rfl, Nat.zero_add]
    rw [hz] at e
    exact ⟨⟨m.toNat, g, 0⟩, ⟨Nat.zero_le _, by show m.toNat ≤ _; omega, fun j hj => hg j (by have : j < m.toNat := hj; omega)⟩, ct_new mixed2 funcs2 tabOk_nil e⟩
  · rw [decide_eq_false h] at e
    exact ⟨⟨n, g, 0⟩, ⟨Nat.zero_le _, by show n ≤ _; omega, hg⟩, ct_new mixed2 funcs2 tabOk_nil e⟩
def mA (x : Int × Int) : List AV := [.int .i64 x.1, .int .i64 x.2]
def mP (x : Int × Int) : Prop := 1 ≤ x.2 ∧ x.2 ≤ 1000000
def mPost (x : Int × Int) (z : Int) : Prop := 0 ≤ z ∧ z < x.2
end Go.SH

namespace Go.SH
open Go Go.Ab Go.Proofs
set_option linter.unusedVariables false
set_option linter.unusedSimpArgs false
def φSv (x : SERVE × CODES) : AV × List AO := (.agg x.1.c, [codO x.2])
def getS (l : List (List UInt8)) (j : Nat) : List AV := [.str (l.getD j [])]
def L620 (n : Int) : St := { env := [(0, .int .i64 n), (3, .sl (.key 24) 1 0 fun _ => [.str [] ]), (4, .int .i64 0)], objs := [(24, .own 1 0)] }
def L62 (n : Int) (m : Nat) (get : Nat → List AV) (i : Int) : St := { env := [(0, .int .i64 n), (3, .sl (.key 24) 1 m get), (4, .int .i64 i)], objs := [(24, .own 1 m)] }
structure LO where
  m : Nat
  get : Nat → List AV
instance : Inhabited LO := ⟨⟨0, fun _ => []⟩⟩
def out62 (x : LO) (k : Ex → St → Res) : Res := k (.exit 0) { env := [(3, .sl (.key 24) 1 x.m x.get)], objs := [(24, .own 1 x.m)] }
def L610 (a : Int) (C : CODES) : St := { env := [(0, .ref keyBase 0), (3, .int .i64 a), (4, .sl (.key 25) 1 0 fun _ => [.str [] ]), (5, .int .i64 0)], objs := [(keyBase, codO C), (25, .own 1 0)] }
def L61 (a : Int) (m : Nat) (get : Nat → List AV) (C : CODES) (i : Int) : St := { env := [(0, .ref keyBase 0), (3, .int .i64 a), (4, .sl (.key 25) 1 m get), (5, .int .i64 i)], objs := [(25, .own 1 m), (keyBase, codO C)] }
def out61 (x : List (List UInt8) × CODES) (k : Ex → St → Res) : Res := k (.exit 0) { env := [(4, .sl (.key 25) 1 x.1.length (getS x.1))], objs := [(25, .own 1 x.1.length), (keyBase, codO x.2)] }
def L61b (l : List (List UInt8)) (C : CODES) (i : Int) : St := { env := [(4, .sl (.key 25) 1 l.length (getS l)), (6, .int .i64 i)], objs := [(25, .own 1 l.length), (keyBase, codO C)] }
def out61b (l : List (List UInt8)) (C : CODES) (x : Bool × Int) (k : Ex → St → Res) : Res := cond x.1 (k .ret { env := [(2, .sl .no 1 (Int.toNat x.2 - 0) fun j => getS l (0 + j))], objs := [(25, .own 1 l.length), (keyBase, codO C)] }) (k (.exit 2) { env := [(4, .sl (.key 25) 1 l.length (getS l))], objs := [(25, .own 1 l.length), (keyBase, codO C)] })
def φS1 (x : LO) : AV × List AO := (.sl .no 1 x.m x.get, [])
def φKs (x : LO × CODES) : AV × List AO := (.sl .no 1 x.1.m x.1.get, [codO x.2])
set_option maxRecDepth 100000 in
theorem sv_0 (ge gt gq : List AV → List AO → Bool) (ve : List AV → List AO → Int × CODES) (vt : List AV → List AO → List UInt8 × CODES) (vq : List AV → List AO → List RG × CODES) (C D : CODES) (n : Int) {t1 : Int × CODES} (h_t1 : ve [.ref 1000000 0, .int .i64 2] [codO C] = t1) {t2 : Int × CODES} (h_t2 : ve [.ref 1000000 0, .int .i64 n] [codO (Prod.snd (bif argN 12 [.ref 1000000 0, .int .i64 2] then (0, D) else t1))] = t2) {t3 : List UInt8 × CODES} (h_t3 : vt [.ref 1000000 0] [codO (Prod.snd (bif argN 12 [.ref 1000000 0, .int .i64 2] then (0, D) else t1))] = t3) {t4 : List RG × CODES} (h_t4 : vq [.ref 1000000 0, .int .i64 n] [codO (Prod.snd t3)] = t4) : runF (V2.run [mkE 19 ge (fun l os => cond (argN 12 l) (0, D) (ve l os)) φX, mkE 59 gt vt φT, mkE 20 gq vq φRg] 3 [] [] [] 30) 9 30 [.ref keyBase 0, .int .i64 n] [codO C] =
  cond (ge [.ref 1000000 0, .int .i64 2] [codO C]) (cond (Prod.fst (bif argN 12 [.ref 1000000 0, .int .i64 2] then (0, D) else t1) == 0) (cond (ge [.ref 1000000 0, .int .i64 n] [codO (Prod.snd (bif argN 12 [.ref 1000000 0, .int .i64 2] then (0, D) else t1))]) (some ((.agg [.int .i64 (IntKind.wrap IntKind.i64 (1 + Prod.fst (bif argN 12 [.ref 1000000 0, .int .i64 n] then (0, D) else t2))), .str [], .str [], .str [], .sl .fit 0 0 fun x => [] ], [codO (Prod.snd (bif argN 12 [.ref 1000000 0, .int .i64 n] then (0, D) else t2))]))) (none)) (cond (gt [.ref 1000000 0] [codO (Prod.snd (bif argN 12 [.ref 1000000 0, .int .i64 2] then (0, D) else t1))]) (cond (gq [.ref 1000000 0, .int .i64 n] [codO (Prod.snd t3)]) (cond (ge [.ref 1000000 0, .int .i64 12] [codO (Prod.snd t4)]) (some ((.agg [.int .i64 0, .str [100, 101, 118, 105, 99, 101], .str [99, 111, 114, 101, 115], .str (Prod.fst t3), rngL (Prod.fst t4)], [codO D]))) (none)) (none)) (none))) (none) := by subst h_t4 h_t3 h_t2 h_t1; kernel_rfl
set_option maxRecDepth 100000 in
theorem sv_1 (ge gt gq : List AV → List AO → Bool) (ve : List AV → List AO → Int × CODES) (vt : List AV → List AO → List UInt8 × CODES) (vq : List AV → List AO → List RG × CODES) (C D : CODES) (n : Int) {t1 : Int × CODES} (h_t1 : ve [.ref 1000000 0, .int .i64 2] [codO C] = t1) {t2 : Int × CODES} (h_t2 : ve [.ref 1000000 0, .int .i64 n] [codO (Prod.snd (bif argN 12 [.ref 1000000 0, .int .i64 2] then (1, D) else t1))] = t2) {t3 : List UInt8 × CODES} (h_t3 : vt [.ref 1000000 0] [codO (Prod.snd (bif argN 12 [.ref 1000000 0, .int .i64 2] then (1, D) else t1))] = t3) {t4 : List RG × CODES} (h_t4 : vq [.ref 1000000 0, .int .i64 n] [codO (Prod.snd t3)] = t4) : runF (V2.run [mkE 19 ge (fun l os => cond (argN 12 l) (1, D) (ve l os)) φX, mkE 59 gt vt φT, mkE 20 gq vq φRg] 3 [] [] [] 30) 9 30 [.ref keyBase 0, .int .i64 n] [codO C] =
  cond (ge [.ref 1000000 0, .int .i64 2] [codO C]) (cond (Prod.fst (bif argN 12 [.ref 1000000 0, .int .i64 2] then (1, D) else t1) == 0) (cond (ge [.ref 1000000 0, .int .i64 n] [codO (Prod.snd (bif argN 12 [.ref 1000000 0, .int .i64 2] then (1, D) else t1))]) (some ((.agg [.int .i64 (IntKind.wrap IntKind.i64 (1 + Prod.fst (bif argN 12 [.ref 1000000 0, .int .i64 n] then (1, D) else t2))), .str [], .str [], .str [], .sl .fit 0 0 fun x => [] ], [codO (Prod.snd (bif argN 12 [.ref 1000000 0, .int .i64 n] then (1, D) else t2))]))) (none)) (cond (gt [.ref 1000000 0] [codO (Prod.snd (bif argN 12 [.ref 1000000 0, .int .i64 2] then (1, D) else t1))]) (cond (gq [.ref 1000000 0, .int .i64 n] [codO (Prod.snd t3)]) (cond (ge [.ref 1000000 0, .int .i64 12] [codO (Prod.snd t4)]) (some ((.agg [.int .i64 0, .str [100, 101, 118, 105, 99, 101], .str [111, 115], .str (Prod.fst t3), rngL (Prod.fst t4)], [codO D]))) (none)) (none)) (none))) (none) := by subst h_t4 h_t3 h_t2 h_t1; kernel_rfl
set_option maxRecDepth 100000 in
theorem sv_2 (ge gt gq : List AV → List AO → Bool) (ve : List AV → List AO → Int × CODES) (vt : List AV → List AO → List UInt8 × CODES) (vq : List AV → List AO → List RG × CODES) (C D : CODES) (n : Int) {t1 : Int × CODES} (h_t1 : ve [.ref 1000000 0, .int .i64 2] [codO C] = t1) {t2 : Int × CODES} (h_t2 : ve [.ref 1000000 0, .int .i64 n] [codO (Prod.snd (bif argN 12 [.ref 1000000 0, .int .i64 2] then (2, D) else t1))] = t2) {t3 : List UInt8 × CODES} (h_t3 : vt [.ref 1000000 0] [codO (Prod.snd (bif argN 12 [.ref 1000000 0, .int .i64 2] then (2, D) else t1))] = t3) {t4 : List RG × CODES} (h_t4 : vq [.ref 1000000 0, .int .i64 n] [codO (Prod.snd t3)] = t4) : runF (V2.run [mkE 19 ge (fun l os => cond (argN 12 l) (2, D) (ve l os)) φX, mkE 59 gt vt φT, mkE 20 gq vq φRg] 3 [] [] [] 30) 9 30 [.ref keyBase 0, .int .i64 n] [codO C] =
  cond (ge [.ref 1000000 0, .int .i64 2] [codO C]) (cond (Prod.fst (bif argN 12 [.ref 1000000 0, .int .i64 2] then (2, D) else t1) == 0) (cond (ge [.ref 1000000 0, .int .i64 n] [codO (Prod.snd (bif argN 12 [.ref 1000000 0, .int .i64 2] then (2, D) else t1))]) (some ((.agg [.int .i64 (IntKind.wrap IntKind.i64 (1 + Prod.fst (bif argN 12 [.ref 1000000 0, .int .i64 n] then (2, D) else t2))), .str [], .str [], .str [], .sl .fit 0 0 fun x => [] ], [codO (Prod.snd (bif argN 12 [.ref 1000000 0, .int .i64 n] then (2, D) else t2))]))) (none)) (cond (gt [.ref 1000000 0] [codO (Prod.snd (bif argN 12 [.ref 1000000 0, .int .i64 2] then (2, D) else t1))]) (cond (gq [.ref 1000000 0, .int .i64 n] [codO (Prod.snd t3)]) (cond (ge [.ref 1000000 0, .int .i64 12] [codO (Prod.snd t4)]) (some ((.agg [.int .i64 0, .str [117, 115, 101, 114], .str [97, 103, 101], .str (Prod.fst t3), rngL (Prod.fst t4)], [codO D]))) (none)) (none)) (none))) (none) := by subst h_t4 h_t3 h_t2 h_t1; kernel_rfl
set_option maxRecDepth 100000 in
theorem sv_3 (ge gt gq : List AV → List AO → Bool) (ve : List AV → List AO → Int × CODES) (vt : List AV → List AO → List UInt8 × CODES) (vq : List AV → List AO → List RG × CODES) (C D : CODES) (n : Int) {t1 : Int × CODES} (h_t1 : ve [.ref 1000000 0, .int .i64 2] [codO C] = t1) {t2 : Int × CODES} (h_t2 : ve [.ref 1000000 0, .int .i64 n] [codO (Prod.snd (bif argN 12 [.ref 1000000 0, .int .i64 2] then (3, D) else t1))] = t2) {t3 : List UInt8 × CODES} (h_t3 : vt [.ref 1000000 0] [codO (Prod.snd (bif argN 12 [.ref 1000000 0, .int .i64 2] then (3, D) else t1))] = t3) {t4 : List RG × CODES} (h_t4 : vq [.ref 1000000 0, .int .i64 n] [codO (Prod.snd t3)] = t4) : runF (V2.run [mkE 19 ge (fun l os => cond (argN 12 l) (3, D) (ve l os)) φX, mkE 59 gt vt φT, mkE 20 gq vq φRg] 3 [] [] [] 30) 9 30 [.ref keyBase 0, .int .i64 n] [codO C] =
  cond (ge [.ref 1000000 0, .int .i64 2] [codO C]) (cond (Prod.fst (bif argN 12 [.ref 1000000 0, .int .i64 2] then (3, D) else t1) == 0) (cond (ge [.ref 1000000 0, .int .i64 n] [codO (Prod.snd (bif argN 12 [.ref 1000000 0, .int .i64 2] then (3, D) else t1))]) (some ((.agg [.int .i64 (IntKind.wrap IntKind.i64 (1 + Prod.fst (bif argN 12 [.ref 1000000 0, .int .i64 n] then (3, D) else t2))), .str [], .str [], .str [], .sl .fit 0 0 fun x => [] ], [codO (Prod.snd (bif argN 12 [.ref 1000000 0, .int .i64 n] then (3, D) else t2))]))) (none)) (cond (gt [.ref 1000000 0] [codO (Prod.snd (bif argN 12 [.ref 1000000 0, .int .i64 2] then (3, D) else t1))]) (cond (gq [.ref 1000000 0, .int .i64 n] [codO (Prod.snd t3)]) (cond (ge [.ref 1000000 0, .int .i64 12] [codO (Prod.snd t4)]) (some ((.agg [.int .i64 0, .str [117, 115, 101, 114], .str [97, 112, 112], .str (Prod.fst t3), rngL (Prod.fst t4)], [codO D]))) (none)) (none)) (none))) (none) := by subst h_t4 h_t3 h_t2 h_t1; kernel_rfl
set_option maxRecDepth 100000 in
theorem sv_4 (ge gt gq : List AV → List AO → Bool) (ve : List AV → List AO → Int × CODES) (vt : List AV → List AO → List UInt8 × CODES) (vq : List AV → List AO → List RG × CODES) (C D : CODES) (n : Int) {t1 : Int × CODES} (h_t1 : ve [.ref 1000000 0, .int .i64 2] [codO C] = t1) {t2 : Int × CODES} (h_t2 : ve [.ref 1000000 0, .int .i64 n] [codO (Prod.snd (bif argN 12 [.ref 1000000 0, .int .i64 2] then (4, D) else t1))] = t2) {t3 : List UInt8 × CODES} (h_t3 : vt [.ref 1000000 0] [codO (Prod.snd (bif argN 12 [.ref 1000000 0, .int .i64 2] then (4, D) else t1))] = t3) {t4 : List RG × CODES} (h_t4 : vq [.ref 1000000 0, .int .i64 n] [codO (Prod.snd t3)] = t4) : runF (V2.run [mkE 19 ge (fun l os => cond (argN 12 l) (4, D) (ve l os)) φX, mkE 59 gt vt φT, mkE 20 gq vq φRg] 3 [] [] [] 30) 9 30 [.ref keyBase 0, .int .i64 n] [codO C] =
  cond (ge [.ref 1000000 0, .int .i64 2] [codO C]) (cond (Prod.fst (bif argN 12 [.ref 1000000 0, .int .i64 2] then (4, D) else t1) == 0) (cond (ge [.ref 1000000 0, .int .i64 n] [codO (Prod.snd (bif argN 12 [.ref 1000000 0, .int .i64 2] then (4, D) else t1))]) (some ((.agg [.int .i64 (IntKind.wrap IntKind.i64 (1 + Prod.fst (bif argN 12 [.ref 1000000 0, .int .i64 n] then (4, D) else t2))), .str [], .str [], .str [], .sl .fit 0 0 fun x => [] ], [codO (Prod.snd (bif argN 12 [.ref 1000000 0, .int .i64 n] then (4, D) else t2))]))) (none)) (cond (gt [.ref 1000000 0] [codO (Prod.snd (bif argN 12 [.ref 1000000 0, .int .i64 2] then (4, D) else t1))]) (cond (gq [.ref 1000000 0, .int .i64 n] [codO (Prod.snd t3)]) (cond (ge [.ref 1000000 0, .int .i64 12] [codO (Prod.snd t4)]) (some ((.agg [.int .i64 0, .str [117, 115, 101, 114], .str [98, 101, 116, 97], .str (Prod.fst t3), rngL (Prod.fst t4)], [codO D]))) (none)) (none)) (none))) (none) := by subst h_t4 h_t3 h_t2 h_t1; kernel_rfl
set_option maxRecDepth 100000 in
theorem sv_5 (ge gt gq : List AV → List AO → Bool) (ve : List AV → List AO → Int × CODES) (vt : List AV → List AO → List UInt8 × CODES) (vq : List AV → List AO → List RG × CODES) (C D : CODES) (n : Int) {t1 : Int × CODES} (h_t1 : ve [.ref 1000000 0, .int .i64 2] [codO C] = t1) {t2 : Int × CODES} (h_t2 : ve [.ref 1000000 0, .int .i64 n] [codO (Prod.snd (bif argN 12 [.ref 1000000 0, .int .i64 2] then (5, D) else t1))] = t2) {t3 : List UInt8 × CODES} (h_t3 : vt [.ref 1000000 0] [codO (Prod.snd (bif argN 12 [.ref 1000000 0, .int .i64 2] then (5, D) else t1))] = t3) {t4 : List RG × CODES} (h_t4 : vq [.ref 1000000 0, .int .i64 n] [codO (Prod.snd t3)] = t4) : runF (V2.run [mkE 19 ge (fun l os => cond (argN 12 l) (5, D) (ve l os)) φX, mkE 59 gt vt φT, mkE 20 gq vq φRg] 3 [] [] [] 30) 9 30 [.ref keyBase 0, .int .i64 n] [codO C] =
  cond (ge [.ref 1000000 0, .int .i64 2] [codO C]) (cond (Prod.fst (bif argN 12 [.ref 1000000 0, .int .i64 2] then (5, D) else t1) == 0) (cond (ge [.ref 1000000 0, .int .i64 n] [codO (Prod.snd (bif argN 12 [.ref 1000000 0, .int .i64 2] then (5, D) else t1))]) (some ((.agg [.int .i64 (IntKind.wrap IntKind.i64 (1 + Prod.fst (bif argN 12 [.ref 1000000 0, .int .i64 n] then (5, D) else t2))), .str [], .str [], .str [], .sl .fit 0 0 fun x => [] ], [codO (Prod.snd (bif argN 12 [.ref 1000000 0, .int .i64 n] then (5, D) else t2))]))) (none)) (cond (gt [.ref 1000000 0] [codO (Prod.snd (bif argN 12 [.ref 1000000 0, .int .i64 2] then (5, D) else t1))]) (cond (gq [.ref 1000000 0, .int .i64 n] [codO (Prod.snd t3)]) (cond (ge [.ref 1000000 0, .int .i64 12] [codO (Prod.snd t4)]) (some ((.agg [.int .i64 0, .str [117, 115, 101, 114], .str [99, 111, 117, 110, 116, 114, 121], .str (Prod.fst t3), rngL (Prod.fst t4)], [codO D]))) (none)) (none)) (none))) (none) := by subst h_t4 h_t3 h_t2 h_t1; kernel_rfl
set_option maxRecDepth 100000 in
theorem sv_6 (ge gt gq : List AV → List AO → Bool) (ve : List AV → List AO → Int × CODES) (vt : List AV → List AO → List UInt8 × CODES) (vq : List AV → List AO → List RG × CODES) (C D : CODES) (n : Int) {t1 : Int × CODES} (h_t1 : ve [.ref 1000000 0, .int .i64 2] [codO C] = t1) {t2 : Int × CODES} (h_t2 : ve [.ref 1000000 0, .int .i64 n] [codO (Prod.snd (bif argN 12 [.ref 1000000 0, .int .i64 2] then (6, D) else t1))] = t2) {t3 : List UInt8 × CODES} (h_t3 : vt [.ref 1000000 0] [codO (Prod.snd (bif argN 12 [.ref 1000000 0, .int .i64 2] then (6, D) else t1))] = t3) {t4 : List RG × CODES} (h_t4 : vq [.ref 1000000 0, .int .i64 n] [codO (Prod.snd t3)] = t4) : runF (V2.run [mkE 19 ge (fun l os => cond (argN 12 l) (6, D) (ve l os)) φX, mkE 59 gt vt φT, mkE 20 gq vq φRg] 3 [] [] [] 30) 9 30 [.ref keyBase 0, .int .i64 n] [codO C] =
  cond (ge [.ref 1000000 0, .int .i64 2] [codO C]) (cond (Prod.fst (bif argN 12 [.ref 1000000 0, .int .i64 2] then (6, D) else t1) == 0) (cond (ge [.ref 1000000 0, .int .i64 n] [codO (Prod.snd (bif argN 12 [.ref 1000000 0, .int .i64 2] then (6, D) else t1))]) (some ((.agg [.int .i64 (IntKind.wrap IntKind.i64 (1 + Prod.fst (bif argN 12 [.ref 1000000 0, .int .i64 n] then (6, D) else t2))), .str [], .str [], .str [], .sl .fit 0 0 fun x => [] ], [codO (Prod.snd (bif argN 12 [.ref 1000000 0, .int .i64 n] then (6, D) else t2))]))) (none)) (cond (gt [.ref 1000000 0] [codO (Prod.snd (bif argN 12 [.ref 1000000 0, .int .i64 2] then (6, D) else t1))]) (cond (gq [.ref 1000000 0, .int .i64 n] [codO (Prod.snd t3)]) (cond (ge [.ref 1000000 0, .int .i64 12] [codO (Prod.snd t4)]) (some ((.agg [.int .i64 0, .str [117, 115, 101, 114], .str [112, 108, 97, 110], .str (Prod.fst t3), rngL (Prod.fst t4)], [codO D]))) (none)) (none)) (none))) (none) := by subst h_t4 h_t3 h_t2 h_t1; kernel_rfl
set_option maxRecDepth 100000 in
theorem sv_7 (ge gt gq : List AV → List AO → Bool) (ve : List AV → List AO → Int × CODES) (vt : List AV → List AO → List UInt8 × CODES) (vq : List AV → List AO → List RG × CODES) (C D : CODES) (n : Int) {t1 : Int × CODES} (h_t1 : ve [.ref 1000000 0, .int .i64 2] [codO C] = t1) {t2 : Int × CODES} (h_t2 : ve [.ref 1000000 0, .int .i64 n] [codO (Prod.snd (bif argN 12 [.ref 1000000 0, .int .i64 2] then (7, D) else t1))] = t2) {t3 : List UInt8 × CODES} (h_t3 : vt [.ref 1000000 0] [codO (Prod.snd (bif argN 12 [.ref 1000000 0, .int .i64 2] then (7, D) else t1))] = t3) {t4 : List RG × CODES} (h_t4 : vq [.ref 1000000 0, .int .i64 n] [codO (Prod.snd t3)] = t4) : runF (V2.run [mkE 19 ge (fun l os => cond (argN 12 l) (7, D) (ve l os)) φX, mkE 59 gt vt φT, mkE 20 gq vq φRg] 3 [] [] [] 30) 9 30 [.ref keyBase 0, .int .i64 n] [codO C] =
  cond (ge [.ref 1000000 0, .int .i64 2] [codO C]) (cond (Prod.fst (bif argN 12 [.ref 1000000 0, .int .i64 2] then (7, D) else t1) == 0) (cond (ge [.ref 1000000 0, .int .i64 n] [codO (Prod.snd (bif argN 12 [.ref 1000000 0, .int .i64 2] then (7, D) else t1))]) (some ((.agg [.int .i64 (IntKind.wrap IntKind.i64 (1 + Prod.fst (bif argN 12 [.ref 1000000 0, .int .i64 n] then (7, D) else t2))), .str [], .str [], .str [], .sl .fit 0 0 fun x => [] ], [codO (Prod.snd (bif argN 12 [.ref 1000000 0, .int .i64 n] then (7, D) else t2))]))) (none)) (cond (gt [.ref 1000000 0] [codO (Prod.snd (bif argN 12 [.ref 1000000 0, .int .i64 2] then (7, D) else t1))]) (cond (gq [.ref 1000000 0, .int .i64 n] [codO (Prod.snd t3)]) (cond (ge [.ref 1000000 0, .int .i64 12] [codO (Prod.snd t4)]) (some ((.agg [.int .i64 0, .str [117, 115, 101, 114], .str [107, 101, 121], .str (Prod.fst t3), rngL (Prod.fst t4)], [codO D]))) (none)) (none)) (none))) (none) := by subst h_t4 h_t3 h_t2 h_t1; kernel_rfl
set_option maxRecDepth 100000 in
theorem sv_8 (ge gt gq : List AV → List AO → Bool) (ve : List AV → List AO → Int × CODES) (vt : List AV → List AO → List UInt8 × CODES) (vq : List AV → List AO → List RG × CODES) (C D : CODES) (n : Int) {t1 : Int × CODES} (h_t1 : ve [.ref 1000000 0, .int .i64 2] [codO C] = t1) {t2 : Int × CODES} (h_t2 : ve [.ref 1000000 0, .int .i64 n] [codO (Prod.snd (bif argN 12 [.ref 1000000 0, .int .i64 2] then (8, D) else t1))] = t2) {t3 : List UInt8 × CODES} (h_t3 : vt [.ref 1000000 0] [codO (Prod.snd (bif argN 12 [.ref 1000000 0, .int .i64 2] then (8, D) else t1))] = t3) {t4 : List RG × CODES} (h_t4 : vq [.ref 1000000 0, .int .i64 n] [codO (Prod.snd t3)] = t4) : runF (V2.run [mkE 19 ge (fun l os => cond (argN 12 l) (8, D) (ve l os)) φX, mkE 59 gt vt φT, mkE 20 gq vq φRg] 3 [] [] [] 30) 9 30 [.ref keyBase 0, .int .i64 n] [codO C] =
  cond (ge [.ref 1000000 0, .int .i64 2] [codO C]) (cond (Prod.fst (bif argN 12 [.ref 1000000 0, .int .i64 2] then (8, D) else t1) == 0) (cond (ge [.ref 1000000 0, .int .i64 n] [codO (Prod.snd (bif argN 12 [.ref 1000000 0, .int .i64 2] then (8, D) else t1))]) (some ((.agg [.int .i64 (IntKind.wrap IntKind.i64 (1 + Prod.fst (bif argN 12 [.ref 1000000 0, .int .i64 n] then (8, D) else t2))), .str [], .str [], .str [], .sl .fit 0 0 fun x => [] ], [codO (Prod.snd (bif argN 12 [.ref 1000000 0, .int .i64 n] then (8, D) else t2))]))) (none)) (cond (gt [.ref 1000000 0] [codO (Prod.snd (bif argN 12 [.ref 1000000 0, .int .i64 2] then (8, D) else t1))]) (cond (gq [.ref 1000000 0, .int .i64 n] [codO (Prod.snd t3)]) (cond (ge [.ref 1000000 0, .int .i64 12] [codO (Prod.snd t4)]) (some ((.agg [.int .i64 0, .str [117, 115, 101, 114], .str [107, 101, 121], .str (Prod.fst t3), rngL (Prod.fst t4)], [codO D]))) (none)) (none)) (none))) (none) := by subst h_t4 h_t3 h_t2 h_t1; kernel_rfl
set_option maxRecDepth 100000 in
theorem sv_9 (ge gt gq : List AV → List AO → Bool) (ve : List AV → List AO → Int × CODES) (vt : List AV → List AO → List UInt8 × CODES) (vq : List AV → List AO → List RG × CODES) (C D : CODES) (n : Int) {t1 : Int × CODES} (h_t1 : ve [.ref 1000000 0, .int .i64 2] [codO C] = t1) {t2 : Int × CODES} (h_t2 : ve [.ref 1000000 0, .int .i64 n] [codO (Prod.snd (bif argN 12 [.ref 1000000 0, .int .i64 2] then (9, D) else t1))] = t2) {t3 : List UInt8 × CODES} (h_t3 : vt [.ref 1000000 0] [codO (Prod.snd (bif argN 12 [.ref 1000000 0, .int .i64 2] then (9, D) else t1))] = t3) {t4 : List RG × CODES} (h_t4 : vq [.ref 1000000 0, .int .i64 n] [codO (Prod.snd t3)] = t4) : runF (V2.run [mkE 19 ge (fun l os => cond (argN 12 l) (9, D) (ve l os)) φX, mkE 59 gt vt φT, mkE 20 gq vq φRg] 3 [] [] [] 30) 9 30 [.ref keyBase 0, .int .i64 n] [codO C] =
  cond (ge [.ref 1000000 0, .int .i64 2] [codO C]) (cond (Prod.fst (bif argN 12 [.ref 1000000 0, .int .i64 2] then (9, D) else t1) == 0) (cond (ge [.ref 1000000 0, .int .i64 n] [codO (Prod.snd (bif argN 12 [.ref 1000000 0, .int .i64 2] then (9, D) else t1))]) (some ((.agg [.int .i64 (IntKind.wrap IntKind.i64 (1 + Prod.fst (bif argN 12 [.ref 1000000 0, .int .i64 n] then (9, D) else t2))), .str [], .str [], .str [], .sl .fit 0 0 fun x => [] ], [codO (Prod.snd (bif argN 12 [.ref 1000000 0, .int .i64 n] then (9, D) else t2))]))) (none)) (cond (gt [.ref 1000000 0] [codO (Prod.snd (bif argN 12 [.ref 1000000 0, .int .i64 2] then (9, D) else t1))]) (cond (gq [.ref 1000000 0, .int .i64 n] [codO (Prod.snd t3)]) (cond (ge [.ref 1000000 0, .int .i64 12] [codO (Prod.snd t4)]) (some ((.agg [.int .i64 0, .str [117, 115, 101, 114], .str [107, 101, 121], .str (Prod.fst t3), rngL (Prod.fst t4)], [codO D]))) (none)) (none)) (none))) (none) := by subst h_t4 h_t3 h_t2 h_t1; kernel_rfl
set_option maxRecDepth 100000 in
theorem sv_10 (ge gt gq : List AV → List AO → Bool) (ve : List AV → List AO → Int × CODES) (vt : List AV → List AO → List UInt8 × CODES) (vq : List AV → List AO → List RG × CODES) (C D : CODES) (n : Int) {t1 : Int × CODES} (h_t1 : ve [.ref 1000000 0, .int .i64 2] [codO C] = t1) {t2 : Int × CODES} (h_t2 : ve [.ref 1000000 0, .int .i64 n] [codO (Prod.snd (bif argN 12 [.ref 1000000 0, .int .i64 2] then (10, D) else t1))] = t2) {t3 : List UInt8 × CODES} (h_t3 : vt [.ref 1000000 0] [codO (Prod.snd (bif argN 12 [.ref 1000000 0, .int .i64 2] then (10, D) else t1))] = t3) {t4 : List RG × CODES} (h_t4 : vq [.ref 1000000 0, .int .i64 n] [codO (Prod.snd t3)] = t4) : runF (V2.run [mkE 19 ge (fun l os => cond (argN 12 l) (10, D) (ve l os)) φX, mkE 59 gt vt φT, mkE 20 gq vq φRg] 3 [] [] [] 30) 9 30 [.ref keyBase 0, .int .i64 n] [codO C] =
  cond (ge [.ref 1000000 0, .int .i64 2] [codO C]) (cond (Prod.fst (bif argN 12 [.ref 1000000 0, .int .i64 2] then (10, D) else t1) == 0) (cond (ge [.ref 1000000 0, .int .i64 n] [codO (Prod.snd (bif argN 12 [.ref 1000000 0, .int .i64 2] then (10, D) else t1))]) (some ((.agg [.int .i64 (IntKind.wrap IntKind.i64 (1 + Prod.fst (bif argN 12 [.ref 1000000 0, .int .i64 n] then (10, D) else t2))), .str [], .str [], .str [], .sl .fit 0 0 fun x => [] ], [codO (Prod.snd (bif argN 12 [.ref 1000000 0, .int .i64 n] then (10, D) else t2))]))) (none)) (cond (gt [.ref 1000000 0] [codO (Prod.snd (bif argN 12 [.ref 1000000 0, .int .i64 2] then (10, D) else t1))]) (cond (gq [.ref 1000000 0, .int .i64 n] [codO (Prod.snd t3)]) (cond (ge [.ref 1000000 0, .int .i64 12] [codO (Prod.snd t4)]) (some ((.agg [.int .i64 0, .str [117, 115, 101, 114], .str [107, 101, 121], .str (Prod.fst t3), rngL (Prod.fst t4)], [codO D]))) (none)) (none)) (none))) (none) := by subst h_t4 h_t3 h_t2 h_t1; kernel_rfl
set_option maxRecDepth 100000 in
theorem sv_11 (ge gt gq : List AV → List AO → Bool) (ve : List AV → List AO → Int × CODES) (vt : List AV → List AO → List UInt8 × CODES) (vq : List AV → List AO → List RG × CODES) (C D : CODES) (n : Int) {t1 : Int × CODES} (h_t1 : ve [.ref 1000000 0, .int .i64 2] [codO C] = t1) {t2 : Int × CODES} (h_t2 : ve [.ref 1000000 0, .int .i64 n] [codO (Prod.snd (bif argN 12 [.ref 1000000 0, .int .i64 2] then (11, D) else t1))] = t2) {t3 : List UInt8 × CODES} (h_t3 : vt [.ref 1000000 0] [codO (Prod.snd (bif argN 12 [.ref 1000000 0, .int .i64 2] then (11, D) else t1))] = t3) {t4 : List RG × CODES} (h_t4 : vq [.ref 1000000 0, .int .i64 n] [codO (Prod.snd t3)] = t4) : runF (V2.run [mkE 19 ge (fun l os => cond (argN 12 l) (11, D) (ve l os)) φX, mkE 59 gt vt φT, mkE 20 gq vq φRg] 3 [] [] [] 30) 9 30 [.ref keyBase 0, .int .i64 n] [codO C] =
  cond (ge [.ref 1000000 0, .int .i64 2] [codO C]) (cond (Prod.fst (bif argN 12 [.ref 1000000 0, .int .i64 2] then (11, D) else t1) == 0) (cond (ge [.ref 1000000 0, .int .i64 n] [codO (Prod.snd (bif argN 12 [.ref 1000000 0, .int .i64 2] then (11, D) else t1))]) (some ((.agg [.int .i64 (IntKind.wrap IntKind.i64 (1 + Prod.fst (bif argN 12 [.ref 1000000 0, .int .i64 n] then (11, D) else t2))), .str [], .str [], .str [], .sl .fit 0 0 fun x => [] ], [codO (Prod.snd (bif argN 12 [.ref 1000000 0, .int .i64 n] then (11, D) else t2))]))) (none)) (cond (gt [.ref 1000000 0] [codO (Prod.snd (bif argN 12 [.ref 1000000 0, .int .i64 2] then (11, D) else t1))]) (cond (gq [.ref 1000000 0, .int .i64 n] [codO (Prod.snd t3)]) (cond (ge [.ref 1000000 0, .int .i64 12] [codO (Prod.snd t4)]) (some ((.agg [.int .i64 0, .str [117, 115, 101, 114], .str [107, 101, 121], .str (Prod.fst t3), rngL (Prod.fst t4)], [codO D]))) (none)) (none)) (none))) (none) := by subst h_t4 h_t3 h_t2 h_t1; kernel_rfl
set_option maxRecDepth 100000 in
theorem srv_0 (ge gu gn gr : List AV → List AO → Bool) (vu : List AV → List AO → Int × CODES) (vn : List AV → List AO → List UInt8 × CODES) (vr : List AV → List AO → List RG × CODES) (v : SERVE) (C D : CODES) {t1 : Int × CODES} (h_t1 : vu [.ref 1000000 0] [codO D] = t1) : runF (V2.run [mkE 19 ge (fun _ _ => (0, D)) φX, mkE 51 gu vu φX, mkE 50 gn vn φT, mkE 55 gr vr φRg] 3 [] [] [] 63) 9 63 [.ref keyBase 0, .agg v.c] [codO C] =
  cond (ge [.ref 1000000 0, .int .i64 6] [codO C]) (cond (gu [.ref 1000000 0] [codO D]) (some ((.agg [.int .i64 (Prod.fst t1), .str (SERVE.kind v), .str (SERVE.by' v), .str (SERVE.salt v), rngL (SERVE.split v)], [codO (Prod.snd t1)]))) (none)) (none) := by subst h_t1; kernel_rfl
set_option maxRecDepth 100000 in
theorem srv_1 (ge gu gn gr : List AV → List AO → Bool) (vu : List AV → List AO → Int × CODES) (vn : List AV → List AO → List UInt8 × CODES) (vr : List AV → List AO → List RG × CODES) (v : SERVE) (C D : CODES) {t1 : List UInt8 × CODES} (h_t1 : vn [.ref 1000000 0] [codO D] = t1) : runF (V2.run [mkE 19 ge (fun _ _ => (1, D)) φX, mkE 51 gu vu φX, mkE 50 gn vn φT, mkE 55 gr vr φRg] 3 [] [] [] 63) 9 63 [.ref keyBase 0, .agg v.c] [codO C] =
  cond (ge [.ref 1000000 0, .int .i64 6] [codO C]) (cond (gn [.ref 1000000 0] [codO D]) (some ((.agg [.int .i64 (SERVE.var v), .str (Prod.fst t1), .str (SERVE.by' v), .str (SERVE.salt v), rngL (SERVE.split v)], [codO (Prod.snd t1)]))) (none)) (none) := by subst h_t1; kernel_rfl
set_option maxRecDepth 100000 in
theorem srv_2 (ge gu gn gr : List AV → List AO → Bool) (vu : List AV → List AO → Int × CODES) (vn : List AV → List AO → List UInt8 × CODES) (vr : List AV → List AO → List RG × CODES) (v : SERVE) (C D : CODES) {t1 : List UInt8 × CODES} (h_t1 : vn [.ref 1000000 0] [codO D] = t1) : runF (V2.run [mkE 19 ge (fun _ _ => (2, D)) φX, mkE 51 gu vu φX, mkE 50 gn vn φT, mkE 55 gr vr φRg] 3 [] [] [] 63) 9 63 [.ref keyBase 0, .agg v.c] [codO C] =
  cond (ge [.ref 1000000 0, .int .i64 6] [codO C]) (cond (gn [.ref 1000000 0] [codO D]) (some ((.agg [.int .i64 (SERVE.var v), .str (SERVE.kind v), .str (Prod.fst t1), .str (SERVE.salt v), rngL (SERVE.split v)], [codO (Prod.snd t1)]))) (none)) (none) := by subst h_t1; kernel_rfl
set_option maxRecDepth 100000 in
theorem srv_3 (ge gu gn gr : List AV → List AO → Bool) (vu : List AV → List AO → Int × CODES) (vn : List AV → List AO → List UInt8 × CODES) (vr : List AV → List AO → List RG × CODES) (v : SERVE) (C D : CODES)  : runF (V2.run [mkE 19 ge (fun _ _ => (3, D)) φX, mkE 51 gu vu φX, mkE 50 gn vn φT, mkE 55 gr vr φRg] 3 [] [] [] 63) 9 63 [.ref keyBase 0, .agg v.c] [codO C] =
  cond (ge [.ref 1000000 0, .int .i64 6] [codO C]) (some ((.agg [.int .i64 (SERVE.var v), .str (SERVE.kind v), .str (SERVE.by' v), .str [127], rngL (SERVE.split v)], [codO D]))) (none) := by kernel_rfl
set_option maxRecDepth 100000 in
theorem srv_4 (ge gu gn gr : List AV → List AO → Bool) (vu : List AV → List AO → Int × CODES) (vn : List AV → List AO → List UInt8 × CODES) (vr : List AV → List AO → List RG × CODES) (v : SERVE) (C D : CODES) {t1 : List RG × CODES} (h_t1 : vr [.ref 1000000 0, rngL (SERVE.split v)] [codO D] = t1) : runF (V2.run [mkE 19 ge (fun _ _ => (4, D)) φX, mkE 51 gu vu φX, mkE 50 gn vn φT, mkE 55 gr vr φRg] 3 [] [] [] 63) 9 63 [.ref keyBase 0, .agg v.c] [codO C] =
  cond (ge [.ref 1000000 0, .int .i64 6] [codO C]) (cond (gr [.ref 1000000 0, rngL (SERVE.split v)] [codO D]) (some ((.agg [.int .i64 (SERVE.var v), .str (SERVE.kind v), .str (SERVE.by' v), .str (SERVE.salt v), rngL (Prod.fst t1)], [codO (Prod.snd t1)]))) (none)) (none) := by subst h_t1; kernel_rfl
set_option maxRecDepth 100000 in
theorem srv_5 (ge gu gn gr : List AV → List AO → Bool) (vu : List AV → List AO → Int × CODES) (vn : List AV → List AO → List UInt8 × CODES) (vr : List AV → List AO → List RG × CODES) (v : SERVE) (C D : CODES) {t1 : List RG × CODES} (h_t1 : vr [.ref 1000000 0, rngL (SERVE.split v)] [codO D] = t1) : runF (V2.run [mkE 19 ge (fun _ _ => (5, D)) φX, mkE 51 gu vu φX, mkE 50 gn vn φT, mkE 55 gr vr φRg] 3 [] [] [] 63) 9 63 [.ref keyBase 0, .agg v.c] [codO C] =
  cond (ge [.ref 1000000 0, .int .i64 6] [codO C]) (cond (gr [.ref 1000000 0, rngL (SERVE.split v)] [codO D]) (some ((.agg [.int .i64 (SERVE.var v), .str (SERVE.kind v), .str (SERVE.by' v), .str (SERVE.salt v), rngL (Prod.fst t1)], [codO (Prod.snd t1)]))) (none)) (none) := by subst h_t1; kernel_rfl
set_option maxRecDepth 100000 in
theorem lng_0 (T : List Ent) (L : List (List Nat × Orc)) (m : Nat) (n : Int) (kn : St → Res) (k : Ex → St → Res)  : roundR (V2.run T 3 [] L [] 62) 62 m [1, 1, 0, 1, 0] (L620 n) kn k =
  cond (decide (0 < n)) (kn (L62 n 1 (appGet 0 1 (fun x => [.str [] ]) (fillGet [.str []] [(0, .str ([109] ++ Array.toList (ByteArray.data (Utf8.encode (IntKind.wrap IntKind.i32 (IntKind.wrap IntKind.i64 (48 + IntKind.wrap IntKind.i64 (Int.tdiv 0 10)))))) ++ Array.toList (ByteArray.data (Utf8.encode (IntKind.wrap IntKind.i32 (IntKind.wrap IntKind.i64 (48 + Int.tmod 0 10)))))))])) (IntKind.wrap IntKind.i64 (0 + 1)))) (k (.exit 0) ({ env := [(3, .sl (.key 24) 1 0 fun x => [.str [] ])], objs := [(24, .own 1 0)] })) := by kernel_rfl
set_option maxRecDepth 100000 in
theorem lng_r (T : List Ent) (L : List (List Nat × Orc)) (m : Nat) (n : Int) (q : Nat) (get : Nat → List AV) (i : Int) (kn : St → Res) (k : Ex → St → Res)  : roundR (V2.run T 3 [] L [] 62) 62 m [1, 1, 0, 1, 0] (L62 n (q + 1) get i) kn k =
  cond (decide (i < n)) (cond (Nat.ble (List.length ([109]) + List.length (Array.toList (ByteArray.data (Utf8.encode (IntKind.wrap IntKind.i32 (IntKind.wrap IntKind.i64 (48 + IntKind.wrap IntKind.i64 (Int.tdiv i 10)))))))) 4611686018427387904) (cond (Nat.ble (List.length ([109] ++ Array.toList (ByteArray.data (Utf8.encode (IntKind.wrap IntKind.i32 (IntKind.wrap IntKind.i64 (48 + IntKind.wrap IntKind.i64 (Int.tdiv i 10))))))) + List.length (Array.toList (ByteArray.data (Utf8.encode (IntKind.wrap IntKind.i32 (IntKind.wrap IntKind.i64 (48 + Int.tmod i 10))))))) 4611686018427387904) (cond (roomy (16) (q + 1 + 1) && Nat.beq (q + 1) (q + 1)) (kn (L62 n (q + 1 + 1) (appGet (q + 1) 1 get (fillGet [.str []] [(0, .str ([109] ++ Array.toList (ByteArray.data (Utf8.encode (IntKind.wrap IntKind.i32 (IntKind.wrap IntKind.i64 (48 + IntKind.wrap IntKind.i64 (Int.tdiv i 10)))))) ++ Array.toList (ByteArray.data (Utf8.encode (IntKind.wrap IntKind.i32 (IntKind.wrap IntKind.i64 (48 + Int.tmod i 10)))))))])) (IntKind.wrap IntKind.i64 (i + 1)))) (none)) (none)) (none)) (k (.exit 0) ({ env := [(3, .sl (.key 24) 1 (q + 1) get)], objs := [(24, .own 1 (q + 1))] })) := by kernel_rfl
set_option maxRecDepth 100000 in
theorem lng_m (g1 : St → Bool) (v1 : St → LO) (n : Int) {t1 : LO} (h_t1 : v1 (L620 n) = t1) : runF (V2.run [] 3 [] [([1, 1, 0, 1, 0], mkO g1 v1 out62)] [] 62) 9 62 [.int .i64 n] [] =
  cond (g1 (L620 n)) (some ((.sl .no 1 (LO.m t1) (LO.get t1), []))) (none) := by subst h_t1; kernel_rfl
set_option maxRecDepth 100000 in
theorem kys_0 (ge : List AV → List AO → Bool) (ve : List AV → List AO → Int × CODES) (T : List Ent) (L : List (List Nat × Orc)) (m : Nat) (a : Int) (C : CODES) (kn : St → Res) (k : Ex → St → Res) {t1 : Int × CODES} (h_t1 : ve [.ref 1000000 0, .int .i64 4] [codO C] = t1) : roundR (V2.run (mkE 19 ge ve φX :: T) 3 [] L [] 61) 61 m [1, 1, 1, 0, 1, 0] (L610 a C) kn k =
  cond (ge [.ref 1000000 0, .int .i64 4] [codO C]) (cond (decide (0 < Prod.fst t1)) (cond (Nat.ble (List.length ([107]) + List.length (Array.toList (ByteArray.data (Utf8.encode (IntKind.wrap IntKind.i32 (IntKind.wrap IntKind.i64 (48 + Int.tmod (IntKind.wrap IntKind.i64 (a + 0)) 10))))))) 4611686018427387904) (kn (L61 a 1 (appGet 0 1 (fun x => [.str [] ]) (fillGet [.str []] [(0, .str ([107] ++ Array.toList (ByteArray.data (Utf8.encode (IntKind.wrap IntKind.i32 (IntKind.wrap IntKind.i64 (48 + Int.tmod (IntKind.wrap IntKind.i64 (a + 0)) 10)))))))])) (Prod.snd t1) (IntKind.wrap IntKind.i64 (0 + 1)))) (none)) (k (.exit 0) ({ env := [(4, .sl (.key 25) 1 0 fun x => [.str [] ])], objs := [(25, .own 1 0), (1000000, codO (Prod.snd t1))] }))) (none) := by subst h_t1; kernel_rfl
set_option maxRecDepth 100000 in
theorem kys_r (ge : List AV → List AO → Bool) (ve : List AV → List AO → Int × CODES) (T : List Ent) (L : List (List Nat × Orc)) (m : Nat) (a : Int) (q : Nat) (get : Nat → List AV) (C : CODES) (i : Int) (kn : St → Res) (k : Ex → St → Res) {t1 : Int × CODES} (h_t1 : ve [.ref 1000000 0, .int .i64 4] [codO C] = t1) : roundR (V2.run (mkE 19 ge ve φX :: T) 3 [] L [] 61) 61 m [1, 1, 1, 0, 1, 0] (L61 a (q + 1) get C i) kn k =
  cond (ge [.ref 1000000 0, .int .i64 4] [codO C]) (cond (decide (i < Prod.fst t1)) (cond (Nat.ble (List.length ([107]) + List.length (Array.toList (ByteArray.data (Utf8.encode (IntKind.wrap IntKind.i32 (IntKind.wrap IntKind.i64 (48 + Int.tmod (IntKind.wrap IntKind.i64 (a + i)) 10))))))) 4611686018427387904) (cond (roomy (16) (q + 1 + 1) && Nat.beq (q + 1) (q + 1)) (kn (L61 a (q + 1 + 1) (appGet (q + 1) 1 get (fillGet [.str []] [(0, .str ([107] ++ Array.toList (ByteArray.data (Utf8.encode (IntKind.wrap IntKind.i32 (IntKind.wrap IntKind.i64 (48 + Int.tmod (IntKind.wrap IntKind.i64 (a + i)) 10)))))))])) (Prod.snd t1) (IntKind.wrap IntKind.i64 (i + 1)))) (none)) (none)) (k (.exit 0) ({ env := [(4, .sl (.key 25) 1 (q + 1) get)], objs := [(25, .own 1 (q + 1)), (1000000, codO (Prod.snd t1))] }))) (none) := by subst h_t1; kernel_rfl
set_option maxRecDepth 100000 in
theorem kys_b (ge : List AV → List AO → Bool) (ve : List AV → List AO → Int × CODES) (T : List Ent) (L : List (List Nat × Orc)) (m : Nat) (l : List (List UInt8)) (C : CODES) (i : Int) (kn : St → Res) (k : Ex → St → Res)  : roundR (V2.run (mkE 19 ge ve φX :: T) 3 [] L [] 61) 61 m [1, 1, 1, 1, 0, 1, 0] (L61b l C i) kn k =
  cond (decide (i < (↑(List.length l) : Int))) (cond (within i (List.length l)) (cond (within (IntKind.wrap IntKind.i64 (i - 1)) (List.length l)) (cond (bytesLt (List.getD l (Int.toNat i) []) (List.getD l (Int.toNat (IntKind.wrap IntKind.i64 (i - 1))) []) || List.getD l (Int.toNat i) [] == List.getD l (Int.toNat (IntKind.wrap IntKind.i64 (i - 1))) []) (cond (decide (0 ≤ (↑0 : Int)) && (decide ((↑0 : Int) ≤ i) && decide (i ≤ (↑(List.length l) : Int)))) (k (.ret) ({ env := [(2, .sl .no 1 (Int.toNat i - Int.toNat (↑0 : Int)) fun j => getS l (Int.toNat (↑0 : Int) + j))], objs := [(25, .own 1 (List.length l)), (1000000, codO C)] })) (none)) (kn (L61b l C (IntKind.wrap IntKind.i64 (i + 1))))) (none)) (none)) (k (.exit 2) ({ env := [(4, .sl (.key 25) 1 (List.length l) (getS l))], objs := [(25, .own 1 (List.length l)), (1000000, codO C)] })) := by kernel_rfl
set_option maxRecDepth 100000 in
theorem kys_m (ge : List AV → List AO → Bool) (ve : List AV → List AO → Int × CODES) (g1 g2 : St → Bool) (v1 : St → List (List UInt8) × CODES) (v2 : St → Bool × Int) (l : List (List UInt8)) (D : CODES) (C : CODES) {t1 : Int × CODES} (h_t1 : ve [.ref 1000000 0, .int .i64 10] [codO C] = t1) {t2 : Bool × Int} (h_t2 : v2 (L61b l D 1) = t2) : runF (V2.run [mkE 19 ge ve φX] 3 [] [([1, 1, 1, 0, 1, 0], mkO g1 (fun _ => (l, D)) out61), ([1, 1, 1, 1, 0, 1, 0], mkO g2 v2 (out61b l D))] [] 61) 9 61 [.ref keyBase 0] [codO C] =
  cond (ge [.ref 1000000 0, .int .i64 10] [codO C]) (cond (g1 (L610 (Prod.fst t1) (Prod.snd t1))) (cond (g2 (L61b l D 1)) (cond (Prod.fst t2) (some ((.sl .no 1 (Int.toNat (Prod.snd t2) - 0) fun j => getS l (0 + j), [codO D]))) (some ((.sl .no 1 (List.length l) (getS l), [codO D])))) (none)) (none)) (none) := by subst h_t2 h_t1; kernel_rfl
end Go.SH

namespace Go.SH
open Go Go.Ab Go.Proofs
set_option linter.unusedVariables false
set_option linter.unusedSimpArgs false
noncomputable def V6 : Env := { V2 with hint := fun f t => cond (Nat.beq f 31) (hn [0, 3, 4] [3, 4, 9, 13, 17, 21] [] []) (V2.hint f t) }
def nilV : AV := .sl .fit 0 0 fun _ => []
def zR : List AV := [.str [], .int .i64 0, .str [], .str [], nilV, nilV, .int .i64 0, .str [], .str [], .str [], nilV]
def flC (key : List UInt8) (kind : Int) (vs : AV) (on : Bool) (off : Int) (ps ts rs : AV) (d : SERVE) : List AV := [.str key, .int .i64 kind, vs, .bool on, .int .i64 off, ps, ts, rs, .int .i64 d.var, .str d.kind, .str d.by', .str d.salt, rngL d.split]
def f0 (vs : AV) (d : SERVE) : List AV := flC [] 0 vs false 0 nilV nilV nilV d
def zF : List AV := [.str [], .int .i64 0, nilV, .bool false, .int .i64 0, nilV, nilV, nilV, .int .i64 0, .str [], .str [], .str [], nilV]
def vs1 (v : VAL) : AV := .sl .fit 4 1 (fillGet zV [(0, .agg v.c)])
def gv1 (v : VAL) : Nat → List AV := appGet 0 1 (fun _ => []) (fillGet zV [(0, .agg v.c)])
def e00 : Nat → List AV := appGet 0 0 (fun _ => []) fun _ => []
def FLx (v : VAL) (d : SERVE) (m : Nat) (get : Nat → List AV) : List AV := flC [] 0 (.sl (.key 9) 4 1 (gv1 v)) false 0 (.sl (.key 21) 2 0 e00) (.sl (.key 17) 3 0 e00) (.sl (.key 13) 11 m get) d
def FL (v : VAL) (d : SERVE) (m : Nat) (get : Nat → List AV) (C : CODES) : St := { env := [(0, .ref keyBase 0), (3, .ref 3 0), (4, .ref 4 0)], objs := [(3, .cells (FLx v d m get)), (4, .cells zF), (9, .own 4 1), (13, .own 11 m), (17, .own 3 0), (21, .own 2 0), (keyBase, codO C)] }
def outF (v : VAL) (d : SERVE) (x : XO) (k : Ex → St → Res) : Res := k (.exit 1) { env := [(3, .ref 3 0), (4, .ref 4 0)], objs := [(3, .cells (FLx v d x.m x.get)), (4, .cells zF), (9, .own 4 1), (13, .own 11 x.m), (17, .own 3 0), (21, .own 2 0), (keyBase, codO x.C)] }
set_option maxRecDepth 100000 in
theorem fl_0 (ge gu gn ga gk gl gs : List AV → List AO → Bool) (ve : List AV → List AO → Int × CODES) (vu : List AV → List AO → Int × CODES) (vn : List AV → List AO → List UInt8 × CODES) (va : List AV → List AO → VAL × CODES) (vk : List AV → List AO → LO × CODES) (vl : List AV → List AO → LO) (vs : List AV → List AO → SERVE × CODES) (v : VAL) (d : SERVE) (C D : CODES) {t1 : List UInt8 × CODES} (h_t1 : vn [.ref 1000000 0] [codO D] = t1) : runF (V6.run [mkE 19 ge (fun l os => cond (argN 14 l) (0, D) (ve l os)) φX, mkE 51 gu vu φX, mkE 50 gn vn φT, mkE 29 ga va φV, mkE 61 gk vk φKs, mkE 62 gl vl φS1, mkE 63 gs vs φSv] 1 [] [] [] 31) 9 31 [.ref keyBase 0, .agg (f0 (vs1 v) d)] [codO C] =
  cond (ge [.ref 1000000 0, .int .i64 14] [codO C]) (cond (gn [.ref 1000000 0] [codO D]) (some ((.agg (flC (Prod.fst t1) 0 (.sl .no 4 1 (gv1 v)) false 0 (.sl .no 2 0 e00) (.sl .no 3 0 e00) (.sl .no 11 0 (appGet 0 0 (fun x => []) fun x => [])) d), [codO (Prod.snd t1)]))) (none)) (none) := by subst h_t1; kernel_rfl
set_option maxRecDepth 100000 in
theorem fl_1 (ge gu gn ga gk gl gs : List AV → List AO → Bool) (ve : List AV → List AO → Int × CODES) (vu : List AV → List AO → Int × CODES) (vn : List AV → List AO → List UInt8 × CODES) (va : List AV → List AO → VAL × CODES) (vk : List AV → List AO → LO × CODES) (vl : List AV → List AO → LO) (vs : List AV → List AO → SERVE × CODES) (v : VAL) (d : SERVE) (C D : CODES) {t1 : Int × CODES} (h_t1 : vu [.ref 1000000 0] [codO D] = t1) : runF (V6.run [mkE 19 ge (fun l os => cond (argN 14 l) (1, D) (ve l os)) φX, mkE 51 gu vu φX, mkE 50 gn vn φT, mkE 29 ga va φV, mkE 61 gk vk φKs, mkE 62 gl vl φS1, mkE 63 gs vs φSv] 1 [] [] [] 31) 9 31 [.ref keyBase 0, .agg (f0 (vs1 v) d)] [codO C] =
  cond (ge [.ref 1000000 0, .int .i64 14] [codO C]) (cond (gu [.ref 1000000 0] [codO D]) (some ((.agg (flC [] (Prod.fst t1) (.sl .no 4 1 (gv1 v)) false 0 (.sl .no 2 0 e00) (.sl .no 3 0 e00) (.sl .no 11 0 (appGet 0 0 (fun x => []) fun x => [])) d), [codO (Prod.snd t1)]))) (none)) (none) := by subst h_t1; kernel_rfl
set_option maxRecDepth 100000 in
theorem fl_2 (ge gu gn ga gk gl gs : List AV → List AO → Bool) (ve : List AV → List AO → Int × CODES) (vu : List AV → List AO → Int × CODES) (vn : List AV → List AO → List UInt8 × CODES) (va : List AV → List AO → VAL × CODES) (vk : List AV → List AO → LO × CODES) (vl : List AV → List AO → LO) (vs : List AV → List AO → SERVE × CODES) (v : VAL) (d : SERVE) (C D : CODES) {t1 : VAL × CODES} (h_t1 : va [.ref 1000000 0] [codO D] = t1) : runF (V6.run [mkE 19 ge (fun l os => cond (argN 14 l) (2, D) (ve l os)) φX, mkE 51 gu vu φX, mkE 50 gn vn φT, mkE 29 ga va φV, mkE 61 gk vk φKs, mkE 62 gl vl φS1, mkE 63 gs vs φSv] 1 [] [] [] 31) 9 31 [.ref keyBase 0, .agg (f0 (vs1 v) d)] [codO C] =
  cond (ge [.ref 1000000 0, .int .i64 14] [codO C]) (cond (ga [.ref 1000000 0] [codO D]) (some ((.agg (flC [] 0 (.sl .no 4 2 (appGet 1 1 (gv1 v) (fillGet [.int .i64 0, .int .i64 0, .str [], nilV] [(0, .agg (VAL.c (Prod.fst t1)))]))) false 0 (.sl .no 2 0 e00) (.sl .no 3 0 e00) (.sl .no 11 0 (appGet 0 0 (fun x => []) fun x => [])) d), [codO (Prod.snd t1)]))) (none)) (none) := by subst h_t1; kernel_rfl
set_option maxRecDepth 100000 in
theorem fl_3 (ge gu gn ga gk gl gs : List AV → List AO → Bool) (ve : List AV → List AO → Int × CODES) (vu : List AV → List AO → Int × CODES) (vn : List AV → List AO → List UInt8 × CODES) (va : List AV → List AO → VAL × CODES) (vk : List AV → List AO → LO × CODES) (vl : List AV → List AO → LO) (vs : List AV → List AO → SERVE × CODES) (v : VAL) (d : SERVE) (C D : CODES) {t1 : Int × CODES} (h_t1 : ve [.ref 1000000 0, .int .i64 (IntKind.wrap IntKind.i64 ((↑1 : Int) + 1))] [codO D] = t1) : runF (V6.run [mkE 19 ge (fun l os => cond (argN 14 l) (3, D) (ve l os)) φX, mkE 51 gu vu φX, mkE 50 gn vn φT, mkE 29 ga va φV, mkE 61 gk vk φKs, mkE 62 gl vl φS1, mkE 63 gs vs φSv] 1 [] [] [] 31) 9 31 [.ref keyBase 0, .agg (f0 (vs1 v) d)] [codO C] =
  cond (ge [.ref 1000000 0, .int .i64 14] [codO C]) (cond (ge [.ref 1000000 0, .int .i64 (IntKind.wrap IntKind.i64 ((↑1 : Int) + 1))] [codO D]) (cond (decide (0 ≤ (↑0 : Int)) && (decide ((↑0 : Int) ≤ Prod.fst (bif argN 14 [.ref 1000000 0, .int .i64 (IntKind.wrap IntKind.i64 ((↑1 : Int) + 1))] then (3, D) else t1)) && decide (Prod.fst (bif argN 14 [.ref 1000000 0, .int .i64 (IntKind.wrap IntKind.i64 ((↑1 : Int) + 1))] then (3, D) else t1) ≤ (↑1 : Int)))) (some ((.agg (flC [] 0 (.sl .no 4 (Int.toNat (Prod.fst (bif argN 14 [.ref 1000000 0, .int .i64 (IntKind.wrap IntKind.i64 ((↑1 : Int) + 1))] then (3, D) else t1)) - Int.toNat (↑0 : Int)) fun j => gv1 v (Int.toNat (↑0 : Int) + j)) false 0 (.sl .no 2 0 e00) (.sl .no 3 0 e00) (.sl .no 11 0 (appGet 0 0 (fun x => []) fun x => [])) d), [codO (Prod.snd (bif argN 14 [.ref 1000000 0, .int .i64 (IntKind.wrap IntKind.i64 ((↑1 : Int) + 1))] then (3, D) else t1))]))) (none)) (none)) (none) := by subst h_t1; kernel_rfl
set_option maxRecDepth 100000 in
theorem fl_4 (ge gu gn ga gk gl gs : List AV → List AO → Bool) (ve : List AV → List AO → Int × CODES) (vu : List AV → List AO → Int × CODES) (vn : List AV → List AO → List UInt8 × CODES) (va : List AV → List AO → VAL × CODES) (vk : List AV → List AO → LO × CODES) (vl : List AV → List AO → LO) (vs : List AV → List AO → SERVE × CODES) (v : VAL) (d : SERVE) (C D : CODES) {t1 : Int × CODES} (h_t1 : vu [.ref 1000000 0] [codO D] = t1) : runF (V6.run [mkE 19 ge (fun l os => cond (argN 14 l) (4, D) (ve l os)) φX, mkE 51 gu vu φX, mkE 50 gn vn φT, mkE 29 ga va φV, mkE 61 gk vk φKs, mkE 62 gl vl φS1, mkE 63 gs vs φSv] 1 [] [] [] 31) 9 31 [.ref keyBase 0, .agg (f0 (vs1 v) d)] [codO C] =
  cond (ge [.ref 1000000 0, .int .i64 14] [codO C]) (cond (gu [.ref 1000000 0] [codO D]) (some ((.agg (flC [] 0 (.sl .no 4 1 (gv1 v)) false (Prod.fst t1) (.sl .no 2 0 e00) (.sl .no 3 0 e00) (.sl .no 11 0 (appGet 0 0 (fun x => []) fun x => [])) d), [codO (Prod.snd t1)]))) (none)) (none) := by subst h_t1; kernel_rfl
set_option maxRecDepth 100000 in
theorem fl_5 (ge gu gn ga gk gl gs : List AV → List AO → Bool) (ve : List AV → List AO → Int × CODES) (vu : List AV → List AO → Int × CODES) (vn : List AV → List AO → List UInt8 × CODES) (va : List AV → List AO → VAL × CODES) (vk : List AV → List AO → LO × CODES) (vl : List AV → List AO → LO) (vs : List AV → List AO → SERVE × CODES) (v : VAL) (d : SERVE) (C D : CODES) {t1 : List UInt8 × CODES} (h_t1 : vn [.ref 1000000 0] [codO D] = t1) {t2 : Int × CODES} (h_t2 : vu [.ref 1000000 0] [codO (Prod.snd t1)] = t2) : runF (V6.run [mkE 19 ge (fun l os => cond (argN 14 l) (5, D) (ve l os)) φX, mkE 51 gu vu φX, mkE 50 gn vn φT, mkE 29 ga va φV, mkE 61 gk vk φKs, mkE 62 gl vl φS1, mkE 63 gs vs φSv] 1 [] [] [] 31) 9 31 [.ref keyBase 0, .agg (f0 (vs1 v) d)] [codO C] =
  cond (ge [.ref 1000000 0, .int .i64 14] [codO C]) (cond (gn [.ref 1000000 0] [codO D]) (cond (gu [.ref 1000000 0] [codO (Prod.snd t1)]) (some ((.agg (flC [] 0 (.sl .no 4 1 (gv1 v)) false 0 (.sl .no 2 1 (appGet 0 1 e00 (fillGet [.str [], .int .i64 0] [(0, .agg [.str (Prod.fst t1), .int .i64 (Prod.fst t2)])]))) (.sl .no 3 0 e00) (.sl .no 11 0 (appGet 0 0 (fun x => []) fun x => [])) d), [codO (Prod.snd t2)]))) (none)) (none)) (none) := by subst h_t2 h_t1; kernel_rfl
set_option maxRecDepth 100000 in
theorem fl_6 (ge gu gn ga gk gl gs : List AV → List AO → Bool) (ve : List AV → List AO → Int × CODES) (vu : List AV → List AO → Int × CODES) (vn : List AV → List AO → List UInt8 × CODES) (va : List AV → List AO → VAL × CODES) (vk : List AV → List AO → LO × CODES) (vl : List AV → List AO → LO) (vs : List AV → List AO → SERVE × CODES) (v : VAL) (d : SERVE) (C D : CODES) {t1 : List UInt8 × CODES} (h_t1 : vn [.ref 1000000 0] [codO D] = t1) {t2 : LO × CODES} (h_t2 : vk [.ref 1000000 0] [codO (Prod.snd t1)] = t2) : runF (V6.run [mkE 19 ge (fun l os => cond (argN 14 l) (6, D) (ve l os)) φX, mkE 51 gu vu φX, mkE 50 gn vn φT, mkE 29 ga va φV, mkE 61 gk vk φKs, mkE 62 gl vl φS1, mkE 63 gs vs φSv] 1 [] [] [] 31) 9 31 [.ref keyBase 0, .agg (f0 (vs1 v) d)] [codO C] =
  cond (ge [.ref 1000000 0, .int .i64 14] [codO C]) (cond (gn [.ref 1000000 0] [codO D]) (cond (gk [.ref 1000000 0] [codO (Prod.snd t1)]) (some ((.agg (flC [] 0 (.sl .no 4 1 (gv1 v)) false 0 (.sl .no 2 0 e00) (.sl .no 3 1 (appGet 0 1 e00 (fillGet [.str [], .int .i64 0, nilV] [(0, .agg [.str (Prod.fst t1), .int .i64 1, .sl .no 1 (LO.m (Prod.fst t2)) (LO.get (Prod.fst t2))])]))) (.sl .no 11 0 (appGet 0 0 (fun x => []) fun x => [])) d), [codO (Prod.snd t2)]))) (none)) (none)) (none) := by subst h_t2 h_t1; kernel_rfl
set_option maxRecDepth 100000 in
theorem fl_7 (ge gu gn ga gk gl gs : List AV → List AO → Bool) (ve : List AV → List AO → Int × CODES) (vu : List AV → List AO → Int × CODES) (vn : List AV → List AO → List UInt8 × CODES) (va : List AV → List AO → VAL × CODES) (vk : List AV → List AO → LO × CODES) (vl : List AV → List AO → LO) (vs : List AV → List AO → SERVE × CODES) (v : VAL) (d : SERVE) (C D : CODES) {t1 : Int × CODES} (h_t1 : vu [.ref 1000000 0] [codO D] = t1) {t2 : Int × CODES} (h_t2 : ve [.ref 1000000 0, .int .i64 3] [codO (Prod.snd t1)] = t2) {t3 : LO} (h_t3 : vl [.int .i64 (IntKind.wrap IntKind.i64 (39 + Prod.fst (bif argN 14 [.ref 1000000 0, .int .i64 3] then (7, D) else t2)))] [] = t3) : runF (V6.run [mkE 19 ge (fun l os => cond (argN 14 l) (7, D) (ve l os)) φX, mkE 51 gu vu φX, mkE 50 gn vn φT, mkE 29 ga va φV, mkE 61 gk vk φKs, mkE 62 gl vl φS1, mkE 63 gs vs φSv] 1 [] [] [] 31) 9 31 [.ref keyBase 0, .agg (f0 (vs1 v) d)] [codO C] =
  cond (ge [.ref 1000000 0, .int .i64 14] [codO C]) (cond (gu [.ref 1000000 0] [codO D]) (cond (ge [.ref 1000000 0, .int .i64 3] [codO (Prod.snd t1)]) (cond (gl [.int .i64 (IntKind.wrap IntKind.i64 (39 + Prod.fst (bif argN 14 [.ref 1000000 0, .int .i64 3] then (7, D) else t2)))] []) (some ((.agg (flC [] 0 (.sl .no 4 1 (gv1 v)) false 0 (.sl .no 2 0 e00) (.sl .no 3 1 (appGet 0 1 e00 (fillGet [.str [], .int .i64 0, nilV] [(0, .agg [.str [117, 115, 101, 114], .int .i64 (Prod.fst t1), .sl .no 1 (LO.m t3) (LO.get t3)])]))) (.sl .no 11 0 (appGet 0 0 (fun x => []) fun x => [])) d), [codO (Prod.snd (bif argN 14 [.ref 1000000 0, .int .i64 3] then (7, D) else t2))]))) (none)) (none)) (none)) (none) := by subst h_t3 h_t2 h_t1; kernel_rfl
set_option maxRecDepth 100000 in
theorem fl_8 (ge gu gn ga gk gl gs : List AV → List AO → Bool) (ve : List AV → List AO → Int × CODES) (vu : List AV → List AO → Int × CODES) (vn : List AV → List AO → List UInt8 × CODES) (va : List AV → List AO → VAL × CODES) (vk : List AV → List AO → LO × CODES) (vl : List AV → List AO → LO) (vs : List AV → List AO → SERVE × CODES) (v : VAL) (d : SERVE) (C D : CODES) {t1 : List UInt8 × CODES} (h_t1 : vn [.ref 1000000 0] [codO D] = t1) : runF (V6.run [mkE 19 ge (fun l os => cond (argN 14 l) (8, D) (ve l os)) φX, mkE 51 gu vu φX, mkE 50 gn vn φT, mkE 29 ga va φV, mkE 61 gk vk φKs, mkE 62 gl vl φS1, mkE 63 gs vs φSv] 1 [] [] [] 31) 9 31 [.ref keyBase 0, .agg (f0 (vs1 v) d)] [codO C] =
  cond (ge [.ref 1000000 0, .int .i64 14] [codO C]) (cond (gn [.ref 1000000 0] [codO D]) (some ((.agg (flC [] 0 (.sl .no 4 1 (gv1 v)) false 0 (.sl .no 2 0 e00) (.sl .no 3 0 e00) (.sl .no 11 1 (appGet 0 1 (appGet 0 0 (fun x => []) fun x => []) (fillGet zR [(0, .agg [.str (Prod.fst t1), .int .i64 1, .str [], .str [], nilV, nilV, .int .i64 (SERVE.var d), .str (SERVE.kind d), .str (SERVE.by' d), .str (SERVE.salt d), rngL (SERVE.split d)])]))) d), [codO (Prod.snd t1)]))) (none)) (none) := by subst h_t1; kernel_rfl
set_option maxRecDepth 100000 in
theorem fl_9 (ge gu gn ga gk gl gs : List AV → List AO → Bool) (ve : List AV → List AO → Int × CODES) (vu : List AV → List AO → Int × CODES) (vn : List AV → List AO → List UInt8 × CODES) (va : List AV → List AO → VAL × CODES) (vk : List AV → List AO → LO × CODES) (vl : List AV → List AO → LO) (vs : List AV → List AO → SERVE × CODES) (v : VAL) (d : SERVE) (C D : CODES)  : runF (V6.run [mkE 19 ge (fun l os => cond (argN 14 l) (9, D) (ve l os)) φX, mkE 51 gu vu φX, mkE 50 gn vn φT, mkE 29 ga va φV, mkE 61 gk vk φKs, mkE 62 gl vl φS1, mkE 63 gs vs φSv] 1 [] [] [] 31) 9 31 [.ref keyBase 0, .agg (f0 (vs1 v) d)] [codO C] =
  cond (ge [.ref 1000000 0, .int .i64 14] [codO C]) (some ((.agg (flC [] 0 (.sl .no 4 1 (gv1 v)) false 0 (.sl .no 2 0 e00) (.sl .no 3 0 e00) (.sl .no 11 0 (appGet 0 0 (fun x => []) fun x => [])) d), [codO D]))) (none) := by kernel_rfl
set_option maxRecDepth 100000 in
theorem fl_10 (ge gu gn ga gk gl gs : List AV → List AO → Bool) (ve : List AV → List AO → Int × CODES) (vu : List AV → List AO → Int × CODES) (vn : List AV → List AO → List UInt8 × CODES) (va : List AV → List AO → VAL × CODES) (vk : List AV → List AO → LO × CODES) (vl : List AV → List AO → LO) (vs : List AV → List AO → SERVE × CODES) (v : VAL) (d : SERVE) (C D : CODES)  : runF (V6.run [mkE 19 ge (fun l os => cond (argN 14 l) (10, D) (ve l os)) φX, mkE 51 gu vu φX, mkE 50 gn vn φT, mkE 29 ga va φV, mkE 61 gk vk φKs, mkE 62 gl vl φS1, mkE 63 gs vs φSv] 1 [] [] [] 31) 9 31 [.ref keyBase 0, .agg (f0 (vs1 v) d)] [codO C] =
  cond (ge [.ref 1000000 0, .int .i64 14] [codO C]) (some ((.agg (flC [] 0 (.sl .no 4 1 (gv1 v)) false 0 (.sl .no 2 0 e00) (.sl .no 3 0 e00) (.sl .no 11 0 (appGet 0 0 (fun x => []) fun x => [])) d), [codO D]))) (none) := by kernel_rfl
set_option maxRecDepth 100000 in
theorem fl_11 (ge gu gn ga gk gl gs : List AV → List AO → Bool) (ve : List AV → List AO → Int × CODES) (vu : List AV → List AO → Int × CODES) (vn : List AV → List AO → List UInt8 × CODES) (va : List AV → List AO → VAL × CODES) (vk : List AV → List AO → LO × CODES) (vl : List AV → List AO → LO) (vs : List AV → List AO → SERVE × CODES) (v : VAL) (d : SERVE) (C D : CODES)  : runF (V6.run [mkE 19 ge (fun l os => cond (argN 14 l) (11, D) (ve l os)) φX, mkE 51 gu vu φX, mkE 50 gn vn φT, mkE 29 ga va φV, mkE 61 gk vk φKs, mkE 62 gl vl φS1, mkE 63 gs vs φSv] 1 [] [] [] 31) 9 31 [.ref keyBase 0, .agg (f0 (vs1 v) d)] [codO C] =
  cond (ge [.ref 1000000 0, .int .i64 14] [codO C]) (some ((.agg (flC [] 0 (.sl .no 4 1 (gv1 v)) false 0 (.sl .no 2 0 e00) (.sl .no 3 0 e00) (.sl .no 11 0 (appGet 0 0 (fun x => []) fun x => [])) d), [codO D]))) (none) := by kernel_rfl
set_option maxRecDepth 100000 in
theorem fl_12 (ge gu gn ga gk gl gs : List AV → List AO → Bool) (ve : List AV → List AO → Int × CODES) (vu : List AV → List AO → Int × CODES) (vn : List AV → List AO → List UInt8 × CODES) (va : List AV → List AO → VAL × CODES) (vk : List AV → List AO → LO × CODES) (vl : List AV → List AO → LO) (vs : List AV → List AO → SERVE × CODES) (v : VAL) (d : SERVE) (C D : CODES) {t1 : SERVE × CODES} (h_t1 : vs [.ref 1000000 0, .agg [.int .i64 (SERVE.var d), .str (SERVE.kind d), .str (SERVE.by' d), .str (SERVE.salt d), rngL (SERVE.split d)] ] [codO D] = t1) : runF (V6.run [mkE 19 ge (fun l os => cond (argN 14 l) (12, D) (ve l os)) φX, mkE 51 gu vu φX, mkE 50 gn vn φT, mkE 29 ga va φV, mkE 61 gk vk φKs, mkE 62 gl vl φS1, mkE 63 gs vs φSv] 1 [] [] [] 31) 9 31 [.ref keyBase 0, .agg (f0 (vs1 v) d)] [codO C] =
  cond (ge [.ref 1000000 0, .int .i64 14] [codO C]) (cond (gs [.ref 1000000 0, .agg [.int .i64 (SERVE.var d), .str (SERVE.kind d), .str (SERVE.by' d), .str (SERVE.salt d), rngL (SERVE.split d)] ] [codO D]) (some ((.agg (flC [] 0 (.sl .no 4 1 (gv1 v)) false 0 (.sl .no 2 0 e00) (.sl .no 3 0 e00) (.sl .no 11 0 (appGet 0 0 (fun x => []) fun x => [])) (Prod.fst t1)), [codO (Prod.snd t1)]))) (none)) (none) := by subst h_t1; kernel_rfl
set_option maxRecDepth 100000 in
theorem fl_13 (ge gu gn ga gk gl gs : List AV → List AO → Bool) (ve : List AV → List AO → Int × CODES) (vu : List AV → List AO → Int × CODES) (vn : List AV → List AO → List UInt8 × CODES) (va : List AV → List AO → VAL × CODES) (vk : List AV → List AO → LO × CODES) (vl : List AV → List AO → LO) (vs : List AV → List AO → SERVE × CODES) (g1 : St → Bool) (v1 : St → XO) (v : VAL) (d : SERVE) (C D : CODES) {t1 : XO} (h_t1 : v1 (FL v d 0 (appGet 0 0 (fun x => []) fun x => []) D) = t1) : runF (V6.run [mkE 19 ge (fun l os => cond (argN 14 l) (13, D) (ve l os)) φX, mkE 51 gu vu φX, mkE 50 gn vn φT, mkE 29 ga va φV, mkE 61 gk vk φKs, mkE 62 gl vl φS1, mkE 63 gs vs φSv] 1 [] [([1, 1, 1, 1, 1, 0, 1, 0, 1, 1, 1, 1, 1, 1, 1, 1, 1, 1, 1, 1, 1, 1, 1, 1, 1, 1, 1, 1, 1, 1, 1, 1, 1, 0, 0], mkO g1 v1 (outF v d))] [] 31) 9 31 [.ref keyBase 0, .agg (f0 (vs1 v) d)] [codO C] =
  cond (ge [.ref 1000000 0, .int .i64 14] [codO C]) (cond (g1 (FL v d 0 (appGet 0 0 (fun x => []) fun x => []) D)) (some ((.agg (flC [] 0 (.sl .no 4 1 (gv1 v)) false 0 (.sl .no 2 0 e00) (.sl .no 3 0 e00) (.sl .no 11 (XO.m t1) (XO.get t1)) d), [codO (XO.C t1)]))) (none)) (none) := by subst h_t1; kernel_rfl
set_option maxRecDepth 100000 in
theorem fll_0 (ge : List AV → List AO → Bool) (ve : List AV → List AO → Int × CODES) (T : List Ent) (L : List (List Nat × Orc)) (m : Nat) (v : VAL) (d : SERVE) (C : CODES) (kn : St → Res) (k : Ex → St → Res) {t1 : Int × CODES} (h_t1 : ve [.ref 1000000 0, .int .i64 2] [codO C] = t1) : roundR (V6.run (mkE 19 ge ve φX :: T) 1 [] L [] 31) 31 m [1, 1, 1, 1, 1, 0, 1, 0, 1, 1, 1, 1, 1, 1, 1, 1, 1, 1, 1, 1, 1, 1, 1, 1, 1, 1, 1, 1, 1, 1, 1, 1, 1, 0, 0] (FL v d 0 e00 C) kn k =
  cond (ge [.ref 1000000 0, .int .i64 2] [codO C]) (cond (decide ((↑0 : Int) < IntKind.wrap IntKind.i64 (12 + Prod.fst t1))) (kn (FL v d 1 (appGet 0 1 e00 (fillGet zR [(0, .agg [.str ([114] ++ Array.toList (ByteArray.data (Utf8.encode (IntKind.wrap IntKind.i32 (IntKind.wrap IntKind.i64 (97 + (↑0 : Int))))))), .int .i64 1, .str [], .str [], nilV, nilV, .int .i64 (SERVE.var d), .str (SERVE.kind d), .str (SERVE.by' d), .str (SERVE.salt d), rngL (SERVE.split d)])])) (Prod.snd t1))) (k (.exit 1) ({ env := [(3, .ref 3 0), (4, .ref 4 0)], objs := [(3, .cells (FLx v d 0 e00)), (4, .cells zF), (9, .own 4 1), (13, .own 11 0), (17, .own 3 0), (21, .own 2 0), (1000000, codO (Prod.snd t1))] }))) (none) := by subst h_t1; kernel_rfl
set_option maxRecDepth 100000 in
theorem fll_r (ge : List AV → List AO → Bool) (ve : List AV → List AO → Int × CODES) (T : List Ent) (L : List (List Nat × Orc)) (m : Nat) (v : VAL) (d : SERVE) (q : Nat) (get : Nat → List AV) (C : CODES) (kn : St → Res) (k : Ex → St → Res) {t1 : Int × CODES} (h_t1 : ve [.ref 1000000 0, .int .i64 2] [codO C] = t1) : roundR (V6.run (mkE 19 ge ve φX :: T) 1 [] L [] 31) 31 m [1, 1, 1, 1, 1, 0, 1, 0, 1, 1, 1, 1, 1, 1, 1, 1, 1, 1, 1, 1, 1, 1, 1, 1, 1, 1, 1, 1, 1, 1, 1, 1, 1, 0, 0] (FL v d (q + 1) get C) kn k =
  cond (ge [.ref 1000000 0, .int .i64 2] [codO C]) (cond (decide ((↑(q + 1) : Int) < IntKind.wrap IntKind.i64 (12 + Prod.fst t1))) (cond (Nat.ble (List.length ([114]) + List.length (Array.toList (ByteArray.data (Utf8.encode (IntKind.wrap IntKind.i32 (IntKind.wrap IntKind.i64 (97 + (↑(q + 1) : Int)))))))) 4611686018427387904) (cond (roomy (184) (q + 1 + 1) && Nat.beq (q + 1) (q + 1)) (kn (FL v d (q + 1 + 1) (appGet (q + 1) 1 get (fillGet zR [(0, .agg [.str ([114] ++ Array.toList (ByteArray.data (Utf8.encode (IntKind.wrap IntKind.i32 (IntKind.wrap IntKind.i64 (97 + (↑(q + 1) : Int))))))), .int .i64 1, .str [], .str [], nilV, nilV, .int .i64 (SERVE.var d), .str (SERVE.kind d), .str (SERVE.by' d), .str (SERVE.salt d), rngL (SERVE.split d)])])) (Prod.snd t1))) (none)) (none)) (k (.exit 1) ({ env := [(3, .ref 3 0), (4, .ref 4 0)], objs := [(3, .cells (FLx v d (q + 1) get)), (4, .cells zF), (9, .own 4 1), (13, .own 11 (q + 1)), (17, .own 3 0), (21, .own 2 0), (1000000, codO (Prod.snd t1))] }))) (none) := by subst h_t1; kernel_rfl
end Go.SH

namespace Go.SH
open Go Go.Ab Go.Proofs
set_option linter.unusedVariables false
set_option linter.unusedSimpArgs false
theorem enc_len (r : Int) : (Array.toList (ByteArray.data (Utf8.encode r))).length ≤ 4 := by
  unfold Utf8.encode
  dsimp only
  repeat' split
  all_goals simp
theorem enc_ble {r : Int} {s : List UInt8} (h : s.length ≤ 100) : Nat.ble (s.length + (Array.toList (ByteArray.data (Utf8.encode r))).length) 4611686018427387904 = true :=
  Nat.ble_eq_true_of_le (by have := enc_len r; omega)
instance : Inhabited SERVE := ⟨⟨0, [], [], [], []⟩⟩
instance : Inhabited (SERVE × CODES) := ⟨(default, default)⟩
open Classical in
theorem loopOk_at {τ : Type} {X : Cfg} {f : FuncId} {p : List Nat} {g : St → Bool} {v : St → τ} {out : τ → (Ex → St → Res) → Res} {s0 : St} {z : τ} (h : LoopOk X f p (mkO g v out)) (hg : g s0 = true) (hv : v s0 = z) : LoopOk X f p (mkO (goodS (fun _ : Unit => s0) (fun _ => True)) (fun _ => z) out) := by
  intro s k r hs
  unfold mkO at hs
  obtain ⟨h1, h2⟩ := cond_none hs
  obtain ⟨_, _, rfl⟩ : ∃ v : Unit, True ∧ s0 = s := of_decide_eq_true h1
  exact h s0 k r (by unfold mkO; rw [hg, hv]; exact h2)
def svP (x : CODES × Int) : Prop := x.1.Ok ∧ 1 ≤ x.2 ∧ x.2 ≤ 8
def svPost (x : CODES × Int) (y : SERVE × CODES) : Prop := (serveE y.1 x.2 = 0 ∧ y.1.split.length ≤ 4 ∧ y.1.Ok) ∧ y.2.Ok
theorem svPost_kind (a b : CODES × Int) (y : SERVE × CODES) (h : nA a = nA b) (_ : nO a = nO b) (hy : svPost a y) : svPost b y := by
  simp only [nA, List.cons.injEq, AV.int.injEq, true_and, and_true] at h
  unfold svPost at *
  rw [← h]; exact hy
theorem lenS_small {s : List UInt8} (h : s.length ≤ 100) : lenS s := by unfold lenS maxS; omega
theorem texts_valid : ∀ s ∈ textsL, validB s = true ∧ s.length ≤ 100 := by
  intro s hs
  simp only [textsL, List.mem_cons, List.not_mem_nil, or_false] at hs
  rcases hs with rfl | rfl | rfl | rfl | rfl | rfl | rfl | rfl | rfl | rfl | rfl <;> exact ⟨by kernel_rfl, by decide⟩
theorem serve_split {n : Int} {kd b s : List UInt8} {l : List RG} (hk : keyB kd = true) (hb : keyB b = true) (hs : validB s = true) (hl : chainR n 0 0 l) (he : (endR 0 0 l).1 = 10000) (h1 : 1 ≤ l.length) (h4 : l.length ≤ 4) : serveE ⟨0, kd, b, s, l⟩ n = 0 := by
  unfold serveE
  rw [show ((0 : Int) != 0) = false from rfl]
  dsimp only
  rw [hk, hb, hs, split_good hl he h1 (by omega)]
  rfl
theorem sv_one {n v : Int} (h1 : 1 ≤ v) (h2 : v ≤ n) : serveE ⟨v, [], [], [], []⟩ n = 0 := by
  unfold serveE
  dsimp only
  rw [show (v != 0) = true by simp; omega, decide_eq_false (show ¬ v < 1 by omega), decide_eq_false (show ¬ v > n by omega)]
  rfl
theorem sv_told {A : List AV} {O os : List AO} {v : Int} {kd b s : List UInt8} (h : Ct V2.P V2.G 30 A O (.agg [.int .i64 v, .str kd, .str b, .str s, .sl .fit 0 0 fun _ => []], os)) : Ct V2.P V2.G 30 A O (.agg (SERVE.c ⟨v, kd, b, s, []⟩), os) :=
  h.res (by simp [SERVE.c, AV.keys, keysL, rngL]) fun c x hx => agg_last (us := [.int .i64 v, .str kd, .str b, .str s]) hx sl_fit
theorem serve_ex (x : CODES × Int) (hx : svP x) : ∃ y : SERVE × CODES, svPost x y ∧ Ct V2.P V2.G 30 (nA x) (nO x) (φSv y) := by
  obtain ⟨C, n⟩ := x
  obtain ⟨hC, n1, n8⟩ := hx
  have hC : C.Ok := hC
  have n1 : 1 ≤ n := n1
  have n8 : n ≤ 8 := n8
  obtain ⟨a0, a1, aD⟩ := nextR_ok hC (m := 2) (by omega)
  cases h2 : nextR C 2 with
  | mk a C1 =>
  rw [h2] at a0 a1 aD
  have a0 : 0 ≤ a := a0
  have aD : C1.Ok := aD
  obtain ⟨b0, b1, bD⟩ := nextR_ok aD (m := n) n1
  obtain ⟨wt, hwt, htt⟩ := ent_ex (V := V2) (f := 59) (A := cA) (O := cO) (Pre := CODES.Ok) (φ := φT) (Post := fun (_ : CODES) (x : List UInt8 × CODES) => x.1 ∈ textsL ∧ x.2.Ok) text_ex
  have hgt : goodA cA cO CODES.Ok [.ref 1000000 0] [codO C1] = true := goodA_eq (A := cA) (O := cO) (v := C1) aD
  have hpt : (valA cA cO CODES.Ok wt [.ref 1000000 0] [codO C1]).1 ∈ textsL ∧ (valA cA cO CODES.Ok wt [.ref 1000000 0] [codO C1]).2.Ok := valA_post (A := cA) (O := cO) (a := C1) (Post := fun (_ : CODES) (x : List UInt8 × CODES) => x.1 ∈ textsL ∧ x.2.Ok) hwt (fun _ _ _ _ _ h => h) aD
  generalize ht : valA cA cO CODES.Ok wt [.ref 1000000 0] [codO C1] = t at hpt
  obtain ⟨s, C2⟩ := t
  obtain ⟨hs, hC2⟩ := hpt
  have hC2 : C2.Ok := hC2
  obtain ⟨hsv, hsl⟩ := texts_valid s hs
  obtain ⟨ws, hws, hts⟩ := ent_ex (V := V2) (f := 20) (A := nA) (O := nO) (Pre := spP) (φ := φRg) (Post := spPost) dsplit_ex
  have hgs : goodA nA nO spP [.ref 1000000 0, .int .i64 n] [codO C2] = true := goodA_eq (A := nA) (O := nO) (v := (C2, n)) ⟨hC2, n1, by show n ≤ 1000; omega⟩
  have hps : spPost (C2, n) (valA nA nO spP ws [.ref 1000000 0, .int .i64 n] [codO C2]) := valA_post (A := nA) (O := nO) (a := (C2, n)) (Post := spPost) hws spPost_kind ⟨hC2, n1, by show n ≤ 1000; omega⟩
  generalize hq : valA nA nO spP ws [.ref 1000000 0, .int .i64 n] [codO C2] = q at hps
  obtain ⟨l, C3⟩ := q
  obtain ⟨q1, q2, q3, q4, hC3⟩ := hps
  have q1 : chainR n 0 0 l := q1
  have q2 : (endR 0 0 l).1 = 10000 := q2
  have q3 : 1 ≤ l.length := q3
  have q4 : l.length ≤ 4 := q4
  have hC3 : C3.Ok := hC3
  obtain ⟨d0, d1, dD⟩ := nextR_ok hC3 (m := 12) (by omega)
  cases h12 : nextR C3 12 with
  | mk r D =>
  rw [h12] at d0 d1 dD
  have d0 : 0 ≤ r := d0
  have d1 : r < 12 := d1
  have dD : D.Ok := dD
  have hT := entB_ok (m := 12) (by omega) hC3 h12
  have hc := fun (k : Int) (hT : ∀ l os, (entB 12 C3 (k, D)).pre l os = true → Ct V2.P V2.G (entB 12 C3 (k, D)).f l os ((entB 12 C3 (k, D)).ans l os)) (r : AV × List AO) he' => ct_loops (V := V2) (f := 30) (l := nA (C, n)) (os := nO (C, n)) (r := r) (n := 9) (d := 3) (L := []) (T := [entB 12 C3 (k, D), entC 59 cA cO CODES.Ok wt φT, entC 20 nA nO spP ws φRg]) mixed2 funcs2 (tabOk_cons hT (tabOk_cons htt (tabOk_cons hts tabOk_nil))) loopsOk_nil he'
  have n2 : argN 12 [.ref 1000000 0, .int .i64 2] = false := argN_ne (by omega)
  have nn : argN 12 [.ref 1000000 0, .int .i64 n] = false := argN_ne (by omega)
  have g2 : gB 12 C3 [.ref 1000000 0, .int .i64 2] [codO C] = true := gB_eq hC (by omega) (fun h => by omega)
  have gn : gB 12 C3 [.ref 1000000 0, .int .i64 n] [codO C1] = true := gB_eq aD n1 (fun h => by omega)
  have g12 : gB 12 C3 [.ref 1000000 0, .int .i64 12] [codO C3] = true := gB_eq hC3 (by omega) (fun _ => rfl)
  have hw : IntKind.wrap .i64 (1 + (nextR C1 n).1) = 1 + (nextR C1 n).1 := wrap_i64 (by omega) (by omega)
  have ok2 : ∀ kd b : List UInt8, kd.length ≤ 100 → b.length ≤ 100 → keyB kd = true → keyB b = true → svPost (C, n) (⟨0, kd, b, s, l⟩, D) := fun kd b h1 h2 h3 h4 =>
    ⟨⟨serve_split h3 h4 hsv q1 q2 q3 q4, q4, lenS_small h1, lenS_small h2, lenS_small hsl, by show l.length ≤ _; omega⟩, dD⟩
  have kD : keyB [100, 101, 118, 105, 99, 101] = true := by kernel_rfl
  have kU : keyB [117, 115, 101, 114] = true := by kernel_rfl
  have hr : r = 0 ∨ r = 1 ∨ r = 2 ∨ r = 3 ∨ r = 4 ∨ r = 5 ∨ r = 6 ∨ r = 7 ∨ r = 8 ∨ r = 9 ∨ r = 10 ∨ r = 11 := by omega
  by_cases ha : a = 0
  · subst ha
    refine ⟨(⟨1 + (nextR C1 n).1, [], [], [], []⟩, (nextR C1 n).2), ⟨⟨sv_one (by omega) (by omega), by show 0 ≤ 4; omega, lenS_small (show ([] : List UInt8).length ≤ 100 by decide), lenS_small (show ([] : List UInt8).length ≤ 100 by decide), lenS_small (show ([] : List UInt8).length ≤ 100 by decide), by show 0 ≤ _; omega⟩, bD⟩, sv_told ?_⟩
    rcases hr with rfl | rfl | rfl | rfl | rfl | rfl | rfl | rfl | rfl | rfl | rfl | rfl
    · have e := (sv_0 (gB 12 C3) (goodA cA cO CODES.Ok) (goodA nA nO spP) vN (valA cA cO CODES.Ok wt) (valA nA nO spP ws) C D n (t1 := ((0 : Int), C1)) ((vN_eq hC (by omega)).trans h2) (t2 := nextR C1 n) (by rw [n2]; exact vN_eq aD n1) (t3 := (s, C2)) (by rw [n2]; exact ht) (t4 := (l, C3)) hq).trans (cT g2)
      rw [n2, nn] at e
      have e := (e.trans (cT rfl)).trans (cT gn)
      rw [show (bif false then (((0 : Int)), D) else nextR C1 n) = nextR C1 n from rfl, hw] at e
      exact hc 0 hT _ e
    · have e := (sv_1 (gB 12 C3) (goodA cA cO CODES.Ok) (goodA nA nO spP) vN (valA cA cO CODES.Ok wt) (valA nA nO spP ws) C D n (t1 := ((0 : Int), C1)) ((vN_eq hC (by omega)).trans h2) (t2 := nextR C1 n) (by rw [n2]; exact vN_eq aD n1) (t3 := (s, C2)) (by rw [n2]; exact ht) (t4 := (l, C3)) hq).trans (cT g2)
      rw [n2, nn] at e
      have e := (e.trans (cT rfl)).trans (cT gn)
      rw [show (bif false then (((1 : Int)), D) else nextR C1 n) = nextR C1 n from rfl, hw] at e
      exact hc 1 hT _ e
    · have e := (sv_2 (gB 12 C3) (goodA cA cO CODES.Ok) (goodA nA nO spP) vN (valA cA cO CODES.Ok wt) (valA nA nO spP ws) C D n (t1 := ((0 : Int), C1)) ((vN_eq hC (by omega)).trans h2) (t2 := nextR C1 n) (by rw [n2]; exact vN_eq aD n1) (t3 := (s, C2)) (by rw [n2]; exact ht) (t4 := (l, C3)) hq).trans (cT g2)
      rw [n2, nn] at e
      have e := (e.trans (cT rfl)).trans (cT gn)
      rw [show (bif false then (((2 : Int)), D) else nextR C1 n) = nextR C1 n from rfl, hw] at e
      exact hc 2 hT _ e
    · have e := (sv_3 (gB 12 C3) (goodA cA cO CODES.Ok) (goodA nA nO spP) vN (valA cA cO CODES.Ok wt) (valA nA nO spP ws) C D n (t1 := ((0 : Int), C1)) ((vN_eq hC (by omega)).trans h2) (t2 := nextR C1 n) (by rw [n2]; exact vN_eq aD n1) (t3 := (s, C2)) (by rw [n2]; exact ht) (t4 := (l, C3)) hq).trans (cT g2)
      rw [n2, nn] at e
      have e := (e.trans (cT rfl)).trans (cT gn)
      rw [show (bif false then (((3 : Int)), D) else nextR C1 n) = nextR C1 n from rfl, hw] at e
      exact hc 3 hT _ e
    · have e := (sv_4 (gB 12 C3) (goodA cA cO CODES.Ok) (goodA nA nO spP) vN (valA cA cO CODES.Ok wt) (valA nA nO spP ws) C D n (t1 := ((0 : Int), C1)) ((vN_eq hC (by omega)).trans h2) (t2 := nextR C1 n) (by rw [n2]; exact vN_eq aD n1) (t3 := (s, C2)) (by rw [n2]; exact ht) (t4 := (l, C3)) hq).trans (cT g2)
      rw [n2, nn] at e
      have e := (e.trans (cT rfl)).trans (cT gn)
      rw [show (bif false then (((4 : Int)), D) else nextR C1 n) = nextR C1 n from rfl, hw] at e
      exact hc 4 hT _ e
    · have e := (sv_5 (gB 12 C3) (goodA cA cO CODES.Ok) (goodA nA nO spP) vN (valA cA cO CODES.Ok wt) (valA nA nO spP ws) C D n (t1 := ((0 : Int), C1)) ((vN_eq hC (by omega)).trans h2) (t2 := nextR C1 n) (by rw [n2]; exact vN_eq aD n1) (t3 := (s, C2)) (by rw [n2]; exact ht) (t4 := (l, C3)) hq).trans (cT g2)
      rw [n2, nn] at e
      have e := (e.trans (cT rfl)).trans (cT gn)
      rw [show (bif false then (((5 : Int)), D) else nextR C1 n) = nextR C1 n from rfl, hw] at e
      exact hc 5 hT _ e
    · have e := (sv_6 (gB 12 C3) (goodA cA cO CODES.Ok) (goodA nA nO spP) vN (valA cA cO CODES.Ok wt) (valA nA nO spP ws) C D n (t1 := ((0 : Int), C1)) ((vN_eq hC (by omega)).trans h2) (t2 := nextR C1 n) (by rw [n2]; exact vN_eq aD n1) (t3 := (s, C2)) (by rw [n2]; exact ht) (t4 := (l, C3)) hq).trans (cT g2)
      rw [n2, nn] at e
      have e := (e.trans (cT rfl)).trans (cT gn)
      rw [show (bif false then (((6 : Int)), D) else nextR C1 n) = nextR C1 n from rfl, hw] at e
      exact hc 6 hT _ e
    · have e := (sv_7 (gB 12 C3) (goodA cA cO CODES.Ok) (goodA nA nO spP) vN (valA cA cO CODES.Ok wt) (valA nA nO spP ws) C D n (t1 := ((0 : Int), C1)) ((vN_eq hC (by omega)).trans h2) (t2 := nextR C1 n) (by rw [n2]; exact vN_eq aD n1) (t3 := (s, C2)) (by rw [n2]; exact ht) (t4 := (l, C3)) hq).trans (cT g2)
      rw [n2, nn] at e
      have e := (e.trans (cT rfl)).trans (cT gn)
      rw [show (bif false then (((7 : Int)), D) else nextR C1 n) = nextR C1 n from rfl, hw] at e
      exact hc 7 hT _ e
    · have e := (sv_8 (gB 12 C3) (goodA cA cO CODES.Ok) (goodA nA nO spP) vN (valA cA cO CODES.Ok wt) (valA nA nO spP ws) C D n (t1 := ((0 : Int), C1)) ((vN_eq hC (by omega)).trans h2) (t2 := nextR C1 n) (by rw [n2]; exact vN_eq aD n1) (t3 := (s, C2)) (by rw [n2]; exact ht) (t4 := (l, C3)) hq).trans (cT g2)
      rw [n2, nn] at e
      have e := (e.trans (cT rfl)).trans (cT gn)
      rw [show (bif false then (((8 : Int)), D) else nextR C1 n) = nextR C1 n from rfl, hw] at e
      exact hc 8 hT _ e
    · have e := (sv_9 (gB 12 C3) (goodA cA cO CODES.Ok) (goodA nA nO spP) vN (valA cA cO CODES.Ok wt) (valA nA nO spP ws) C D n (t1 := ((0 : Int), C1)) ((vN_eq hC (by omega)).trans h2) (t2 := nextR C1 n) (by rw [n2]; exact vN_eq aD n1) (t3 := (s, C2)) (by rw [n2]; exact ht) (t4 := (l, C3)) hq).trans (cT g2)
      rw [n2, nn] at e
      have e := (e.trans (cT rfl)).trans (cT gn)
      rw [show (bif false then (((9 : Int)), D) else nextR C1 n) = nextR C1 n from rfl, hw] at e
      exact hc 9 hT _ e
    · have e := (sv_10 (gB 12 C3) (goodA cA cO CODES.Ok) (goodA nA nO spP) vN (valA cA cO CODES.Ok wt) (valA nA nO spP ws) C D n (t1 := ((0 : Int), C1)) ((vN_eq hC (by omega)).trans h2) (t2 := nextR C1 n) (by rw [n2]; exact vN_eq aD n1) (t3 := (s, C2)) (by rw [n2]; exact ht) (t4 := (l, C3)) hq).trans (cT g2)
      rw [n2, nn] at e
      have e := (e.trans (cT rfl)).trans (cT gn)
      rw [show (bif false then (((10 : Int)), D) else nextR C1 n) = nextR C1 n from rfl, hw] at e
      exact hc 10 hT _ e
    · have e := (sv_11 (gB 12 C3) (goodA cA cO CODES.Ok) (goodA nA nO spP) vN (valA cA cO CODES.Ok wt) (valA nA nO spP ws) C D n (t1 := ((0 : Int), C1)) ((vN_eq hC (by omega)).trans h2) (t2 := nextR C1 n) (by rw [n2]; exact vN_eq aD n1) (t3 := (s, C2)) (by rw [n2]; exact ht) (t4 := (l, C3)) hq).trans (cT g2)
      rw [n2, nn] at e
      have e := (e.trans (cT rfl)).trans (cT gn)
      rw [show (bif false then (((11 : Int)), D) else nextR C1 n) = nextR C1 n from rfl, hw] at e
      exact hc 11 hT _ e
  · have hz : (a == 0) = false := beq_eq_false_iff_ne.2 ha
    rcases hr with rfl | rfl | rfl | rfl | rfl | rfl | rfl | rfl | rfl | rfl | rfl | rfl
    · have e := (sv_0 (gB 12 C3) (goodA cA cO CODES.Ok) (goodA nA nO spP) vN (valA cA cO CODES.Ok wt) (valA nA nO spP ws) C D n (t1 := (a, C1)) ((vN_eq hC (by omega)).trans h2) (t2 := nextR C1 n) (by rw [n2]; exact vN_eq aD n1) (t3 := (s, C2)) (by rw [n2]; exact ht) (t4 := (l, C3)) hq).trans (cT g2)
      rw [n2] at e
      have e := (((e.trans (cF hz)).trans (cT (by exact hgt))).trans (cT hgs)).trans (cT g12)
      exact ⟨(⟨0, [100, 101, 118, 105, 99, 101], [99, 111, 114, 101, 115], s, l⟩, D), ok2 _ _ (by decide) (by decide) (by kernel_rfl) (by kernel_rfl), hc 0 hT _ e⟩
    · have e := (sv_1 (gB 12 C3) (goodA cA cO CODES.Ok) (goodA nA nO spP) vN (valA cA cO CODES.Ok wt) (valA nA nO spP ws) C D n (t1 := (a, C1)) ((vN_eq hC (by omega)).trans h2) (t2 := nextR C1 n) (by rw [n2]; exact vN_eq aD n1) (t3 := (s, C2)) (by rw [n2]; exact ht) (t4 := (l, C3)) hq).trans (cT g2)
      rw [n2] at e
      have e := (((e.trans (cF hz)).trans (cT (by exact hgt))).trans (cT hgs)).trans (cT g12)
      exact ⟨(⟨0, [100, 101, 118, 105, 99, 101], [111, 115], s, l⟩, D), ok2 _ _ (by decide) (by decide) (by kernel_rfl) (by kernel_rfl), hc 1 hT _ e⟩
    · have e := (sv_2 (gB 12 C3) (goodA cA cO CODES.Ok) (goodA nA nO spP) vN (valA cA cO CODES.Ok wt) (valA nA nO spP ws) C D n (t1 := (a, C1)) ((vN_eq hC (by omega)).trans h2) (t2 := nextR C1 n) (by rw [n2]; exact vN_eq aD n1) (t3 := (s, C2)) (by rw [n2]; exact ht) (t4 := (l, C3)) hq).trans (cT g2)
      rw [n2] at e
      have e := (((e.trans (cF hz)).trans (cT (by exact hgt))).trans (cT hgs)).trans (cT g12)
      exact ⟨(⟨0, [117, 115, 101, 114], [97, 103, 101], s, l⟩, D), ok2 _ _ (by decide) (by decide) (by kernel_rfl) (by kernel_rfl), hc 2 hT _ e⟩
    · have e := (sv_3 (gB 12 C3) (goodA cA cO CODES.Ok) (goodA nA nO spP) vN (valA cA cO CODES.Ok wt) (valA nA nO spP ws) C D n (t1 := (a, C1)) ((vN_eq hC (by omega)).trans h2) (t2 := nextR C1 n) (by rw [n2]; exact vN_eq aD n1) (t3 := (s, C2)) (by rw [n2]; exact ht) (t4 := (l, C3)) hq).trans (cT g2)
      rw [n2] at e
      have e := (((e.trans (cF hz)).trans (cT (by exact hgt))).trans (cT hgs)).trans (cT g12)
      exact ⟨(⟨0, [117, 115, 101, 114], [97, 112, 112], s, l⟩, D), ok2 _ _ (by decide) (by decide) (by kernel_rfl) (by kernel_rfl), hc 3 hT _ e⟩
    · have e := (sv_4 (gB 12 C3) (goodA cA cO CODES.Ok) (goodA nA nO spP) vN (valA cA cO CODES.Ok wt) (valA nA nO spP ws) C D n (t1 := (a, C1)) ((vN_eq hC (by omega)).trans h2) (t2 := nextR C1 n) (by rw [n2]; exact vN_eq aD n1) (t3 := (s, C2)) (by rw [n2]; exact ht) (t4 := (l, C3)) hq).trans (cT g2)
      rw [n2] at e
      have e := (((e.trans (cF hz)).trans (cT (by exact hgt))).trans (cT hgs)).trans (cT g12)
      exact ⟨(⟨0, [117, 115, 101, 114], [98, 101, 116, 97], s, l⟩, D), ok2 _ _ (by decide) (by decide) (by kernel_rfl) (by kernel_rfl), hc 4 hT _ e⟩
    · have e := (sv_5 (gB 12 C3) (goodA cA cO CODES.Ok) (goodA nA nO spP) vN (valA cA cO CODES.Ok wt) (valA nA nO spP ws) C D n (t1 := (a, C1)) ((vN_eq hC (by omega)).trans h2) (t2 := nextR C1 n) (by rw [n2]; exact vN_eq aD n1) (t3 := (s, C2)) (by rw [n2]; exact ht) (t4 := (l, C3)) hq).trans (cT g2)
      rw [n2] at e
      have e := (((e.trans (cF hz)).trans (cT (by exact hgt))).trans (cT hgs)).trans (cT g12)
      exact ⟨(⟨0, [117, 115, 101, 114], [99, 111, 117, 110, 116, 114, 121], s, l⟩, D), ok2 _ _ (by decide) (by decide) (by kernel_rfl) (by kernel_rfl), hc 5 hT _ e⟩
    · have e := (sv_6 (gB 12 C3) (goodA cA cO CODES.Ok) (goodA nA nO spP) vN (valA cA cO CODES.Ok wt) (valA nA nO spP ws) C D n (t1 := (a, C1)) ((vN_eq hC (by omega)).trans h2) (t2 := nextR C1 n) (by rw [n2]; exact vN_eq aD n1) (t3 := (s, C2)) (by rw [n2]; exact ht) (t4 := (l, C3)) hq).trans (cT g2)
      rw [n2] at e
      have e := (((e.trans (cF hz)).trans (cT (by exact hgt))).trans (cT hgs)).trans (cT g12)
      exact ⟨(⟨0, [117, 115, 101, 114], [112, 108, 97, 110], s, l⟩, D), ok2 _ _ (by decide) (by decide) (by kernel_rfl) (by kernel_rfl), hc 6 hT _ e⟩
    · have e := (sv_7 (gB 12 C3) (goodA cA cO CODES.Ok) (goodA nA nO spP) vN (valA cA cO CODES.Ok wt) (valA nA nO spP ws) C D n (t1 := (a, C1)) ((vN_eq hC (by omega)).trans h2) (t2 := nextR C1 n) (by rw [n2]; exact vN_eq aD n1) (t3 := (s, C2)) (by rw [n2]; exact ht) (t4 := (l, C3)) hq).trans (cT g2)
      rw [n2] at e
      have e := (((e.trans (cF hz)).trans (cT (by exact hgt))).trans (cT hgs)).trans (cT g12)
      exact ⟨(⟨0, [117, 115, 101, 114], [107, 101, 121], s, l⟩, D), ok2 _ _ (by decide) (by decide) (by kernel_rfl) (by kernel_rfl), hc 7 hT _ e⟩
    · have e := (sv_8 (gB 12 C3) (goodA cA cO CODES.Ok) (goodA nA nO spP) vN (valA cA cO CODES.Ok wt) (valA nA nO spP ws) C D n (t1 := (a, C1)) ((vN_eq hC (by omega)).trans h2) (t2 := nextR C1 n) (by rw [n2]; exact vN_eq aD n1) (t3 := (s, C2)) (by rw [n2]; exact ht) (t4 := (l, C3)) hq).trans (cT g2)
      rw [n2] at e
      have e := (((e.trans (cF hz)).trans (cT (by exact hgt))).trans (cT hgs)).trans (cT g12)
      exact ⟨(⟨0, [117, 115, 101, 114], [107, 101, 121], s, l⟩, D), ok2 _ _ (by decide) (by decide) (by kernel_rfl) (by kernel_rfl), hc 8 hT _ e⟩
    · have e := (sv_9 (gB 12 C3) (goodA cA cO CODES.Ok) (goodA nA nO spP) vN (valA cA cO CODES.Ok wt) (valA nA nO spP ws) C D n (t1 := (a, C1)) ((vN_eq hC (by omega)).trans h2) (t2 := nextR C1 n) (by rw [n2]; exact vN_eq aD n1) (t3 := (s, C2)) (by rw [n2]; exact ht) (t4 := (l, C3)) hq).trans (cT g2)
      rw [n2] at e
      have e := (((e.trans (cF hz)).trans (cT (by exact hgt))).trans (cT hgs)).trans (cT g12)
      exact ⟨(⟨0, [117, 115, 101, 114], [107, 101, 121], s, l⟩, D), ok2 _ _ (by decide) (by decide) (by kernel_rfl) (by kernel_rfl), hc 9 hT _ e⟩
    · have e := (sv_10 (gB 12 C3) (goodA cA cO CODES.Ok) (goodA nA nO spP) vN (valA cA cO CODES.Ok wt) (valA nA nO spP ws) C D n (t1 := (a, C1)) ((vN_eq hC (by omega)).trans h2) (t2 := nextR C1 n) (by rw [n2]; exact vN_eq aD n1) (t3 := (s, C2)) (by rw [n2]; exact ht) (t4 := (l, C3)) hq).trans (cT g2)
      rw [n2] at e
      have e := (((e.trans (cF hz)).trans (cT (by exact hgt))).trans (cT hgs)).trans (cT g12)
      exact ⟨(⟨0, [117, 115, 101, 114], [107, 101, 121], s, l⟩, D), ok2 _ _ (by decide) (by decide) (by kernel_rfl) (by kernel_rfl), hc 10 hT _ e⟩
    · have e := (sv_11 (gB 12 C3) (goodA cA cO CODES.Ok) (goodA nA nO spP) vN (valA cA cO CODES.Ok wt) (valA nA nO spP ws) C D n (t1 := (a, C1)) ((vN_eq hC (by omega)).trans h2) (t2 := nextR C1 n) (by rw [n2]; exact vN_eq aD n1) (t3 := (s, C2)) (by rw [n2]; exact ht) (t4 := (l, C3)) hq).trans (cT g2)
      rw [n2] at e
      have e := (((e.trans (cF hz)).trans (cT (by exact hgt))).trans (cT hgs)).trans (cT g12)
      exact ⟨(⟨0, [117, 115, 101, 114], [107, 101, 121], s, l⟩, D), ok2 _ _ (by decide) (by decide) (by kernel_rfl) (by kernel_rfl), hc 11 hT _ e⟩
def svA5 (x : SERVE × CODES) : List AV := [.ref keyBase 0, .agg x.1.c]
def svO5 (x : SERVE × CODES) : List AO := [codO x.2]
def svI (x : SERVE × CODES) : Prop := (x.1.Ok ∧ x.1.split.length ≤ 5) ∧ x.2.Ok
def svZ (x : SERVE × CODES) : Prop := (x.1.Ok ∧ x.1.split.length ≤ 17) ∧ x.2.Ok
theorem srv_ex (x : SERVE × CODES) (hx : svI x) : ∃ y : SERVE × CODES, svZ y ∧ Ct V2.P V2.G 63 (svA5 x) (svO5 x) (φSv y) := by
  obtain ⟨v, C⟩ := x
  obtain ⟨⟨⟨o1, o2, o3, o4⟩, hl⟩, hC⟩ := hx
  have hl : v.split.length ≤ 5 := hl
  have hC : C.Ok := hC
  have hn := next_ok C hC 6 (by omega)
  obtain ⟨d0, d1, dD⟩ := nextR_ok hC (m := 6) (by omega)
  cases h6 : nextR C 6 with
  | mk r D =>
  rw [h6] at d0 d1 dD hn
  have d0 : 0 ≤ r := d0
  have d1 : r < 6 := d1
  have dD : D.Ok := dD
  have hT := entK_ok (φ := φX) hn
  have hg : goodA (fun _ : Unit => [.ref keyBase 0, .int .i64 6]) (fun _ => [codO C]) (fun _ => True) [.ref 1000000 0, .int .i64 6] [codO C] = true := gK_eq _ _
  obtain ⟨wu, hwu, htu⟩ := ent_ex (V := V2) (f := 51) (A := cA) (O := cO) (Pre := CODES.Ok) (φ := φX) (Post := fun (_ : CODES) (x : Int × CODES) => x.2.Ok) number_cA
  have hgD : goodA cA cO CODES.Ok [.ref 1000000 0] [codO D] = true := goodA_eq (A := cA) (O := cO) (v := D) dD
  have hpu : (valA cA cO CODES.Ok wu [.ref 1000000 0] [codO D]).2.Ok := valA_post (A := cA) (O := cO) (a := D) (Post := fun (_ : CODES) (x : Int × CODES) => x.2.Ok) hwu (fun _ _ _ _ _ h => h) dD
  obtain ⟨wn, hwn, htn⟩ := ent_ex (V := V2) (f := 50) (A := cA) (O := cO) (Pre := CODES.Ok) (φ := φT) (Post := fun (_ : CODES) (x : List UInt8 × CODES) => x.1.length ≤ 40 ∧ x.2.Ok) name_ex
  have hpn : (valA cA cO CODES.Ok wn [.ref 1000000 0] [codO D]).1.length ≤ 40 ∧ (valA cA cO CODES.Ok wn [.ref 1000000 0] [codO D]).2.Ok := valA_post (A := cA) (O := cO) (a := D) (Post := fun (_ : CODES) (x : List UInt8 × CODES) => x.1.length ≤ 40 ∧ x.2.Ok) hwn (fun _ _ _ _ _ h => h) dD
  obtain ⟨wr, hwr, htr⟩ := ent_ex (V := V2) (f := 55) (A := rA5) (O := rO5) (Pre := fun x => x.2.Ok ∧ x.1.length ≤ 5) (φ := φRg) (Post := fun _ y => rgPost y) (fun x hx => ranges_ex x.2 hx.1 x.1 hx.2)
  have hgr : goodA rA5 rO5 (fun x => x.2.Ok ∧ x.1.length ≤ 5) [.ref 1000000 0, rngL v.split] [codO D] = true := goodA_eq (A := rA5) (O := rO5) (v := (v.split, D)) ⟨dD, hl⟩
  have hpr : rgPost (valA rA5 rO5 (fun x => x.2.Ok ∧ x.1.length ≤ 5) wr [.ref 1000000 0, rngL v.split] [codO D]) := valA_post (A := rA5) (O := rO5) (a := (v.split, D)) (Post := fun _ y => rgPost y) hwr (fun _ _ _ _ _ h => h) ⟨dD, hl⟩
  have hc := fun (k : Int) (hT : ∀ l os, (entK 19 [.ref keyBase 0, .int .i64 6] [codO C] (k, D) φX).pre l os = true → Ct V2.P V2.G (entK 19 [.ref keyBase 0, .int .i64 6] [codO C] (k, D) φX).f l os ((entK 19 [.ref keyBase 0, .int .i64 6] [codO C] (k, D) φX).ans l os)) (r : AV × List AO) he' => ct_loops (V := V2) (f := 63) (l := svA5 (v, C)) (os := svO5 (v, C)) (r := r) (n := 9) (d := 3) (L := []) (T := [entK 19 [.ref keyBase 0, .int .i64 6] [codO C] (k, D) φX, entC 51 cA cO CODES.Ok wu φX, entC 50 cA cO CODES.Ok wn φT, entC 55 rA5 rO5 (fun x => x.2.Ok ∧ x.1.length ≤ 5) wr φRg]) mixed2 funcs2 (tabOk_cons hT (tabOk_cons htu (tabOk_cons htn (tabOk_cons htr tabOk_nil)))) loopsOk_nil he'
  have hr : r = 0 ∨ r = 1 ∨ r = 2 ∨ r = 3 ∨ r = 4 ∨ r = 5 := by omega
  rcases hr with rfl | rfl | rfl | rfl | rfl | rfl
  · exact ⟨(⟨(valA cA cO CODES.Ok wu [.ref 1000000 0] [codO D]).1, v.kind, v.by', v.salt, v.split⟩, (valA cA cO CODES.Ok wu [.ref 1000000 0] [codO D]).2), ⟨⟨⟨o1, o2, o3, o4⟩, by show v.split.length ≤ 17; omega⟩, hpu⟩, hc 0 hT _ (((srv_0 _ (goodA cA cO CODES.Ok) (goodA cA cO CODES.Ok) (goodA rA5 rO5 (fun x => x.2.Ok ∧ x.1.length ≤ 5)) (valA cA cO CODES.Ok wu) (valA cA cO CODES.Ok wn) (valA rA5 rO5 (fun x => x.2.Ok ∧ x.1.length ≤ 5) wr) v C D rfl).trans (cT hg)).trans (cT hgD))⟩
  · exact ⟨(⟨v.var, (valA cA cO CODES.Ok wn [.ref 1000000 0] [codO D]).1, v.by', v.salt, v.split⟩, (valA cA cO CODES.Ok wn [.ref 1000000 0] [codO D]).2), ⟨⟨⟨lenS_small (Nat.le_trans hpn.1 (by omega)), o2, o3, o4⟩, by show v.split.length ≤ 17; omega⟩, hpn.2⟩, hc 1 hT _ (((srv_1 _ (goodA cA cO CODES.Ok) (goodA cA cO CODES.Ok) (goodA rA5 rO5 (fun x => x.2.Ok ∧ x.1.length ≤ 5)) (valA cA cO CODES.Ok wu) (valA cA cO CODES.Ok wn) (valA rA5 rO5 (fun x => x.2.Ok ∧ x.1.length ≤ 5) wr) v C D rfl).trans (cT hg)).trans (cT hgD))⟩
  · exact ⟨(⟨v.var, v.kind, (valA cA cO CODES.Ok wn [.ref 1000000 0] [codO D]).1, v.salt, v.split⟩, (valA cA cO CODES.Ok wn [.ref 1000000 0] [codO D]).2), ⟨⟨⟨o1, lenS_small (Nat.le_trans hpn.1 (by omega)), o3, o4⟩, by show v.split.length ≤ 17; omega⟩, hpn.2⟩, hc 2 hT _ (((srv_2 _ (goodA cA cO CODES.Ok) (goodA cA cO CODES.Ok) (goodA rA5 rO5 (fun x => x.2.Ok ∧ x.1.length ≤ 5)) (valA cA cO CODES.Ok wu) (valA cA cO CODES.Ok wn) (valA rA5 rO5 (fun x => x.2.Ok ∧ x.1.length ≤ 5) wr) v C D rfl).trans (cT hg)).trans (cT hgD))⟩
  · exact ⟨(⟨v.var, v.kind, v.by', [127], v.split⟩, D), ⟨⟨⟨o1, o2, lenS_small (show ([127] : List UInt8).length ≤ 100 by decide), o4⟩, by show v.split.length ≤ 17; omega⟩, dD⟩, hc 3 hT _ ((srv_3 _ (goodA cA cO CODES.Ok) (goodA cA cO CODES.Ok) (goodA rA5 rO5 (fun x => x.2.Ok ∧ x.1.length ≤ 5)) (valA cA cO CODES.Ok wu) (valA cA cO CODES.Ok wn) (valA rA5 rO5 (fun x => x.2.Ok ∧ x.1.length ≤ 5) wr) v C D).trans (cT hg))⟩
  · exact ⟨(⟨v.var, v.kind, v.by', v.salt, (valA rA5 rO5 (fun x => x.2.Ok ∧ x.1.length ≤ 5) wr [.ref 1000000 0, rngL v.split] [codO D]).1⟩, (valA rA5 rO5 (fun x => x.2.Ok ∧ x.1.length ≤ 5) wr [.ref 1000000 0, rngL v.split] [codO D]).2), ⟨⟨⟨o1, o2, o3, Nat.le_trans hpr.1 (by omega)⟩, hpr.1⟩, hpr.2⟩, hc 4 hT _ (((srv_4 _ (goodA cA cO CODES.Ok) (goodA cA cO CODES.Ok) (goodA rA5 rO5 (fun x => x.2.Ok ∧ x.1.length ≤ 5)) (valA cA cO CODES.Ok wu) (valA cA cO CODES.Ok wn) (valA rA5 rO5 (fun x => x.2.Ok ∧ x.1.length ≤ 5) wr) v C D rfl).trans (cT hg)).trans (cT hgr))⟩
  · exact ⟨(⟨v.var, v.kind, v.by', v.salt, (valA rA5 rO5 (fun x => x.2.Ok ∧ x.1.length ≤ 5) wr [.ref 1000000 0, rngL v.split] [codO D]).1⟩, (valA rA5 rO5 (fun x => x.2.Ok ∧ x.1.length ≤ 5) wr [.ref 1000000 0, rngL v.split] [codO D]).2), ⟨⟨⟨o1, o2, o3, Nat.le_trans hpr.1 (by omega)⟩, hpr.1⟩, hpr.2⟩, hc 5 hT _ (((srv_5 _ (goodA cA cO CODES.Ok) (goodA cA cO CODES.Ok) (goodA rA5 rO5 (fun x => x.2.Ok ∧ x.1.length ≤ 5)) (valA cA cO CODES.Ok wu) (valA cA cO CODES.Ok wn) (valA rA5 rO5 (fun x => x.2.Ok ∧ x.1.length ≤ 5) wr) v C D rfl).trans (cT hg)).trans (cT hgr))⟩
abbrev LSt := Unit ⊕ LO
def lS (n : Int) : LSt → St
  | .inl _ => L620 n
  | .inr x => L62 n x.m x.get x.m
def lI (n : Int) : LSt → Prop
  | .inl _ => True
  | .inr x => 1 ≤ x.m ∧ (x.m : Int) ≤ n
def lM : LSt → Nat
  | .inl _ => 100
  | .inr x => 60 - x.m
theorem long_loop (n : Int) (h1 : 1 ≤ n) (h2 : n ≤ 50) (T : List Ent) : ∃ w : LSt → LO, (∀ v, lI n v → (w v).m ≤ 50) ∧ ∀ L : List (List Nat × Orc), LoopOk (V2.run T 3 [] L [] 62) 62 [1, 1, 0, 1, 0] (mkO (goodS (lS n) (lI n)) (valS (lS n) (lI n) w) out62) := by
  refine loop_ex (Xf := fun L : List (List Nat × Orc) => V2.run T 3 [] L [] 62) (b := subC (bodyOf V2.P 62) ([1, 1, 0, 1, 0] ++ [0])) (lS n) (lI n) lM out62 (fun _ x => x.m ≤ 50) (fun _ => by kernel_rfl) 9 fun v hv => ?_
  cases v with
  | inl _ =>
    refine .inr ⟨.inr ⟨1, appGet 0 1 (fun x => [.str [] ]) (fillGet [.str []] [(0, .str ([109] ++ Array.toList (ByteArray.data (Utf8.encode (IntKind.wrap IntKind.i32 (IntKind.wrap IntKind.i64 (48 + IntKind.wrap IntKind.i64 (Int.tdiv 0 10)))))) ++ Array.toList (ByteArray.data (Utf8.encode (IntKind.wrap IntKind.i32 (IntKind.wrap IntKind.i64 (48 + Int.tmod 0 10)))))))])⟩, ⟨Nat.le_refl _, h1⟩, by show 60 - 1 < 100; omega, fun _ h => h, fun L k kn => ?_⟩
    refine (lng_0 T L 9 n kn k).trans ?_
    exact (cT (decide_eq_true (by omega))).trans rfl
  | inr x =>
    obtain ⟨m, get⟩ := x
    obtain ⟨m1, mn⟩ : 1 ≤ m ∧ (m : Int) ≤ n := hv
    obtain ⟨q, rfl⟩ : ∃ q, m = q + 1 := ⟨m - 1, by omega⟩
    by_cases hi : ((q + 1 : Nat) : Int) < n
    · refine .inr ⟨.inr ⟨q + 1 + 1, appGet (q + 1) 1 get (fillGet [.str []] [(0, .str ([109] ++ Array.toList (ByteArray.data (Utf8.encode (IntKind.wrap IntKind.i32 (IntKind.wrap IntKind.i64 (48 + IntKind.wrap IntKind.i64 (Int.tdiv ((q + 1 : Nat) : Int) 10)))))) ++ Array.toList (ByteArray.data (Utf8.encode (IntKind.wrap IntKind.i32 (IntKind.wrap IntKind.i64 (48 + Int.tmod ((q + 1 : Nat) : Int) 10)))))))])⟩, ⟨by show 1 ≤ q + 1 + 1; omega, by show ((q + 1 + 1 : Nat) : Int) ≤ n; omega⟩, by show 60 - (q + 1 + 1) < 60 - (q + 1); omega, fun _ h => h, fun L k kn => ?_⟩
      refine (lng_r T L 9 n q get (q + 1 : Nat) kn k).trans ?_
      refine (cT (decide_eq_true hi)).trans ?_
      refine (cT (enc_ble (s := [109]) (by decide))).trans ?_
      refine (cT (enc_ble (by rw [List.length_append]; have := enc_len (IntKind.wrap IntKind.i32 (IntKind.wrap IntKind.i64 (48 + IntKind.wrap IntKind.i64 (Int.tdiv ((q + 1 : Nat) : Int) 10)))); show 1 + _ ≤ 100; omega))).trans ?_
      refine (cT (show (roomy 16 (q + 1 + 1) && Nat.beq (q + 1) (q + 1)) = true by
        rw [Nat.beq_refl, Bool.and_true]; exact Nat.ble_eq_true_of_le (by omega))).trans ?_
      rw [wrap_i64 (x := ((q + 1 : Nat) : Int) + 1) (by omega) (by omega)]
      rfl
    · refine .inl ⟨⟨q + 1, get⟩, by show q + 1 ≤ 50; omega, fun L k kn => ?_⟩
      refine (lng_r T L 9 n q get (q + 1 : Nat) kn k).trans ?_
      exact (cF (decide_eq_false hi)).trans rfl
def lA (n : Int) : List AV := [.int .i64 n]
theorem long_ex (n : Int) (h : 1 ≤ n ∧ n ≤ 50) : ∃ x : LO, True ∧ Ct V2.P V2.G 62 (lA n) [] (φS1 x) := by
  obtain ⟨w, hw, hl⟩ := long_loop n h.1 h.2 []
  have hg : goodS (lS n) (lI n) (L620 n) = true := goodS_eq (S := lS n) (v := Sum.inl ()) trivial
  exact ⟨_, trivial, ct_loops (V := V2) (f := 62) (l := lA n) (os := []) (n := 9) (d := 3) (T := []) (L := [([1, 1, 0, 1, 0], mkO (goodS (lS n) (lI n)) (valS (lS n) (lI n) w) out62)]) mixed2 funcs2 tabOk_nil (loopsOk_cons (hl _) loopsOk_nil) ((lng_m (goodS (lS n) (lI n)) (valS (lS n) (lI n) w) n rfl).trans (cT hg))⟩
theorem getS_app (l : List (List UInt8)) (s : List UInt8) : appGet l.length 1 (getS l) (fillGet [.str []] [(0, .str s)]) = getS (l ++ [s]) := by
  funext j
  unfold appGet getS
  by_cases h : j < l.length
  · rw [bltT h]
    simp [List.getD, h, List.getElem?_append_left]
  · have hb : Nat.blt j l.length = false := by
      cases e : Nat.blt j l.length with
      | false => rfl
      | true => exact absurd (ltB e) h
    rw [hb, cond_false]
    by_cases h1 : j = l.length
    · subst h1
      rw [bltT (by omega), cond_true, Nat.sub_self]
      simp [fillGet, AV.cells, List.getD]
    · have hb1 : Nat.blt j (l.length + 1) = false := by
        cases e : Nat.blt j (l.length + 1) with
        | false => rfl
        | true => exact absurd (ltB e) (by omega)
      rw [hb1, cond_false]
      simp only [List.getD]
      rw [List.getElem?_eq_none (by omega), List.getElem?_eq_none (by simp; omega)]
theorem getS_nil : getS [] = fun _ => [.str []] := by funext j; rfl
abbrev KSt := CODES ⊕ (List (List UInt8) × CODES)
def ykS (a : Int) : KSt → St
  | .inl C => L610 a C
  | .inr (l, C) => L61 a l.length (getS l) C l.length
def ykI : KSt → Prop
  | .inl C => C.Ok
  | .inr (l, C) => C.Ok ∧ 1 ≤ l.length ∧ l.length ≤ 3
def ykM : KSt → Nat
  | .inl _ => 5
  | .inr (l, _) => 4 - l.length
def ykZ (x : List (List UInt8) × CODES) : Prop := x.1.length ≤ 3 ∧ x.2.Ok
instance : Inhabited (List (List UInt8) × CODES) := ⟨([], default)⟩
theorem keys_loop (a : Int) (T : List Ent) : ∃ w : KSt → List (List UInt8) × CODES, (∀ v, ykI v → ykZ (w v)) ∧ ∀ L : List (List Nat × Orc), LoopOk (V2.run (mkE 19 gN vN φX :: T) 3 [] L [] 61) 61 [1, 1, 1, 0, 1, 0] (mkO (goodS (ykS a) ykI) (valS (ykS a) ykI w) out61) := by
  refine loop_ex (Xf := fun L : List (List Nat × Orc) => V2.run (mkE 19 gN vN φX :: T) 3 [] L [] 61) (b := subC (bodyOf V2.P 61) ([1, 1, 1, 0, 1, 0] ++ [0])) (ykS a) ykI ykM out61 (fun _ => ykZ) (fun _ => by kernel_rfl) 9 fun v hv => ?_
  cases v with
  | inl C =>
    have hC : C.Ok := hv
    obtain ⟨a0, a1, aD⟩ := nextR_ok hC (m := 4) (by omega)
    by_cases hi : 0 < (nextR C 4).1
    · refine .inr ⟨.inr ([[107] ++ Array.toList (ByteArray.data (Utf8.encode (IntKind.wrap IntKind.i32 (IntKind.wrap IntKind.i64 (48 + Int.tmod (IntKind.wrap IntKind.i64 (a + 0)) 10)))))], (nextR C 4).2), ⟨aD, Nat.le_refl _, by show 1 ≤ 3; omega⟩, by show 4 - 1 < 5; omega, fun _ h => h, fun L k kn => ?_⟩
      refine (kys_0 gN vN T L 9 a C kn k (t1 := nextR C 4) (vN_eq hC (by omega))).trans ?_
      refine (cT (gN_eq hC (by omega))).trans ?_
      refine (cT (decide_eq_true hi)).trans ?_
      refine (cT (enc_ble (s := [107]) (by decide))).trans ?_
      have hg := getS_app [] ([107] ++ Array.toList (ByteArray.data (Utf8.encode (IntKind.wrap IntKind.i32 (IntKind.wrap IntKind.i64 (48 + Int.tmod (IntKind.wrap IntKind.i64 (a + 0)) 10))))))
      rw [getS_nil] at hg
      exact congrArg (fun g => kn (L61 a 1 g (nextR C 4).2 1)) hg
    · refine .inl ⟨([], (nextR C 4).2), ⟨by show 0 ≤ 3; omega, aD⟩, fun L k kn => ?_⟩
      refine (kys_0 gN vN T L 9 a C kn k (t1 := nextR C 4) (vN_eq hC (by omega))).trans ?_
      refine (cT (gN_eq hC (by omega))).trans ?_
      exact (cF (decide_eq_false hi)).trans rfl
  | inr y =>
    obtain ⟨l, C⟩ := y
    obtain ⟨hC, l1, l3⟩ : C.Ok ∧ 1 ≤ l.length ∧ l.length ≤ 3 := hv
    obtain ⟨q, hq⟩ : ∃ q, l.length = q + 1 := ⟨l.length - 1, by omega⟩
    obtain ⟨a0, a1, aD⟩ := nextR_ok hC (m := 4) (by omega)
    have hS : ykS a (.inr (l, C)) = L61 a (q + 1) (getS l) C (l.length : Int) := by
      show L61 a l.length (getS l) C l.length = _
      rw [hq]
    by_cases hi : (l.length : Int) < (nextR C 4).1
    · refine .inr ⟨.inr (l ++ [[107] ++ Array.toList (ByteArray.data (Utf8.encode (IntKind.wrap IntKind.i32 (IntKind.wrap IntKind.i64 (48 + Int.tmod (IntKind.wrap IntKind.i64 (a + (l.length : Int))) 10)))))], (nextR C 4).2), ⟨aD, by rw [List.length_append]; omega, by rw [List.length_append, List.length_singleton]; omega⟩, by show 4 - (l ++ [_]).length < 4 - l.length; rw [List.length_append, List.length_singleton]; omega, fun _ h => h, fun L k kn => ?_⟩
      rw [hS]
      refine (kys_r gN vN T L 9 a q (getS l) C l.length kn k (t1 := nextR C 4) (vN_eq hC (by omega))).trans ?_
      refine (cT (gN_eq hC (by omega))).trans ?_
      refine (cT (decide_eq_true hi)).trans ?_
      refine (cT (enc_ble (s := [107]) (by decide))).trans ?_
      refine (cT (show (roomy 16 (q + 1 + 1) && Nat.beq (q + 1) (q + 1)) = true by
        rw [Nat.beq_refl, Bool.and_true]; exact Nat.ble_eq_true_of_le (by omega))).trans ?_
      have hg := getS_app l ([107] ++ Array.toList (ByteArray.data (Utf8.encode (IntKind.wrap IntKind.i32 (IntKind.wrap IntKind.i64 (48 + Int.tmod (IntKind.wrap IntKind.i64 (a + (l.length : Int))) 10))))))
      rw [hq] at hg
      show _ = kn (L61 a (l ++ [_]).length (getS (l ++ [_])) (nextR C 4).2 ((l ++ [_]).length : Nat))
      rw [List.length_append, List.length_singleton, wrap_i64 (x := (l.length : Int) + 1) (by omega) (by omega), hq]
      exact congrArg (fun g => kn (L61 a (q + 1 + 1) g (nextR C 4).2 ((q + 1 : Nat) + 1 : Int))) hg
    · refine .inl ⟨(l, (nextR C 4).2), ⟨l3, aD⟩, fun L k kn => ?_⟩
      rw [hS]
      refine (kys_r gN vN T L 9 a q (getS l) C l.length kn k (t1 := nextR C 4) (vN_eq hC (by omega))).trans ?_
      refine (cT (gN_eq hC (by omega))).trans ?_
      refine (cF (decide_eq_false hi)).trans ?_
      unfold out61
      dsimp only
      rw [hq]
      rfl
def kbS (l : List (List UInt8)) (C : CODES) (i : Nat) : St := L61b l C (i : Int)
theorem keys_loop2 (l : List (List UInt8)) (hl : l.length ≤ 1000) (C : CODES) (T : List Ent) (ge : List AV → List AO → Bool) (ve : List AV → List AO → Int × CODES) : ∃ w : Nat → Bool × Int, (∀ v, 1 ≤ v ∧ v ≤ 1000 → 0 ≤ (w v).2) ∧ ∀ L : List (List Nat × Orc), LoopOk (V2.run (mkE 19 ge ve φX :: T) 3 [] L [] 61) 61 [1, 1, 1, 1, 0, 1, 0] (mkO (goodS (kbS l C) (fun v => 1 ≤ v ∧ v ≤ 1000)) (valS (kbS l C) (fun v => 1 ≤ v ∧ v ≤ 1000) w) (out61b l C)) := by
  refine loop_ex (Xf := fun L : List (List Nat × Orc) => V2.run (mkE 19 ge ve φX :: T) 3 [] L [] 61) (b := subC (bodyOf V2.P 61) ([1, 1, 1, 1, 0, 1, 0] ++ [0])) (kbS l C) (fun v => 1 ≤ v ∧ v ≤ 1000) (fun v => 1001 - v) (out61b l C) (fun _ x => 0 ≤ x.2) (fun _ => by kernel_rfl) 9 fun v hv => ?_
  obtain ⟨v1, v2⟩ := hv
  by_cases hi : (v : Int) < (l.length : Int)
  · have hw1 : within (v : Int) l.length = true := within_of (by omega) (by omega)
    have hw2 : within (IntKind.wrap .i64 ((v : Int) - 1)) l.length = true := by rw [wrap_i64 (by omega) (by omega)]; exact within_of (by omega) (by omega)
    cases hb : (bytesLt (List.getD l (Int.toNat v) []) (List.getD l (Int.toNat (IntKind.wrap IntKind.i64 ((v : Int) - 1))) []) || List.getD l (Int.toNat v) [] == List.getD l (Int.toNat (IntKind.wrap IntKind.i64 ((v : Int) - 1))) []) with
    | true =>
      refine .inl ⟨(true, (v : Int)), by show (0 : Int) ≤ v; omega, fun L k kn => ?_⟩
      refine (kys_b ge ve T L 9 l C v kn k).trans ?_
      refine (((cT (decide_eq_true hi)).trans (cT hw1)).trans (cT hw2)).trans ?_
      refine (cT hb).trans ?_
      exact (cT (by rw [decide_eq_true (show (0 : Int) ≤ (0 : Int) by omega), decide_eq_true (show (0 : Int) ≤ (v : Int) by omega), decide_eq_true (show (v : Int) ≤ (l.length : Int) by omega)]; rfl)).trans rfl
    | false =>
      refine .inr ⟨v + 1, ⟨by omega, by omega⟩, by show 1001 - (v + 1) < 1001 - v; omega, fun _ h => h, fun L k kn => ?_⟩
      refine (kys_b ge ve T L 9 l C v kn k).trans ?_
      refine (((cT (decide_eq_true hi)).trans (cT hw1)).trans (cT hw2)).trans ?_
      refine (cF hb).trans ?_
      rw [wrap_i64 (by omega) (by omega)]; rfl
  · refine .inl ⟨(false, 0), by show (0 : Int) ≤ 0; omega, fun L k kn => ?_⟩
    refine (kys_b ge ve T L 9 l C v kn k).trans ?_
    exact (cF (decide_eq_false hi)).trans rfl
instance : Inhabited (LO × CODES) := ⟨(default, default)⟩
theorem keys_ex (C : CODES) (hC : C.Ok) : ∃ x : LO × CODES, x.2.Ok ∧ Ct V2.P V2.G 61 (cA C) (cO C) (φKs x) := by
  obtain ⟨a0, a1, aD⟩ := nextR_ok hC (m := 10) (by omega)
  cases h10 : nextR C 10 with
  | mk a C1 =>
  rw [h10] at a0 a1 aD
  have aD : C1.Ok := aD
  obtain ⟨w, hw, hl⟩ := keys_loop a []
  have hg1 : goodS (ykS a) ykI (L610 a C1) = true := goodS_eq (S := ykS a) (v := Sum.inl C1) aD
  have hz : ykZ (valS (ykS a) ykI w (L610 a C1)) := valS_post (S := ykS a) (a := Sum.inl C1) (Post := fun (_ : KSt) (x : List (List UInt8) × CODES) => ykZ x) hw (fun _ _ _ _ h => h) aD
  generalize hv : valS (ykS a) ykI w (L610 a C1) = z at hz
  obtain ⟨l, D⟩ := z
  obtain ⟨z1, z2⟩ := hz
  have z1 : l.length ≤ 3 := z1
  have z2 : D.Ok := z2
  obtain ⟨w2, hw2, hl2⟩ := keys_loop2 l (by omega) D [] gN vN
  have hg2 : goodS (kbS l D) (fun v => 1 ≤ v ∧ v ≤ 1000) (L61b l D 1) = true := goodS_eq (S := kbS l D) (v := 1) ⟨Nat.le_refl _, by omega⟩
  generalize hy : valS (kbS l D) (fun v => 1 ≤ v ∧ v ≤ 1000) w2 (L61b l D 1) = y
  have e := (((kys_m gN vN (goodS (fun _ : Unit => L610 a C1) (fun _ => True)) (goodS (kbS l D) (fun v => 1 ≤ v ∧ v ≤ 1000)) (fun _ => (l, D)) (valS (kbS l D) (fun v => 1 ≤ v ∧ v ≤ 1000) w2) l D C (t1 := (a, C1)) ((vN_eq hC (by omega)).trans h10) (t2 := y) hy).trans (cT (gN_eq hC (by omega)))).trans (cT (goodS_eq (S := fun _ : Unit => L610 a C1) (v := ()) trivial))).trans (cT hg2)
  have hc := fun r he' => ct_loops (V := V2) (f := 61) (l := cA C) (os := cO C) (r := r) (n := 9) (d := 3) (T := [entN]) (L := [([1, 1, 1, 0, 1, 0], mkO (goodS (fun _ : Unit => L610 a C1) (fun _ => True)) (fun _ => (l, D)) out61), ([1, 1, 1, 1, 0, 1, 0], mkO (goodS (kbS l D) (fun v => 1 ≤ v ∧ v ≤ 1000)) (valS (kbS l D) (fun v => 1 ≤ v ∧ v ≤ 1000) w2) (out61b l D))]) mixed2 funcs2 (tabOk_cons entN_ok tabOk_nil) (loopsOk_cons (loopOk_at (hl _) hg1 hv) (loopsOk_cons (hl2 _) loopsOk_nil)) he'
  obtain ⟨b, i⟩ := y
  cases b with
  | true => exact ⟨(⟨Int.toNat i - 0, fun j => getS l (0 + j)⟩, D), z2, hc _ e⟩
  | false => exact ⟨(⟨l.length, getS l⟩, D), z2, hc _ e⟩
end Go.SH

namespace Go.SH
open Go Go.Ab Go.Proofs
set_option linter.unusedVariables false
set_option linter.unusedSimpArgs false
theorem mixed6 : V6.P.follows .mixedOrders = true := mixed
theorem funcs6 : FuncsOk V6.P := funcs
structure FLR where
  key : List UInt8
  kind : Int
  nv : Nat
  gv : Nat → List AV
  on : Bool
  off : Int
  np : Nat
  gp : Nat → List AV
  nt : Nat
  gt : Nat → List AV
  nr : Nat
  gr : Nat → List AV
  d : SERVE
instance : Inhabited FLR := ⟨⟨[], 0, 0, fun _ => [], false, 0, 0, fun _ => [], 0, fun _ => [], 0, fun _ => [], default⟩⟩
instance : Inhabited (FLR × CODES) := ⟨(default, default)⟩
def FLR.c (f : FLR) : List AV := flC f.key f.kind (.sl .no 4 f.nv f.gv) f.on f.off (.sl .no 2 f.np f.gp) (.sl .no 3 f.nt f.gt) (.sl .no 11 f.nr f.gr) f.d
def φFl (x : FLR × CODES) : AV × List AO := (.agg x.1.c, [codO x.2])
def flPost (x : FLR × CODES) : Prop := (x.1.d.Ok ∧ x.1.d.split.length ≤ 17) ∧ x.2.Ok
def flS (v : VAL) (d : SERVE) (x : XO) : St := FL v d x.m x.get x.C
def flI (x : XO) : Prop := x.C.Ok ∧ x.m ≤ 13 ∧ (x.m = 0 → x.get = e00)
theorem flag_loop (ge : List AV → List AO → Bool) (ve : List AV → List AO → Int × CODES) (hge : ∀ C : CODES, C.Ok → ge [.ref 1000000 0, .int .i64 2] [codO C] = true) (hve : ∀ C : CODES, C.Ok → ve [.ref 1000000 0, .int .i64 2] [codO C] = nextR C 2) (v : VAL) (d : SERVE) (T : List Ent) :
    ∃ w : XO → XO, (∀ x, flI x → (w x).C.Ok) ∧ ∀ L : List (List Nat × Orc), LoopOk (V6.run (mkE 19 ge ve φX :: T) 1 [] L [] 31) 31 [1, 1, 1, 1, 1, 0, 1, 0, 1, 1, 1, 1, 1, 1, 1, 1, 1, 1, 1, 1, 1, 1, 1, 1, 1, 1, 1, 1, 1, 1, 1, 1, 1, 0, 0] (mkO (goodS (flS v d) flI) (valS (flS v d) flI w) (outF v d)) := by
  refine loop_ex (Xf := fun L : List (List Nat × Orc) => V6.run (mkE 19 ge ve φX :: T) 1 [] L [] 31) (b := subC (bodyOf V6.P 31) ([1, 1, 1, 1, 1, 0, 1, 0, 1, 1, 1, 1, 1, 1, 1, 1, 1, 1, 1, 1, 1, 1, 1, 1, 1, 1, 1, 1, 1, 1, 1, 1, 1, 0, 0] ++ [0])) (flS v d) flI (fun x => 14 - x.m) (outF v d) (fun _ x => x.C.Ok) (fun _ => by kernel_rfl) 9 fun x hx => ?_
  obtain ⟨m, get, C⟩ := x
  obtain ⟨hC, m13, h0⟩ : C.Ok ∧ m ≤ 13 ∧ (m = 0 → get = e00) := hx
  obtain ⟨a0, a1, aD⟩ := nextR_ok hC (m := 2) (by omega)
  have hw : IntKind.wrap .i64 (12 + (nextR C 2).1) = 12 + (nextR C 2).1 := wrap_i64 (by omega) (by omega)
  rcases m with _ | q
  · obtain rfl := h0 rfl
    have h := fun (L : List (List Nat × Orc)) (k : Ex → St → Res) (kn : St → Res) => ((fll_0 ge ve T L 9 v d C kn k (t1 := nextR C 2) (hve C hC)).trans (cT (hge C hC))).trans (cT (by rw [hw]; exact decide_eq_true (by omega)))
    exact .inr ⟨⟨1, _, (nextR C 2).2⟩, ⟨aD, by show 1 ≤ 13; omega, fun h => absurd h (by show 1 ≠ 0; omega)⟩, by show 14 - 1 < 14 - 0; omega, fun _ h => h, h⟩
  · by_cases hi : ((q + 1 : Nat) : Int) < 12 + (nextR C 2).1
    · have h := fun (L : List (List Nat × Orc)) (k : Ex → St → Res) (kn : St → Res) => ((((fll_r ge ve T L 9 v d q get C kn k (t1 := nextR C 2) (hve C hC)).trans (cT (hge C hC))).trans (cT (by rw [hw]; exact decide_eq_true hi))).trans (cT (enc_ble (s := [114]) (by decide)))).trans (cT (show (roomy 184 (q + 1 + 1) && Nat.beq (q + 1) (q + 1)) = true by
        rw [Nat.beq_refl, Bool.and_true]; exact Nat.ble_eq_true_of_le (by omega)))
      exact .inr ⟨⟨q + 1 + 1, _, (nextR C 2).2⟩, ⟨aD, by show q + 1 + 1 ≤ 13; omega, fun h => absurd h (by show q + 1 + 1 ≠ 0; omega)⟩, by show 14 - (q + 1 + 1) < 14 - (q + 1); omega, fun _ h => h, h⟩
    · refine .inl ⟨⟨q + 1, get, (nextR C 2).2⟩, aD, fun L k kn => ?_⟩
      refine (fll_r ge ve T L 9 v d q get C kn k (t1 := nextR C 2) (hve C hC)).trans ?_
      refine (cT (hge C hC)).trans ?_
      exact (cF (by rw [hw]; exact decide_eq_false hi)).trans rfl
def flA (x : VAL × SERVE × CODES) : List AV := [.ref keyBase 0, .agg (f0 (vs1 x.1) x.2.1)]
def flO (x : VAL × SERVE × CODES) : List AO := [codO x.2.2]
def flP (x : VAL × SERVE × CODES) : Prop := (x.2.1.Ok ∧ x.2.1.split.length ≤ 5) ∧ x.2.2.Ok
theorem flag_ex (x : VAL × SERVE × CODES) (hx : flP x) : ∃ y : FLR × CODES, flPost y ∧ Ct V2.P V2.G 31 (flA x) (flO x) (φFl y) := by
  obtain ⟨v, d, C⟩ := x
  obtain ⟨⟨hd, hl⟩, hC⟩ := hx
  have hd : d.Ok := hd
  have hl : d.split.length ≤ 5 := hl
  have hd' : d.Ok ∧ d.split.length ≤ 17 := ⟨hd, by omega⟩
  have hC : C.Ok := hC
  obtain ⟨s0, s1, hD⟩ := nextR_ok hC (m := 14) (by omega)
  cases h14 : nextR C 14 with
  | mk r D =>
  rw [h14] at s0 s1 hD
  have s0 : 0 ≤ r := s0
  have s1 : r < 14 := s1
  have hD : D.Ok := hD
  have g14 : gB 14 C [.ref 1000000 0, .int .i64 14] [codO C] = true := gB_eq hC (by omega) (fun _ => rfl)
  have hT := entB_ok (m := 14) (by omega) hC h14
  obtain ⟨wn, hwn, htn⟩ := ent_ex (V := V2) (f := 50) (A := cA) (O := cO) (Pre := CODES.Ok) (φ := φT) (Post := fun (_ : CODES) (x : List UInt8 × CODES) => x.1.length ≤ 40 ∧ x.2.Ok) name_ex
  have hg : ∀ D : CODES, D.Ok → goodA cA cO CODES.Ok [.ref 1000000 0] [codO D] = true := fun D hD => goodA_eq (A := cA) (O := cO) (v := D) hD
  have hpn : (valA cA cO CODES.Ok wn [.ref 1000000 0] [codO D]).1.length ≤ 40 ∧ (valA cA cO CODES.Ok wn [.ref 1000000 0] [codO D]).2.Ok := valA_post (A := cA) (O := cO) (a := D) (Post := fun (_ : CODES) (x : List UInt8 × CODES) => x.1.length ≤ 40 ∧ x.2.Ok) hwn (fun _ _ _ _ _ h => h) hD
  obtain ⟨wu, hwu, htu⟩ := ent_ex (V := V2) (f := 51) (A := cA) (O := cO) (Pre := CODES.Ok) (φ := φX) (Post := fun (_ : CODES) (x : Int × CODES) => x.2.Ok) number_cA
  have hpu : ∀ D : CODES, D.Ok → (valA cA cO CODES.Ok wu [.ref 1000000 0] [codO D]).2.Ok := fun D hD => valA_post (A := cA) (O := cO) (a := D) (Post := fun (_ : CODES) (x : Int × CODES) => x.2.Ok) hwu (fun _ _ _ _ _ h => h) hD
  obtain ⟨wa, hwa, hta⟩ := ent_ex (V := V2) (f := 29) (A := cA) (O := cO) (Pre := CODES.Ok) (φ := φV) (Post := fun (_ : CODES) (x : VAL × CODES) => x.1.Ok ∧ x.2.Ok) any_ex
  have hpa : (valA cA cO CODES.Ok wa [.ref 1000000 0] [codO D]).2.Ok := (valA_post (A := cA) (O := cO) (a := D) (Post := fun (_ : CODES) (x : VAL × CODES) => x.1.Ok ∧ x.2.Ok) hwa (fun _ _ _ _ _ h => h) hD).2
  obtain ⟨wk, hwk, htk⟩ := ent_ex (V := V2) (f := 61) (A := cA) (O := cO) (Pre := CODES.Ok) (φ := φKs) (Post := fun (_ : CODES) (x : LO × CODES) => x.2.Ok) keys_ex
  have hpk : ∀ D : CODES, D.Ok → (valA cA cO CODES.Ok wk [.ref 1000000 0] [codO D]).2.Ok := fun D hD => valA_post (A := cA) (O := cO) (a := D) (Post := fun (_ : CODES) (x : LO × CODES) => x.2.Ok) hwk (fun _ _ _ _ _ h => h) hD
  obtain ⟨wl, hwl, htl⟩ := ent_ex (V := V2) (f := 62) (A := lA) (O := fun _ => []) (Pre := fun n : Int => 1 ≤ n ∧ n ≤ 50) (φ := φS1) (Post := fun (_ : Int) (_ : LO) => True) long_ex
  obtain ⟨ws, hws, hts⟩ := ent_ex (V := V2) (f := 63) (A := svA5) (O := svO5) (Pre := svI) (φ := φSv) (Post := fun _ y => svZ y) srv_ex
  have hgs : goodA svA5 svO5 svI [.ref 1000000 0, .agg d.c] [codO D] = true := goodA_eq (A := svA5) (O := svO5) (v := (d, D)) ⟨⟨hd, hl⟩, hD⟩
  have hps : svZ (valA svA5 svO5 svI ws [.ref 1000000 0, .agg d.c] [codO D]) := valA_post (A := svA5) (O := svO5) (a := (d, D)) (Post := fun _ (y : SERVE × CODES) => svZ y) hws (fun _ _ _ _ _ h => h) ⟨⟨hd, hl⟩, hD⟩
  have hc := fun (k : Int) (hT : ∀ l os, (entB 14 C (k, D)).pre l os = true → Ct V2.P V2.G (entB 14 C (k, D)).f l os ((entB 14 C (k, D)).ans l os)) (r : AV × List AO) he' => ct_loops (V := V6) (f := 31) (l := flA (v, d, C)) (os := flO (v, d, C)) (r := r) (n := 9) (d := 1) (L := []) (T := [entB 14 C (k, D), entC 51 cA cO CODES.Ok wu φX, entC 50 cA cO CODES.Ok wn φT, entC 29 cA cO CODES.Ok wa φV, entC 61 cA cO CODES.Ok wk φKs, entC 62 lA (fun _ => []) (fun n : Int => 1 ≤ n ∧ n ≤ 50) wl φS1, entC 63 svA5 svO5 svI ws φSv]) mixed6 funcs6 (tabOk_cons hT (tabOk_cons htu (tabOk_cons htn (tabOk_cons hta (tabOk_cons htk (tabOk_cons htl (tabOk_cons hts tabOk_nil))))))) loopsOk_nil he'
  have hr : r = 0 ∨ r = 1 ∨ r = 2 ∨ r = 3 ∨ r = 4 ∨ r = 5 ∨ r = 6 ∨ r = 7 ∨ r = 8 ∨ r = 9 ∨ r = 10 ∨ r = 11 ∨ r = 12 ∨ r = 13 := by omega
  rcases hr with rfl | rfl | rfl | rfl | rfl | rfl | rfl | rfl | rfl | rfl | rfl | rfl | rfl | rfl
  · exact ⟨(⟨(valA cA cO CODES.Ok wn [.ref 1000000 0] [codO D]).1, 0, 1, gv1 v, false, 0, 0, e00, 0, e00, 0, e00, d⟩, (valA cA cO CODES.Ok wn [.ref 1000000 0] [codO D]).2), ⟨hd', hpn.2⟩, hc 0 hT _ ((((fl_0 (gB 14 C) (goodA cA cO CODES.Ok) (goodA cA cO CODES.Ok) (goodA cA cO CODES.Ok) (goodA cA cO CODES.Ok) (goodA lA (fun _ => []) (fun n : Int => 1 ≤ n ∧ n ≤ 50)) (goodA svA5 svO5 svI) vN (valA cA cO CODES.Ok wu) (valA cA cO CODES.Ok wn) (valA cA cO CODES.Ok wa) (valA cA cO CODES.Ok wk) (valA lA (fun _ => []) (fun n : Int => 1 ≤ n ∧ n ≤ 50) wl) (valA svA5 svO5 svI ws) v d C D rfl)).trans (cT g14)).trans (cT (hg D hD)))⟩
  · exact ⟨(⟨[], (valA cA cO CODES.Ok wu [.ref 1000000 0] [codO D]).1, 1, gv1 v, false, 0, 0, e00, 0, e00, 0, e00, d⟩, (valA cA cO CODES.Ok wu [.ref 1000000 0] [codO D]).2), ⟨hd', hpu D hD⟩, hc 1 hT _ ((((fl_1 (gB 14 C) (goodA cA cO CODES.Ok) (goodA cA cO CODES.Ok) (goodA cA cO CODES.Ok) (goodA cA cO CODES.Ok) (goodA lA (fun _ => []) (fun n : Int => 1 ≤ n ∧ n ≤ 50)) (goodA svA5 svO5 svI) vN (valA cA cO CODES.Ok wu) (valA cA cO CODES.Ok wn) (valA cA cO CODES.Ok wa) (valA cA cO CODES.Ok wk) (valA lA (fun _ => []) (fun n : Int => 1 ≤ n ∧ n ≤ 50) wl) (valA svA5 svO5 svI ws) v d C D rfl)).trans (cT g14)).trans (cT (hg D hD)))⟩
  · exact ⟨(⟨[], 0, 2, appGet 1 1 (gv1 v) (fillGet [.int .i64 0, .int .i64 0, .str [], nilV] [(0, .agg (VAL.c (valA cA cO CODES.Ok wa [.ref 1000000 0] [codO D]).1))]), false, 0, 0, e00, 0, e00, 0, e00, d⟩, (valA cA cO CODES.Ok wa [.ref 1000000 0] [codO D]).2), ⟨hd', hpa⟩, hc 2 hT _ ((((fl_2 (gB 14 C) (goodA cA cO CODES.Ok) (goodA cA cO CODES.Ok) (goodA cA cO CODES.Ok) (goodA cA cO CODES.Ok) (goodA lA (fun _ => []) (fun n : Int => 1 ≤ n ∧ n ≤ 50)) (goodA svA5 svO5 svI) vN (valA cA cO CODES.Ok wu) (valA cA cO CODES.Ok wn) (valA cA cO CODES.Ok wa) (valA cA cO CODES.Ok wk) (valA lA (fun _ => []) (fun n : Int => 1 ≤ n ∧ n ≤ 50) wl) (valA svA5 svO5 svI ws) v d C D rfl)).trans (cT g14)).trans (cT (hg D hD)))⟩
  · obtain ⟨u0, u1, uD⟩ := nextR_ok hD (m := 2) (by omega)
    have hn2 : argN 14 [.ref 1000000 0, .int .i64 (IntKind.wrap IntKind.i64 ((1 : Int) + 1))] = false := rfl
    have e := (fl_3 (gB 14 C) (goodA cA cO CODES.Ok) (goodA cA cO CODES.Ok) (goodA cA cO CODES.Ok) (goodA cA cO CODES.Ok) (goodA lA (fun _ => []) (fun n : Int => 1 ≤ n ∧ n ≤ 50)) (goodA svA5 svO5 svI) vN (valA cA cO CODES.Ok wu) (valA cA cO CODES.Ok wn) (valA cA cO CODES.Ok wa) (valA cA cO CODES.Ok wk) (valA lA (fun _ => []) (fun n : Int => 1 ≤ n ∧ n ≤ 50) wl) (valA svA5 svO5 svI ws) v d C D (t1 := nextR D 2) (vN_eq hD (m := 2) (by omega)))
    rw [hn2] at e
    have e := ((e.trans (cT g14)).trans (cT (gB_eq (n := 2) hD (by omega) (fun h => by omega)))).trans (cT (by
      rw [show (decide ((0 : Int) ≤ 0)) = true from rfl, decide_eq_true (show (0 : Int) ≤ (bif false then ((3 : Int), D) else nextR D 2).1 from u0), decide_eq_true (show (bif false then ((3 : Int), D) else nextR D 2).1 ≤ (1 : Int) from Int.le_of_lt_add_one u1)]; rfl))
    exact ⟨(⟨[], 0, _, _, false, 0, 0, e00, 0, e00, 0, e00, d⟩, (nextR D 2).2), ⟨hd', uD⟩, hc 3 hT _ e⟩
  · exact ⟨(⟨[], 0, 1, gv1 v, false, (valA cA cO CODES.Ok wu [.ref 1000000 0] [codO D]).1, 0, e00, 0, e00, 0, e00, d⟩, (valA cA cO CODES.Ok wu [.ref 1000000 0] [codO D]).2), ⟨hd', hpu D hD⟩, hc 4 hT _ ((((fl_4 (gB 14 C) (goodA cA cO CODES.Ok) (goodA cA cO CODES.Ok) (goodA cA cO CODES.Ok) (goodA cA cO CODES.Ok) (goodA lA (fun _ => []) (fun n : Int => 1 ≤ n ∧ n ≤ 50)) (goodA svA5 svO5 svI) vN (valA cA cO CODES.Ok wu) (valA cA cO CODES.Ok wn) (valA cA cO CODES.Ok wa) (valA cA cO CODES.Ok wk) (valA lA (fun _ => []) (fun n : Int => 1 ≤ n ∧ n ≤ 50) wl) (valA svA5 svO5 svI ws) v d C D rfl)).trans (cT g14)).trans (cT (hg D hD)))⟩
  · exact ⟨(⟨[], 0, 1, gv1 v, false, 0, 1, _, 0, e00, 0, e00, d⟩, _), ⟨hd', hpu _ hpn.2⟩, hc 5 hT _ (((((fl_5 (gB 14 C) (goodA cA cO CODES.Ok) (goodA cA cO CODES.Ok) (goodA cA cO CODES.Ok) (goodA cA cO CODES.Ok) (goodA lA (fun _ => []) (fun n : Int => 1 ≤ n ∧ n ≤ 50)) (goodA svA5 svO5 svI) vN (valA cA cO CODES.Ok wu) (valA cA cO CODES.Ok wn) (valA cA cO CODES.Ok wa) (valA cA cO CODES.Ok wk) (valA lA (fun _ => []) (fun n : Int => 1 ≤ n ∧ n ≤ 50) wl) (valA svA5 svO5 svI ws) v d C D rfl rfl)).trans (cT g14)).trans (cT (hg D hD))).trans (cT (hg _ hpn.2)))⟩
  · exact ⟨(⟨[], 0, 1, gv1 v, false, 0, 0, e00, 1, _, 0, e00, d⟩, _), ⟨hd', hpk _ hpn.2⟩, hc 6 hT _ (((((fl_6 (gB 14 C) (goodA cA cO CODES.Ok) (goodA cA cO CODES.Ok) (goodA cA cO CODES.Ok) (goodA cA cO CODES.Ok) (goodA lA (fun _ => []) (fun n : Int => 1 ≤ n ∧ n ≤ 50)) (goodA svA5 svO5 svI) vN (valA cA cO CODES.Ok wu) (valA cA cO CODES.Ok wn) (valA cA cO CODES.Ok wa) (valA cA cO CODES.Ok wk) (valA lA (fun _ => []) (fun n : Int => 1 ≤ n ∧ n ≤ 50) wl) (valA svA5 svO5 svI ws) v d C D rfl rfl)).trans (cT g14)).trans (cT (hg D hD))).trans (cT (hg _ hpn.2)))⟩
  · have p1 := hpu D hD
    obtain ⟨u0, u1, uD⟩ := nextR_ok p1 (m := 3) (by omega)
    have hn3 : argN 14 [.ref 1000000 0, .int .i64 3] = false := argN_ne (by omega)
    have hw : IntKind.wrap .i64 (39 + (nextR (valA cA cO CODES.Ok wu [.ref 1000000 0] [codO D]).2 3).1) = 39 + (nextR (valA cA cO CODES.Ok wu [.ref 1000000 0] [codO D]).2 3).1 := wrap_i64 (by omega) (by omega)
    have e := (fl_7 (gB 14 C) (goodA cA cO CODES.Ok) (goodA cA cO CODES.Ok) (goodA cA cO CODES.Ok) (goodA cA cO CODES.Ok) (goodA lA (fun _ => []) (fun n : Int => 1 ≤ n ∧ n ≤ 50)) (goodA svA5 svO5 svI) vN (valA cA cO CODES.Ok wu) (valA cA cO CODES.Ok wn) (valA cA cO CODES.Ok wa) (valA cA cO CODES.Ok wk) (valA lA (fun _ => []) (fun n : Int => 1 ≤ n ∧ n ≤ 50) wl) (valA svA5 svO5 svI ws) v d C D (t1 := (valA cA cO CODES.Ok wu [.ref 1000000 0] [codO D])) rfl (t2 := nextR (valA cA cO CODES.Ok wu [.ref 1000000 0] [codO D]).2 3) (vN_eq p1 (by omega)) rfl)
    rw [hn3] at e
    have e := ((e.trans (cT g14)).trans (cT (hg D hD))).trans (cT (gB_eq (n := 3) p1 (by omega) (fun h => by omega)))
    have e := e.trans (cT (by
      show goodA lA (fun _ => []) (fun n : Int => 1 ≤ n ∧ n ≤ 50) [.int .i64 (IntKind.wrap .i64 (39 + (nextR (valA cA cO CODES.Ok wu [.ref 1000000 0] [codO D]).2 3).1))] [] = true
      rw [hw]; exact goodA_eq (A := lA) (O := fun _ => []) (v := 39 + (nextR (valA cA cO CODES.Ok wu [.ref 1000000 0] [codO D]).2 3).1) ⟨by omega, by omega⟩))
    exact ⟨(⟨[], 0, 1, gv1 v, false, 0, 0, e00, 1, _, 0, e00, d⟩, (nextR (valA cA cO CODES.Ok wu [.ref 1000000 0] [codO D]).2 3).2), ⟨hd', uD⟩, hc 7 hT _ e⟩
  · exact ⟨(⟨[], 0, 1, gv1 v, false, 0, 0, e00, 0, e00, 1, _, d⟩, (valA cA cO CODES.Ok wn [.ref 1000000 0] [codO D]).2), ⟨hd', hpn.2⟩, hc 8 hT _ ((((fl_8 (gB 14 C) (goodA cA cO CODES.Ok) (goodA cA cO CODES.Ok) (goodA cA cO CODES.Ok) (goodA cA cO CODES.Ok) (goodA lA (fun _ => []) (fun n : Int => 1 ≤ n ∧ n ≤ 50)) (goodA svA5 svO5 svI) vN (valA cA cO CODES.Ok wu) (valA cA cO CODES.Ok wn) (valA cA cO CODES.Ok wa) (valA cA cO CODES.Ok wk) (valA lA (fun _ => []) (fun n : Int => 1 ≤ n ∧ n ≤ 50) wl) (valA svA5 svO5 svI ws) v d C D rfl)).trans (cT g14)).trans (cT (hg D hD)))⟩
  · exact ⟨(⟨[], 0, 1, gv1 v, false, 0, 0, e00, 0, e00, 0, e00, d⟩, D), ⟨hd', hD⟩, hc 9 hT _ (((fl_9 (gB 14 C) (goodA cA cO CODES.Ok) (goodA cA cO CODES.Ok) (goodA cA cO CODES.Ok) (goodA cA cO CODES.Ok) (goodA lA (fun _ => []) (fun n : Int => 1 ≤ n ∧ n ≤ 50)) (goodA svA5 svO5 svI) vN (valA cA cO CODES.Ok wu) (valA cA cO CODES.Ok wn) (valA cA cO CODES.Ok wa) (valA cA cO CODES.Ok wk) (valA lA (fun _ => []) (fun n : Int => 1 ≤ n ∧ n ≤ 50) wl) (valA svA5 svO5 svI ws) v d C D)).trans (cT g14))⟩
  · exact ⟨(⟨[], 0, 1, gv1 v, false, 0, 0, e00, 0, e00, 0, e00, d⟩, D), ⟨hd', hD⟩, hc 10 hT _ (((fl_10 (gB 14 C) (goodA cA cO CODES.Ok) (goodA cA cO CODES.Ok) (goodA cA cO CODES.Ok) (goodA cA cO CODES.Ok) (goodA lA (fun _ => []) (fun n : Int => 1 ≤ n ∧ n ≤ 50)) (goodA svA5 svO5 svI) vN (valA cA cO CODES.Ok wu) (valA cA cO CODES.Ok wn) (valA cA cO CODES.Ok wa) (valA cA cO CODES.Ok wk) (valA lA (fun _ => []) (fun n : Int => 1 ≤ n ∧ n ≤ 50) wl) (valA svA5 svO5 svI ws) v d C D)).trans (cT g14))⟩
  · exact ⟨(⟨[], 0, 1, gv1 v, false, 0, 0, e00, 0, e00, 0, e00, d⟩, D), ⟨hd', hD⟩, hc 11 hT _ (((fl_11 (gB 14 C) (goodA cA cO CODES.Ok) (goodA cA cO CODES.Ok) (goodA cA cO CODES.Ok) (goodA cA cO CODES.Ok) (goodA lA (fun _ => []) (fun n : Int => 1 ≤ n ∧ n ≤ 50)) (goodA svA5 svO5 svI) vN (valA cA cO CODES.Ok wu) (valA cA cO CODES.Ok wn) (valA cA cO CODES.Ok wa) (valA cA cO CODES.Ok wk) (valA lA (fun _ => []) (fun n : Int => 1 ≤ n ∧ n ≤ 50) wl) (valA svA5 svO5 svI ws) v d C D)).trans (cT g14))⟩
  · exact ⟨(⟨[], 0, 1, gv1 v, false, 0, 0, e00, 0, e00, 0, e00, _⟩, _), ⟨hps.1, hps.2⟩, hc 12 hT _ ((((fl_12 (gB 14 C) (goodA cA cO CODES.Ok) (goodA cA cO CODES.Ok) (goodA cA cO CODES.Ok) (goodA cA cO CODES.Ok) (goodA lA (fun _ => []) (fun n : Int => 1 ≤ n ∧ n ≤ 50)) (goodA svA5 svO5 svI) vN (valA cA cO CODES.Ok wu) (valA cA cO CODES.Ok wn) (valA cA cO CODES.Ok wa) (valA cA cO CODES.Ok wk) (valA lA (fun _ => []) (fun n : Int => 1 ≤ n ∧ n ≤ 50) wl) (valA svA5 svO5 svI ws) v d C D rfl)).trans (cT g14)).trans (cT hgs))⟩
  · obtain ⟨w, hw, hlp⟩ := flag_loop (gB 14 C) (fun l os => cond (argN 14 l) (13, D) (vN l os)) (fun E hE => gB_eq hE (by omega) (fun h => by omega)) (fun E hE => by
      show cond (argN 14 [.ref 1000000 0, .int .i64 2]) (13, D) (vN [.ref 1000000 0, .int .i64 2] [codO E]) = _
      rw [argN_ne (by decide)]; exact vN_eq hE (by omega)) v d [entC 51 cA cO CODES.Ok wu φX, entC 50 cA cO CODES.Ok wn φT, entC 29 cA cO CODES.Ok wa φV, entC 61 cA cO CODES.Ok wk φKs, entC 62 lA (fun _ => []) (fun n : Int => 1 ≤ n ∧ n ≤ 50) wl φS1, entC 63 svA5 svO5 svI ws φSv]
    have hgl : goodS (flS v d) flI (FL v d 0 e00 D) = true := goodS_eq (S := flS v d) (v := ⟨0, e00, D⟩) ⟨hD, Nat.zero_le _, fun _ => rfl⟩
    have hpl : (valS (flS v d) flI w (FL v d 0 e00 D)).C.Ok := valS_post (S := flS v d) (a := ⟨0, e00, D⟩) (Post := fun (_ : XO) (x : XO) => x.C.Ok) hw (fun _ _ _ _ h => h) ⟨hD, Nat.zero_le _, fun _ => rfl⟩
    have e := fl_13 (gB 14 C) (goodA cA cO CODES.Ok) (goodA cA cO CODES.Ok) (goodA cA cO CODES.Ok) (goodA cA cO CODES.Ok) (goodA lA (fun _ => []) (fun n : Int => 1 ≤ n ∧ n ≤ 50)) (goodA svA5 svO5 svI) vN (valA cA cO CODES.Ok wu) (valA cA cO CODES.Ok wn) (valA cA cO CODES.Ok wa) (valA cA cO CODES.Ok wk) (valA lA (fun _ => []) (fun n : Int => 1 ≤ n ∧ n ≤ 50) wl) (valA svA5 svO5 svI ws) (goodS (flS v d) flI) (valS (flS v d) flI w) v d C D rfl
    have e := (e.trans (cT g14)).trans (cT hgl)
    refine ⟨(⟨[], 0, 1, gv1 v, false, 0, 0, e00, 0, e00, _, _, d⟩, _), ⟨hd', hpl⟩, ct_loops (V := V6) (f := 31) (l := flA (v, d, C)) (os := flO (v, d, C)) (n := 9) (d := 1) (L := [([1, 1, 1, 1, 1, 0, 1, 0, 1, 1, 1, 1, 1, 1, 1, 1, 1, 1, 1, 1, 1, 1, 1, 1, 1, 1, 1, 1, 1, 1, 1, 1, 1, 0, 0], mkO (goodS (flS v d) flI) (valS (flS v d) flI w) (outF v d))]) (T := [entB 14 C (13, D), entC 51 cA cO CODES.Ok wu φX, entC 50 cA cO CODES.Ok wn φT, entC 29 cA cO CODES.Ok wa φV, entC 61 cA cO CODES.Ok wk φKs, entC 62 lA (fun _ => []) (fun n : Int => 1 ≤ n ∧ n ≤ 50) wl φS1, entC 63 svA5 svO5 svI ws φSv]) mixed6 funcs6 (tabOk_cons hT (tabOk_cons htu (tabOk_cons htn (tabOk_cons hta (tabOk_cons htk (tabOk_cons htl (tabOk_cons hts tabOk_nil))))))) (loopsOk_cons (hlp _) loopsOk_nil) e⟩
end Go.SH

namespace Go.SH
open Go Go.Ab Go.Proofs
set_option linter.unusedVariables false
set_option linter.unusedSimpArgs false
structure ZW where
  n : Int
  k : Int
  v : SERVE
  d : SERVE
  e : SERVE
  a : VAL
instance : Inhabited ZW := ⟨⟨0, 0, default, default, default, default⟩⟩
def zSv : List AV := [.int .i64 0, .str [], .str [], .str [], nilV]
def svs3 (z : ZW) : AV := .sl .fit 5 3 (fillGet zSv [(0, .agg z.v.c), (1, .agg z.d.c), (2, .agg z.e.c)])
def W0 (z : ZW) (i : Int) : St := { env := [(2, .int .i64 z.n), (8, .int .i64 z.k), (9, .ref 9 0), (39, svs3 z), (40, .int .i64 3), (41, .int .i64 i)], objs := [(9, .cells (f0 (vs1 z.a) z.d))] }
def outSe (z : ZW) (k : Ex → St → Res) : Res := k (.exit 0) { env := [(8, .int .i64 z.k), (9, .ref 9 0)], objs := [(9, .cells (f0 (vs1 z.a) z.d))] }
set_option maxRecDepth 100000 in
theorem se_0 (gs gt : List AV → List AO → Bool) (vs vt : List AV → List AO → Int) (T : List Ent) (L : List (List Nat × Orc)) (m : Nat) (z : ZW) (kn : St → Res) (k : Ex → St → Res) {t1 : Int} (h_t1 : vs [.agg (SERVE.c (ZW.v z)), .int .i64 (ZW.n z)] [] = t1) {t2 : Int} (h_t2 : vt [.agg (SERVE.c (ZW.v z)), .int .i64 (ZW.n z)] [] = t2) {t3 : Int} (h_t3 : vs [.agg (SERVE.c (ZW.v z)), .int .i64 (ZW.k z)] [] = t3) {t4 : Int} (h_t4 : vt [.agg (SERVE.c (ZW.v z)), .int .i64 (ZW.k z)] [] = t4) : roundR (V2.run (mkE 32 gs vs φE :: mkE 33 gt vt φE :: T) 1 [] L [] 5) 5 m [1, 1, 1, 1, 1, 1, 1, 0, 1, 0] (W0 z 0) kn k =
  cond (gs [.agg (SERVE.c (ZW.v z)), .int .i64 (ZW.n z)] []) (cond (gt [.agg (SERVE.c (ZW.v z)), .int .i64 (ZW.n z)] []) (cond (gs [.agg (SERVE.c (ZW.v z)), .int .i64 (ZW.k z)] []) (cond (gt [.agg (SERVE.c (ZW.v z)), .int .i64 (ZW.k z)] []) (cond (bif t1 != t2 then true else t3 != t4) (k (.ret) ({ env := [(6, .bool false)], objs := [] })) (kn (W0 z (IntKind.wrap IntKind.i64 (0 + 1))))) (none)) (none)) (none)) (none) := by subst h_t4 h_t3 h_t2 h_t1; kernel_rfl
set_option maxRecDepth 100000 in
theorem se_1 (gs gt : List AV → List AO → Bool) (vs vt : List AV → List AO → Int) (T : List Ent) (L : List (List Nat × Orc)) (m : Nat) (z : ZW) (kn : St → Res) (k : Ex → St → Res) {t1 : Int} (h_t1 : vs [.agg (SERVE.c (ZW.d z)), .int .i64 (ZW.n z)] [] = t1) {t2 : Int} (h_t2 : vt [.agg (SERVE.c (ZW.d z)), .int .i64 (ZW.n z)] [] = t2) {t3 : Int} (h_t3 : vs [.agg (SERVE.c (ZW.d z)), .int .i64 (ZW.k z)] [] = t3) {t4 : Int} (h_t4 : vt [.agg (SERVE.c (ZW.d z)), .int .i64 (ZW.k z)] [] = t4) : roundR (V2.run (mkE 32 gs vs φE :: mkE 33 gt vt φE :: T) 1 [] L [] 5) 5 m [1, 1, 1, 1, 1, 1, 1, 0, 1, 0] (W0 z 1) kn k =
  cond (gs [.agg (SERVE.c (ZW.d z)), .int .i64 (ZW.n z)] []) (cond (gt [.agg (SERVE.c (ZW.d z)), .int .i64 (ZW.n z)] []) (cond (gs [.agg (SERVE.c (ZW.d z)), .int .i64 (ZW.k z)] []) (cond (gt [.agg (SERVE.c (ZW.d z)), .int .i64 (ZW.k z)] []) (cond (bif t1 != t2 then true else t3 != t4) (k (.ret) ({ env := [(6, .bool false)], objs := [] })) (kn (W0 z (IntKind.wrap IntKind.i64 (1 + 1))))) (none)) (none)) (none)) (none) := by subst h_t4 h_t3 h_t2 h_t1; kernel_rfl
set_option maxRecDepth 100000 in
theorem se_2 (gs gt : List AV → List AO → Bool) (vs vt : List AV → List AO → Int) (T : List Ent) (L : List (List Nat × Orc)) (m : Nat) (z : ZW) (kn : St → Res) (k : Ex → St → Res) {t1 : Int} (h_t1 : vs [.agg (SERVE.c (ZW.e z)), .int .i64 (ZW.n z)] [] = t1) {t2 : Int} (h_t2 : vt [.agg (SERVE.c (ZW.e z)), .int .i64 (ZW.n z)] [] = t2) {t3 : Int} (h_t3 : vs [.agg (SERVE.c (ZW.e z)), .int .i64 (ZW.k z)] [] = t3) {t4 : Int} (h_t4 : vt [.agg (SERVE.c (ZW.e z)), .int .i64 (ZW.k z)] [] = t4) : roundR (V2.run (mkE 32 gs vs φE :: mkE 33 gt vt φE :: T) 1 [] L [] 5) 5 m [1, 1, 1, 1, 1, 1, 1, 0, 1, 0] (W0 z 2) kn k =
  cond (gs [.agg (SERVE.c (ZW.e z)), .int .i64 (ZW.n z)] []) (cond (gt [.agg (SERVE.c (ZW.e z)), .int .i64 (ZW.n z)] []) (cond (gs [.agg (SERVE.c (ZW.e z)), .int .i64 (ZW.k z)] []) (cond (gt [.agg (SERVE.c (ZW.e z)), .int .i64 (ZW.k z)] []) (cond (bif t1 != t2 then true else t3 != t4) (k (.ret) ({ env := [(6, .bool false)], objs := [] })) (kn (W0 z (IntKind.wrap IntKind.i64 (2 + 1))))) (none)) (none)) (none)) (none) := by subst h_t4 h_t3 h_t2 h_t1; kernel_rfl
set_option maxRecDepth 100000 in
theorem se_3 (T : List Ent) (L : List (List Nat × Orc)) (m : Nat) (z : ZW) (kn : St → Res) (k : Ex → St → Res)  : roundR (V2.run T 1 [] L [] 5) 5 m [1, 1, 1, 1, 1, 1, 1, 0, 1, 0] (W0 z 3) kn k =
  k (.exit 0) ({ env := [(8, .int .i64 (ZW.k z)), (9, .ref 9 0)], objs := [(9, .cells (f0 (vs1 (ZW.a z)) (ZW.d z)))] }) := by kernel_rfl
set_option maxRecDepth 100000 in
theorem se_m (gs gt : List AV → List AO → Bool) (vs vt : List AV → List AO → Int) (gaw gn ge ga gq gf : List AV → List AO → Bool) (vaw : List AV → List AO → Bool) (vn : List AV → List AO → CODES) (ve : List AV → List AO → Int × CODES) (va : List AV → List AO → VAL × CODES) (vq : List AV → List AO → SERVE × CODES) (vf : List AV → List AO → FLR × CODES) (g1 : St → Bool) (v1 : St → ZW) (v : SERVE) (n : Nat) (g : Nat → Int) (nn : Int) {t1 : CODES} (h_t1 : vn [.sl .no 1 n fun j => [.int .u8 (g j)], .int .i64 60] [] = t1) {t2 : Int × CODES} (h_t2 : ve [.ref 1000000 0, .int .i64 6] [.cells [.sl .no 1 (CODES.n t1) fun j => [.int .u8 (CODES.g t1 j)], .int .i64 (↑(CODES.at' t1) : Int)] ] = t2) {t3 : VAL × CODES} (h_t3 : va [.ref 1000000 0] [codO (Prod.snd t2)] = t3) {t4 : SERVE × CODES} (h_t4 : vq [.ref 1000000 0, .int .i64 (IntKind.wrap IntKind.i64 (1 + Prod.fst t2))] [codO (Prod.snd t3)] = t4) {t5 : FLR × CODES} (h_t5 : vf [.ref 1000000 0, .agg (f0 (vs1 (Prod.fst t3)) (Prod.fst t4))] [codO (Prod.snd t4)] = t5) {t6 : ZW} (h_t6 : v1 { env := [(2, .int .i64 nn), (8, .int .i64 (IntKind.wrap IntKind.i64 (1 + Prod.fst t2))), (9, .ref 9 0), (39, .sl .fit 5 3 (fillGet [.int .i64 0, .str [], .str [], .str [], nilV] [(0, .agg (SERVE.c v)), (1, .agg (SERVE.c (Prod.fst t4))), (2, .agg (SERVE.c (FLR.d (Prod.fst t5))))])), (40, .int .i64 (↑3 : Int)), (41, .int .i64 0)], objs := [(9, .cells (f0 (vs1 (Prod.fst t3)) (Prod.fst t4)))] } = t6) {t7 : Int} (h_t7 : vs [.agg (SERVE.c (ZW.d t6)), .int .i64 (ZW.k t6)] [] = t7) : runF (V2.run [mkE 32 gs vs φE, mkE 33 gt vt φE, mkE 10 gaw vaw φB, mkE 12 gn vn φNew, mkE 19 ge ve φX, mkE 29 ga va φV, mkE 30 gq vq φSv, mkE 31 gf vf φFl] 1 [] [([1, 1, 1, 1, 1, 1, 1, 0, 1, 0], mkO g1 v1 outSe)] [] 5) 9 5 [.agg v.c, .sl .no 1 n fun j => [.int .u8 (g j)], .int .i64 nn] [] =
  cond (gaw [] []) (cond (!vaw [] []) (some ((.bool false, []))) (cond (decide ((↑(List.length (SERVE.split v)) : Int) > 40)) (some ((.bool true, []))) (cond (gn [.sl .no 1 n fun j => [.int .u8 (g j)], .int .i64 60] []) (cond (ge [.ref 1000000 0, .int .i64 6] [.cells [.sl .no 1 (CODES.n t1) fun j => [.int .u8 (CODES.g t1 j)], .int .i64 (↑(CODES.at' t1) : Int)] ]) (cond (ga [.ref 1000000 0] [codO (Prod.snd t2)]) (cond (gq [.ref 1000000 0, .int .i64 (IntKind.wrap IntKind.i64 (1 + Prod.fst t2))] [codO (Prod.snd t3)]) (cond (gf [.ref 1000000 0, .agg (f0 (vs1 (Prod.fst t3)) (Prod.fst t4))] [codO (Prod.snd t4)]) (cond (g1 { env := [(2, .int .i64 nn), (8, .int .i64 (IntKind.wrap IntKind.i64 (1 + Prod.fst t2))), (9, .ref 9 0), (39, .sl .fit 5 3 (fillGet [.int .i64 0, .str [], .str [], .str [], nilV] [(0, .agg (SERVE.c v)), (1, .agg (SERVE.c (Prod.fst t4))), (2, .agg (SERVE.c (FLR.d (Prod.fst t5))))])), (40, .int .i64 (↑3 : Int)), (41, .int .i64 0)], objs := [(9, .cells (f0 (vs1 (Prod.fst t3)) (Prod.fst t4)))] }) (cond (gs [.agg (SERVE.c (ZW.d t6)), .int .i64 (ZW.k t6)] []) (some ((.bool (t7 == 0), []))) (none)) (none)) (none)) (none)) (none)) (none)) (none)))) (none) := by subst h_t7 h_t6 h_t5 h_t4 h_t3 h_t2 h_t1; kernel_rfl
end Go.SH
