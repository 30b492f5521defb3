/- bucket.paint: the colour of each bucket, for ranges that lie side by side from 0 on. -/
import Derived.Test.YtmiiklmfnagbbaaDoorWSa
namespace Go.WS
open Go Go.Ab Go.Proofs
set_option linter.unusedVariables false
set_option linter.unusedSimpArgs false
def outO (o : Nat → Int) : AO := .arr 1 10000 fun j => [.int .i64 (o j)]
def rngC (r : Int × Int × Int) : List AV := [.int .i64 r.1, .int .i64 r.2.1, .int .i64 r.2.2]
def rngA (n : Nat) (g : Nat → Int × Int × Int) : AV := .sl .no 3 n fun j => rngC (g j)
def S20a (n : Nat) (g : Nat → Int × Int × Int) (x : Int) (nx : Nat → Int) : St := { env := [(0, rngA n g), (2, .ref 2 0), (3, .ref 3 0), (4, .ref 4 0), (12, .int .i64 x)], objs := [(2, outO fun _ => 0), (3, outO fun _ => 0), (4, nxO nx)] }
def F20a (n : Nat) (g : Nat → Int × Int × Int) (nx : Nat → Int) (k : Ex → St → Res) : Res := k (.exit 0) { env := [(0, rngA n g), (2, .ref 2 0), (3, .ref 3 0), (4, .ref 4 0)], objs := [(2, outO fun _ => 0), (3, outO fun _ => 0), (4, nxO nx)] }
def S20b (n : Nat) (g : Nat → Int × Int × Int) (j : Int) (out nx : Nat → Int) : St := { env := [(2, .ref 2 0), (3, .ref 3 0), (4, .ref 4 0), (6, .fn 39 [] [.ref 4 0]), (20, rngA n g), (21, .int .i64 n), (22, .int .i64 j)], objs := [(2, outO fun _ => 0), (3, outO out), (4, nxO nx)] }
def F20b (out : Nat → Int) (k : Ex → St → Res) : Res := k (.exit 2) { env := [(2, .ref 2 0), (3, .ref 3 0)], objs := [(2, outO fun _ => 0), (3, outO out)] }
def S20c (n : Nat) (g : Nat → Int × Int × Int) (j : Int) (hi x : Int) (r : Int × Int × Int) (out nx : Nat → Int) : St := { env := [(2, .ref 2 0), (3, .ref 3 0), (4, .ref 4 0), (6, .fn 39 [] [.ref 4 0]), (8, .ref 8 0), (10, .int .i64 hi), (11, .int .i64 x), (20, rngA n g), (21, .int .i64 n), (22, .int .i64 j)], objs := [(2, outO fun _ => 0), (3, outO out), (4, nxO nx), (8, .cells (rngC r))] }
def F20c (n : Nat) (g : Nat → Int × Int × Int) (t : Int × (Nat → Int) × (Nat → Int)) (k : Ex → St → Res) : Res := k (.exit 4) (S20b n g t.1 t.2.1 t.2.2)
set_option maxRecDepth 100000 in
theorem paint_ra (g39 : List AV → List AO → Bool) (v39 : List AV → List AO → Int × (Nat → Int)) (L : List (List Nat × Orc)) (m : Nat) (n : Nat) (g : Nat → Int × Int × Int) (x : Int) (nx : Nat → Int) (kn : St → Res) (k : Ex → St → Res)  : roundR (V.run [mkE 39 g39 v39 φ39] 1 [] L [] 20) 20 m [1, 1, 1, 0, 1, 0] (S20a n g x nx) kn k =
  cond (decide (x < 10001)) (cond (within x 10001) (cond (Nat.blt (Int.toNat x) 10001) (kn ({ env := [(0, rngA n g), (2, .ref 2 0), (3, .ref 3 0), (4, .ref 4 0), (12, .int .i64 (IntKind.wrap IntKind.i64 (x + 1)))], objs := [(2, outO fun j => 0), (3, outO fun j => 0), (4, .arr 1 10001 fun j => bif Nat.beq j (Int.toNat x) then [.int .i64 x] else [.int .i64 (nx j)])] })) (none)) (none)) (k (.exit 0) ({ env := [(0, rngA n g), (2, .ref 2 0), (3, .ref 3 0), (4, .ref 4 0)], objs := [(2, outO fun j => 0), (3, outO fun j => 0), (4, nxO nx)] })) := by kernel_rfl
set_option maxRecDepth 100000 in
theorem paint_rc (g39 : List AV → List AO → Bool) (v39 : List AV → List AO → Int × (Nat → Int)) (L : List (List Nat × Orc)) (m : Nat) (n : Nat) (g : Nat → Int × Int × Int) (j hi x : Int) (r : Int × Int × Int) (out nx : Nat → Int) (kn : St → Res) (k : Ex → St → Res) {t1 : Int × (Nat → Int)} (h_t1 : v39 [.int .i64 x, .ref 1000000 0] [.arr 1 10001 fun j => bif Nat.beq j (Int.toNat x) then [.int .i64 (IntKind.wrap IntKind.i64 (x + 1))] else [.int .i64 (nx j)] ] = t1) : roundR (V.run [mkE 39 g39 v39 φ39] 1 [] L [] 20) 20 m [1, 1, 1, 1, 1, 0, 1, 0, 0, 1, 1, 0, 0, 1, 1, 1, 0] (S20c n g j hi x r out nx) kn k =
  cond (decide (x < hi)) (cond (within x 10000) (cond (Nat.blt (Int.toNat x) 10000) (cond (within x 10001) (cond (Nat.blt (Int.toNat x) 10001) (cond (g39 [.int .i64 x, .ref 1000000 0] [.arr 1 10001 fun j => bif Nat.beq j (Int.toNat x) then [.int .i64 (IntKind.wrap IntKind.i64 (x + 1))] else [.int .i64 (nx j)] ]) (kn ({ env := [(2, .ref 2 0), (3, .ref 3 0), (4, .ref 4 0), (6, .fn 39 [] [.ref 4 0]), (8, .ref 8 0), (10, .int .i64 hi), (11, .int .i64 (Prod.fst t1)), (20, rngA n g), (21, .int .i64 ↑n), (22, .int .i64 j)], objs := [(2, outO fun j => 0), (3, .arr 1 10000 fun j => bif Nat.beq j (Int.toNat x) then [.int .i64 (Prod.snd (Prod.snd r))] else [.int .i64 (out j)]), (4, nxO (Prod.snd t1)), (8, .cells [.int .i64 (Prod.fst r), .int .i64 (Prod.fst (Prod.snd r)), .int .i64 (Prod.snd (Prod.snd r))])] })) (none)) (none)) (none)) (none)) (none)) (k (.exit 4) (S20b n g j out nx)) := by subst h_t1; kernel_rfl
set_option maxRecDepth 100000 in
theorem paint_rb (g39 : List AV → List AO → Bool) (v39 : List AV → List AO → Int × (Nat → Int)) (oa ob : Orc) (gc : St → Bool) (vc : St → Int × (Nat → Int) × (Nat → Int)) (m : Nat) (n : Nat) (g : Nat → Int × Int × Int) (j : Int) (out nx : Nat → Int) (kn : St → Res) (k : Ex → St → Res) {t1 : Int × (Nat → Int)} (h_t1 : v39 [.int .i64 (bif decide (10000 < bif decide (0 > Prod.fst (g (Int.toNat j))) then 0 else Prod.fst (g (Int.toNat j))) then 10000 else bif decide (0 > Prod.fst (g (Int.toNat j))) then 0 else Prod.fst (g (Int.toNat j))), .ref 1000000 0] [nxO nx] = t1) {t2 : Int × (Nat → Int) × (Nat → Int)} (h_t2 : vc (S20c n g j (bif decide (10000 < Prod.fst (Prod.snd (g (Int.toNat j)))) then 10000 else Prod.fst (Prod.snd (g (Int.toNat j)))) (Prod.fst t1) (g (Int.toNat j)) out (Prod.snd t1)) = t2) : roundR (V.run [mkE 39 g39 v39 φ39] 1 [] [([1, 1, 1, 0, 1, 0], oa), ([1, 1, 1, 1, 1, 0, 1, 0], ob), ([1, 1, 1, 1, 1, 0, 1, 0, 0, 1, 1, 0, 0, 1, 1, 1, 0], mkO gc vc (F20c n g))] [] 20) 20 m [1, 1, 1, 1, 1, 0, 1, 0] (S20b n g j out nx) kn k =
  cond (decide (j < ↑n)) (cond (within j n) (cond (g39 [.int .i64 (bif decide (10000 < bif decide (0 > Prod.fst (g (Int.toNat j))) then 0 else Prod.fst (g (Int.toNat j))) then 10000 else bif decide (0 > Prod.fst (g (Int.toNat j))) then 0 else Prod.fst (g (Int.toNat j))), .ref 1000000 0] [nxO nx]) (cond (gc (S20c n g j (bif decide (10000 < Prod.fst (Prod.snd (g (Int.toNat j)))) then 10000 else Prod.fst (Prod.snd (g (Int.toNat j)))) (Prod.fst t1) (g (Int.toNat j)) out (Prod.snd t1))) (kn (S20b n g (IntKind.wrap IntKind.i64 (Prod.fst t2 + 1)) (Prod.fst (Prod.snd t2)) (Prod.snd (Prod.snd t2)))) (none)) (none)) (none)) (k (.exit 2) ({ env := [(2, .ref 2 0), (3, .ref 3 0)], objs := [(2, outO fun j => 0), (3, outO out)] })) := by subst h_t2 h_t1; kernel_rfl
set_option maxRecDepth 100000 in
theorem paint_main (g39 : List AV → List AO → Bool) (v39 : List AV → List AO → Int × (Nat → Int)) (ga gb : St → Bool) (va vb : St → (Nat → Int)) (oc : Orc) (m : Nat) (n : Nat) (g : Nat → Int × Int × Int) {t1 : Nat → Int} (h_t1 : va (S20a n g 0 fun j => 0) = t1) {t2 : Nat → Int} (h_t2 : vb { env := [(2, .ref 2 0), (3, .ref 3 0), (4, .ref 4 0), (6, .fn 39 [] [.ref 4 0]), (20, rngA n g), (21, .int .i64 ↑n), (22, .int .i64 0)], objs := [(2, outO fun j => 0), (3, outO fun j => 0), (4, .arr 1 10001 fun j => [.int .i64 (t1 j)])] } = t2) : runF (V.run [mkE 39 g39 v39 φ39] 1 [] [([1, 1, 1, 0, 1, 0], mkO ga va (F20a n g)), ([1, 1, 1, 1, 1, 0, 1, 0], mkO gb vb F20b), ([1, 1, 1, 1, 1, 0, 1, 0, 0, 1, 1, 0, 0, 1, 1, 1, 0], oc)] [] 20) m 20 [rngA n g] [] =
  cond (ga (S20a n g 0 fun j => 0)) (cond (gb (S20b n g 0 (fun j => 0) fun j => t1 j)) (some ((.arr 1 10000 fun j => [.int .i64 (t2 j)], []))) (none)) (none) := by subst h_t2 h_t1; kernel_rfl

theorem updN {nx nx' : Nat → Int} {i : Nat} {y : Int} (h : ∀ j, nx' j = if j = i then y else nx j) : (AO.arr 1 10001 fun j => bif Nat.beq j i then [AV.int .i64 y] else [.int .i64 (nx j)]) = nxO nx' := by
  unfold nxO
  congr 1
  funext j
  rw [h j]
  by_cases e : j = i
  · subst e; simp
  · simp [beqF e, e]
theorem updO {nx nx' : Nat → Int} {i : Nat} {y : Int} (h : ∀ j, nx' j = if j = i then y else nx j) : (AO.arr 1 10000 fun j => bif Nat.beq j i then [AV.int .i64 y] else [.int .i64 (nx j)]) = outO nx' := by
  unfold outO
  congr 1
  funext j
  rw [h j]
  by_cases e : j = i
  · subst e; simp
  · simp [beqF e, e]
theorem outO_inj {a b : Nat → Int} (h : outO a = outO b) : a = b := by
  simp only [outO, AO.arr.injEq, true_and] at h
  funext j
  have := congrFun h j
  simpa using this
/-- i entries are filled. -/
def initN (i : Nat) : Nat → Int := fun j => if j < i then (j : Int) else 0
theorem initN_all : initN 10001 = nxP 0 := by
  funext j; unfold initN nxP; by_cases h : j < 10001 <;> simp [h]
def outP (col : Nat → Int) (p : Nat) : Nat → Int := fun j => if j < p then col j else 0
def gE (e : Nat → Nat) (c : Nat → Int) : Nat → Int × Int × Int := fun j => ((e j : Nat), (e (j + 1) : Nat), c j)
noncomputable def E39 : Ent := entC 39 A39 O39 I39 w39 φ39
theorem A39_inj (a b : Nat × Nat) (ha : I39 a) (hb : I39 b) (_ : A39 a = A39 b) (ho : O39 a = O39 b) : w39 a = w39 b := by
  simp only [O39, List.cons.injEq, and_true] at ho
  have h2 := nxP_inj ha.1 hb.1 (nxO_inj ho)
  simp only [w39, h2]
theorem E39_ok : TabOk V [E39] := by
  intro e he l os hp
  simp only [List.mem_singleton] at he
  subst he
  exact entC_ok find_ok l os hp
noncomputable abbrev g39' : List AV → List AO → Bool := goodA A39 O39 I39
noncomputable abbrev v39' : List AV → List AO → Int × (Nat → Int) := valA A39 O39 I39 w39

section
variable (n : Nat) (e : Nat → Nat) (c col : Nat → Int)
def s20a (i : Nat) : St := S20a n (gE e c) (i : Nat) (initN i)
noncomputable def o20a : Orc := mkO (goodS (s20a n e c) (· ≤ 10001)) (valS (s20a n e c) (· ≤ 10001) fun _ => nxP 0) (F20a n (gE e c))
def s20b (j : Nat) : St := S20b n (gE e c) (j : Nat) (outP col (e j)) (nxP (e j))
noncomputable def o20b : Orc := mkO (goodS (s20b n e c col) (· ≤ n)) (valS (s20b n e c col) (· ≤ n) fun _ => outP col 10000) F20b
def s20c (v : Nat × Nat) : St := S20c n (gE e c) (v.1 : Nat) (e (v.1 + 1) : Nat) (v.2 : Nat) (gE e c v.1) (outP col v.2) (nxP v.2)
def I20c (v : Nat × Nat) : Prop := v.1 < n ∧ e v.1 ≤ v.2 ∧ v.2 ≤ e (v.1 + 1)
def w20c (v : Nat × Nat) : Int × (Nat → Int) × (Nat → Int) := ((v.1 : Nat), outP col (e (v.1 + 1)), nxP (e (v.1 + 1)))
noncomputable def o20c : Orc := mkO (goodS (s20c n e c col) (I20c n e)) (valS (s20c n e c col) (I20c n e) (w20c e col)) (F20c n (gE e c))
noncomputable def L20 : List (List Nat × Orc) := [([1, 1, 1, 0, 1, 0], o20a n e c), ([1, 1, 1, 1, 1, 0, 1, 0], o20b n e c col), ([1, 1, 1, 1, 1, 0, 1, 0, 0, 1, 1, 0, 0, 1, 1, 1, 0], o20c n e c col)]
variable (h0 : e 0 = 0) (hm : ∀ j, j < n → e j ≤ e (j + 1)) (hn : e n = 10000) (hc : ∀ j b, j < n → e j ≤ b → b < e (j + 1) → col b = c j)
include hm hn in
theorem e_le : ∀ d j, j + d = n → e j ≤ 10000
  | 0, j, h => by rw [show j = n by omega, hn]; exact Nat.le_refl _
  | d + 1, j, h => Nat.le_trans (hm j (by omega)) (e_le d (j + 1) (by omega))
theorem paint_a (L : List (List Nat × Orc)) : LoopOk (V.run [E39] 1 [] L [] 20) 20 [1, 1, 1, 0, 1, 0] (o20a n e c) := by
  refine loopOk_of (b := subC (bodyOf V.P 20) ([1, 1, 1, 0, 1, 0] ++ [0])) (s20a n e c) (· ≤ 10001) (fun i => 10001 - i) (fun _ => nxP 0) (F20a n (gE e c)) (by kernel_rfl) 0 fun i hi k kn hk => ?_
  have hi : i ≤ 10001 := hi
  refine (paint_ra g39' v39' L 0 n (gE e c) _ _ kn k).trans ?_
  by_cases h : i < 10001
  · rw [decide_eq_true (show ((i : Nat) : Int) < 10001 by omega), within_of (n := 10001) (by omega) (by omega), Int.toNat_natCast, bltT h, wrap_i64 (by omega) (by omega)]
    rw [updN (nx' := initN (i + 1)) (fun j => by unfold initN; by_cases e : j = i <;> simp [e] <;> omega)]
    simp only [cond_true]
    exact hk (i + 1) (by first | omega | (dsimp only; omega)) (by first | omega | (dsimp only; omega))
  · obtain rfl : i = 10001 := by omega
    rw [initN_all]; rfl
include hm hn hc in
theorem paint_c (L : List (List Nat × Orc)) : LoopOk (V.run [E39] 1 [] L [] 20) 20 [1, 1, 1, 1, 1, 0, 1, 0, 0, 1, 1, 0, 0, 1, 1, 1, 0] (o20c n e c col) := by
  refine loopOk_of (b := subC (bodyOf V.P 20) ([1, 1, 1, 1, 1, 0, 1, 0, 0, 1, 1, 0, 0, 1, 1, 1, 0] ++ [0])) (s20c n e c col) (I20c n e) (fun v => e (v.1 + 1) - v.2) (w20c e col) (F20c n (gE e c)) (by kernel_rfl) 0 fun v hv k kn hk => ?_
  obtain ⟨j, p⟩ := v
  obtain ⟨h1, h2, h3⟩ := hv
  dsimp only at h1 h2 h3
  have h4 : e (j + 1) ≤ 10000 := e_le n e hm hn (n - (j + 1)) (j + 1) (by omega)
  by_cases h : p < e (j + 1)
  · have hup : (AO.arr 1 10001 fun j => bif Nat.beq j p then [AV.int .i64 ((p + 1 : Nat) : Int)] else [.int .i64 (nxP p j)]) = nxO (nxP (p + 1)) :=
      updN fun b => by unfold nxP; by_cases e : b = p <;> simp [e] <;> (repeat' split) <;> omega
    have hi : I39 (p, p + 1) := ⟨by dsimp only; omega, .inr rfl⟩
    have hw : IntKind.wrap .i64 ((p : Int) + 1) = ((p + 1 : Nat) : Int) := by rw [wrap_i64 (by omega) (by omega)]; rfl
    refine (paint_rc g39' v39' L 0 n (gE e c) _ _ _ _ _ _ kn k (t1 := w39 (p, p + 1)) ?_).trans ?_
    · rw [Int.toNat_natCast, hw, hup]
      exact valA_eq (v := (p, p + 1)) A39_inj hi
    · rw [Int.toNat_natCast, hw, hup, show g39' [.int .i64 (p : Nat), .ref 1000000 0] [nxO (nxP (p + 1))] = true from goodA_eq (v := (p, p + 1)) hi]
      rw [decide_eq_true (show ((p : Nat) : Int) < (e (j + 1) : Nat) by omega), within_of (n := 10000) (by omega) (by omega), within_of (n := 10001) (by omega) (by omega), bltT (show p < 10000 by omega), bltT (show p < 10001 by omega)]
      rw [updO (nx' := outP col (p + 1)) (fun b => by
        unfold outP gE
        by_cases e : b = p
        · subst e; simp; exact hc j b h1 h2 h
        · simp [e]; by_cases hb : b < p
          · simp [hb]; omega
          · simp [hb]; omega)]
      simp only [cond_true]
      exact hk (j, p + 1) ⟨h1, by dsimp only; omega, by dsimp only; omega⟩ (by first | omega | (dsimp only; omega))
  · obtain rfl : p = e (j + 1) := by omega
    refine (paint_rc g39' v39' L 0 n (gE e c) _ _ _ _ _ _ kn k rfl).trans ?_
    rw [decide_eq_false (show ¬ ((e (j + 1) : Nat) : Int) < (e (j + 1) : Nat) by omega)]
    rfl
include hm hn hc in
theorem paint_b (hl : n < 1000000) : LoopOk (V.run [E39] 1 [] (L20 n e c col) [] 20) 20 [1, 1, 1, 1, 1, 0, 1, 0] (o20b n e c col) := by
  refine loopOk_of (b := subC (bodyOf V.P 20) ([1, 1, 1, 1, 1, 0, 1, 0] ++ [0])) (s20b n e c col) (· ≤ n) (fun j => n - j) (fun _ => outP col 10000) F20b (by kernel_rfl) 0 fun j hj k kn hk => ?_
  have hj : j ≤ n := hj
  by_cases h : j < n
  · have h3 : e j ≤ 10000 := e_le n e hm hn (n - j) j (by omega)
    have h4 : e (j + 1) ≤ 10000 := e_le n e hm hn (n - (j + 1)) (j + 1) (by omega)
    have hi : I39 (e j, e j) := ⟨h3, .inl rfl⟩
    have hic : I20c n e (j, e j) := ⟨h, Nat.le_refl _, hm j h⟩
    have c1 : (bif decide (10000 < bif decide (0 > Prod.fst (gE e c (Int.toNat (j : Nat)))) then 0 else Prod.fst (gE e c (Int.toNat (j : Nat)))) then 10000 else bif decide (0 > Prod.fst (gE e c (Int.toNat (j : Nat)))) then 0 else Prod.fst (gE e c (Int.toNat (j : Nat)))) = ((e j : Nat) : Int) := by
      rw [Int.toNat_natCast]
      show (bif decide ((10000 : Int) < bif decide (0 > ((e j : Nat) : Int)) then 0 else ((e j : Nat) : Int)) then 10000 else bif decide (0 > ((e j : Nat) : Int)) then 0 else ((e j : Nat) : Int)) = _
      rw [decide_eq_false (show ¬ 0 > ((e j : Nat) : Int) by omega), cond_false, decide_eq_false (show ¬ 10000 < ((e j : Nat) : Int) by omega), cond_false]
    have c2 : (bif decide (10000 < Prod.fst (Prod.snd (gE e c (Int.toNat (j : Nat))))) then 10000 else Prod.fst (Prod.snd (gE e c (Int.toNat (j : Nat))))) = ((e (j + 1) : Nat) : Int) := by
      rw [Int.toNat_natCast]
      show (bif decide ((10000 : Int) < ((e (j + 1) : Nat) : Int)) then 10000 else ((e (j + 1) : Nat) : Int)) = _
      rw [decide_eq_false (show ¬ 10000 < ((e (j + 1) : Nat) : Int) by omega), cond_false]
    refine (paint_rb g39' v39' _ _ _ _ 0 n (gE e c) _ _ _ kn k (t1 := w39 (e j, e j)) (t2 := w20c e col (j, e j)) ?_ ?_).trans ?_
    · rw [c1]
      exact valA_eq (v := (e j, e j)) A39_inj hi
    · rw [c2, Int.toNat_natCast]
      exact valS_eq (S := s20c n e c col) (w := w20c e col) (v := (j, e j)) (fun a b _ _ h => by
        simp only [s20c, S20c, St.mk.injEq, List.cons.injEq, Prod.mk.injEq, AV.int.injEq, and_true, true_and] at h
        have : a.1 = b.1 := by omega
        simp only [w20c, this]) hic
    · rw [c1, c2, Int.toNat_natCast]
      rw [show g39' [.int .i64 (e j : Nat), .ref 1000000 0] [nxO (nxP (e j))] = true from goodA_eq (v := (e j, e j)) hi]
      rw [show goodS (s20c n e c col) (I20c n e) (S20c n (gE e c) (j : Nat) (e (j + 1) : Nat) (Prod.fst (w39 (e j, e j))) (gE e c j) (outP col (e j)) (Prod.snd (w39 (e j, e j)))) = true from goodS_eq (S := s20c n e c col) (v := (j, e j)) hic]
      rw [decide_eq_true (show ((j : Nat) : Int) < (n : Nat) by omega), within_of (by omega) (by omega)]
      simp only [cond_true]
      have := hk (j + 1) (by first | omega | (dsimp only; omega)) (by first | omega | (dsimp only; omega))
      rw [show IntKind.wrap .i64 (Prod.fst (w20c e col (j, e j)) + 1) = ((j + 1 : Nat) : Int) by rw [wrap_i64] <;> simp only [w20c] <;> omega]
      exact this
  · obtain rfl : j = n := by omega
    refine (paint_rb g39' v39' _ _ _ _ 0 j (gE e c) _ _ _ kn k rfl rfl).trans ?_
    rw [decide_eq_false (show ¬ ((j : Nat) : Int) < (j : Nat) by omega), hn]
    rfl
include h0 hm hn hc in
theorem paint_ok (hl : n < 1000000) : Ct V.P V.G 20 [rngA n (gE e c)] [] (.arr 1 10000 fun j => [.int .i64 (outP col 10000 j)], []) := by
  refine ct_of_run (T := [E39]) (d := 1) (C := []) (L := L20 n e c col) (W := []) (n := 0) mixed funcs E39_ok (fun e he => by simp at he)
    (fun x hx => by
      simp only [L20, List.mem_cons, List.not_mem_nil, or_false] at hx
      rcases hx with rfl | rfl | rfl
      · exact paint_a n e c _
      · exact paint_b n e c col hm hn hc hl
      · exact paint_c n e c col hm hn hc _)
    (fun e he => by simp at he) ?_
  have ha : (fun _ => 0 : Nat → Int) = initN 0 := by funext j; simp [initN]
  have hb : (fun _ => 0 : Nat → Int) = outP col (e 0) := by funext j; simp [outP, h0]
  have hx : nxP 0 = nxP (e 0) := by rw [h0]
  have hs : S20b n (gE e c) 0 (fun _ => 0) (fun j => nxP 0 j) = s20b n e c col 0 := by unfold s20b; rw [← hb, ← hx]; rfl
  refine (paint_main g39' v39' _ _ _ _ _ 0 n (gE e c) (t1 := nxP 0) (t2 := outP col 10000) ?_ ?_).trans ?_
  · rw [ha]
    exact valS_eq (S := s20a n e c) (w := fun _ => nxP 0) (v := 0) (fun _ _ _ _ _ => rfl) (Nat.zero_le _)
  · refine (congrArg _ hs).trans ?_
    exact valS_eq (S := s20b n e c col) (w := fun _ => outP col 10000) (v := 0) (fun _ _ _ _ _ => rfl) (Nat.zero_le _)
  · rw [show goodS (s20a n e c) (· ≤ 10001) (S20a n (gE e c) 0 fun _ => 0) = true by rw [ha]; exact goodS_eq (S := s20a n e c) (v := 0) (Nat.zero_le _)]
    rw [show goodS (s20b n e c col) (· ≤ n) (S20b n (gE e c) 0 (fun _ => 0) fun j => nxP 0 j) = true by rw [hs]; exact goodS_eq (S := s20b n e c col) (v := 0) (Nat.zero_le _)]
    rfl
end
end Go.WS
