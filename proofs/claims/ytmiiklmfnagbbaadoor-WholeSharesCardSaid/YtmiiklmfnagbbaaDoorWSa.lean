/- bucket.paint$1: the search for the next bucket without a range. -/
import Derived.Test.YtmiiklmfnagbbaaDoorWS0
namespace Go.WS
open Go Go.Ab Go.Proofs
set_option linter.unusedVariables false
set_option linter.unusedSimpArgs false
def nxO (nx : Nat → Int) : AO := .arr 1 10001 fun j => [.int .i64 (nx j)]
def S39 (x : Int) (nx : Nat → Int) : St := { env := [(0, .int .i64 x), (1, .ref 1000000 0)], objs := [(1000000, nxO nx)] }
def S39' (t : Int × (Nat → Int)) : St := S39 t.1 t.2
def F39 (t : Int × (Nat → Int)) (k : Ex → St → Res) : Res := k (.exit 0) { env := [(0, .int .i64 t.1)], objs := [(1000000, nxO t.2)] }
set_option maxRecDepth 100000 in
theorem find_round (gw : St → Bool) (vw : St → Int × (Nat → Int)) (L : List (List Nat × Orc)) (n : Nat) (x : Int) (nx : Nat → Int) (kn : St → Res) (k : Ex → St → Res) {t1 : Int × (Nat → Int)} (h_t1 : vw { env := [(0, .int .i64 x), (1, .ref 1000000 0)], objs := [(1000000, .arr 1 10001 fun j => bif Nat.beq j (Int.toNat x) then [.int .i64 (nx (Int.toNat (nx (Int.toNat x))))] else [.int .i64 (nx j)])] } = t1) : roundR (V.run [] 0 [] L [([1, 0, 0, 0, 1, 0, 1], mkV gw vw S39')] 39) 39 n [1, 0, 0] (S39 x nx) kn k =
  cond (within x 10001) (cond (Nat.blt (Int.toNat x) 10001) (cond (nx (Int.toNat x) != x) (cond (within x 10001) (cond (Nat.blt (Int.toNat x) 10001) (cond (within (nx (Int.toNat x)) 10001) (cond (Nat.blt (Int.toNat (nx (Int.toNat x))) 10001) (cond (within x 10001) (cond (Nat.blt (Int.toNat x) 10001) (cond (gw { env := [(0, .int .i64 x), (1, .ref 1000000 0)], objs := [(1000000, .arr 1 10001 fun j => bif Nat.beq j (Int.toNat x) then [.int .i64 (nx (Int.toNat (nx (Int.toNat x))))] else [.int .i64 (nx j)])] }) (cond (within (Prod.fst t1) 10001) (cond (Nat.blt (Int.toNat (Prod.fst t1)) 10001) (kn (S39 (Prod.snd t1 (Int.toNat (Prod.fst t1))) (Prod.snd t1))) (none)) (none)) (none)) (none)) (none)) (none)) (none)) (none)) (none)) (k (.exit 0) ({ env := [(0, .int .i64 x)], objs := [(1000000, nxO nx)] }))) (none)) (none) := by subst h_t1; kernel_rfl
set_option maxRecDepth 100000 in
theorem find_main (w : Vw) (g : St → Bool) (v : St → Int × (Nat → Int)) (n : Nat) (x : Int) (nx : Nat → Int) {t1 : Int × (Nat → Int)} (h_t1 : v (S39 x nx) = t1) : runF (V.run [] 0 [] [([1, 0, 0], mkO g v F39)] [([1, 0, 0, 0, 1, 0, 1], w)] 39) n 39 [.int .i64 x, .ref 1000000 0] [nxO nx] =
  cond (g (S39 x nx)) (some ((.int .i64 (Prod.fst t1), [nxO (Prod.snd t1)]))) (none) := by subst h_t1; kernel_rfl

theorem nxO_inj {a b : Nat → Int} (h : nxO a = nxO b) : a = b := by
  simp only [nxO, AO.arr.injEq, true_and] at h
  funext j
  have := congrFun h j
  simpa using this
theorem S39_inj {x y : Int} {a b : Nat → Int} (h : S39 x a = S39 y b) : x = y ∧ a = b := by
  simp only [S39, St.mk.injEq, List.cons.injEq, Prod.mk.injEq, AV.int.injEq, and_true, true_and] at h
  exact ⟨h.1, nxO_inj h.2⟩
/-- The buckets before p are painted. -/
def nxP (p : Nat) : Nat → Int := fun j => if j < 10001 then (if j < p then (j : Int) + 1 else (j : Int)) else 0
theorem nxP_lt {p j : Nat} (hp : p ≤ 10000) (h : j < p) : nxP p j = (j : Int) + 1 := by unfold nxP; rw [if_pos (by omega), if_pos h]
theorem nxP_ge {p j : Nat} (hj : j ≤ 10000) (h : p ≤ j) : nxP p j = (j : Int) := by unfold nxP; rw [if_pos (by omega), if_neg (by omega)]
theorem nxP_inj {p q : Nat} (hp : p ≤ 10000) (hq : q ≤ 10000) (h : nxP p = nxP q) : p = q := by
  rcases Nat.lt_trichotomy p q with h1 | h1 | h1
  · have := congrFun h p; rw [nxP_ge hp (Nat.le_refl _), nxP_lt hq h1] at this; omega
  · exact h1
  · have := congrFun h q; rw [nxP_ge hq (Nat.le_refl _), nxP_lt hp h1] at this; omega

/-- x is the first bucket without a range, or the one before it. -/
def I39 (v : Nat × Nat) : Prop := v.2 ≤ 10000 ∧ (v.1 = v.2 ∨ v.1 + 1 = v.2)
def s39 (v : Nat × Nat) : St := S39 (v.1 : Nat) (nxP v.2)
def w39 (v : Nat × Nat) : Int × (Nat → Int) := ((v.2 : Nat), nxP v.2)
theorem w39_inj (a b : Nat × Nat) (ha : I39 a) (hb : I39 b) (h : s39 a = s39 b) : w39 a = w39 b := by
  have h2 := nxP_inj ha.1 hb.1 (S39_inj h).2
  simp only [w39, h2]
theorem upd_same {nx : Nat → Int} {i : Nat} {y : Int} (h : nx i = y) : (AO.arr 1 10001 fun j => bif Nat.beq j i then [AV.int .i64 y] else [.int .i64 (nx j)]) = nxO nx := by
  unfold nxO
  congr 1
  funext j
  by_cases e : j = i
  · subst e; simp [h]
  · simp [beqF e]
noncomputable def vw39 : St → Int × (Nat → Int) := valS S39' (fun _ => True) id
noncomputable def gw39 : St → Bool := goodS S39' (fun _ => True)
theorem gw39_eq (x : Int) (nx : Nat → Int) : gw39 (S39 x nx) = true := goodS_eq (S := S39') (v := (x, nx)) trivial
theorem vw39_eq (x : Int) (nx : Nat → Int) : vw39 (S39 x nx) = (x, nx) := valS_eq (S := S39') (w := id) (v := (x, nx)) (fun a b _ _ h => by obtain ⟨h1, h2⟩ := S39_inj h; exact Prod.ext h1 h2) trivial

noncomputable def T39 : List (List Nat × Orc) := [([1, 0, 0], mkO (goodS s39 I39) (valS s39 I39 w39) F39)]
noncomputable def W39 : List (List Nat × Vw) := [([1, 0, 0, 0, 1, 0, 1], mkV gw39 vw39 S39')]
theorem find_loop : LoopOk (V.run [] 0 [] T39 W39 39) 39 [1, 0, 0] (mkO (goodS s39 I39) (valS s39 I39 w39) F39) := by
  refine loopOk_of (b := subC (bodyOf V.P 39) [1, 0, 0, 0]) s39 I39 (fun v => v.2 - v.1) w39 F39 (by kernel_rfl) 0 fun v hv k kn hk => ?_
  obtain ⟨x, p⟩ := v
  obtain ⟨h1, h2⟩ := hv
  dsimp only at h1 h2
  have a1 : within (x : Int) 10001 = true := within_of (by omega) (by omega)
  have a2 : Nat.blt x 10001 = true := bltT (by omega)
  rcases h2 with rfl | rfl
  · have a3 : (nxP x x != (x : Int)) = false := by rw [nxP_ge h1 (Nat.le_refl _)]; simp
    refine (find_round gw39 vw39 T39 0 _ _ kn k rfl).trans ?_
    simp only [Int.toNat_natCast, a1, a2, a3, cond_true, cond_false]
    rfl
  · have a0 : nxP (x + 1) x = ((x + 1 : Nat) : Int) := by rw [nxP_lt h1 (by omega)]; rfl
    have a3 : (nxP (x + 1) x != (x : Int)) = true := by rw [a0]; simp; omega
    have a4 : within ((x + 1 : Nat) : Int) 10001 = true := within_of (by omega) (by omega)
    have a5 : Nat.blt (x + 1) 10001 = true := bltT (by omega)
    have a6 : nxP (x + 1) (x + 1) = ((x + 1 : Nat) : Int) := nxP_ge h1 (Nat.le_refl _)
    have a7 := upd_same (nx := nxP (x + 1)) (i := x) a0
    refine (find_round gw39 vw39 T39 0 _ _ kn k (t1 := ((x : Int), nxP (x + 1))) ?_).trans ?_
    · simp only [Int.toNat_natCast, a0, a6, a7]
      exact vw39_eq _ _
    · have := gw39_eq (x : Int) (nxP (x + 1))
      unfold S39 at this
      simp only [Int.toNat_natCast, a0, a1, a2, a4, a5, a6, a7, this, cond_true]
      rw [show (((x + 1 : Nat) : Int) != (x : Int)) = true by rw [← a0]; exact a3, cond_true]
      exact hk (x + 1, x + 1) ⟨h1, .inl rfl⟩ (by dsimp only; omega)

def A39 (v : Nat × Nat) : List AV := [.int .i64 (v.1 : Nat), .ref 1000000 0]
def O39 (v : Nat × Nat) : List AO := [nxO (nxP v.2)]
def φ39 (t : Int × (Nat → Int)) : AV × List AO := (.int .i64 t.1, [nxO t.2])
theorem find_ok (v : Nat × Nat) (hv : I39 v) : Ct V.P V.G 39 (A39 v) (O39 v) (φ39 (w39 v)) := by
  refine ct_of_run (T := []) (d := 0) (C := []) (L := T39) (W := W39) (n := 0) mixed funcs (fun e he => by simp at he) (fun e he => by simp at he)
    (fun e he => by simp only [T39, List.mem_singleton] at he; subst he; exact find_loop)
    (fun e he => by simp only [W39, List.mem_singleton] at he; subst he; exact viewOk_of _ _) ?_
  refine (find_main (mkV gw39 vw39 S39') _ _ 0 _ _ (valS_eq (S := s39) (v := v) w39_inj hv)).trans ?_
  rw [show goodS s39 I39 (S39 (v.1 : Nat) (nxP v.2)) = true from goodS_eq (S := s39) hv, cond_true]
  rfl
end Go.WS
