/- New: its contract; ShapeParts: equations. ShapeParts: the law answers true. ShapeParts: the law answers true (the whole run). Reading a row's data as abstract values: numbers, texts, bools, slices, structs, to any depth. ShapeFlags: the row's data as flags, segments, layers, experiments. The package variables that a row lists, as the evaluator's globals. The Shape seat's globals out of a row's list; a slice's and a struct's arguments. Listed variables that hold slices of texts. The globals of the draws out of a row's list; a slice of bytes that came in. -/
import Derived.Test.YtnldpiohcmgkdaaGreatDoorX6
import Derived.ChangeArms
import Derived.ChangeShapes
import Derived.FnData
import Derived.MakeChecks
import Derived.Test.YtnldpiohcmgkdaaGreatDoorCards
import Derived.Test.YtnldpiohcmgkdaaGreatDoorTie
namespace Go.SH
open Go Go.Ab Go.Proofs
set_option linter.unusedVariables false
set_option linter.unusedSimpArgs false
def φNew (C : CODES) : AV × List AO := (.ref keyBase 0, [codO C])
def NST (t : EXP) : Nat → List AV
  | 0 => eC t
  | n + 1 => exK 4 (.sl .fit 5 1 (fillGet ex0 [(0, .agg (NST t n))]))
structure QV where
  e : EXP
  a : EXP
  n : EXP
  w : Nat
  d : Nat
instance : Inhabited QV := ⟨⟨default, default, default, 0, 0⟩⟩
def PS (w d : Int) (e : EXP) (D : CODES) (m : Nat) (get : Nat → List AV) (i : Int) : St := { env := [(1, .int .i64 w), (2, .int .i64 d), (7, .ref 19 0), (8, .ref 8 0), (9, .ref 9 0), (10, .int .i64 i)], objs := [(8, .cells (eC e)), (9, .cells (exK 3 (.sl (.key 44) 5 m get))), (19, codO D), (44, .own 5 m)] }
def PE (w d : Int) (e : EXP) (D : CODES) (m : Nat) (get : Nat → List AV) : St := { env := [(1, .int .i64 w), (2, .int .i64 d), (7, .ref 19 0), (8, .ref 8 0), (9, .ref 9 0)], objs := [(8, .cells (eC e)), (9, .cells (exK 3 (.sl (.key 44) 5 m get))), (19, codO D), (44, .own 5 m)] }
def PN (w d : Int) (e : EXP) (m : Nat) (get : Nat → List AV) (x : List AV) (i : Int) : St := { env := [(1, .int .i64 w), (2, .int .i64 d), (8, .ref 8 0), (9, .ref 9 0), (12, .ref 12 0), (13, .int .i64 i)], objs := [(8, .cells (eC e)), (9, .cells (exK 3 (.sl (.key 44) 5 m get))), (12, .cells x), (44, .own 5 m)] }
def PQ (w d : Int) (e : EXP) (m : Nat) (get : Nat → List AV) (x : List AV) : St := { env := [(1, .int .i64 w), (2, .int .i64 d), (8, .ref 8 0), (9, .ref 9 0), (12, .ref 12 0)], objs := [(8, .cells (eC e)), (9, .cells (exK 3 (.sl (.key 44) 5 m get))), (12, .cells x), (44, .own 5 m)] }
def PV (x : QV) : St := { env := [(1, .int .i64 x.w), (2, .int .i64 x.d), (8, .ref 8 0), (9, .ref 9 0), (12, .ref 12 0)], objs := [(8, .cells (eC x.e)), (9, .cells (eC x.a)), (12, .cells (eC x.n)), (44, .own 5 x.w)] }
def outP1 (x : (EXP × CODES) × Nat × Int) (k : Ex → St → Res) : Res := k (.exit 0) (PE x.2.1 x.2.2 x.1.1 x.1.2 x.2.1 (getX (List.replicate x.2.1 (kidOf 3 x.1.1))))
structure NV where
  e : EXP
  w : Nat
  t : EXP
  b : Bool
  q : Nat
instance : Inhabited NV := ⟨⟨default, 0, default, true, 0⟩⟩
def outP2 (d : Int) (x : NV) (k : Ex → St → Res) : Res := cond x.b (k (.exit 2) (PQ x.w d x.e x.w (getX (List.replicate x.w (kidOf 3 x.e))) (eC x.t))) (k (.exit 2) (PQ x.w d x.e x.w (getX (List.replicate x.w (kidOf 3 x.e))) (exK 4 (.sl .fit 5 1 (fillGet ex0 [(0, .agg (NST x.t x.q))])))))
def P3 (x : QV) (i : Nat) : St := { env := [(1, .int .i64 x.w), (2, .int .i64 x.d), (9, .ref 9 0), (12, .ref 12 0), (59, .sl .fit 5 3 (fillGet ex0 [(0, .agg (eC x.e)), (1, .agg (eC x.a)), (2, .agg (eC x.n))])), (60, .int .i64 3), (61, .int .i64 i)], objs := [(9, .cells (eC x.a)), (12, .cells (eC x.n)), (44, .own 5 x.w)] }
def P3E (x : QV) : St := { env := [(1, .int .i64 x.w), (2, .int .i64 x.d), (9, .ref 9 0), (12, .ref 12 0)], objs := [(9, .cells (eC x.a)), (12, .cells (eC x.n)), (44, .own 5 x.w)] }
def outP3 (x : QV) (k : Ex → St → Res) : Res := k (.exit 4) (P3E x)
set_option maxRecDepth 100000 in
theorem new_m (n : Nat) (g : Nat → Int) (m : Int)  : runFN (V2.run [] 3 [] [] [] 12) 9 12 [.sl .no 1 n fun j => [.int .u8 (g j)], .int .i64 m] =
  cond (decide ((↑n : Int) > m)) (cond (decide (0 ≤ (↑0 : Int)) && (decide ((↑0 : Int) ≤ m) && decide (m ≤ (↑n : Int)))) (some ((.ref 1000000 0, [.cells [.sl .no 1 (Int.toNat m - Int.toNat (↑0 : Int)) fun j => [.int .u8 (g (Int.toNat (↑0 : Int) + j))], .int .i64 0] ]))) (none)) (some ((.ref 1000000 0, [.cells [.sl .no 1 n fun j => [.int .u8 (g j)], .int .i64 0] ]))) := by kernel_rfl
set_option maxRecDepth 100000 in
theorem mod_m (x m : Int)  : runF (V2.run [] 3 [] [] [] 27) 9 27 [.int .i64 x, .int .i64 m] [] =
  cond (m != 0) (cond (decide (Int.tmod x m < 0)) (some ((.int .i64 (IntKind.wrap IntKind.i64 (Int.tmod x m + m)), []))) (some ((.int .i64 (Int.tmod x m), [])))) (none) := by kernel_rfl
set_option maxRecDepth 100000 in
theorem par_r0 (T : List Ent) (L : List (List Nat × Orc)) (wv : Vw) (m : Nat) (w d : Int) (e : EXP) (D : CODES) (kn : St → Res) (k : Ex → St → Res)  : roundR (V2.run T 3 [] L [([1, 1, 1, 1, 1, 1, 1, 1, 1], wv)] 9) 9 m [1, 1, 1, 1, 1, 1, 0, 1, 0] (PS w d e D 0 (fun _ => ex0) 0) kn k =
  cond (decide (0 < w)) (cond (EXP.op e == 3) (kn (PS w d e D 1 (appGet 0 1 (fun x => exK 0 (.sl .fit 0 0 fun x => [])) (fillGet (exK 0 (.sl .fit 0 0 fun x => [])) [(0, .agg (exK 4 (.sl .fit 5 1 (fillGet (exK 0 (.sl .fit 0 0 fun x => [])) [(0, .agg (eC e))]))))])) (IntKind.wrap IntKind.i64 (0 + 1)))) (kn (PS w d e D 1 (appGet 0 1 (fun x => exK 0 (.sl .fit 0 0 fun x => [])) (fillGet (exK 0 (.sl .fit 0 0 fun x => [])) [(0, .agg (eC e))])) (IntKind.wrap IntKind.i64 (0 + 1))))) (k (.exit 0) (PE w d e D 0 fun x => exK 0 (.sl .fit 0 0 fun x => []))) := by kernel_rfl
set_option maxRecDepth 100000 in
theorem par_r (T : List Ent) (L : List (List Nat × Orc)) (wv : Vw) (m : Nat) (w d : Int) (e : EXP) (D : CODES) (q : Nat) (get : Nat → List AV) (i : Nat) (kn : St → Res) (k : Ex → St → Res)  : roundR (V2.run T 3 [] L [([1, 1, 1, 1, 1, 1, 1, 1, 1], wv)] 9) 9 m [1, 1, 1, 1, 1, 1, 0, 1, 0] (PS w d e D (q + 1) get i) kn k =
  cond (decide ((↑i : Int) < w)) (cond (EXP.op e == 3) (cond (roomy (88) (q + 1 + 1) && Nat.beq (q + 1) (q + 1)) (kn (PS w d e D (q + 1 + 1) (appGet (q + 1) 1 get (fillGet (exK 0 (.sl .fit 0 0 fun x => [])) [(0, .agg (exK 4 (.sl .fit 5 1 (fillGet (exK 0 (.sl .fit 0 0 fun x => [])) [(0, .agg (eC e))]))))])) (IntKind.wrap IntKind.i64 ((↑i : Int) + 1)))) (none)) (cond (roomy (88) (q + 1 + 1) && Nat.beq (q + 1) (q + 1)) (kn (PS w d e D (q + 1 + 1) (appGet (q + 1) 1 get (fillGet (exK 0 (.sl .fit 0 0 fun x => [])) [(0, .agg (eC e))])) (IntKind.wrap IntKind.i64 ((↑i : Int) + 1)))) (none))) (k (.exit 0) (PE w d e D (q + 1) get)) := by kernel_rfl
set_option maxRecDepth 100000 in
theorem par_n0 (T : List Ent) (L : List (List Nat × Orc)) (wv : Vw) (m : Nat) (w d : Int) (e : EXP) (q : Nat) (get : Nat → List AV) (t : EXP) (kn : St → Res) (k : Ex → St → Res)  : roundR (V2.run T 3 [] L [([1, 1, 1, 1, 1, 1, 1, 1, 1], wv)] 9) 9 m [1, 1, 1, 1, 1, 1, 1, 1, 0, 1, 0] (PN w d e q get (eC t) 0) kn k =
  cond (decide (0 < d)) (kn (PN w d e q get (exK 4 (.sl .fit 5 1 (fillGet (exK 0 (.sl .fit 0 0 fun x => [])) [(0, .agg (eC t))]))) (IntKind.wrap IntKind.i64 (0 + 1)))) (k (.exit 2) (PQ w d e q get (eC t))) := by kernel_rfl
set_option maxRecDepth 100000 in
theorem par_n (T : List Ent) (L : List (List Nat × Orc)) (wv : Vw) (m : Nat) (w d : Int) (e : EXP) (q : Nat) (get gx : Nat → List AV) (i : Nat) (kn : St → Res) (k : Ex → St → Res)  : roundR (V2.run T 3 [] L [([1, 1, 1, 1, 1, 1, 1, 1, 1], wv)] 9) 9 m [1, 1, 1, 1, 1, 1, 1, 1, 0, 1, 0] (PN w d e q get (exK 4 (.sl .fit 5 1 gx)) i) kn k =
  cond (decide ((↑i : Int) < d)) (kn (PN w d e q get (exK 4 (.sl .fit 5 1 (fillGet (exK 0 (.sl .fit 0 0 fun x => [])) [(0, .agg (exK 4 (.sl .fit 5 1 gx)))]))) (IntKind.wrap IntKind.i64 ((↑i : Int) + 1)))) (k (.exit 2) (PQ w d e q get (exK 4 (.sl .fit 5 1 gx)))) := by kernel_rfl
set_option maxRecDepth 100000 in
theorem par_l0 (gc gp ge gf : List AV → List AO → Bool) (vc vp : List AV → List AO → Nat) (ve vf : List AV → List AO → Int) (T : List Ent) (L : List (List Nat × Orc)) (wv : Vw) (m : Nat) (x : QV) (kn : St → Res) (k : Ex → St → Res) {t1 : Nat} (h_t1 : vc [.agg (eC (QV.e x))] [] = t1) {t2 : Nat} (h_t2 : vp [.agg (eC (QV.e x))] [] = t2) {t3 : Int} (h_t3 : ve [.agg (eC (QV.e x))] [] = t3) {t4 : Int} (h_t4 : vf [.agg (eC (QV.e x))] [] = t4) : roundR (V2.run (mkE 48 gc vc φK :: mkE 49 gp vp φK :: mkE 15 ge ve φE :: mkE 16 gf vf φE :: T) 3 [] L [([1, 1, 1, 1, 1, 1, 1, 1, 1], wv)] 9) 9 m [1, 1, 1, 1, 1, 1, 1, 1, 1, 0, 1, 0] (P3 x 0) kn k =
  cond (gc [.agg (eC (QV.e x))] []) (cond (gp [.agg (eC (QV.e x))] []) (cond (ge [.agg (eC (QV.e x))] []) (cond (gf [.agg (eC (QV.e x))] []) (cond (bif (↑t1 : Int) != (↑t2 : Int) then true else t3 != t4) (k (.ret) ({ env := [(6, .bool false)], objs := [] })) (kn (P3 x ((0 + 1) % Int.natAbs (2 ^ IntKind.bits IntKind.i64))))) (none)) (none)) (none)) (none) := by subst h_t4 h_t3 h_t2 h_t1; kernel_rfl
set_option maxRecDepth 100000 in
theorem par_l1 (gc gp ge gf : List AV → List AO → Bool) (vc vp : List AV → List AO → Nat) (ve vf : List AV → List AO → Int) (T : List Ent) (L : List (List Nat × Orc)) (wv : Vw) (m : Nat) (x : QV) (kn : St → Res) (k : Ex → St → Res) {t1 : Nat} (h_t1 : vc [.agg (eC (QV.a x))] [] = t1) {t2 : Nat} (h_t2 : vp [.agg (eC (QV.a x))] [] = t2) {t3 : Int} (h_t3 : ve [.agg (eC (QV.a x))] [] = t3) {t4 : Int} (h_t4 : vf [.agg (eC (QV.a x))] [] = t4) : roundR (V2.run (mkE 48 gc vc φK :: mkE 49 gp vp φK :: mkE 15 ge ve φE :: mkE 16 gf vf φE :: T) 3 [] L [([1, 1, 1, 1, 1, 1, 1, 1, 1], wv)] 9) 9 m [1, 1, 1, 1, 1, 1, 1, 1, 1, 0, 1, 0] (P3 x 1) kn k =
  cond (gc [.agg (eC (QV.a x))] []) (cond (gp [.agg (eC (QV.a x))] []) (cond (ge [.agg (eC (QV.a x))] []) (cond (gf [.agg (eC (QV.a x))] []) (cond (bif (↑t1 : Int) != (↑t2 : Int) then true else t3 != t4) (k (.ret) ({ env := [(6, .bool false)], objs := [] })) (kn (P3 x ((1 + 1) % Int.natAbs (2 ^ IntKind.bits IntKind.i64))))) (none)) (none)) (none)) (none) := by subst h_t4 h_t3 h_t2 h_t1; kernel_rfl
set_option maxRecDepth 100000 in
theorem par_l2 (gc gp ge gf : List AV → List AO → Bool) (vc vp : List AV → List AO → Nat) (ve vf : List AV → List AO → Int) (T : List Ent) (L : List (List Nat × Orc)) (wv : Vw) (m : Nat) (x : QV) (kn : St → Res) (k : Ex → St → Res) {t1 : Nat} (h_t1 : vc [.agg (eC (QV.n x))] [] = t1) {t2 : Nat} (h_t2 : vp [.agg (eC (QV.n x))] [] = t2) {t3 : Int} (h_t3 : ve [.agg (eC (QV.n x))] [] = t3) {t4 : Int} (h_t4 : vf [.agg (eC (QV.n x))] [] = t4) : roundR (V2.run (mkE 48 gc vc φK :: mkE 49 gp vp φK :: mkE 15 ge ve φE :: mkE 16 gf vf φE :: T) 3 [] L [([1, 1, 1, 1, 1, 1, 1, 1, 1], wv)] 9) 9 m [1, 1, 1, 1, 1, 1, 1, 1, 1, 0, 1, 0] (P3 x 2) kn k =
  cond (gc [.agg (eC (QV.n x))] []) (cond (gp [.agg (eC (QV.n x))] []) (cond (ge [.agg (eC (QV.n x))] []) (cond (gf [.agg (eC (QV.n x))] []) (cond (bif (↑t1 : Int) != (↑t2 : Int) then true else t3 != t4) (k (.ret) ({ env := [(6, .bool false)], objs := [] })) (kn (P3 x ((2 + 1) % Int.natAbs (2 ^ IntKind.bits IntKind.i64))))) (none)) (none)) (none)) (none) := by subst h_t4 h_t3 h_t2 h_t1; kernel_rfl
set_option maxRecDepth 100000 in
theorem par_l3 (gc gp ge gf : List AV → List AO → Bool) (vc vp : List AV → List AO → Nat) (ve vf : List AV → List AO → Int) (T : List Ent) (L : List (List Nat × Orc)) (wv : Vw) (m : Nat) (x : QV) (kn : St → Res) (k : Ex → St → Res)  : roundR (V2.run (mkE 48 gc vc φK :: mkE 49 gp vp φK :: mkE 15 ge ve φE :: mkE 16 gf vf φE :: T) 3 [] L [([1, 1, 1, 1, 1, 1, 1, 1, 1], wv)] 9) 9 m [1, 1, 1, 1, 1, 1, 1, 1, 1, 0, 1, 0] (P3 x 3) kn k =
  k (.exit 4) (P3E x) := by kernel_rfl
set_option maxRecDepth 100000 in
theorem par_m (ga gn gx gt gc gp ge gf gm : List AV → List AO → Bool) (va : List AV → List AO → Bool) (vn : List AV → List AO → CODES) (vx vt : List AV → List AO → EXP × CODES) (vc vp : List AV → List AO → Nat) (ve vf vm : List AV → List AO → Int) (T : List Ent) (g1 g2 g3 g4 : St → Bool) (v1 : St → (EXP × CODES) × Nat × Int) (v2 : St → NV) (dp : Int) (v3 v4 : St → QV) (n : Nat) (g : Nat → Int) (wide deep : Int) {t1 : CODES} (h_t1 : vn [.sl .no 1 n fun j => [.int .u8 (g j)], .int .i64 120] [] = t1) {t2 : EXP × CODES} (h_t2 : vx [.ref 1000000 0, .sl .fit 0 0 fun x => [], .int .i64 4] [.cells [.sl .no 1 (CODES.n t1) fun j => [.int .u8 (CODES.g t1 j)], .int .i64 (↑(CODES.at' t1) : Int)] ] = t2) {t3 : Int} (h_t3 : vm [.int .i64 wide, .int .i64 12] [] = t3) {t4 : Int} (h_t4 : vm [.int .i64 deep, .int .i64 12] [] = t4) {t5 : (EXP × CODES) × Nat × Int} (h_t5 : v1 { env := [(1, .int .i64 (IntKind.wrap IntKind.i64 (2 + t3))), (2, .int .i64 t4), (7, .ref 19 0), (8, .ref 8 0), (9, .ref 9 0), (10, .int .i64 0)], objs := [(8, .cells (eC (Prod.fst t2))), (9, .cells (exK 3 (.sl (.key 44) 5 0 fun x => exK 0 (.sl .fit 0 0 fun x => [])))), (19, codO (Prod.snd t2)), (44, .own 5 0)] } = t5) {t6 : EXP × CODES} (h_t6 : vt [.ref 1000000 0] [codO (Prod.snd (Prod.fst t5))] = t6) {t7 : NV} (h_t7 : v2 (PN (↑(Prod.fst (Prod.snd t5)) : Int) (Prod.snd (Prod.snd t5)) (Prod.fst (Prod.fst t5)) (Prod.fst (Prod.snd t5)) (getX (List.replicate (Prod.fst (Prod.snd t5)) (kidOf 3 (Prod.fst (Prod.fst t5))))) (eC (Prod.fst t6)) 0) = t7) {t8 : QV} (h_t8 : v3 (PQ (↑(NV.w t7) : Int) dp (NV.e t7) (NV.w t7) (getX (List.replicate (NV.w t7) (kidOf 3 (NV.e t7)))) (eC (NV.t t7))) = t8) {t9 : QV} (h_t9 : v4 { env := [(1, .int .i64 (↑(QV.w t8) : Int)), (2, .int .i64 (↑(QV.d t8) : Int)), (9, .ref 9 0), (12, .ref 12 0), (59, .sl .fit 5 3 (fillGet (exK 0 (.sl .fit 0 0 fun x => [])) [(0, .agg (eC (QV.e t8))), (1, .agg (eC (QV.a t8))), (2, .agg (eC (QV.n t8)))])), (60, .int .i64 (↑3 : Int)), (61, .int .i64 0)], objs := [(9, .cells (eC (QV.a t8))), (12, .cells (eC (QV.n t8))), (44, .own 5 (QV.w t8))] } = t9) {t10 : Int} (h_t10 : ve [.agg (eC (QV.n t9))] [] = t10) {t11 : Int} (h_t11 : ve [.agg (eC (QV.a t9))] [] = t11) {t12 : Nat} (h_t12 : vc [.agg (eC (QV.a t9))] [] = t12) {t13 : QV} (h_t13 : v3 (PQ (↑(NV.w t7) : Int) dp (NV.e t7) (NV.w t7) (getX (List.replicate (NV.w t7) (kidOf 3 (NV.e t7)))) (exK 4 (.sl .fit 5 1 (fillGet (exK 0 (.sl .fit 0 0 fun x => [])) [(0, .agg (NST (NV.t t7) (NV.q t7)))])))) = t13) {t14 : QV} (h_t14 : v4 { env := [(1, .int .i64 (↑(QV.w t13) : Int)), (2, .int .i64 (↑(QV.d t13) : Int)), (9, .ref 9 0), (12, .ref 12 0), (59, .sl .fit 5 3 (fillGet (exK 0 (.sl .fit 0 0 fun x => [])) [(0, .agg (eC (QV.e t13))), (1, .agg (eC (QV.a t13))), (2, .agg (eC (QV.n t13)))])), (60, .int .i64 (↑3 : Int)), (61, .int .i64 0)], objs := [(9, .cells (eC (QV.a t13))), (12, .cells (eC (QV.n t13))), (44, .own 5 (QV.w t13))] } = t14) {t15 : Int} (h_t15 : ve [.agg (eC (QV.n t14))] [] = t15) {t16 : Int} (h_t16 : ve [.agg (eC (QV.a t14))] [] = t16) {t17 : Nat} (h_t17 : vc [.agg (eC (QV.a t14))] [] = t17) : runF (V2.run (mkE 48 gc vc φK :: mkE 49 gp vp φK :: mkE 15 ge ve φE :: mkE 16 gf vf φE :: mkE 10 ga va φB :: mkE 12 gn vn φNew :: mkE 13 gx vx φC :: mkE 47 gt vt φC :: mkE 27 gm vm φE :: T) 3 [] [([1, 1, 1, 1, 1, 1, 0, 1, 0], mkO g1 v1 outP1), ([1, 1, 1, 1, 1, 1, 1, 1, 0, 1, 0], mkO g2 v2 (outP2 dp)), ([1, 1, 1, 1, 1, 1, 1, 1, 1, 0, 1, 0], mkO g4 v4 outP3)] [([1, 1, 1, 1, 1, 1, 1, 1, 1], mkV g3 v3 PV)] 9) 9 9 [.sl .no 1 n fun j => [.int .u8 (g j)], .int .i64 wide, .int .i64 deep] [] =
  cond (ga [] []) (cond (!va [] []) (some ((.bool false, []))) (cond (gn [.sl .no 1 n fun j => [.int .u8 (g j)], .int .i64 120] []) (cond (gx [.ref 1000000 0, .sl .fit 0 0 fun x => [], .int .i64 4] [.cells [.sl .no 1 (CODES.n t1) fun j => [.int .u8 (CODES.g t1 j)], .int .i64 (↑(CODES.at' t1) : Int)] ]) (cond (gm [.int .i64 wide, .int .i64 12] []) (cond (gm [.int .i64 deep, .int .i64 12] []) (cond (g1 { env := [(1, .int .i64 (IntKind.wrap IntKind.i64 (2 + t3))), (2, .int .i64 t4), (7, .ref 19 0), (8, .ref 8 0), (9, .ref 9 0), (10, .int .i64 0)], objs := [(8, .cells (eC (Prod.fst t2))), (9, .cells (exK 3 (.sl (.key 44) 5 0 fun x => exK 0 (.sl .fit 0 0 fun x => [])))), (19, codO (Prod.snd t2)), (44, .own 5 0)] }) (cond (gt [.ref 1000000 0] [codO (Prod.snd (Prod.fst t5))]) (cond (g2 (PN (↑(Prod.fst (Prod.snd t5)) : Int) (Prod.snd (Prod.snd t5)) (Prod.fst (Prod.fst t5)) (Prod.fst (Prod.snd t5)) (getX (List.replicate (Prod.fst (Prod.snd t5)) (kidOf 3 (Prod.fst (Prod.fst t5))))) (eC (Prod.fst t6)) 0)) (cond (NV.b t7) (cond (g3 (PQ (↑(NV.w t7) : Int) dp (NV.e t7) (NV.w t7) (getX (List.replicate (NV.w t7) (kidOf 3 (NV.e t7)))) (eC (NV.t t7)))) (cond (g4 { env := [(1, .int .i64 (↑(QV.w t8) : Int)), (2, .int .i64 (↑(QV.d t8) : Int)), (9, .ref 9 0), (12, .ref 12 0), (59, .sl .fit 5 3 (fillGet (exK 0 (.sl .fit 0 0 fun x => [])) [(0, .agg (eC (QV.e t8))), (1, .agg (eC (QV.a t8))), (2, .agg (eC (QV.n t8)))])), (60, .int .i64 (↑3 : Int)), (61, .int .i64 0)], objs := [(9, .cells (eC (QV.a t8))), (12, .cells (eC (QV.n t8))), (44, .own 5 (QV.w t8))] }) (cond (ge [.agg (eC (QV.n t9))] []) (cond (ge [.agg (eC (QV.a t9))] []) (cond (gc [.agg (eC (QV.a t9))] []) (some ((.bool (bif (t10 == 0) == decide ((↑(QV.d t9) : Int) < 10) then (t11 == 0) == bif decide ((↑(QV.w t9) : Int) ≤ 12) then decide ((↑t12 : Int) ≤ 60) else false else false), []))) (none)) (none)) (none)) (none)) (none)) (cond (g3 (PQ (↑(NV.w t7) : Int) dp (NV.e t7) (NV.w t7) (getX (List.replicate (NV.w t7) (kidOf 3 (NV.e t7)))) (exK 4 (.sl .fit 5 1 (fillGet (exK 0 (.sl .fit 0 0 fun x => [])) [(0, .agg (NST (NV.t t7) (NV.q t7)))]))))) (cond (g4 { env := [(1, .int .i64 (↑(QV.w t13) : Int)), (2, .int .i64 (↑(QV.d t13) : Int)), (9, .ref 9 0), (12, .ref 12 0), (59, .sl .fit 5 3 (fillGet (exK 0 (.sl .fit 0 0 fun x => [])) [(0, .agg (eC (QV.e t13))), (1, .agg (eC (QV.a t13))), (2, .agg (eC (QV.n t13)))])), (60, .int .i64 (↑3 : Int)), (61, .int .i64 0)], objs := [(9, .cells (eC (QV.a t13))), (12, .cells (eC (QV.n t13))), (44, .own 5 (QV.w t13))] }) (cond (ge [.agg (eC (QV.n t14))] []) (cond (ge [.agg (eC (QV.a t14))] []) (cond (gc [.agg (eC (QV.a t14))] []) (some ((.bool (bif (t15 == 0) == decide ((↑(QV.d t14) : Int) < 10) then (t16 == 0) == bif decide ((↑(QV.w t14) : Int) ≤ 12) then decide ((↑t17 : Int) ≤ 60) else false else false), []))) (none)) (none)) (none)) (none)) (none))) (none)) (none)) (none)) (none)) (none)) (none)) (none))) (none) := by subst h_t17 h_t16 h_t15 h_t14 h_t13 h_t12 h_t11 h_t10 h_t9 h_t8 h_t7 h_t6 h_t5 h_t4 h_t3 h_t2 h_t1; kernel_rfl
end Go.SH

namespace Go.SH
open Go Go.Ab Go.Proofs
set_option linter.unusedVariables false
set_option linter.unusedSimpArgs false
theorem new_ok {n : Nat} {g : Nat → Int} (hg : ∀ j, j < n → 0 ≤ g j ∧ g j < 256) {m : Int} (h0 : 0 ≤ m) (h1 : m ≤ 1000) : ∃ C : CODES, C.Ok ∧ Ct V2.P V2.G 12 [.sl .no 1 n fun j => [.int .u8 (g j)], .int .i64 m] [] (φNew C) := by
  have e := new_m n g m
  by_cases h : (n : Int) > m
  · rw [decide_eq_true h, decide_eq_true (show (0 : Int) ≤ 0 from Int.le_refl _), decide_eq_true (show (0 : Int) ≤ m from h0), decide_eq_true (show m ≤ (n : Int) by omega)] at e
    have hz : (fun j => [AV.int .u8 (g (Int.toNat 0 + j))]) = fun j => [AV.int .u8 (g j)] := by
      funext j; rw [show Int.toNat 0 = 0 from rfl, Nat.zero_add]
    rw [hz] at e
    exact ⟨⟨m.toNat, g, 0⟩, ⟨Nat.zero_le _, by show m.toNat ≤ _; omega, fun j hj => hg j (by have : j < m.toNat := hj; omega)⟩, ct_new mixed2 funcs2 tabOk_nil e⟩
  · rw [decide_eq_false h] at e
    exact ⟨⟨n, g, 0⟩, ⟨Nat.zero_le _, by show n ≤ _; omega, hg⟩, ct_new mixed2 funcs2 tabOk_nil e⟩
def mA (x : Int × Int) : List AV := [.int .i64 x.1, .int .i64 x.2]
theorem mod_ex (x : Int × Int) (hm : 1 ≤ x.2 ∧ x.2 ≤ 1000000) : ∃ z : Int, (0 ≤ z ∧ z < x.2) ∧ Ct V2.P V2.G 27 (mA x) [] (φE z) := by
  obtain ⟨x, m⟩ := x
  obtain ⟨h1, h2⟩ := hm
  have h1 : 1 ≤ m := h1
  have h2 : m ≤ 1000000 := h2
  have e := mod_m x m
  rw [show (m != 0) = true by simp; omega] at e
  have l1 := Int.tmod_lt_of_pos x (show 0 < m by omega)
  have l2 := Int.lt_tmod_of_pos x (show 0 < m by omega)
  have hc := fun r he => ct_loops (V := V2) (f := 27) (l := mA (x, m)) (os := []) (r := r) (n := 9) (d := 3) (T := []) (L := []) mixed2 funcs2 tabOk_nil loopsOk_nil he
  by_cases h : Int.tmod x m < 0
  · rw [decide_eq_true h, wrap_i64 (by omega) (by omega)] at e
    exact ⟨Int.tmod x m + m, ⟨by omega, by show Int.tmod x m + m < m; omega⟩, hc _ e⟩
  · rw [decide_eq_false h] at e
    exact ⟨Int.tmod x m, ⟨by omega, l1⟩, hc _ e⟩
def eA (e : EXP) : List AV := [.agg (eC e)]
theorem eA_eq (e : EXP) : eA e = expA e := by unfold eA expA eC; rw [e.c_eq]
theorem eA_inj {τ : Type} (w : EXP → τ) (a b : EXP) (h : eA a = eA b) : w a = w b := by rw [eA_eq, eA_eq] at h; exact expA_inj w a b h
theorem eA_15 (e : EXP) (h : e.Ok) : Ct V2.P V2.G 15 (eA e) [] (φE (exprE e)) := by
  have := Ct.v2 (exp15_x e h)
  unfold exA at this
  rw [EXP.x_eq] at this
  rw [eA_eq]; exact this
theorem eA_16 (e : EXP) (h : e.Ok) : Ct V2.P V2.G 16 (eA e) [] (φE (exprE e)) := by
  have := Ct.v2 (exp16_x e h)
  unfold exA at this
  rw [EXP.x_eq] at this
  rw [eA_eq]; exact this
theorem eA_48 (e : EXP) (h : e.Ok) : Ct V2.P V2.G 48 (eA e) [] (φK (countE e 0)) := by rw [eA_eq]; exact cparts_ok e h
theorem eA_49 (e : EXP) (h : e.Ok) : Ct V2.P V2.G 49 (eA e) [] (φK (rpartsE e)) := by rw [eA_eq]; exact rsum_ok e h
noncomputable abbrev gE : List AV → List AO → Bool := gF eA EXP.Ok
theorem gE_eq {e : EXP} (h : e.Ok) : gF eA EXP.Ok [.agg (eC e)] [] = true := gF_eq (A := eA) h
theorem vE_eq {τ : Type} [Inhabited τ] {w : EXP → τ} {e : EXP} (h : e.Ok) : vF eA EXP.Ok w [.agg (eC e)] [] = w e := vF_eq (A := eA) (eA_inj w) h
section
variable (w d : Int) (e : EXP) (D : CODES)
def S1 : Nat → St
  | 0 => PS w d e D 0 (fun _ => ex0) 0
  | q + 1 => PS w d e D (q + 1) (getX (List.replicate (q + 1) (kidOf 3 e))) ((q + 1 : Nat) : Int)
theorem loop1 (W : Nat) (h2 : 2 ≤ W) (h13 : W ≤ 13) (T : List Ent) (wv : Vw) : ∀ L, LoopOk (V2.run T 3 [] L [([1, 1, 1, 1, 1, 1, 1, 1, 1], wv)] 9) 9 [1, 1, 1, 1, 1, 1, 0, 1, 0] (mkO (goodS (S1 W d e D) (· ≤ W)) (valS (S1 W d e D) (· ≤ W) fun _ => ((e, D), W, d)) outP1) := fun L =>
  loopOk_of (X := V2.run T 3 [] L [([1, 1, 1, 1, 1, 1, 1, 1, 1], wv)] 9) (b := subC (bodyOf V2.P 9) ([1, 1, 1, 1, 1, 1, 0, 1, 0] ++ [0])) (S1 W d e D) (· ≤ W) (fun i => W - i) (fun _ => ((e, D), W, d)) outP1 (by kernel_rfl) 9 fun i hi k kn hk => by
    have h0 : (fun _ : Nat => ex0) = getX [] := by funext j; rfl
    cases i with
    | zero =>
      refine (par_r0 T L wv 9 W d e D kn k).trans ?_
      rw [decide_eq_true (show (0 : Int) < (W : Int) by omega), cond_true]
      have h1 := getX_app [] (kidOf 3 e)
      have hk := hk 1 (by omega) (by omega)
      refine Eq.trans ?_ hk
      unfold kidOf at h1
      show _ = kn (PS W d e D 1 (getX (List.replicate 1 (kidOf 3 e))) ((1 : Nat) : Int))
      unfold kidOf
      cases hb : (e.op == 3) with
      | true =>
        rw [hb] at h1
        show kn (PS W d e D 1 (appGet 0 1 (fun _ => ex0) (fillGet ex0 [(0, .agg (KID.c (.neg e)))])) _) = kn (PS W d e D 1 (getX [.neg e]) _)
        rw [h0]; exact congrArg (fun g => kn (PS W d e D 1 g 1)) h1
      | false =>
        rw [hb] at h1
        show kn (PS W d e D 1 (appGet 0 1 (fun _ => ex0) (fillGet ex0 [(0, .agg (KID.c (.plain e)))])) _) = kn (PS W d e D 1 (getX [.plain e]) _)
        rw [h0]; exact congrArg (fun g => kn (PS W d e D 1 g 1)) h1
    | succ q =>
      have hi : q + 1 ≤ W := hi
      refine (par_r T L wv 9 W d e D q (getX (List.replicate (q + 1) (kidOf 3 e))) (q + 1) kn k).trans ?_
      by_cases hq : q + 1 < W
      · rw [decide_eq_true (show ((q + 1 : Nat) : Int) < (W : Int) by omega), cond_true]
        have h1 := getX_app (List.replicate (q + 1) (kidOf 3 e)) (kidOf 3 e)
        rw [List.length_replicate, ← List.replicate_succ'] at h1
        have hk := hk (q + 1 + 1) (by show q + 1 + 1 ≤ W; omega) (by omega)
        refine Eq.trans ?_ hk
        have hr : (roomy 88 (q + 1 + 1) && Nat.beq (q + 1) (q + 1)) = true := by
          rw [Nat.beq_refl, Bool.and_true]
          unfold roomy
          exact Nat.ble_eq_true_of_le (by omega)
        rw [hr, wrap_next (n := W) (by omega) (by omega)]
        show _ = kn (PS W d e D (q + 1 + 1) (getX (List.replicate (q + 1 + 1) (kidOf 3 e))) ((q + 1 + 1 : Nat) : Int))
        rw [← h1]
        generalize getX (List.replicate (q + 1) (kidOf 3 e)) = get
        unfold kidOf
        cases hb : (e.op == 3) with
        | true => rfl
        | false => rfl
      · rw [decide_eq_false (show ¬ ((q + 1 : Nat) : Int) < (W : Int) by omega), cond_false]
        have : W = q + 1 := by omega
        subst this
        rfl
end
section
variable (W : Nat) (dn : Nat) (e : EXP) (t : EXP)
def nvOf : NV := match dn with
  | 0 => ⟨e, W, t, true, 0⟩
  | q + 1 => ⟨e, W, t, false, q⟩
def S2 : Nat → St
  | 0 => PN W dn e W (getX (List.replicate W (kidOf 3 e))) (eC t) 0
  | q + 1 => PN W dn e W (getX (List.replicate W (kidOf 3 e))) (exK 4 (.sl .fit 5 1 (fillGet ex0 [(0, .agg (NST t q))]))) ((q + 1 : Nat) : Int)
theorem loop2 (h : dn ≤ 11) (T : List Ent) (wv : Vw) : ∀ L, LoopOk (V2.run T 3 [] L [([1, 1, 1, 1, 1, 1, 1, 1, 1], wv)] 9) 9 [1, 1, 1, 1, 1, 1, 1, 1, 0, 1, 0] (mkO (goodS (S2 W dn e t) (· ≤ dn)) (valS (S2 W dn e t) (· ≤ dn) fun _ => nvOf W dn e t) (outP2 dn)) := fun L =>
  loopOk_of (X := V2.run T 3 [] L [([1, 1, 1, 1, 1, 1, 1, 1, 1], wv)] 9) (b := subC (bodyOf V2.P 9) ([1, 1, 1, 1, 1, 1, 1, 1, 0, 1, 0] ++ [0])) (S2 W dn e t) (· ≤ dn) (fun i => dn - i) (fun _ => nvOf W dn e t) (outP2 dn) (by kernel_rfl) 9 fun i hi k kn hk => by
    cases i with
    | zero =>
      refine (par_n0 T L wv 9 W dn e W _ t kn k).trans ?_
      cases dn with
      | zero => rfl
      | succ q =>
        rw [decide_eq_true (show (0 : Int) < ((q + 1 : Nat) : Int) by omega), cond_true]
        exact hk 1 (by show 1 ≤ q + 1; omega) (by omega)
    | succ i =>
      have hi : i + 1 ≤ dn := hi
      refine (par_n T L wv 9 W dn e W _ (fillGet ex0 [(0, .agg (NST t i))]) (i + 1) kn k).trans ?_
      by_cases hq : i + 1 < dn
      · rw [decide_eq_true (show ((i + 1 : Nat) : Int) < (dn : Int) by omega), cond_true, wrap_next (n := dn) (by omega) (by omega)]
        exact hk (i + 1 + 1) (by show i + 1 + 1 ≤ dn; omega) (by omega)
      · rw [decide_eq_false (show ¬ ((i + 1 : Nat) : Int) < (dn : Int) by omega), cond_false]
        have : dn = i + 1 := by omega
        subst this
        rfl
/-- The nest, as its loop builds it, told. -/
theorem nst_told : ∀ q, Go.Ab.Told (NST t q) (eC (notN q t))
  | 0 => ⟨rfl, expC_keys _ _ _ _ _ _, tells_refl t⟩
  | q + 1 => ⟨rfl, expC_keys _ _ _ _ _ _, tells_exK (ks := [notN q t]) fun j hj => by
      match j, hj with
      | 0, _ =>
        rw [row_eC (by simp)]
        exact (nst_told q).2.2⟩
def qvOf : QV := ⟨e, allX e W, notN dn t, W, dn⟩
def S3 : St := match dn with
  | 0 => PQ W dn e W (getX (List.replicate W (kidOf 3 e))) (eC t)
  | q + 1 => PQ W dn e W (getX (List.replicate W (kidOf 3 e))) (exK 4 (.sl .fit 5 1 (fillGet ex0 [(0, .agg (NST t q))])))
theorem view3 : ViewOk (mkV (goodS (fun _ : Unit => S3 W dn e t) (fun _ => True)) (fun _ => qvOf W dn e t) PV) := by
  have hall : ObjLe (.cells (exK 3 (.sl (.key 44) 5 W (getX (List.replicate W (kidOf 3 e)))))) (.cells (eC (allX e W))) := .cells _ _ ⟨rfl, expC_keys _ _ _ _ _ _, tells_all e W⟩
  have hn := nst_told t dn
  have hw := viewOk_weak (α := Unit) (fun _ => S3 W dn e t) (fun _ => PV (qvOf W dn e t)) (fun _ => True) fun _ _ => by
    cases dn with
    | zero => exact ⟨rfl, .cons _ _ _ _ _ (.same _) (.cons _ _ _ _ _ hall (.cons _ _ _ _ _ (.cells _ _ hn) (.cons _ _ _ _ _ (.same _) .nil)))⟩
    | succ q => exact ⟨rfl, .cons _ _ _ _ _ (.same _) (.cons _ _ _ _ _ hall (.cons _ _ _ _ _ (.cells _ _ hn) (.cons _ _ _ _ _ (.same _) .nil)))⟩
  exact hw
end
theorem loop3 (x : QV) (he : x.e.Ok) (ha : x.a.Ok) (hn : x.n.Ok) (T : List Ent) (wv : Vw) : ∀ L, LoopOk (V2.run (entF 48 eA EXP.Ok (fun e => countE e 0) φK :: entF 49 eA EXP.Ok rpartsE φK :: entF 15 eA EXP.Ok exprE φE :: entF 16 eA EXP.Ok exprE φE :: T) 3 [] L [([1, 1, 1, 1, 1, 1, 1, 1, 1], wv)] 9) 9 [1, 1, 1, 1, 1, 1, 1, 1, 1, 0, 1, 0] (mkO (goodS (P3 x) (· ≤ 3)) (valS (P3 x) (· ≤ 3) fun _ => x) outP3) := fun L =>
  loopOk_of (X := V2.run (entF 48 eA EXP.Ok (fun e => countE e 0) φK :: entF 49 eA EXP.Ok rpartsE φK :: entF 15 eA EXP.Ok exprE φE :: entF 16 eA EXP.Ok exprE φE :: T) 3 [] L [([1, 1, 1, 1, 1, 1, 1, 1, 1], wv)] 9) (b := subC (bodyOf V2.P 9) ([1, 1, 1, 1, 1, 1, 1, 1, 1, 0, 1, 0] ++ [0])) (P3 x) (· ≤ 3) (fun i => 3 - i) (fun _ => x) outP3 (by kernel_rfl) 9 fun i hi k kn hk => by
    have hc : ∀ {e : EXP}, (bif (((countE e 0 : Nat)) : Int) != ((rpartsE e : Nat) : Int) then true else exprE e != exprE e) = false := fun {e} => by
      rw [parts_same e]; simp
    match i, hi with
    | 0, _ =>
      refine (par_l0 (gF eA EXP.Ok) (gF eA EXP.Ok) (gF eA EXP.Ok) (gF eA EXP.Ok) (vF eA EXP.Ok fun e => countE e 0) (vF eA EXP.Ok rpartsE) (vF eA EXP.Ok exprE) (vF eA EXP.Ok exprE) T L wv 9 x kn k (vE_eq he) (vE_eq he) (vE_eq he) (vE_eq he)).trans ?_
      rw [gE_eq he, hc]
      exact hk 1 (by show 1 ≤ 3; omega) (by show 3 - 1 < 3 - 0; omega)
    | 1, _ =>
      refine (par_l1 (gF eA EXP.Ok) (gF eA EXP.Ok) (gF eA EXP.Ok) (gF eA EXP.Ok) (vF eA EXP.Ok fun e => countE e 0) (vF eA EXP.Ok rpartsE) (vF eA EXP.Ok exprE) (vF eA EXP.Ok exprE) T L wv 9 x kn k (vE_eq ha) (vE_eq ha) (vE_eq ha) (vE_eq ha)).trans ?_
      rw [gE_eq ha, hc]
      exact hk 2 (by show 2 ≤ 3; omega) (by show 3 - 2 < 3 - 1; omega)
    | 2, _ =>
      refine (par_l2 (gF eA EXP.Ok) (gF eA EXP.Ok) (gF eA EXP.Ok) (gF eA EXP.Ok) (vF eA EXP.Ok fun e => countE e 0) (vF eA EXP.Ok rpartsE) (vF eA EXP.Ok exprE) (vF eA EXP.Ok exprE) T L wv 9 x kn k (vE_eq hn) (vE_eq hn) (vE_eq hn) (vE_eq hn)).trans ?_
      rw [gE_eq hn, hc]
      exact hk 3 (by show 3 ≤ 3; omega) (by show 3 - 3 < 3 - 2; omega)
    | 3, _ => exact par_l3 (gF eA EXP.Ok) (gF eA EXP.Ok) (gF eA EXP.Ok) (gF eA EXP.Ok) (vF eA EXP.Ok fun e => countE e 0) (vF eA EXP.Ok rpartsE) (vF eA EXP.Ok exprE) (vF eA EXP.Ok exprE) T L wv 9 x kn k
    | i + 4, hi => exact absurd hi (by show ¬ i + 4 ≤ 3; omega)
end Go.SH

namespace Go.SH
open Go Go.Ab Go.Proofs
set_option linter.unusedVariables false
set_option linter.unusedSimpArgs false
def mP (x : Int × Int) : Prop := 1 ≤ x.2 ∧ x.2 ≤ 1000000
def mPost (x : Int × Int) (z : Int) : Prop := 0 ≤ z ∧ z < x.2
theorem mPost_kind (a b : Int × Int) (z : Int) (h : mA a = mA b) (_ : (fun _ : Int × Int => ([] : List AO)) a = (fun _ => []) b) (hz : mPost a z) : mPost b z := by
  simp only [mA, List.cons.injEq, AV.int.injEq, true_and, and_true] at h
  unfold mPost at *
  rw [← h.2]; exact hz
/-- The last line of the law. -/
theorem last_true {e t : EXP} {W dn : Nat} (h2 : 2 ≤ W) (h13 : W ≤ 13) (hd : dn ≤ 11) (ht : testOk t) (hv : VE 8 (wideK e)) (ho : (wideK e).op ≠ 3) :
    (bif (exprE (notN dn t) == 0) == decide ((dn : Int) < 10) then (exprE (allX e W) == 0) == bif decide ((W : Int) ≤ 12) then decide (((countE (allX e W) 0 : Nat) : Int) ≤ 60) else false else false) = true := by
  have h1 := nest_law ht hd
  have h3 := all_law hv ho h2 h13
  have e1 : decide ((dn : Int) < 10) = decide (dn < 10) := decide_eq_decide.2 (by omega)
  have e2 : decide ((W : Int) ≤ 12) = decide (W ≤ 12) := decide_eq_decide.2 (by omega)
  have e3 : decide (((countE (allX e W) 0 : Nat) : Int) ≤ 60) = decide (countE (allX e W) 0 ≤ 60) := decide_eq_decide.2 (by omega)
  rw [h1, h3, e1, e2, e3]
  cases decide (dn < 10) <;> cases decide (W ≤ 12) <;> cases decide (countE (allX e W) 0 ≤ 60) <;> rfl
theorem cT {α : Sort _} {b : Bool} {x y : α} (h : b = true) : cond b x y = x := by rw [h]; rfl
theorem cF {α : Sort _} {b : Bool} {x y : α} (h : b = false) : cond b x y = y := by rw [h]; rfl
theorem sparts_ok {n : Nat} {g : Nat → Int} (hg : ∀ j, j < n → 0 ≤ g j ∧ g j < 256) (wide deep : Int) : Ct V2.P V2.G 9 [.sl .no 1 n fun j => [.int .u8 (g j)], .int .i64 wide, .int .i64 deep] [] (φB true) := by
  obtain ⟨C0, hC0, hnew⟩ := new_ok hg (m := 120) (by omega) (by omega)
  obtain ⟨wx, hwx, htx⟩ := ent_ex (V := V2) (f := 13) (A := xA 4) (O := cO) (Pre := CODES.Ok) (φ := φC) (Post := fun (_ : CODES) (x : EXP × CODES) => xPost 7 x) (xpr_ex 3 (by omega))
  obtain ⟨wt, hwt, htt⟩ := ent_ex (V := V2) (f := 47) (A := cA) (O := cO) (Pre := CODES.Ok) (φ := φC) (Post := fun (_ : CODES) (x : EXP × CODES) => tPost x) testC_ex
  obtain ⟨wm, hwm, htm⟩ := ent_ex (V := V2) (f := 27) (A := mA) (O := fun _ => []) (Pre := mP) (φ := φE) (Post := mPost) mod_ex
  have gx : goodA (xA 4) cO CODES.Ok [.ref 1000000 0, .sl .fit 0 0 fun x => [], .int .i64 4] [codO C0] = true := xA_good hC0
  have px : xPost 7 (valA (xA 4) cO CODES.Ok wx [.ref 1000000 0, .sl .fit 0 0 fun x => [], .int .i64 4] [codO C0]) := xA_post hwx hC0
  generalize hx : valA (xA 4) cO CODES.Ok wx [.ref 1000000 0, .sl .fit 0 0 fun x => [], .int .i64 4] [codO C0] = x at px
  obtain ⟨e, D⟩ := x
  obtain ⟨⟨pv, pe⟩, pD⟩ := px
  have pD : D.Ok := pD
  have gt : goodA cA cO CODES.Ok [.ref 1000000 0] [codO D] = true := goodA_eq (A := cA) (O := cO) (v := D) pD
  have pt : tPost (valA cA cO CODES.Ok wt [.ref 1000000 0] [codO D]) := valA_post (A := cA) (O := cO) (a := D) (Post := fun (_ : CODES) (x : EXP × CODES) => tPost x) hwt (fun _ _ _ _ _ h => h) pD
  generalize ht : valA cA cO CODES.Ok wt [.ref 1000000 0] [codO D] = tt at pt
  obtain ⟨t, D2⟩ := tt
  have gm : ∀ z : Int, goodA mA (fun _ => []) mP [.int .i64 z, .int .i64 12] [] = true := fun z => goodA_eq (A := mA) (O := fun _ => []) (v := (z, 12)) ⟨by show (1 : Int) ≤ 12; omega, by show (12 : Int) ≤ 1000000; omega⟩
  have pm : ∀ z : Int, mPost (z, 12) (valA mA (fun _ => []) mP wm [.int .i64 z, .int .i64 12] []) := fun z => valA_post (A := mA) (O := fun _ => []) (a := (z, 12)) (Post := mPost) hwm mPost_kind ⟨by show (1 : Int) ≤ 12; omega, by show (12 : Int) ≤ 1000000; omega⟩
  obtain ⟨w0, w1⟩ := pm wide
  obtain ⟨d0, d1⟩ := pm deep
  generalize hw : valA mA (fun _ => []) mP wm [.int .i64 wide, .int .i64 12] [] = z1 at w0 w1
  generalize hd : valA mA (fun _ => []) mP wm [.int .i64 deep, .int .i64 12] [] = z2 at d0 d1
  have w1 : z1 < 12 := w1
  have d1 : z2 < 12 := d1
  obtain ⟨W, hW⟩ : ∃ W : Nat, (2 + z1) = (W : Int) := ⟨(2 + z1).toNat, by omega⟩
  obtain ⟨dn, hdn⟩ : ∃ d : Nat, z2 = (d : Int) := ⟨z2.toNat, by omega⟩
  have hwr : IntKind.wrap .i64 (2 + z1) = (W : Int) := by rw [hW]; exact wrap_i64 (by omega) (by omega)
  subst hdn
  have h2 : 2 ≤ W := by omega
  have h13 : W ≤ 13 := by omega
  have h11 : dn ≤ 11 := by omega
  have hk := wideK_ok pv pe D pD
  have qe : (qvOf W dn e t).e.Ok := pe
  have qa : (qvOf W dn e t).a.Ok := all_ok h13 hk.2.2
  have qn : (qvOf W dn e t).n.Ok := notN_ok pt.1.2.2 dn
  let T : List Ent := [ent1 10 [] true φB, ent1 12 [.sl .no 1 n fun j => [.int .u8 (g j)], .int .i64 120] C0 φNew, entC 13 (xA 4) cO CODES.Ok wx φC, entC 47 cA cO CODES.Ok wt φC, entC 27 mA (fun _ => []) mP wm φE]
  have hfin := last_true h2 h13 h11 pt.1 hk.1 hk.2.1
  refine ct_of_run (V := V2) (n := 9) (d := 3) (C := []) (T := entF 48 eA EXP.Ok (fun e => countE e 0) φK :: entF 49 eA EXP.Ok rpartsE φK :: entF 15 eA EXP.Ok exprE φE :: entF 16 eA EXP.Ok exprE φE :: T)
    (L := [([1, 1, 1, 1, 1, 1, 0, 1, 0], mkO (goodS (S1 W dn e D) (· ≤ W)) (valS (S1 W dn e D) (· ≤ W) fun _ => ((e, D), W, (dn : Int))) outP1), ([1, 1, 1, 1, 1, 1, 1, 1, 0, 1, 0], mkO (goodS (S2 W dn e t) (· ≤ dn)) (valS (S2 W dn e t) (· ≤ dn) fun _ => nvOf W dn e t) (outP2 dn)), ([1, 1, 1, 1, 1, 1, 1, 1, 1, 0, 1, 0], mkO (goodS (P3 (qvOf W dn e t)) (· ≤ 3)) (valS (P3 (qvOf W dn e t)) (· ≤ 3) fun _ => qvOf W dn e t) outP3)])
    (W := [([1, 1, 1, 1, 1, 1, 1, 1, 1], mkV (goodS (fun _ : Unit => S3 W dn e t) (fun _ => True)) (fun _ => qvOf W dn e t) PV)])
    mixed2 funcs2 (tabOk_cons (entF_ok eA_48) (tabOk_cons (entF_ok eA_49) (tabOk_cons (entF_ok eA_15) (tabOk_cons (entF_ok eA_16) (tabOk_cons (ent1_ok (Ct.v2 awake_ok)) (tabOk_cons (ent1_ok hnew) (tabOk_cons htx (tabOk_cons htt (tabOk_cons htm tabOk_nil)))))))))
    (fun _ h => (List.not_mem_nil h).elim)
    (loopsOk_cons (loop1 dn e D W h2 h13 _ _ _) (loopsOk_cons (loop2 W dn e t h11 _ _ _) (loopsOk_cons (loop3 (qvOf W dn e t) qe qa qn T _ _) loopsOk_nil)))
    (fun q hq => by simp at hq; subst hq; exact view3 W dn e t) ?_
  have hs1 : goodS (S1 W dn e D) (· ≤ W) (S1 W dn e D 0) = true := goodS_eq (S := S1 W dn e D) (v := 0) (Nat.zero_le _)
  have vs1 : valS (S1 W dn e D) (· ≤ W) (fun _ => ((e, D), W, (dn : Int))) (S1 W dn e D 0) = ((e, D), W, (dn : Int)) := valS_eq (S := S1 W dn e D) (v := 0) (fun _ _ _ _ _ => rfl) (Nat.zero_le _)
  have hs2 : goodS (S2 W dn e t) (· ≤ dn) (S2 W dn e t 0) = true := goodS_eq (S := S2 W dn e t) (v := 0) (Nat.zero_le _)
  have vs2 : valS (S2 W dn e t) (· ≤ dn) (fun _ => nvOf W dn e t) (S2 W dn e t 0) = nvOf W dn e t := valS_eq (S := S2 W dn e t) (v := 0) (fun _ _ _ _ _ => rfl) (Nat.zero_le _)
  have hs3 : goodS (fun _ : Unit => S3 W dn e t) (fun _ => True) (S3 W dn e t) = true := goodS_eq (S := fun _ : Unit => S3 W dn e t) (v := ()) trivial
  have hs4 : goodS (P3 (qvOf W dn e t)) (· ≤ 3) (P3 (qvOf W dn e t) 0) = true := goodS_eq (S := P3 (qvOf W dn e t)) (v := 0) (Nat.zero_le _)
  have vs4 : valS (P3 (qvOf W dn e t)) (· ≤ 3) (fun _ => qvOf W dn e t) (P3 (qvOf W dn e t) 0) = qvOf W dn e t := valS_eq (S := P3 (qvOf W dn e t)) (v := 0) (fun _ _ _ _ _ => rfl) (Nat.zero_le _)
  have h := par_m (g1 []) (g1 [.sl .no 1 n fun j => [.int .u8 (g j)], .int .i64 120]) (goodA (xA 4) cO CODES.Ok) (goodA cA cO CODES.Ok) (gF eA EXP.Ok) (gF eA EXP.Ok) (gF eA EXP.Ok) (gF eA EXP.Ok) (goodA mA (fun _ => []) mP) (v1 [] true) (v1 [.sl .no 1 n fun j => [.int .u8 (g j)], .int .i64 120] C0) (valA (xA 4) cO CODES.Ok wx) (valA cA cO CODES.Ok wt) (vF eA EXP.Ok fun e => countE e 0) (vF eA EXP.Ok rpartsE) (vF eA EXP.Ok exprE) (vF eA EXP.Ok exprE) (valA mA (fun _ => []) mP wm) []
    (goodS (S1 W dn e D) (· ≤ W)) (goodS (S2 W dn e t) (· ≤ dn)) (goodS (fun _ : Unit => S3 W dn e t) (fun _ => True)) (goodS (P3 (qvOf W dn e t)) (· ≤ 3)) (valS (S1 W dn e D) (· ≤ W) fun _ => ((e, D), W, (dn : Int))) (valS (S2 W dn e t) (· ≤ dn) fun _ => nvOf W dn e t) dn (fun _ => qvOf W dn e t) (valS (P3 (qvOf W dn e t)) (· ≤ 3) fun _ => qvOf W dn e t) n g wide deep
    (t1 := C0) (v1_eq _ _) (t2 := (e, D)) hx (t3 := z1) hw (t4 := (dn : Int)) hd (t5 := ((e, D), W, (dn : Int))) (by rw [hwr]; exact vs1) (t6 := (t, D2)) ht (t7 := nvOf W dn e t) vs2
    (t8 := qvOf W dn e t) rfl (t9 := qvOf W dn e t) vs4 (t10 := exprE (notN dn t)) (vE_eq qn) (t11 := exprE (allX e W)) (vE_eq qa) (t12 := countE (allX e W) 0) (vE_eq qa)
    (t13 := qvOf W dn e t) rfl (t14 := qvOf W dn e t) vs4 (t15 := exprE (notN dn t)) (vE_eq qn) (t16 := exprE (allX e W)) (vE_eq qa) (t17 := countE (allX e W) 0) (vE_eq qa)
  refine h.trans ?_
  refine (cT (g1_eq [])).trans ?_
  refine (cF (by rw [v1_eq]; rfl)).trans ?_
  refine (cT (g1_eq _)).trans ?_
  refine (cT gx).trans ?_
  refine (cT (gm wide)).trans ?_
  refine (cT (gm deep)).trans ?_
  refine (cT (by rw [hwr]; exact hs1)).trans ?_
  refine (cT gt).trans ?_
  refine (cT hs2).trans ?_
  cases dn with
  | zero =>
    refine (cT rfl).trans ?_
    refine (cT hs3).trans ?_
    refine (cT hs4).trans ?_
    refine (cT (gE_eq qn)).trans ?_
    refine (cT (gE_eq qa)).trans ?_
    refine (cT (gE_eq qa)).trans ?_
    exact congrArg (fun b => some (AV.bool b, ([] : List AO))) hfin
  | succ q =>
    refine (cF rfl).trans ?_
    refine (cT hs3).trans ?_
    refine (cT hs4).trans ?_
    refine (cT (gE_eq qn)).trans ?_
    refine (cT (gE_eq qa)).trans ?_
    refine (cT (gE_eq qa)).trans ?_
    exact congrArg (fun b => some (AV.bool b, ([] : List AO))) hfin
end Go.SH

namespace Go.Ab
open Go Go.RowKit Go.ChangeShapes
mutual
/-- The bulk of a datum. -/
def bulkD {H : Type} : DataW H → Nat
  | .lit (.string bytes) => bytes.length + 1
  | .lit _ => 1
  | .nil => 1
  | .ptr d => bulkD d + 1
  | .slice elems spare => bulkL elems + bulkL spare + 1
  | .agg parts => bulkL parts + 1
  | .iface _ d => bulkD d + 1
  | .map entries => bulkM entries + 1
  | .held _ => 1
def bulkL {H : Type} : List (DataW H) → Nat
  | [] => 0
  | d :: r => bulkD d + bulkL r
def bulkM {H : Type} : List (Lit × DataW H) → Nat
  | [] => 0
  | x :: r => bulkE x + bulkM r
def bulkE {H : Type} : Lit × DataW H → Nat
  | (.string bytes, d) => bytes.length + bulkD d + 1
  | (_, d) => bulkD d + 1
end
theorem bulkD_pos {H : Type} (d : DataW H) : 1 ≤ bulkD d := by
  cases d with
  | lit l => cases l <;> simp [bulkD]
  | _ => simp [bulkD]
theorem bulkL_len {H : Type} : ∀ l : List (DataW H), l.length ≤ bulkL l
  | [] => by simp [bulkL]
  | d :: r => by have := bulkD_pos d; have := bulkL_len r; simp only [List.length_cons, bulkL]; omega
theorem bulkL_at {H : Type} : ∀ {l : List (DataW H)} {i : Nat} {d : DataW H}, l[i]? = some d → bulkD d ≤ bulkL l
  | [], _, _, h => by simp at h
  | e :: r, 0, d, h => by simp at h; subst h; simp only [bulkL]; omega
  | e :: r, i + 1, d, h => by have := bulkL_at (l := r) (i := i) (by simpa using h); simp only [bulkL]; omega

/-- These cells stand for these values. -/
structure CellsR (c : Cx) (us : List AV) (vs : List Value) : Prop where
  len : vs.length = us.length
  one : ∀ u ∈ us, u.one = true ∧ u.keys = []
  rep : ∀ (i : Nat) (u : AV), us[i]? = some u → Rep c u (vs.getD i undef)
theorem keysL_nil : ∀ {us : List AV}, (∀ u ∈ us, u.keys = []) → keysL us = []
  | [], _ => rfl
  | u :: r, h => by rw [keysL, h u (by simp), keysL_nil fun v hv => h v (List.mem_cons_of_mem _ hv)]; rfl
theorem CellsR.nil (c : Cx) : CellsR c [] [] := ⟨rfl, fun _ h => by simp at h, fun i u h => by simp at h⟩
theorem CellsR.append {c : Cx} {us us' : List AV} {vs vs' : List Value} (h : CellsR c us vs) (h' : CellsR c us' vs') : CellsR c (us ++ us') (vs ++ vs') := by
  refine ⟨by simp [h.len, h'.len], fun u hu => ?_, fun i u hu => ?_⟩
  · rcases List.mem_append.1 hu with hu | hu
    · exact h.one u hu
    · exact h'.one u hu
  · by_cases hi : i < us.length
    · rw [List.getElem?_append_left hi] at hu
      have := h.rep i u hu
      rw [List.getD_eq_getElem?_getD] at this ⊢
      rwa [List.getElem?_append_left (by rw [h.len]; exact hi)]
    · rw [List.getElem?_append_right (by omega)] at hu
      have := h'.rep _ u hu
      rw [List.getD_eq_getElem?_getD] at this ⊢
      rw [List.getElem?_append_right (by rw [h.len]; omega), h.len]
      exact this
theorem CellsR.one1 {c : Cx} {u : AV} {v : Value} (h1 : u.one = true) (h2 : u.keys = []) (h : Rep c u v) : CellsR c [u] [v] :=
  ⟨rfl, fun x hx => by simp at hx; subst hx; exact ⟨h1, h2⟩, fun i x hx => by
    cases i with
    | zero => simp at hx; subst hx; exact h
    | succ i => simp at hx⟩
theorem CellsR.agg {c : Cx} {us : List AV} {vs : Array Value} (h : CellsR c us vs.toList) : Rep c (.agg us) (.agg vs) ∧ (AV.agg us).keys = [] := by
  refine ⟨.agg _ _ (by simpa using h.len) (fun i u hu => (h.one u (List.mem_of_getElem? hu)).1) (fun i u hu => ?_), ?_⟩
  · have := h.rep i u hu
    rw [List.getD_eq_getElem?_getD] at this
    rw [Array.getD_eq_getD_getElem?]
    simpa using this
  · simp only [AV.keys]
    exact keysL_nil fun u hu => (h.one u hu).2

section
variable {H : Type} (enc : TypeId × Value → H) (P : Program) (w : World) (N : Nat)
variable {α β : Type}
/-- What stands at type t in n levels is read as one of a family. -/
def Reads (n : Nat) (t : TypeId) (cl : α → List AV) (Ok : α → Prop) : Prop :=
  ∀ cs x, DataW.trod enc P w 0 (fun _ => true) true n t cs = some x → bulkD x.1 ≤ N → ∃ a, CellsR (startCx w) (cl a) cs ∧ Ok a
/-- The same of a struct's fields from one place on. -/
def ReadsF (n : Nat) (fs : List Field) (off len : Nat) (cl : α → List AV) (Ok : α → Prop) : Prop :=
  ∀ (cs : List Value) (xs : List (DataW H × List MemPlace)), xs.length = fs.length → off + len ≤ cs.length →
    (∀ (i : Nat) (f : Field), fs[i]? = some f → DataW.trod enc P w 0 (fun _ => true) true n f.type ((cs.drop f.offset).take (P.cellsOf f.type)) = xs[i]?) →
    bulkL (xs.map (·.1)) ≤ N → ∃ a, CellsR (startCx w) (cl a) ((cs.drop off).take len) ∧ Ok a
variable {enc P w N}
theorem Reads.map {n : Nat} {t : TypeId} {cl : α → List AV} {Ok : α → Prop} {cl' : β → List AV} {Ok' : β → Prop} (h : Reads enc P w N n t cl Ok) (g : α → β) (hc : ∀ a, cl' (g a) = cl a) (ho : ∀ a, Ok a → Ok' (g a)) : Reads enc P w N n t cl' Ok' := fun cs x hx hb => by
  obtain ⟨a, h1, h2⟩ := h cs x hx hb
  exact ⟨g a, by rw [hc]; exact h1, ho a h2⟩
theorem reads_int {n : Nat} {t : TypeId} {k : IntKind} (ht : P.underlying t = some (.int k)) : Reads enc P w N n t (fun z : Int => [.int k z]) (fun z => (Lit.int k z).wf = true) := fun cs x hx hb => by
  obtain ⟨z, rfl, rfl, hw⟩ := DataW.trod_int ht hx
  exact ⟨z, .one1 rfl rfl (.int _ _), hw⟩
theorem reads_bool {n : Nat} {t : TypeId} (ht : P.underlying t = some .bool) : Reads enc P w N n t (fun z : Bool => [.bool z]) (fun _ => True) := fun cs x hx hb => by
  obtain ⟨z, rfl, rfl⟩ := DataW.trod_bool ht hx
  exact ⟨z, .one1 rfl rfl (.bool _), trivial⟩
theorem reads_str {n : Nat} {t : TypeId} (ht : P.underlying t = some .string) : Reads enc P w N n t (fun s : List UInt8 => [.str s]) (fun s => s.length ≤ maxLen ∧ s.length + 1 ≤ N) := fun cs x hx hb => by
  obtain ⟨s, rfl, rfl, hs⟩ := DataW.trod_string ht hx
  simp only [bulkD] at hb
  refine ⟨s.data.toList, .one1 rfl rfl ?_, by rw [Array.length_toList]; exact hs, hb⟩
  have := Rep.str (c := startCx w) s.data.toList
  rwa [Array.toArray_toList] at this
theorem readsF_nil {n off : Nat} : ReadsF enc P w N n [] off 0 (fun _ : Unit => []) (fun _ => True) := fun cs xs _ _ _ _ => ⟨(), by rw [List.take_zero]; exact .nil _, trivial⟩
theorem readsF_cons {n off n1 n2 : Nat} {f : Field} {fs : List Field} {cl1 : α → List AV} {Ok1 : α → Prop} {cl2 : β → List AV} {Ok2 : β → Prop} (h1 : Reads enc P w N n f.type cl1 Ok1) (ho : f.offset = off) (hn : P.cellsOf f.type = n1)
    (h2 : ReadsF enc P w N n fs (off + n1) n2 cl2 Ok2) : ReadsF enc P w N n (f :: fs) off (n1 + n2) (fun p : α × β => cl1 p.1 ++ cl2 p.2) (fun p => Ok1 p.1 ∧ Ok2 p.2) := fun cs xs hl hlen hx hb => by
  cases xs with
  | nil => simp at hl
  | cons x xs =>
    simp only [List.map_cons, bulkL] at hb
    have hx0 := hx 0 f rfl
    rw [ho, hn] at hx0
    obtain ⟨a, e1, e2⟩ := h1 _ x (by simpa using hx0) (by omega)
    obtain ⟨b, g1, g2⟩ := h2 cs xs (by simpa using hl) (by omega) (fun i f' hf => by simpa using hx (i + 1) f' (by simpa using hf)) (by omega)
    refine ⟨(a, b), ?_, e2, g2⟩
    rw [List.take_add, List.drop_drop]
    exact e1.append g1
theorem reads_struct {n : Nat} {t : TypeId} {fs : Array Field} {sz : Nat} {cl : α → List AV} {Ok : α → Prop} (ht : P.underlying t = some (.struct fs)) (hz : P.cellsOf t = sz) (h : ∀ m, n = m + 1 → ReadsF enc P w N m fs.toList 0 sz cl Ok) : Reads enc P w N n t cl Ok := fun cs x hx hb => by
  obtain ⟨xs, m, rfl, rfl, hl, hxl, hf⟩ := DataW.trod_struct ht hx
  simp only [bulkD] at hb
  obtain ⟨a, h1, h2⟩ := h m rfl cs xs (by simpa using hxl) (by omega) (fun i f hi => hf i f (by simpa using hi)) (by omega)
  refine ⟨a, ?_, h2⟩
  rw [List.drop_zero, List.take_of_length_le (by omega)] at h1
  exact h1
theorem mapM_at {γ δ : Type} {f : γ → Option δ} : ∀ {l : List γ} {r : List δ}, l.mapM f = some r → r.length = l.length ∧ ∀ (i : Nat) (a : γ), l[i]? = some a → f a = r[i]?
  | [], r, h => by simp at h; subst h; simp
  | x :: l, r, h => by
    simp only [List.mapM_cons, Option.bind_eq_bind, Option.bind_eq_some_iff, Option.pure_def, Option.some.injEq] at h
    obtain ⟨y, hy, ys, hys, rfl⟩ := h
    obtain ⟨h1, h2⟩ := mapM_at hys
    refine ⟨by simp [h1], fun i a ha => ?_⟩
    cases i with
    | zero => simp at ha; subst ha; simpa using hy
    | succ i => simpa using h2 i a (by simpa using ha)
theorem cells?_at {a : Addr} {n : Nat} {cs : List Value} (h : w.cells? 0 a n = some cs) : cs.length = n ∧ ∀ i, i < n → w.cell? (a.add i) = cs[i]? := by
  unfold World.cells? at h
  rw [if_pos (Nat.zero_le _)] at h
  obtain ⟨h1, h2⟩ := mapM_at h
  refine ⟨by simpa using h1, fun i hi => ?_⟩
  exact h2 i i (by simp [hi])
open Classical in
theorem reads_slice {n : Nat} {t e : TypeId} {sz : Nat} [Inhabited α] {cl : α → List AV} {Ok : α → Prop} (get : List α → Nat → List AV) (ht : P.underlying t = some (.slice e)) (hz : P.cellsOf e = sz) (hp : 0 < sz) (hlen : ∀ a, (cl a).length = sz)
    (hget : ∀ (l : List α) j, j < l.length → get l j = cl (l.getD j default)) (h : ∀ m, n = m + 1 → Reads enc P w N m e cl Ok) :
    Reads enc P w N n t (fun l : List α => [.sl .no sz l.length (get l)]) (fun l => l.length ≤ maxLen ∧ l.length + 1 ≤ N ∧ ∀ a ∈ l, Ok a) := fun cs x hx hb => by
  rcases DataW.trod_slice ht hx with ⟨rfl, rfl⟩ | ⟨ad, len, cap, elems, rest, m, rfl, rfl, rfl, _, hle, hcap, hel, hat, hsp, _⟩
  · refine ⟨[], .one1 rfl rfl ?_, by simp, by simpa [bulkD] using hb, by simp⟩
    exact .slNil .no sz _ trivial
  · simp only [bulkD] at hb
    rw [hz] at hat hsp
    have hb1 : elems.length ≤ bulkL (elems.map (·.1)) := by have := bulkL_len (elems.map (·.1)); simpa using this
    -- each element
    have hel1 : ∀ i, i < len → ∃ vs y a, elems[i]? = some y ∧ w.cells? 0 (ad.add (i * sz)) sz = some vs ∧ CellsR (startCx w) (cl a) vs ∧ Ok a := by
      intro i hi
      have hi' : i < elems.length := by omega
      have := hat i hi
      rw [List.getElem?_eq_getElem hi', Option.bind_eq_some_iff] at this
      obtain ⟨vs, h1, h2⟩ := this
      have hbi : bulkD (elems[i]).1 ≤ bulkL (elems.map (·.1)) := bulkL_at (i := i) (by simp [List.getElem?_eq_getElem hi'])
      obtain ⟨a, h3, h4⟩ := h m rfl vs _ h2 (by omega)
      exact ⟨vs, _, a, List.getElem?_eq_getElem hi', h1, h3, h4⟩
    -- the address has no spot
    have hspot : 0 < cap → ad.spot = none := by
      intro hc
      have : ∃ vs, w.cells? 0 (ad.add (0 * sz)) sz = some vs := by
        by_cases h0 : 0 < len
        · obtain ⟨vs, _, _, _, h2, _⟩ := hel1 0 h0
          exact ⟨vs, h2⟩
        · obtain rfl : len = 0 := by omega
          have h1 := (hsp rfl).2 0 (by omega)
          have h2 := (hsp rfl).1
          cases hr : rest with
          | nil => rw [hr] at h2; simp at h2; omega
          | cons y r =>
            rw [hr] at h1
            simp only [List.getElem?_cons_zero, Option.bind_eq_some_iff] at h1
            obtain ⟨vs, h3, _⟩ := h1
            exact ⟨vs, by simpa using h3⟩
      obtain ⟨vs, h2⟩ := this
      obtain ⟨h3, h4⟩ := cells?_at h2
      have h5 := h4 0 hp
      rw [Nat.zero_mul] at h5
      have e0 : ((ad.add 0).add 0) = ad := by unfold Addr.add; simp
      rw [e0, List.getElem?_eq_getElem (by omega)] at h5
      exact World.cell?_spot h5
    let l : List α := (List.range len).map fun i => if hi : i < len then (hel1 i hi).choose_spec.choose_spec.choose else default
    have hl : l.length = len := by simp [l]
    have hli : ∀ i (hi : i < len), ∃ vs, w.cells? 0 (ad.add (i * sz)) sz = some vs ∧ CellsR (startCx w) (cl (l.getD i default)) vs ∧ Ok (l.getD i default) := by
      intro i hi
      have e : l.getD i default = (hel1 i hi).choose_spec.choose_spec.choose := by
        simp [l, List.getD, hi]
      rw [e]
      exact ⟨_, (hel1 i hi).choose_spec.choose_spec.choose_spec.2⟩
    have hadd : ∀ i, i < len → ∀ q, q < sz → (ad.add (i * sz)).add q = ⟨ad.block, ad.off + (i * sz + q), none⟩ := by
      intro i hi q _
      have hs := hspot (by omega)
      obtain ⟨b, o, sp⟩ := ad
      simp only at hs
      subst hs
      unfold Addr.add
      by_cases c1 : i * sz = 0
      · by_cases c2 : q = 0 <;> simp [c1, c2]
      · by_cases c2 : q = 0 <;> simp [c1, c2, Nat.add_assoc]
    refine ⟨l, .one1 rfl rfl ?_, by omega, by omega, fun a ha => ?_⟩
    · rw [hl]
      have hgl : ∀ j, j < len → get l j = cl (l.getD j default) := fun j hj => hget l j (by omega)
      have hcell : ∀ (j i : Nat) (u : AV), j < len → (get l j)[i]? = some u → ∃ v, w.cell? ⟨ad.block, ad.off + (j * sz + i), none⟩ = some v ∧ Rep (startCx w) u v := by
        intro j i u hj hu
        rw [hgl j hj] at hu
        obtain ⟨vs, h1, h2, _⟩ := hli j hj
        obtain ⟨g1, g2⟩ := cells?_at h1
        have hi : i < sz := by have := (List.getElem?_eq_some_iff.1 hu).1; rw [hlen] at this; exact this
        have g3 := g2 i hi
        rw [hadd j hj i hi, List.getElem?_eq_getElem (by omega)] at g3
        refine ⟨_, g3, ?_⟩
        have := h2.rep i u hu
        rwa [List.getD_eq_getElem?_getD, List.getElem?_eq_getElem (by omega)] at this
      refine .sl .no sz len (get l) ad cap (fun j i => (w.cell? ⟨ad.block, ad.off + (j * sz + i), none⟩).getD undef) hspot hle trivial (fun j hj => ?_) (fun j i u hj hu => ?_) (fun j i u hj hu => ?_)
      · rw [hgl j hj]
        obtain ⟨vs, _, h2, _⟩ := hli j hj
        exact ⟨hlen _, keysL_nil fun u hu => (h2.one u hu).2⟩
      · obtain ⟨v, h1, _⟩ := hcell j i u hj hu
        have hone : u.one = true := by
          rw [hgl j hj] at hu
          obtain ⟨vs, _, h2, _⟩ := hli j hj
          exact (h2.one u (List.mem_of_getElem? hu)).1
        refine ⟨hone, ?_, v, h1⟩
        show w.cell? _ = _
        rw [h1]; rfl
      · obtain ⟨v, h1, h2⟩ := hcell j i u hj hu
        rw [h1]; exact h2
    · obtain ⟨i, hi, rfl⟩ := List.getElem_of_mem ha
      obtain ⟨_, _, _, h4⟩ := hli i (by omega)
      rwa [List.getD_eq_getElem?_getD, List.getElem?_eq_getElem hi] at h4
end
end Go.Ab

namespace Go.SH
open Go Go.Ab Go.Proofs Go.RowKit
set_option linter.unusedVariables false
set_option linter.unusedSimpArgs false
section
variable {H : Type} {enc : TypeId × Value → H} {w : World}
theorem rdInt (n : Nat) : Reads enc Tryz.prog w 1048576 n 3 (fun z : Int => [.int .i64 z]) (fun _ => True) := (reads_int Tryz.underlying3).map id (fun _ => rfl) fun _ _ => trivial
theorem rdBool (n : Nat) : Reads enc Tryz.prog w 1048576 n 4 (fun z : Bool => [.bool z]) (fun _ => True) := reads_bool Tryz.underlying4
def txt (s : List UInt8) : Prop := s.length ≤ 1048575
theorem rdStr (n : Nat) : Reads enc Tryz.prog w 1048576 n 9 (fun s : List UInt8 => [.str s]) txt := (reads_str Tryz.underlying9).map id (fun _ => rfl) fun s h => by have := h.2; unfold txt; show s.length ≤ _; omega
theorem rdStrs (n : Nat) : Reads enc Tryz.prog w 1048576 n 32 (fun l : List (List UInt8) => [strsA l]) (okL txt) :=
  (reads_slice (e := 9) (sz := 1) (α := List UInt8) (cl := fun s => [.str s]) (Ok := txt) (fun l j => [.str (l.getD j [])]) Tryz.underlying32 (by kernel_rfl) (by omega) (fun _ => rfl) (fun _ _ _ => rfl) (fun m _ => rdStr m)).map id (fun _ => rfl) fun l h => ⟨by have := h.2.1; show l.length ≤ _; omega, h.2.2⟩
theorem txt.len {s : List UInt8} (h : txt s) : lenS s := by unfold txt at h; unfold lenS maxS; omega
theorem okL.strs {l : List (List UInt8)} (h : okL txt l) : strsOk l := ⟨h.big, fun s hs => (h.2 s hs).len⟩
theorem rdVal (n : Nat) : Reads enc Tryz.prog w 1048576 n 58 VAL.c VAL.Ok :=
  (reads_struct (sz := 1 + (1 + (1 + (1 + 0)))) Tryz.underlying58 (by kernel_rfl) fun m _ => readsF_cons (rdInt m) rfl (by kernel_rfl) (readsF_cons (rdInt m) rfl (by kernel_rfl) (readsF_cons (rdStr m) rfl (by kernel_rfl) (readsF_cons (rdStrs m) rfl (by kernel_rfl) readsF_nil)))).map
    (fun p => (⟨p.1, p.2.1, p.2.2.1, p.2.2.2.1⟩ : VAL)) (fun _ => rfl) fun p h => ⟨by have := h.2.2.1; unfold txt at this; show p.2.2.1.length ≤ _; omega, h.2.2.2.1.strs⟩
theorem rdList {α : Type} [Inhabited α] {t e sz : Nat} {cl : α → List AV} {Ok : α → Prop} (n : Nat) (ht : Tryz.prog.underlying t = some (.slice e)) (hz : Tryz.prog.cellsOf e = sz) (hp : 0 < sz) (hl : ∀ a, (cl a).length = sz) (h : ∀ m, Reads enc Tryz.prog w 1048576 m e cl Ok) :
    Reads enc Tryz.prog w 1048576 n t (fun l : List α => [.sl .no sz l.length fun j => cl (l.getD j default)]) (okL Ok) :=
  (reads_slice (fun l j => cl (l.getD j default)) ht hz hp hl (fun _ _ _ => rfl) (fun m _ => h m)).map id (fun _ => rfl) fun l h => ⟨by have := h.2.1; show l.length ≤ _; omega, h.2.2⟩
theorem rdVals (n : Nat) : Reads enc Tryz.prog w 1048576 n 22 (fun l : List VAL => [valL l]) (okL VAL.Ok) := rdList n Tryz.underlying22 (by kernel_rfl) (by omega) (fun _ => rfl) rdVal
theorem EXP.c_len (e : EXP) : e.c.length = 5 := by rw [e.c_eq]; rfl
theorem rdExp : ∀ n : Nat, Reads enc Tryz.prog w 1048576 n 25 EXP.c EXP.Ok := by
  intro n
  induction n using Nat.strongRecOn with
  | ind n ih =>
  have hk : ∀ m, n = m + 1 → Reads enc Tryz.prog w 1048576 m 23 (fun l : List EXP => [.sl .no 5 l.length (EXP.row l)]) (okL EXP.Ok) := fun m hm =>
    (reads_slice (e := 25) (sz := 5) (cl := EXP.c) (Ok := EXP.Ok) EXP.row Tryz.underlying23 (by kernel_rfl) (by omega) EXP.c_len (fun l j h => EXP.row_at h) (fun m' hm' => ih m' (by omega))).map id (fun _ => rfl) fun l h => ⟨by have := h.2.1; show l.length ≤ _; omega, h.2.2⟩
  refine (reads_struct (sz := 1 + (1 + (1 + (1 + (1 + 0))))) Tryz.underlying25 (by kernel_rfl) fun m hm => readsF_cons (rdInt m) rfl (by kernel_rfl) (readsF_cons (rdStr m) rfl (by kernel_rfl) (readsF_cons (rdStr m) rfl (by kernel_rfl) (readsF_cons (rdVals m) rfl (by kernel_rfl) (readsF_cons (hk m hm) rfl (by kernel_rfl) readsF_nil))))).map
    (fun p => EXP.mk p.1 p.2.1 p.2.2.1 p.2.2.2.1 p.2.2.2.2.1) (fun p => by rw [EXP.c_eq]; rfl) fun p h => ?_
  obtain ⟨_, h2, h3, h4, h5, _⟩ := h
  exact .mk _ h2.len h3.len ⟨h4.big, h4.2⟩ h5.1 h5.2
theorem rdPrq (n : Nat) : Reads enc Tryz.prog w 1048576 n 114 PRQ.c (fun p => lenS p.flag) :=
  (reads_struct (sz := 1 + (1 + 0)) Tryz.underlying114 (by kernel_rfl) fun m _ => readsF_cons (rdStr m) rfl (by kernel_rfl) (readsF_cons (rdInt m) rfl (by kernel_rfl) readsF_nil)).map (fun p => (⟨p.1, p.2.1⟩ : PRQ)) (fun _ => rfl) fun p h => h.1.len
theorem rdTgt (n : Nat) : Reads enc Tryz.prog w 1048576 n 117 TGT.c TGT.Ok :=
  (reads_struct (sz := 1 + (1 + (1 + 0))) Tryz.underlying117 (by kernel_rfl) fun m _ => readsF_cons (rdStr m) rfl (by kernel_rfl) (readsF_cons (rdInt m) rfl (by kernel_rfl) (readsF_cons (rdStrs m) rfl (by kernel_rfl) readsF_nil))).map (fun p => (⟨p.1, p.2.1, p.2.2.1⟩ : TGT)) (fun _ => rfl) fun p h => ⟨h.1.len, h.2.2.1.strs⟩
theorem rdRng (n : Nat) : Reads enc Tryz.prog w 1048576 n 52 rngC (fun _ => True) :=
  (reads_struct (sz := 1 + (1 + (1 + 0))) Tryz.underlying52 (by kernel_rfl) fun m _ => readsF_cons (rdInt m) rfl (by kernel_rfl) (readsF_cons (rdInt m) rfl (by kernel_rfl) (readsF_cons (rdInt m) rfl (by kernel_rfl) readsF_nil))).map (fun p => (p.1, p.2.1, p.2.2.1)) (fun _ => rfl) fun p h => trivial
theorem rdCool (n : Nat) : Reads enc Tryz.prog w 1048576 n 128 rngC (fun _ => True) :=
  (reads_struct (sz := 1 + (1 + (1 + 0))) Tryz.underlying128 (by kernel_rfl) fun m _ => readsF_cons (rdInt m) rfl (by kernel_rfl) (readsF_cons (rdInt m) rfl (by kernel_rfl) (readsF_cons (rdInt m) rfl (by kernel_rfl) readsF_nil))).map (fun p => (p.1, p.2.1, p.2.2.1)) (fun _ => rfl) fun p h => trivial
theorem rdSpn (n : Nat) : Reads enc Tryz.prog w 1048576 n 45 spnC (fun _ => True) :=
  (reads_struct (sz := 1 + (1 + 0)) Tryz.underlying45 (by kernel_rfl) fun m _ => readsF_cons (rdInt m) rfl (by kernel_rfl) (readsF_cons (rdInt m) rfl (by kernel_rfl) readsF_nil)).map (fun p => (p.1, p.2.1)) (fun _ => rfl) fun p h => trivial
theorem rdRngs (n : Nat) : Reads enc Tryz.prog w 1048576 n 37 (fun l : List (Int × Int × Int) => [rngL l]) (okL fun _ => True) := rdList n Tryz.underlying37 (by kernel_rfl) (by omega) (fun _ => rfl) rdRng
theorem rdCools (n : Nat) : Reads enc Tryz.prog w 1048576 n 72 (fun l : List (Int × Int × Int) => [rngL l]) (okL fun _ => True) := rdList n Tryz.underlying72 (by kernel_rfl) (by omega) (fun _ => rfl) rdCool
theorem rdSpns (n : Nat) : Reads enc Tryz.prog w 1048576 n 38 (fun l : List (Int × Int) => [spnL l]) (okL fun _ => True) := rdList n Tryz.underlying38 (by kernel_rfl) (by omega) (fun _ => rfl) rdSpn
theorem rdServe (n : Nat) : Reads enc Tryz.prog w 1048576 n 56 SERVE.c SERVE.Ok :=
  (reads_struct (sz := 1 + (1 + (1 + (1 + (1 + 0))))) Tryz.underlying56 (by kernel_rfl) fun m _ => readsF_cons (rdInt m) rfl (by kernel_rfl) (readsF_cons (rdStr m) rfl (by kernel_rfl) (readsF_cons (rdStr m) rfl (by kernel_rfl) (readsF_cons (rdStr m) rfl (by kernel_rfl) (readsF_cons (rdRngs m) rfl (by kernel_rfl) readsF_nil))))).map
    (fun p => (⟨p.1, p.2.1, p.2.2.1, p.2.2.2.1, p.2.2.2.2.1⟩ : SERVE)) (fun _ => rfl) fun p h => ⟨h.2.1.len, h.2.2.1.len, h.2.2.2.1.len, h.2.2.2.2.1.big⟩
theorem rdRule (n : Nat) : Reads enc Tryz.prog w 1048576 n 76 RULE.c RULE.Ok :=
  (reads_struct (sz := 1 + (5 + (5 + 0))) Tryz.underlying76 (by kernel_rfl) fun m _ => readsF_cons (rdStr m) rfl (by kernel_rfl) (readsF_cons (rdExp m) rfl (by kernel_rfl) (readsF_cons (rdServe m) rfl (by kernel_rfl) readsF_nil))).map
    (fun p => (⟨p.1, p.2.1, p.2.2.1⟩ : RULE)) (fun p => by rw [EXP.c_eq]; rfl) fun p h => ⟨h.1.len, h.2.1, h.2.2.1⟩
theorem rdPrqs (n : Nat) : Reads enc Tryz.prog w 1048576 n 61 (fun l : List PRQ => [prqL l]) prqOk := rdList n Tryz.underlying61 (by kernel_rfl) (by omega) (fun _ => rfl) rdPrq
theorem rdTgts (n : Nat) : Reads enc Tryz.prog w 1048576 n 62 (fun l : List TGT => [tgtL l]) (okL TGT.Ok) := rdList n Tryz.underlying62 (by kernel_rfl) (by omega) (fun _ => rfl) rdTgt
theorem rdRules (n : Nat) : Reads enc Tryz.prog w 1048576 n 63 (fun l : List RULE => [rulL l]) (okL RULE.Ok) := rdList n Tryz.underlying63 (by kernel_rfl) (by omega) (fun _ => rfl) rdRule
theorem rdFlag (n : Nat) : Reads enc Tryz.prog w 1048576 n 65 FLAG.c FLAG.Ok :=
  (reads_struct (sz := 1 + (1 + (1 + (1 + (1 + (1 + (1 + (1 + (5 + 0))))))))) Tryz.underlying65 (by kernel_rfl) fun m _ => readsF_cons (rdStr m) rfl (by kernel_rfl) (readsF_cons (rdInt m) rfl (by kernel_rfl) (readsF_cons (rdVals m) rfl (by kernel_rfl) (readsF_cons (rdBool m) rfl (by kernel_rfl) (readsF_cons (rdInt m) rfl (by kernel_rfl) (readsF_cons (rdPrqs m) rfl (by kernel_rfl) (readsF_cons (rdTgts m) rfl (by kernel_rfl) (readsF_cons (rdRules m) rfl (by kernel_rfl) (readsF_cons (rdServe m) rfl (by kernel_rfl) readsF_nil))))))))).map
    (fun p => (⟨p.1, p.2.1, p.2.2.1, p.2.2.2.1, p.2.2.2.2.1, p.2.2.2.2.2.1, p.2.2.2.2.2.2.1, p.2.2.2.2.2.2.2.1, p.2.2.2.2.2.2.2.2.1⟩ : FLAG)) (fun _ => rfl) fun p h => by
      obtain ⟨h1, h2, h3, h4, h5, h6, h7, h8, h9, _⟩ := h
      exact ⟨h1.len, h3, h6, h7, h8, h9⟩
theorem rdSeg (n : Nat) : Reads enc Tryz.prog w 1048576 n 71 SEG.c SEG.Ok :=
  (reads_struct (sz := 1 + (1 + (1 + (1 + (5 + 0))))) Tryz.underlying71 (by kernel_rfl) fun m _ => readsF_cons (rdStr m) rfl (by kernel_rfl) (readsF_cons (rdStr m) rfl (by kernel_rfl) (readsF_cons (rdStrs m) rfl (by kernel_rfl) (readsF_cons (rdStrs m) rfl (by kernel_rfl) (readsF_cons (rdExp m) rfl (by kernel_rfl) readsF_nil))))).map
    (fun p => (⟨p.1, p.2.1, p.2.2.1, p.2.2.2.1, p.2.2.2.2.1⟩ : SEG)) (fun p => by rw [EXP.c_eq]; rfl) fun p h => by
      obtain ⟨h1, h2, h3, h4, h5, _⟩ := h
      exact ⟨h1.len, h2.len, h3.strs, h4.strs, h5⟩
theorem rdLayer (n : Nat) : Reads enc Tryz.prog w 1048576 n 74 LAYER.c LAYER.Ok :=
  (reads_struct (sz := 1 + (1 + (1 + (1 + (1 + (1 + 0)))))) Tryz.underlying74 (by kernel_rfl) fun m _ => readsF_cons (rdStr m) rfl (by kernel_rfl) (readsF_cons (rdStr m) rfl (by kernel_rfl) (readsF_cons (rdStr m) rfl (by kernel_rfl) (readsF_cons (rdInt m) rfl (by kernel_rfl) (readsF_cons (rdInt m) rfl (by kernel_rfl) (readsF_cons (rdCools m) rfl (by kernel_rfl) readsF_nil)))))).map
    (fun p => (⟨p.1, p.2.1, p.2.2.1, p.2.2.2.1, p.2.2.2.2.1, p.2.2.2.2.2.1⟩ : LAYER)) (fun _ => rfl) fun p h => by
      obtain ⟨h1, h2, h3, h4, h5, h6, _⟩ := h
      exact ⟨h1.len, h2.len, h3.len, h6.1⟩
theorem rdExpt (n : Nat) : Reads enc Tryz.prog w 1048576 n 42 EXPT.c EXPT.Ok :=
  (reads_struct (sz := 1 + (1 + (1 + (1 + (1 + (1 + (1 + (5 + 0)))))))) Tryz.underlying42 (by kernel_rfl) fun m _ => readsF_cons (rdStr m) rfl (by kernel_rfl) (readsF_cons (rdStr m) rfl (by kernel_rfl) (readsF_cons (rdStr m) rfl (by kernel_rfl) (readsF_cons (rdStr m) rfl (by kernel_rfl) (readsF_cons (rdInt m) rfl (by kernel_rfl) (readsF_cons (rdSpns m) rfl (by kernel_rfl) (readsF_cons (rdRngs m) rfl (by kernel_rfl) (readsF_cons (rdExp m) rfl (by kernel_rfl) readsF_nil)))))))).map
    (fun p => (⟨p.1, p.2.1, p.2.2.1, p.2.2.2.1, p.2.2.2.2.1, p.2.2.2.2.2.1, p.2.2.2.2.2.2.1, p.2.2.2.2.2.2.2.1⟩ : EXPT)) (fun p => by rw [EXP.c_eq]; rfl) fun p h => by
      obtain ⟨h1, h2, h3, h4, h5, h6, h7, h8, _⟩ := h
      exact ⟨h1.len, h2.len, h3.len, h4.len, h6.1, h7.1, h8⟩
end
end Go.SH

namespace Go.Ab
open Go Go.RowKit
section
variable {H : Type} (enc : TypeId × Value → H) (P : Program) (w : World) (held : Bool)
/-- Whatever reads as this datum at this type is these cells. -/
def RX (t : TypeId) (d : DataW H) (us : List AV) : Prop :=
  us.length = P.cellsOf t ∧ ∀ n cs p, DataW.trod enc P w 0 (fun _ => true) held n t cs = some (d, p) → CellsR (startCx w) us cs
variable {enc P w held}
theorem rx_int {t : TypeId} {k : IntKind} {z : Int} (ht : P.underlying t = some (.int k)) (hc : P.cellsOf t = 1) : RX enc P w held t (.lit (.int k z)) [.int k z] := ⟨hc.symm, fun n cs p h => by
  obtain ⟨z', rfl, hx, _⟩ := DataW.trod_int ht h
  simp only [Prod.mk.injEq, DataW.lit.injEq, Lit.int.injEq, true_and] at hx
  obtain ⟨rfl, _⟩ := hx
  exact .one1 rfl rfl (.int _ _)⟩
theorem rx_str {t : TypeId} {s : List UInt8} (ht : P.underlying t = some .string) (hc : P.cellsOf t = 1) : RX enc P w held t (.lit (.string s)) [.str s] := ⟨hc.symm, fun n cs p h => by
  obtain ⟨z, rfl, hx, _⟩ := DataW.trod_string ht h
  simp only [Prod.mk.injEq, DataW.lit.injEq, Lit.string.injEq] at hx
  obtain ⟨rfl, _⟩ := hx
  refine .one1 rfl rfl ?_
  have := Rep.str (c := startCx w) z.data.toList
  rwa [Array.toArray_toList] at this⟩
theorem rx_iface {t : TypeId} {ms : Array (String × TypeId)} {nm : String} {d : DataW H} (ht : P.underlying t = some (.interface ms)) (hc : P.cellsOf t = 1) : RX enc P w held t (.iface nm d) [.nni] := ⟨hc.symm, fun n cs p h => by
  cases n with
  | zero => simp [DataW.trod] at h
  | succ n =>
    unfold DataW.trod at h
    rw [ht] at h
    split at h <;> simp_all
    exact .one1 rfl rfl (.nni _ _)⟩
theorem rx_flat {c : Cx} {cs : List Value} {sz : Nat} : ∀ (us : List (List AV)) (k : Nat), (∀ (i : Nat) (u : List AV), us[i]? = some u → CellsR c u ((cs.drop ((k + i) * sz)).take sz) ∧ u.length = sz) → cs.length = (k + us.length) * sz → CellsR c us.flatten (cs.drop (k * sz))
  | [], k, _, hl => by
    rw [List.drop_eq_nil_of_le (by simp at hl; omega)]
    exact .nil _
  | u :: us, k, h, hl => by
    have h0 := h 0 u rfl
    have ih := rx_flat us (k + 1) (fun i v hv => by
      have := h (i + 1) v (by simpa using hv)
      rwa [show k + (i + 1) = k + 1 + i by omega] at this) (by rw [hl]; simp only [List.length_cons]; congr 1; omega)
    have e : cs.drop (k * sz) = (cs.drop (k * sz)).take sz ++ cs.drop ((k + 1) * sz) := by
      rw [show (k + 1) * sz = k * sz + sz by rw [Nat.add_mul, Nat.one_mul], ← List.drop_drop, List.take_append_drop]
    rw [e, List.flatten_cons]
    exact h0.1.append ih
theorem rx_array {t e : TypeId} {m sz : Nat} {ds : List (DataW H)} {us : List (List AV)} (ht : P.underlying t = some (.array m e)) (he : P.cellsOf e = sz) (hc : P.cellsOf t = m * sz) (hl : us.length = m)
    (h : ∀ (i : Nat) (d : DataW H) (u : List AV), ds[i]? = some d → us[i]? = some u → RX enc P w held e d u) (hd : ds.length = m) : RX enc P w held t (.agg ds) us.flatten := by
  have hu : ∀ (i : Nat) (u : List AV), us[i]? = some u → u.length = sz := fun i u hi => by
    have hlt := (List.getElem?_eq_some_iff.1 hi).1
    rw [(h i (ds[i]'(by omega)) u (List.getElem?_eq_getElem _) hi).1, he]
  refine ⟨?_, fun n cs p hx => ?_⟩
  · rw [hc, List.length_flatten, ← hl]
    have : ∀ l : List (List AV), (∀ (i : Nat) (u : List AV), l[i]? = some u → u.length = sz) → (l.map List.length).sum = l.length * sz := by
      intro l
      induction l with
      | nil => intro _; simp
      | cons a r ih =>
        intro h
        have h0 := h 0 a rfl
        have h1 := ih fun i u hi => h (i + 1) u (by simpa using hi)
        simp only [List.map_cons, List.sum_cons, h1, h0, List.length_cons, Nat.add_mul, Nat.one_mul]; omega
    exact this us hu
  · cases n with
    | zero => simp [DataW.trod] at hx
    | succ n =>
      simp only [DataW.trod, ht, he, hc] at hx
      split at hx
      · rename_i hcl
        obtain ⟨xs, hm, hxe⟩ := Option.map_eq_some_iff.1 hx
        have hxs : xs.map (·.1) = ds := by
          have := congrArg Prod.fst hxe
          simpa using this
        obtain ⟨hxl, hat⟩ := mapM_at hm
        have hxl : xs.length = m := by simpa using hxl
        have := rx_flat (c := startCx w) (cs := cs) (sz := sz) us 0 (fun i u hi => by
          have hlt := (List.getElem?_eq_some_iff.1 hi).1
          have hlt2 : i < xs.length := by omega
          have hf := hat i i (List.getElem?_range (by omega))
          rw [List.getElem?_eq_getElem hlt2] at hf
          have hdi : ds[i]? = some (xs[i]'hlt2).1 := by
            have := congrArg (·[i]?) hxs
            simp only [List.getElem?_map, List.getElem?_eq_getElem hlt2, Option.map_some] at this
            exact this.symm
          refine ⟨?_, hu i u hi⟩
          rw [Nat.zero_add]
          exact (h i _ u hdi hi).2 n _ (xs[i]'hlt2).2 hf) (by rw [hcl, Nat.zero_add, hl])
        simpa using this
      · cases hx
theorem rx_two {t : TypeId} {f0 f1 : Field} {d0 d1 : DataW H} {u0 u1 : List AV} (ht : P.underlying t = some (.struct #[f0, f1])) (h0 : RX enc P w held f0.type d0 u0) (h1 : RX enc P w held f1.type d1 u1) (o0 : f0.offset = 0) (o1 : f1.offset = P.cellsOf f0.type) (hc : P.cellsOf t = P.cellsOf f0.type + P.cellsOf f1.type) :
    RX enc P w held t (.agg [d0, d1]) (u0 ++ u1) := by
  refine ⟨by rw [List.length_append, h0.1, h1.1, hc], fun n cs p hx => ?_⟩
  obtain ⟨xs, m, rfl, hxe, hl, hxl, hf⟩ := DataW.trod_struct ht hx
  match xs, hxl with
  | [y0, y1], _ =>
    simp only [List.map_cons, List.map_nil, Prod.mk.injEq, DataW.agg.injEq, List.cons.injEq, and_true] at hxe
    obtain ⟨⟨rfl, rfl⟩, _⟩ := hxe
    have a0 := hf 0 f0 rfl
    have a1 := hf 1 f1 rfl
    rw [o0, List.drop_zero] at a0
    rw [o1] at a1
    have b0 := h0.2 m _ y0.2 a0
    have b1 := h1.2 m _ y1.2 a1
    have e : cs = cs.take (P.cellsOf f0.type) ++ (cs.drop (P.cellsOf f0.type)).take (P.cellsOf f1.type) := by
      rw [List.take_of_length_le (l := cs.drop (P.cellsOf f0.type)) (by rw [List.length_drop]; omega), List.take_append_drop]
    rw [e]
    exact b0.append b1
/-- A table of numbers. -/
theorem rx_ints {t e : TypeId} {m : Nat} {k : IntKind} {zs : List Int} (ht : P.underlying t = some (.array m e)) (he : P.underlying e = some (.int k)) (hc : P.cellsOf e = 1) (hct : P.cellsOf t = m) (hl : zs.length = m) :
    RX enc P w held t (.agg (zs.map fun z => .lit (.int k z))) (zs.map fun z => .int k z) := by
  have := rx_array (enc := enc) (P := P) (w := w) (held := held) (ds := zs.map fun z => (.lit (.int k z) : DataW H)) (us := zs.map fun z => [AV.int k z]) ht hc (by rw [hct, Nat.mul_one]) (by simpa using hl) (fun i d u hd hu => by
    rw [List.getElem?_map, Option.map_eq_some_iff] at hd hu
    obtain ⟨z, hz, rfl⟩ := hd
    obtain ⟨z', hz', rfl⟩ := hu
    obtain rfl : z = z' := by rw [hz] at hz'; exact Option.some.inj hz'
    exact rx_int he hc) (by simpa using hl)
  rwa [show (zs.map fun z => [AV.int k z]).flatten = zs.map fun z => AV.int k z by induction zs with
    | nil => rfl
    | cons a r ih => rw [List.map_cons, List.flatten_cons, List.map_cons, List.singleton_append]; congr 1; clear hl this ih; induction r with
      | nil => rfl
      | cons b q ih => rw [List.map_cons, List.flatten_cons, ih]; rfl] at this
end
theorem laid_at {P : Program} {w : World} : ∀ {laid : List (String × DataW Unit)} {ps : List MemPlace}, DataW.LaidVars P w laid ps → ∀ {nm : String} {d : DataW Unit}, (nm, d) ∈ laid →
    ∃ g t cs fuel p, P.globalNamed nm = some g ∧ (P.globals[g]?).map (·.type) = some t ∧ w.var? P nm = some cs ∧ DataW.trod (fun _ => ()) P w 0 (fun _ => true) false fuel t cs.toList = some (d, p)
  | [], _, _, _, _, hm => by simp at hm
  | (n0, d0) :: r, ps, h, nm, d, hm => by
    obtain ⟨g, t, cs, fuel, p, q, h1, h2, h3, h4, h5, _⟩ := h
    rcases List.mem_cons.1 hm with e | hm
    · simp only [Prod.mk.injEq] at e
      obtain ⟨rfl, rfl⟩ := e
      exact ⟨g, t, cs, fuel, p, h1, h2, h3, h4⟩
    · exact laid_at h5 hm
theorem rep_cells {w : World} {g : Nat} {us : List AV} {cs : Array Value} (hv : ∀ i, w.cell? ⟨g, i, none⟩ = cs[i]?) (h : CellsR (startCx w) us cs.toList) : Rep (startCx w) (.elt us 0) (.pointer (some ⟨g, 0, none⟩)) := by
  have hi : ∀ (i : Nat) (u : AV), us[i]? = some u → ∃ v, cs[i]? = some v ∧ Rep (startCx w) u v := fun i u hu => by
    have hlt := (List.getElem?_eq_some_iff.1 hu).1
    have hlt' : i < cs.size := by have := h.len; simp at this; omega
    refine ⟨cs[i], Array.getElem?_eq_getElem hlt', ?_⟩
    have := h.rep i u hu
    rwa [List.getD_eq_getElem?_getD, Array.getElem?_toList, Array.getElem?_eq_getElem hlt'] at this
  refine .elt us 0 g 0 (fun i => (cs[i]?).getD undef) (keysL_nil fun u hu => (h.one u hu).2) (fun i u hu => ?_) (fun i u hu => ?_)
  · obtain ⟨v, h1, h2⟩ := hi i u hu
    rw [Nat.zero_add]
    refine ⟨(h.one u (List.mem_of_getElem? hu)).1, ?_, v, ?_⟩
    · show w.cell? _ = _
      rw [hv, h1]; rfl
    · rw [hv, h1]
  · obtain ⟨v, h1, h2⟩ := hi i u hu
    rw [h1]; exact h2
theorem rep_glob {P : Program} {w : World} {laid : List (String × DataW Unit)} (h : laidMet P laid w) {nm : String} {d : DataW Unit} {g : Nat} {t : TypeId} {us : List AV} (hm : (nm, d) ∈ laid) (hg : P.globalNamed nm = some g) (ht : (P.globals[g]?).map (·.type) = some t)
    (hr : RX (fun _ => ()) P w false t d us) : Rep (startCx w) (.elt us 0) (.pointer (some ⟨g, 0, none⟩)) := by
  obtain ⟨ps, hl, _⟩ := h
  obtain ⟨g', t', cs, fuel, p, h1, h2, h3, h4⟩ := laid_at hl hm
  obtain rfl := Option.some.inj (hg.symm.trans h1)
  obtain rfl := Option.some.inj (ht.symm.trans h2)
  exact rep_cells (fun i => World.var?_cell h1 h3 i) (hr.2 fuel _ p h4)
theorem calls_true_of {P : Program} {G : Nat → Option (List AV)} {f : FuncId} {l : List AV} {os : List AO} {xs : List Value} {w : World} (hg : ∀ g cs, G g = some cs → Rep (startCx w) (.elt cs 0) (.pointer (some ⟨g, 0, none⟩))) (h : Ct P G f l [] (.bool true, os)) (hs : Stand w l xs) :
    Calls P f xs.toArray w fun e w' => e = .returned (.bool true) ∧ Below w.heap.size w w' := by
  obtain ⟨h1, h2, h3⟩ := hs.spec
  refine (h.1 (startCx w) xs.toArray ⟨fun _ _ h => h, hg⟩ (startCx_objs w) (by simpa using h1) (fun i u hu => ?_) (by rw [h2]; simp)).mono ?_
  · have := h3 i u hu
    simpa [Array.getD_eq_getD_getElem?, List.getD_eq_getElem?_getD] using this
  · rintro e w' ⟨c', x, rfl, rfl, _, hF, _, hr, _, _⟩
    cases hr
    refine ⟨rfl, hF.os, hF.tape, hF.output, hF.size, fun b hb => hF.block b hb ?_⟩
    rintro ⟨k, o, ho, _⟩
    simp [enterObjs, alook] at ho
end Go.Ab

namespace Go.SH
open Go Go.Ab Go.Proofs Go.RowKit Go.Proofs.YtnldpiohcmgkdaaGreatDoor
set_option linter.unusedVariables false
set_option linter.unusedSimpArgs false
mutual
theorem bulk_eq {H : Type} : ∀ d : DataW H, Rows.uptoBulk d = bulkD d
  | .lit (.string _) => by simp only [Rows.uptoBulk, bulkD]
  | .lit (.int _ _) => by simp only [Rows.uptoBulk, bulkD]
  | .lit (.bool _) => by simp only [Rows.uptoBulk, bulkD]
  | .lit (.float _ _) => by simp only [Rows.uptoBulk, bulkD]
  | .lit .nil => by simp only [Rows.uptoBulk, bulkD]
  | .nil => by simp only [Rows.uptoBulk, bulkD]
  | .ptr d => by simp only [Rows.uptoBulk, bulkD, bulk_eq d]
  | .slice a b => by simp only [Rows.uptoBulk, bulkD, bulkAll_eq a, bulkAll_eq b]
  | .agg a => by simp only [Rows.uptoBulk, bulkD, bulkAll_eq a]
  | .iface _ d => by simp only [Rows.uptoBulk, bulkD, bulk_eq d]
  | .map a => by simp only [Rows.uptoBulk, bulkD, bulkM_eq a]
  | .held _ => by simp only [Rows.uptoBulk, bulkD]
theorem bulkAll_eq {H : Type} : ∀ l : List (DataW H), Rows.uptoBulkAll l = bulkL l
  | [] => by simp only [Rows.uptoBulkAll, bulkL]
  | d :: r => by simp only [Rows.uptoBulkAll, bulkL, bulk_eq d, bulkAll_eq r]
theorem bulkM_eq {H : Type} : ∀ l : List (Lit × DataW H), Rows.uptoBulkEntries l = bulkM l
  | [] => by simp only [Rows.uptoBulkEntries, bulkM]
  | d :: r => by simp only [Rows.uptoBulkEntries, bulkM, bulkE_eq d, bulkM_eq r]
theorem bulkE_eq {H : Type} : ∀ x : Lit × DataW H, Rows.uptoBulkEntry x = bulkE x
  | (.string _, d) => by simp only [Rows.uptoBulkEntry, bulkE, bulk_eq d]
  | (.int _ _, d) => by simp only [Rows.uptoBulkEntry, bulkE, bulk_eq d]
  | (.bool _, d) => by simp only [Rows.uptoBulkEntry, bulkE, bulk_eq d]
  | (.float _ _, d) => by simp only [Rows.uptoBulkEntry, bulkE, bulk_eq d]
  | (.nil, d) => by simp only [Rows.uptoBulkEntry, bulkE, bulk_eq d]
end
/-- The numbers of a table. -/
def dints : List (DataW Unit) → List Int
  | .lit (.int _ z) :: r => z :: dints r
  | _ => []
def dpairs : List (DataW Unit) → List (Int × Int)
  | .agg [.lit (.int _ y), .lit (.int _ z)] :: r => (y, z) :: dpairs r
  | _ => []
def parts : DataW Unit → List (DataW Unit)
  | .agg ds => ds
  | _ => []
theorem rxSpace {w : World} {d : DataW Unit} (hd : d = .agg ((dints (parts d)).map fun z => .lit (.int .u8 z))) (hl : (dints (parts d)).length = 256) (hc : dcells d = (dints (parts d)).map fun z => .int .u8 z) : RX (fun _ => ()) Tryz.prog w false 179 d (dcells d) := by
  rw [hc]
  have := rx_ints (enc := fun _ => ()) (P := Tryz.prog) (w := w) (held := false) (t := 179) (e := 5) (m := 256) (k := .u8) (zs := dints (parts d)) Tryz.underlying179 Tryz.underlying5 (by kernel_rfl) (by kernel_rfl) hl
  rwa [← hd] at this
theorem rxAccept {w : World} {d : DataW Unit} (hd : d = .agg ((dpairs (parts d)).map fun p => .agg [.lit (.int .u8 p.1), .lit (.int .u8 p.2)])) (hl : (dpairs (parts d)).length = 16) (hc : dcells d = ((dpairs (parts d)).map fun p => [AV.int .u8 p.1] ++ [AV.int .u8 p.2]).flatten) : RX (fun _ => ()) Tryz.prog w false 185 d (dcells d) := by
  rw [hc]
  have := rx_array (enc := fun _ => ()) (P := Tryz.prog) (w := w) (held := false) (t := 185) (e := 184) (m := 16) (sz := 2) (ds := (dpairs (parts d)).map fun p => .agg [.lit (.int .u8 p.1), .lit (.int .u8 p.2)]) (us := (dpairs (parts d)).map fun p => [AV.int .u8 p.1] ++ [AV.int .u8 p.2]) Tryz.underlying185 (by kernel_rfl) (by kernel_rfl) (by simpa using hl) (fun i d u hd hu => by
    rw [List.getElem?_map, Option.map_eq_some_iff] at hd hu
    obtain ⟨z, hz, rfl⟩ := hd
    obtain ⟨z', hz', rfl⟩ := hu
    obtain rfl : z = z' := by rw [hz] at hz'; exact Option.some.inj hz'
    exact rx_two Tryz.underlying184 (rx_int Tryz.underlying5 (by kernel_rfl)) (rx_int Tryz.underlying5 (by kernel_rfl)) rfl (by kernel_rfl) (by kernel_rfl)) (by simpa using hl)
  rwa [← hd] at this
set_option maxRecDepth 100000 in
/-- The variable that no row lists: some number. -/
theorem maxLen_cell {w : World} (h : w.ShapedOpen Tryz.prog) : Rep (startCx w) (.elt [.num .i64] 0) (.pointer (some ⟨7, 0, none⟩)) := by
  obtain ⟨cs, h1, h2, h3⟩ := h.1 7 #[.int .i64 0] 3 (of_decide_eq_true (by kernel_rfl)) (by kernel_rfl)
  obtain ⟨ts, e1, e2, e3⟩ := h3 (by kernel_rfl)
  have e0 : Tryz.prog.cellTypes Tryz.prog.depth 3 = some [3] := by kernel_rfl
  rw [e0] at e1
  obtain rfl := Option.some.inj e1
  have hlt : 0 < cs.size := by rw [h2]; decide
  obtain ⟨u, hu, hok⟩ := e3 0 cs[0] (Array.getElem?_eq_getElem hlt)
  simp only [List.length_singleton, Nat.mod_one, List.getElem?_cons_zero, Option.some.injEq] at hu
  subst hu
  unfold Cell.ok at hok
  rw [show Tryz.prog.underlying 3 = some (.int .i64) from Tryz.underlying3] at hok
  have hcell : ∀ i, w.cell? ⟨7, i, none⟩ = cs[i]? := fun i => by
    unfold World.cell?
    simp [h1]
  refine rep_cells hcell ⟨by simpa using h2, fun u hu => by simp at hu; subst hu; exact ⟨rfl, rfl⟩, fun i u hu => ?_⟩
  cases i with
  | succ i => simp at hu
  | zero =>
    simp at hu; subst hu
    rw [List.getD_eq_getElem?_getD, Array.getElem?_toList, Array.getElem?_eq_getElem hlt]
    show Rep _ _ cs[0]
    generalize cs[0] = v at hok ⊢
    cases v with
    | int k n => obtain ⟨rfl, _⟩ := hok; exact .num _ _
    | _ => simp at hok
/-- Whatever a row lists, as long as the five tables are on its list. -/
theorem globs_of {w : World} {laid : List (String × DataW Unit)} (h : laidMet Tryz.prog laid w) (ho : w.ShapedOpen Tryz.prog)
    (m3 : ("strings.asciiSpace", Rows.laid_strings_asciiSpace) ∈ laid) (m4 : ("unicode/utf8.first", Rows.laid_unicode_utf8_first) ∈ laid) (m5 : ("unicode/utf8.acceptRanges", Rows.laid_unicode_utf8_acceptRanges) ∈ laid)
    (m8 : ("strconv.ErrSyntax", Rows.laid_strconv_ErrSyntax) ∈ laid) (m9 : ("strconv.ErrRange", Rows.laid_strconv_ErrRange) ∈ laid) :
    ∀ g cs, V.G g = some cs → Rep (startCx w) (.elt cs 0) (.pointer (some ⟨g, 0, none⟩)) := by
  intro g cs hg
  have hg : globs g = some cs := hg
  unfold globs at hg
  by_cases h3 : g = 3
  · subst h3
    obtain rfl := Option.some.inj hg
    exact rep_glob h m3 (by kernel_rfl) (by kernel_rfl) (rxSpace (by kernel_rfl) (by kernel_rfl) (by kernel_rfl))
  rw [beqF h3, cond_false] at hg
  by_cases h4 : g = 4
  · subst h4
    obtain rfl := Option.some.inj hg
    exact rep_glob h m4 (by kernel_rfl) (by kernel_rfl) (rxSpace (by kernel_rfl) (by kernel_rfl) (by kernel_rfl))
  rw [beqF h4, cond_false] at hg
  by_cases h5 : g = 5
  · subst h5
    obtain rfl := Option.some.inj hg
    exact rep_glob h m5 (by kernel_rfl) (by kernel_rfl) (rxAccept (by kernel_rfl) (by kernel_rfl) (by kernel_rfl))
  rw [beqF h5, cond_false] at hg
  by_cases h7 : g = 7
  · subst h7
    obtain rfl := Option.some.inj hg
    exact maxLen_cell ho
  rw [beqF h7, cond_false] at hg
  by_cases h8 : g = 8
  · subst h8
    obtain rfl := Option.some.inj hg
    exact rep_glob h m8 (by kernel_rfl) (by kernel_rfl) (rx_iface Tryz.underlying219 (by kernel_rfl))
  rw [beqF h8, cond_false] at hg
  by_cases h9 : g = 9
  · subst h9
    obtain rfl := Option.some.inj hg
    exact rep_glob h m9 (by kernel_rfl) (by kernel_rfl) (rx_iface Tryz.underlying219 (by kernel_rfl))
  rw [beqF h9, cond_false] at hg
  cases hg
end Go.SH

namespace Go.Ab
open Go Go.RowKit
section
variable {H : Type} {enc : TypeId × Value → H} {P : Program} {w : World} {held : Bool}
theorem rx_strs {t e : TypeId} {l : List (List UInt8)} (ht : P.underlying t = some (.slice e)) (he : P.underlying e = some .string) (hc : P.cellsOf e = 1) (hct : P.cellsOf t = 1) :
    RX enc P w held t (.slice (l.map fun s => .lit (.string s)) []) [.sl .no 1 l.length fun j => [.str (l.getD j [])]] := ⟨hct.symm, fun n cs p h => by
  rcases DataW.trod_slice ht h with ⟨_, hx⟩ | ⟨ad, len, cap, elems, rest, m, rfl, rfl, hx, _, hle, hcap, hel, hat, hsp, _⟩
  · simp at hx
  simp only [Prod.mk.injEq, DataW.slice.injEq] at hx
  obtain ⟨⟨h1, h2⟩, _⟩ := hx
  have h2 : rest = [] := by cases rest with | nil => rfl | cons => simp at h2
  subst h2
  have hcl : cap = len := by have := (hsp rfl).1; simp at this; omega
  subst hcl
  have hll : l.length = cap := by have := congrArg List.length h1; simp at this; omega
  subst hll
  have hel1 : ∀ i, i < l.length → ∃ v, w.cells? 0 (ad.add (i * 1)) 1 = some [v] ∧ Rep (startCx w) (.str (l.getD i [])) v := by
    intro i hi
    have hi' : i < elems.length := by omega
    have := hat i hi
    rw [hc, List.getElem?_eq_getElem hi', Option.bind_eq_some_iff] at this
    obtain ⟨vs, g1, g2⟩ := this
    have e1 : elems[i].1 = .lit (.string (l.getD i [])) := by
      have := congrArg (fun q => q[i]?) h1
      simp [hi, hi'] at this
      rw [← this]; simp [List.getD, hi]
    obtain ⟨y, hy⟩ : ∃ y, elems[i] = (DataW.lit (.string (l.getD i [])), y) := ⟨elems[i].2, by rw [← e1]⟩
    rw [hy] at g2
    have g3 := (rx_str (enc := enc) (P := P) (w := w) (held := held) he hc).2 m vs y g2
    have g4 : vs.length = 1 := by have := g3.len; simpa using this
    obtain ⟨v, rfl⟩ := List.length_eq_one_iff.1 g4
    exact ⟨v, g1, by simpa using g3.rep 0 _ rfl⟩
  have hspot : 0 < l.length → ad.spot = none := by
    intro h0
    obtain ⟨v, g1, _⟩ := hel1 0 h0
    obtain ⟨h3, h4⟩ := cells?_at g1
    have h5 := h4 0 (by omega)
    rw [Nat.zero_mul] at h5
    have e0 : ((ad.add 0).add 0) = ad := by unfold Addr.add; simp
    rw [e0] at h5
    exact World.cell?_spot h5
  have hadd : ∀ i, i < l.length → (ad.add (i * 1)).add 0 = ⟨ad.block, ad.off + (i * 1 + 0), none⟩ := by
    intro i hi
    have hs := hspot (by omega)
    obtain ⟨b, o, sp⟩ := ad
    simp only at hs
    subst hs
    by_cases c1 : i = 0
    · subst c1; rfl
    · have e1 : (⟨b, o, none⟩ : Addr).add (i * 1) = ⟨b, o + i * 1, none⟩ := by
        unfold Addr.add
        rw [if_neg (show ¬ i * 1 = 0 by omega)]
      rw [e1]; rfl
  have hcell : ∀ (j i : Nat) (u : AV), j < l.length → [AV.str (l.getD j [])][i]? = some u → ∃ v, w.cell? ⟨ad.block, ad.off + (j * 1 + i), none⟩ = some v ∧ Rep (startCx w) u v := by
    intro j i u hj hu
    cases i with
    | succ i => simp at hu
    | zero =>
      simp at hu; subst hu
      obtain ⟨v, g1, g2⟩ := hel1 j hj
      obtain ⟨h3, h4⟩ := cells?_at g1
      have h5 := h4 0 (by omega)
      rw [hadd j hj] at h5
      exact ⟨v, h5, by simpa [List.getD] using g2⟩
  refine .one1 rfl rfl (.sl .no 1 l.length _ ad l.length (fun j i => (w.cell? ⟨ad.block, ad.off + (j * 1 + i), none⟩).getD undef) hspot (Nat.le_refl _) trivial (fun j hj => ⟨rfl, rfl⟩) (fun j i u hj hu => ?_) (fun j i u hj hu => ?_))
  · obtain ⟨v, g1, _⟩ := hcell j i u hj hu
    refine ⟨?_, ?_, v, g1⟩
    · cases i with
      | zero => simp at hu; subst hu; rfl
      | succ i => simp at hu
    · show w.cell? _ = _
      rw [g1]; rfl
  · obtain ⟨v, g1, g2⟩ := hcell j i u hj hu
    rw [g1]; exact g2⟩
end
end Go.Ab

namespace Go.SH
open Go Go.Ab Go.Proofs Go.RowKit Go.Proofs.YtnldpiohcmgkdaaGreatDoor
set_option linter.unusedVariables false
set_option linter.unusedSimpArgs false
def dstrs : List (DataW Unit) → List (List UInt8)
  | .lit (.string s) :: r => s :: dstrs r
  | _ => []
def dlists : List (DataW Unit) → List (List (List UInt8))
  | .slice es _ :: r => dstrs es :: dlists r
  | _ => []
theorem rx_texts {w : World} {t m : Nat} {d : DataW Unit} (ht : Tryz.prog.underlying t = some (.array m 9)) (hc : Tryz.prog.cellsOf t = m * 1) (hd : d = .agg ((dstrs (parts d)).map fun s => .lit (.string s))) (hl : (dstrs (parts d)).length = m) (he : tcells d = (dstrs (parts d)).map fun s => .str s) : RX (fun _ => ()) Tryz.prog w false t d (tcells d) := by
  rw [he]
  have := rx_array (enc := fun _ => ()) (P := Tryz.prog) (w := w) (held := false) (t := t) (e := 9) (m := m) (sz := 1) (ds := (dstrs (parts d)).map fun s => .lit (.string s)) (us := (dstrs (parts d)).map fun s => [AV.str s]) ht (by kernel_rfl) hc (by simpa using hl) (fun i d u hd hu => by
    rw [List.getElem?_map, Option.map_eq_some_iff] at hd hu
    obtain ⟨z, hz, rfl⟩ := hd
    obtain ⟨z', hz', rfl⟩ := hu
    obtain rfl : z = z' := by rw [hz] at hz'; exact Option.some.inj hz'
    exact rx_str Tryz.underlying9 (by kernel_rfl)) (by simpa using hl)
  rw [← hd] at this
  have hf : ∀ l : List (List UInt8), (l.map fun s => [AV.str s]).flatten = l.map fun s => AV.str s := fun l => by induction l with | nil => rfl | cons s r ih => simp [ih]
  rwa [hf] at this
theorem rx_lists {w : World} {t m : Nat} {d : DataW Unit} (ht : Tryz.prog.underlying t = some (.array m 32)) (hc : Tryz.prog.cellsOf t = m * 1) (hd : d = .agg ((dlists (parts d)).map fun l => .slice (l.map fun s => .lit (.string s)) [])) (hl : (dlists (parts d)).length = m) (he : tcells d = (dlists (parts d)).map fun l => strsA l) : RX (fun _ => ()) Tryz.prog w false t d (tcells d) := by
  rw [he]
  have := rx_array (enc := fun _ => ()) (P := Tryz.prog) (w := w) (held := false) (t := t) (e := 32) (m := m) (sz := 1) (ds := (dlists (parts d)).map fun l => .slice (l.map fun s => .lit (.string s)) []) (us := (dlists (parts d)).map fun l => [strsA l]) ht (by kernel_rfl) hc (by simpa using hl) (fun i d u hd hu => by
    rw [List.getElem?_map, Option.map_eq_some_iff] at hd hu
    obtain ⟨z, hz, rfl⟩ := hd
    obtain ⟨z', hz', rfl⟩ := hu
    obtain rfl : z = z' := by rw [hz] at hz'; exact Option.some.inj hz'
    exact rx_strs Tryz.underlying32 Tryz.underlying9 (by kernel_rfl) (by kernel_rfl)) (by simpa using hl)
  rw [← hd] at this
  have hf : ∀ l : List (List (List UInt8)), (l.map fun s => [strsA s]).flatten = l.map fun s => strsA s := fun l => by induction l with | nil => rfl | cons s r ih => simp [ih]
  rwa [hf] at this
/-- Whatever a row lists, as long as the eight tables are on its list. -/
theorem globs2_of {w : World} {laid : List (String × DataW Unit)} (h : laidMet Tryz.prog laid w) (ho : w.ShapedOpen Tryz.prog)
    (m0 : ("flagstone/flagstonedraw.versions", Rows.laid_flagstone_flagstonedraw_versions) ∈ laid) (m1 : ("flagstone/flagstonedraw.lists", Rows.laid_flagstone_flagstonedraw_lists) ∈ laid) (m2 : ("flagstone/flagstonedraw.texts", Rows.laid_flagstone_flagstonedraw_texts) ∈ laid)
    (m3 : ("strings.asciiSpace", Rows.laid_strings_asciiSpace) ∈ laid) (m4 : ("unicode/utf8.first", Rows.laid_unicode_utf8_first) ∈ laid) (m5 : ("unicode/utf8.acceptRanges", Rows.laid_unicode_utf8_acceptRanges) ∈ laid)
    (m8 : ("strconv.ErrSyntax", Rows.laid_strconv_ErrSyntax) ∈ laid) (m9 : ("strconv.ErrRange", Rows.laid_strconv_ErrRange) ∈ laid) :
    ∀ g cs, V2.G g = some cs → Rep (startCx w) (.elt cs 0) (.pointer (some ⟨g, 0, none⟩)) := by
  intro g cs hg
  have hg : globs2 g = some cs := hg
  unfold globs2 at hg
  by_cases h0 : g = 0
  · subst h0
    obtain rfl := Option.some.inj hg
    exact rep_glob h m0 (by kernel_rfl) (by kernel_rfl) (rx_texts (m := 6) (t := 156) (by kernel_rfl) (by kernel_rfl) (by kernel_rfl) (by kernel_rfl) (by kernel_rfl))
  rw [beqF h0, cond_false] at hg
  by_cases h1 : g = 1
  · subst h1
    obtain rfl := Option.some.inj hg
    exact rep_glob h m1 (by kernel_rfl) (by kernel_rfl) (rx_lists (m := 5) (t := 157) (by kernel_rfl) (by kernel_rfl) (by kernel_rfl) (by kernel_rfl) (by kernel_rfl))
  rw [beqF h1, cond_false] at hg
  by_cases h2 : g = 2
  · subst h2
    obtain rfl := Option.some.inj hg
    exact rep_glob h m2 (by kernel_rfl) (by kernel_rfl) (rx_texts (m := 11) (t := 158) (by kernel_rfl) (by kernel_rfl) (by kernel_rfl) (by kernel_rfl) (by kernel_rfl))
  rw [beqF h2, cond_false] at hg
  exact globs_of h ho m3 m4 m5 m8 m9 g cs hg
section
variable {H : Type} {enc : TypeId × Value → H} {w : World} {N : Nat}
def byteI (z : Int) : Prop := 0 ≤ z ∧ z < 256
theorem rdByte (n : Nat) : Reads enc Tryz.prog w N n 5 (fun z : Int => [.int .u8 z]) byteI := (reads_int Tryz.underlying5).map id (fun _ => rfl) fun z h => by
  simp [Lit.wf, IntKind.min, IntKind.max, IntKind.signed, IntKind.bits] at h
  exact ⟨h.1, by show z < 256; omega⟩
/-- A slice of bytes, as the codes have it. -/
def byteS (l : List Int) : AV := .sl .no 1 l.length fun j => [.int .u8 (l.getD j 0)]
theorem rdBytes (n : Nat) : Reads enc Tryz.prog w N n 26 (fun l : List Int => [byteS l]) (fun l => ∀ z ∈ l, byteI z) :=
  (reads_slice (e := 5) (sz := 1) (α := Int) (cl := fun z => [.int .u8 z]) (Ok := byteI) (fun l j => [.int .u8 (l.getD j 0)]) Tryz.underlying26 (by kernel_rfl) (by omega) (fun _ => rfl) (fun _ _ _ => rfl) (fun m _ => rdByte m)).map id (fun _ => rfl) fun l h => h.2.2
end
/-- A slice that came in. -/
theorem slice_rep {P : Program} {H : Type} {enc : TypeId × Value → H} {W : World} {base : Nat} {t e : TypeId} {v : Value} {d : DataW H} {p : List MemPlace} {α : Type} {cl : α → AV} {Ok : α → Prop} (hs : P.underlying t = some (.slice e))
    (hv : Value.okWide P W .any base t v) (h : DataW.Trod enc P W 0 (fun _ => true) true t v d p) {N : Nat} (hr : ∀ n, Reads enc P W N n t (fun a => [cl a]) Ok) (hb : bulkD d ≤ N) :
    ∃ a, Ok a ∧ Rep (startCx W) (cl a) v ∧ (cl a).keys = [] := by
  obtain ⟨a, len, cap, rfl⟩ := Go.WideShapes.okWide_slice hs hv
  obtain ⟨n, hn⟩ := h
  obtain ⟨x, h1, h2⟩ := hr n (Value.slice a len cap).cells.toList (d, p) hn hb
  refine ⟨x, h2, ?_, (h1.one _ (by simp)).2⟩
  simpa [Value.cells] using h1.rep 0 _ rfl
end Go.SH
