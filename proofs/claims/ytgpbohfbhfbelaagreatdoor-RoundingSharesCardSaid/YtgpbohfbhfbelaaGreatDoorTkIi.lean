/- integer: long division. -/
import Derived.Test.YtgpbohfbhfbelaaGreatDoorTkIf
import Derived.Test.YtgpbohfbhfbelaaGreatDoorArA
import Derived.Test.YtgpbohfbhfbelaaGreatDoorArM
set_option linter.unusedSimpArgs false
set_option linter.unusedVariables false
namespace Go.Te
open Go Go.Sx Go.Proofs Go.Ar
set_option maxRecDepth 100000
set_option maxHeartbeats 4000000
structure Zb where
 i : Nat
 c : Int
 w : List Int
def mN  : yV :=
 .two .auto (.two .auto (.two (.two .auto (.one (.loop Zb (fun σ z => [(0, σ.tm 0), (1, σ.tm 1), (2, σ.tm 2), (3, σ.tm 3), (14, σ.tm 14), (9, .i z.c), (15, .i (z.i : Int))]) (fun σ z => [(yC (σ.tm 0), u6 z.w)]) 0 (fun σ z => WC 1000000000 (ZJ (σ.bl (yC (σ.tm 0)))) (ZJ (σ.bl (yC (σ.tm 1)))) (AV.int (σ.tm 2)).toNat (AV.int (σ.tm 3)) z.i z.w z.c ∧ z.i ≤ (ZJ (σ.bl (yC (σ.tm 1)))).length + 1) (fun σ z => (ZJ (σ.bl (yC (σ.tm 1)))).length + 1 - z.i) .auto))) .auto))
def Ls  : yV :=
 .two .auto (.two .auto (.two (.two .auto (.one (.loop Zb (fun σ z => [(0, σ.tm 0), (1, σ.tm 1), (2, σ.tm 2), (3, σ.tm 3), (14, σ.tm 14), (9, .i z.c), (15, .i (z.i : Int))]) (fun σ z => [(yC (σ.tm 0), u6 z.w)]) 0 (fun σ z => uw 1000000000 (ZJ (σ.bl (yC (σ.tm 0)))) (ZJ (σ.bl (yC (σ.tm 1)))) (AV.int (σ.tm 2)).toNat (AV.int (σ.tm 3)) z.i z.w z.c ∧ z.i ≤ (ZJ (σ.bl (yC (σ.tm 1)))).length + 1) (fun σ z => (ZJ (σ.bl (yC (σ.tm 1)))).length + 1 - z.i) .auto))) .auto))
noncomputable def gE : Tb := (((((T0.plus 136 vX).plus 161 VR).plus 139 UA).plus 192 pT).plus 190 Se).plusF 101 S7
theorem QI : zz Tryz.prog gE := zz.plusF (zz.plus (zz.plus (zz.plus (zz.plus (zz.plus zr Uo) rm) po) Hw) L5) JX
noncomputable def e8 : Tb := gE.body Tryz.prog [(191, .auto), (193, mN), (194, Ls)]
theorem NS : zz Tryz.prog e8 := zz.body mixed QI _
structure yr where
 j : Nat
 q : List Int
 u : List Int
def uA (σ : zh) (k : Nat) : Nat :=
 match σ.bl k with
 | .box _ _ cs => yC (cs 0)
 | _ => 0
def HG (x : List Int) : yV := .loop Nat (fun σ z => [(0, σ.tm 0), (4, σ.tm 4), (6, σ.tm 6), (7, σ.tm 7), (8, σ.tm 8), (9, σ.tm 9), (61, σ.tm 61)])
 (fun σ z => [(4, .box 50 1 fun _ => .ns σ.nb 0 ((ZJ (σ.bl (uA σ 4))).length + z)), (uA σ 4, .dead), (σ.nb, u6 (ZJ (σ.bl (uA σ 4)) ++ List.replicate z 0))]) 1
 (fun σ z => z = 0 ∨ (ZJ (σ.bl (uA σ 4))).length + z ≤ x.length + 1) (fun σ z => x.length + 1 - (ZJ (σ.bl (uA σ 4))).length - z) .auto
def JB (V : Int) : yV := .loop Int (fun σ z => [(4, σ.tm 4), (6, σ.tm 6), (7, σ.tm 7), (8, σ.tm 8), (9, σ.tm 9), (10, .i z)]) (fun _ _ => []) 0
 (fun σ z => 0 ≤ z ∧ z ≤ 2000000000 ∧ zt 1000000000 ((ZJ (σ.bl (uA σ 4))).drop (AV.int (σ.tm 9)).toNat) < (z + 1) * V) (fun σ z => z.toNat) .auto
def HL (A V : Int) (n m : Nat) : yV :=
 .two .auto (.one (.loop yr (fun σ z => [(0, σ.tm 0), (1, σ.tm 1), (3, .i ((z.j : Int) - 1))]) (fun σ z => [(uA σ 0, u6 z.q), (uA σ 4, u6 z.u)]) 0
  (fun _ z => Ww 1000000000 A V n m z.j z.q z.u ∧ z.j ≤ m) (fun _ z => z.j) .auto))
def Hm (x : List Int) (A V : Int) (n m : Nat) : yV :=
 .two .auto (.two .auto (.two .auto (.two .auto (.two .auto (.two (.one (HG x)) (.two .auto (.two (.two .auto (.one (.range (HL A V n m) .auto (.one (.two .auto (.two (.one (JB V)) .auto)))))) .auto)))))))
def W0 (y : List Int) : Int := (1000000000 : Int).tdiv (y.getD (y.length - 1) 0 + 1)
theorem Qc (l : List Int) (v : Int) (i : Nat) (h : i < l.length + 1) : (l ++ [v]).getD i 0 = if i < l.length then l.getD i 0 else v := by
 rw [List.getD_eq_getElem?_getD, List.getElem?_append]
 by_cases hi : i < l.length
 ·rw [if_pos hi, if_pos hi, ← List.getD_eq_getElem?_getD]
 ·rw [if_neg hi, if_neg hi, show i - l.length = 0 by omega]; rfl
theorem FA (l : List Int) (v : Int) : ZJ (OB.arr 3 1 (l.length + 1) fun a b => if a < l.length then AV.v (Value.int IntKind.i64 (l.getD a 0)) else AV.v (Value.int IntKind.i64 v)) = l ++ [v] := by
 have e : ((List.range (l.length + 1)).map fun i => AV.int (if i < l.length then AV.v (Value.int IntKind.i64 (l.getD i 0)) else AV.v (Value.int IntKind.i64 v))) = l ++ [v] := by
  apply List.ext_getElem
  ·simp
  ·intro i h1 h2
   rw [List.getElem_map, List.getElem_range]
   have h3 : i < l.length + 1 := by simpa using h2
   have e2 : (l ++ [v])[i] = (l ++ [v]).getD i 0 := by rw [List.getD_eq_getElem?_getD, List.getElem?_eq_getElem h2]; rfl
   rw [e2, Qc l v i h3]
   split <;> rfl
 exact e
theorem kz (r : Int) : zU (AV.xl true 1 1 fun x j => AV.v (Value.int IntKind.i64 r)) = [r] := rfl
theorem oA {b : Int} {k : Nat} {u0 u1 u2 v1 v2 W V : Int} (h : nv b k u0 u1 u2 v1 v2 W V) (hW : W < b * V) (hV : 0 < V) : ∀ (n : Nat) (q r : Int), mu b (u0 * b + u1) v1 W V q r → ∃ r', mu b (u0 * b + u1) v1 W V (uQ b u2 v1 v2 n q r) r'
 | 0, q, r, hi => ⟨r, hi⟩
 | n + 1, q, r, hi => by
  unfold uQ
  cases hc : (leB b q || (zM r b && zM (r * b + u2) (q * v2))) with
  | false => exact ⟨r, hi⟩
  | true =>
   rw [Bool.or_eq_true, z8, Bool.and_eq_true, zq, zq] at hc
   obtain ⟨_, hs⟩ := h.step hi hW hV (hc.imp id fun x => x.2)
   simp only [cond_true]
   cases leB b (r + v1) with
   | true => exact ⟨_, hs⟩
   | false => exact oA h hW hV n _ _ hs
theorem KL {A V : Int} {v u q : List Int} {m j : Nat} (hv : ZR 1000000000 v) (hV : zt 1000000000 v = V) (hn : 2 ≤ v.length) (h1 : 0 < v.getD (v.length - 1) 0) (hj : j < m) (h : Ww 1000000000 A V v.length m (j + 1) q u) :
  (0 ≤ vG 1000000000 u v j ∧ vG 1000000000 u v j ≤ 2000000000 ∧ zt 1000000000 (u.drop j) < (vG 1000000000 u v j + 1) * V) ∧ u.getD (j + v.length) 0 ≤ v.getD (v.length - 1) 0 := by
 obtain ⟨k, hk⟩ : ∃ k, v.length = k + 2 := ⟨v.length - 2, by omega⟩
 have hc := h.est (by omega) hv hV hk (by rw [show k + 1 = v.length - 1 by omega]; exact h1) hj
 obtain ⟨w0, w1⟩ := h.win (by omega) (by omega) hj
 have hV0 : 0 < V := by
  refine Decidable.byContradiction fun hn => ?_
  have : 1000000000 * V ≤ 0 := by omega
  omega
 obtain ⟨r', hr⟩ := oA hc w1 hV0 ((u.getD (j + v.length) 0 * 1000000000 + u.getD (j + v.length - 1) 0).tdiv (v.getD (v.length - 1) 0)).toNat _ _ hc.start
 have hF : vG 1000000000 u v j = uQ 1000000000 (u.getD (j + k) 0) (v.getD (k + 1) 0) (v.getD k 0) ((u.getD (j + v.length) 0 * 1000000000 + u.getD (j + v.length - 1) 0).tdiv (v.getD (v.length - 1) 0)).toNat
   ((u.getD (j + (k + 2)) 0 * 1000000000 + u.getD (j + (k + 1)) 0).tdiv (v.getD (k + 1) 0)) ((u.getD (j + (k + 2)) 0 * 1000000000 + u.getD (j + (k + 1)) 0).tmod (v.getD (k + 1) 0)) := by
  unfold vG
  rw [hk, show j + (k + 2) - 2 = j + k by omega, show j + (k + 2) - 1 = j + (k + 1) by omega, show k + 2 - 1 = k + 1 by omega, show k + 2 - 2 = k by omega]
 rw [← hF] at hr
 have := hr.le
 have a0 := hc.hu0.2
 rw [hk, show k + 2 - 1 = k + 1 by omega]
 exact ⟨⟨hr.q0, by omega, hr.lt⟩, a0⟩
theorem oL {x : List Int} (hx : ZR 1000000000 x) {f : Int} (hf : 0 ≤ f) : vO x [f] = zT 1000000000 (zt 1000000000 x * f).toNat ∧ zt 1000000000 (vO x [f]) = zt 1000000000 x * f ∧ ZR 1000000000 (vO x [f]) := by
 have v0 := zd (b := 1000000000) (by omega) hx
 have e : vO x [f] = zT 1000000000 (zt 1000000000 x * f).toNat := by unfold vO; rw [Kz]
 refine ⟨e, ?_, by rw [e]; exact xz (b := 1000000000) (by omega) _⟩
 rw [e, show zt 1000000000 (zT 1000000000 (zt 1000000000 x * f).toNat) = ((zt 1000000000 x * f).toNat : Int) from yL (b := 1000000000) (by omega) _, Int.toNat_of_nonneg (Int.mul_nonneg v0 hf)]
theorem mq {y : List Int} (hy : ZR 1000000000 y) (ty : zf y = y) (hn : y.length ≠ 0) :
  0 < W0 y ∧ W0 y ≤ 500000000 ∧ (vO y [W0 y]).length = y.length ∧ ZR 1000000000 (vO y [W0 y]) ∧ zt 1000000000 (vO y [W0 y]) = zt 1000000000 y * W0 y ∧ 0 < (vO y [W0 y]).getD (y.length - 1) 0 ∧
  (1000000000 : Int) ^ (y.length - 1) ≤ zt 1000000000 y * W0 y ∧ 0 < zt 1000000000 y := by
 have g := hy.get (by omega) (y.length - 1)
 have g1 : y.getD (y.length - 1) 0 ≠ 0 := (sY ty).resolve_left hn
 have hF : W0 y = (1000000000 : Int).tdiv (y.getD (y.length - 1) 0 + 1) := rfl
 obtain ⟨e, m0, m1, d0⟩ := Jo (n := 1000000000) (b := y.getD (y.length - 1) 0 + 1) (by omega) (by omega)
 rw [← hF] at e d0
 have ee : y = zT 1000000000 (zt 1000000000 y).toNat := wT (b := 1000000000) (by omega) hy ty
 have y0 := zd (b := 1000000000) (by omega) hy
 have t1 := xj (b := 1000000000) (by omega) hy (y.length - 1)
 have e3 : zt 1000000000 y = zt 1000000000 (y.take (y.length - 1)) + 1000000000 ^ (y.length - 1) * y.getD (y.length - 1) 0 := by
  rw [← Zs, List.take_of_length_le (by omega)]
 have pp : (0 : Int) < 1000000000 ^ (y.length - 1) := Int.pow_pos (by omega)
 have hpow : (1000000000 : Int) ^ y.length = 1000000000 ^ (y.length - 1) * 1000000000 := by
  obtain ⟨n, hn'⟩ : ∃ n, y.length = n + 1 := ⟨y.length - 1, by omega⟩
  rw [hn', show n + 1 - 1 = n by omega]
  exact Int.pow_succ _ _
 generalize W0 y = f at *
 generalize y.getD (y.length - 1) 0 = t at *
 have f1 : 0 < f := by
  refine Decidable.byContradiction fun hf => ?_
  have : f = 0 := by omega
  subst this
  omega
 have f2 : f ≤ 500000000 := by
  have : 2 * f ≤ (t + 1) * f := Int.mul_le_mul_of_nonneg_right (by omega) (by omega)
  omega
 obtain ⟨p1, p2, p3⟩ := oL hy (f := f) (by omega)
 have y1 : (1000000000 : Int) ^ (y.length - 1) ≤ zt 1000000000 y := by
  have : (1000000000 : Int) ^ (y.length - 1) * 1 ≤ 1000000000 ^ (y.length - 1) * t := Int.mul_le_mul_of_nonneg_left (by omega) (by omega)
  omega
 have yf : zt 1000000000 y ≤ zt 1000000000 y * f := by
  have : zt 1000000000 y * 1 ≤ zt 1000000000 y * f := Int.mul_le_mul_of_nonneg_left (by omega) (by omega)
  omega
 have yu : zt 1000000000 y * f < 1000000000 ^ y.length := by
  have a1 : zt 1000000000 y * f < (1000000000 ^ (y.length - 1) * (t + 1)) * f := Int.mul_lt_mul_of_pos_right (by rw [Int.mul_add]; omega) f1
  have a2 : (1000000000 : Int) ^ (y.length - 1) * ((t + 1) * f) ≤ 1000000000 ^ (y.length - 1) * 1000000000 := Int.mul_le_mul_of_nonneg_left (by omega) (by omega)
  rw [hpow]
  rw [Int.mul_assoc] at a1
  omega
 have hlen : (vO y [f]).length = y.length := by
  refine Nat.le_antisymm ?_ ?_
  ·rw [p1]
   refine XY (b := 1000000000) (by omega) ?_
   rw [Int.toNat_of_nonneg (by omega)]
   exact yu
  ·have := yz (b := 1000000000) (m := (zt 1000000000 y).toNat) (n := (zt 1000000000 y * f).toNat) (by omega) (by omega)
   rw [← ee, ← p1] at this
   exact this
 refine ⟨f1, f2, hlen, p3, p2, ?_, by omega, by omega⟩
 have g2 := p3.get (by omega) (y.length - 1)
 have := VY (b := 1000000000) (n := (zt 1000000000 y * f).toNat) (by omega) (by omega)
 rw [← p1, hlen] at this
 omega
theorem pZ {P : List Int} {z i : Nat} (h : P.length ≤ i) : (P ++ [0] ++ List.replicate z 0).getD i 0 = 0 := by
 rw [List.append_assoc, List.getD_eq_getElem?_getD, List.getElem?_append_right h]
 have : [(0 : Int)] ++ List.replicate z 0 = List.replicate (z + 1) 0 := rfl
 rw [this, List.getElem?_replicate]
 split <;> rfl
theorem MO {P : List Int} {n m z : Nat} {V : Int} (hP : ZR 1000000000 P) (hn : 0 < n) (hl : P.length + 1 + z = m + n) (hV : (1000000000 : Int) ^ (n - 1) ≤ V) :
  zt 1000000000 ((P ++ [0] ++ List.replicate z 0).drop m) < V ∧ zt 1000000000 (P ++ [0] ++ List.replicate z 0) = zt 1000000000 P ∧ ZR 1000000000 (P ++ [0] ++ List.replicate z 0) ∧ (P ++ [0] ++ List.replicate z 0).length = m + n := by
 have hU : ZR 1000000000 (P ++ [0] ++ List.replicate z 0) := (hP.app (.one (by omega) (by omega))).app (.zeros (by omega) _)
 refine ⟨?_, ?_, hU, by simp; omega⟩
 ·rw [wU (n := n - 1) fun i hi => by rw [yF]; exact pZ (by omega)]
  have := (xj (b := 1000000000) (by omega) (hU.drop m) (n - 1)).2
  omega
 ·rw [List.append_assoc, Vs, show [(0 : Int)] ++ List.replicate z 0 = List.replicate (z + 1) 0 from rfl, wj, Int.mul_zero, Int.add_zero]
theorem Fu {l : List Int} {n : Nat} (h : n = l.length) : ze Int (AV.xl false 1 n fun i j => AV.v (Value.int IntKind.i64 (l.getD i 0))) = true ∧ zU (AV.xl false 1 n fun i j => AV.v (Value.int IntKind.i64 (l.getD i 0))) = l := by
 subst h
 exact ⟨gg _ l, Ex _ l⟩
def Uq : List AV → Option (List zN × AV)
 | [x_x, x_y] => some ([.b (ze Int x_x), .b (ze Int x_y), .p (ZR 1000000000 (zU x_x)), .p (ZR 1000000000 (zU x_y)), .p (zf (zU x_x) = (zU x_x)), .p (zf (zU x_y) = (zU x_y)), .p ((zU x_y).length ≠ 0), .p ((zU x_x).length ≤ 100000000), .p ((zU x_y).length ≤ 100000000)], .tup 2 (zw [Zl (zT 1000000000 ((zt 1000000000 (zU x_x)).toNat / (zt 1000000000 (zU x_y)).toNat)), Zl (zT 1000000000 ((zt 1000000000 (zU x_x)).toNat % (zt 1000000000 (zU x_y)).toNat))]))
 | _ => none
theorem mP (x : List Int) (y : List Int) (hx : ZR 1000000000 x) (hy : ZR 1000000000 y) (tx : zf x = x) (ty : zf y = y) (hn : y.length ≠ 0) (hlx : x.length ≤ 100000000) (hly : y.length ≤ 100000000) :
 let q2 := (xI x); let q1 := (ze Int q2); let q4 := (xI y); let q3 := (ze Int q4); let q6 := (zU q2); let q5 := (∀ (x_1 : Int), List.Mem x_1 q6 → iZ ≤ x_1 ∧ x_1 < iB); let q8 := (zU q4); let q7 := (∀ (x : Int), List.Mem x q8 → iZ ≤ x ∧ x < iB); let q9 := (zT 1000000000 (Int.toNat (zt iB x) / Int.toNat (zt iB y))); let q11 := (zT
 1000000000 (Int.toNat (zt iB x) % Int.toNat (zt iB y))); let q10 := (xI q11); let q13 := (zt iB q6); let q12 := (zT 1000000000 (Int.toNat q13 / Int.toNat (gD y 0 zR.dflt))); let q14 := (xI q9); let q15 := (zT 1000000000 (Int.toNat q13 % Int.toNat (gD y 0 zR.dflt))); let q17 := (Int.toNat ((lZ y) - iO)); let q16 := (gD y
 q17 zR.dflt + iO); let q18 := (Int.tdiv iB q16); let q20 := (Value.int .i64 q18); let q19 := (∀ (x : Int), List.Mem x (zU (AV.xl true 1 1 (Sx.rowAt [fun (x : Nat) => AV.v q20]))) → iZ ≤ x ∧ x < iB); let q21 := (zU (AV.xl true 1 1 (Sx.rowAt [fun (x : Nat) => AV.v q20]))); let q23 := (vO q6 q21); let q22 := (lN q23 + 1); let q25 := (OB.arr 3 1 q22 fun (a b : Nat) => if a < lN q23 then aI (gD q23 a iZ) else Sx.rowAt [fun (x : Nat) => aI iZ] (a - lN q23) b);
 let q24 := (ZJ q25); let q26 := (kI ∧ Int.tdiv iB q16 = Int.tdiv iB q16); let q28 := (vO q8 q21); let q27 := ((((50 = 50 ∧ 1 = 1 ∧ Value.slice (Xd Addr) 0 0 = Array.getD (Value.cells (Value.slice (Xd Addr) 0 0)) (nat_lit 0) undef) ∧ True) ∧ True) ∧ 3 = 3 ∧ 1 = 1 ∧ lN q28 = lN q28 ∧ ∀ (i j : Nat), i < lN q28 → j < 1 → kI ∧ gD q28 i iZ = gD q28 i iZ); let q36 := (lN q28); let q35 := (cI q36); let q39 := (max (lN (vO x [W0 y]) + 1) (lN x +
 1) - lN y); let q45 := (AV.xl false 1 q36 fun i j => aI (gD q28 (0 + i) iZ)); let q44 := (ze Int q45); let q48 := (zU q45); let q49 := (lN q48 - 1); let q55 := (q35 + iO); let q54 := (dK q55); let q56 := (ZJ (OB.arr (3 : TypeId) 1 q36 fun (i x : Nat) => AV.v (Value.int .i64 (gD (vO q8 (zU (AV.xl true 1 1 (Sx.rowAt [fun (x : Nat) => AV.v q20])))) i iZ)))); let q58 := (nat_lit 3 = 3 ∧ 0 = 0 ∧ lN q28 = lN q28); let q59 := (kI ∧ q35 + iO = q35 + iO);
 zB [xI x, xI y] → bF q1 (bF q3 (q5 ∧ q7 ∧ zZ (zM (cmpL q6 q8) iZ) (j2 ∧ (True ∧ Value.slice (Xd Addr) 0 0 = Value.slice (Xd Addr) 0 0 ∧ lN q9 = 0) ∧ zi q2 q10) (zZ ((lZ y) == iO) (bF (DB.db (iZ ≤ iZ ∧ iZ < (lZ y))) (bF q1 (q5 ∧ (iZ < gD y 0 zR.dflt ∧ gD y 0 zR.dflt ≤
 iB) ∧ lN q6 ≤ 1000000000 ∧ j2 ∧ (True ∧ zi (xI q12) q14) ∧ zi (xI q15) q10))) (bF (dK ((lZ y) - iO)) (bF (DB.db (iZ ≤ (lZ y) - iO ∧ (lZ y) - iO < (lZ y))) (bF (dK q16) (bF (DB.db (gD y q17 zR.dflt + iO
 ≠ iZ)) (bF (dK q18) (bF q1 (q5 ∧ q19 ∧ lN q6 ≤ 1000000000 ∧ lN q21 ≤ 1000000000 ∧ bF (DB.db (q22 * 8 ≤ 140737488355328)) (bF q3 (q7 ∧ q19 ∧ lN q8 ≤ 1000000000 ∧ lN q21 ≤ 1000000000 ∧ (∃ (z : Nat), let q29 := (ZJ q25 ++ List.replicate z iZ); ((z = 0 ∨ lN q24 + z ≤ lN x + 1) ∧ zi q2 q2 ∧ (nat_lit 0 = 0 ∧ 0 = 0) ∧ q26 ∧ (nat_lit 4 = 4 ∧ 0 = 0) ∧ (nat_lit 5 = 5 ∧ 0 = 0) ∧ True ∧ True) ∧ ((q27 ∧ (50 : TypeId) = 50 ∧ 1 = 1 ∧ nat_lit 6 = 6 ∧ 0 = 0 ∧ lN q24 + z = lN q23 + 1) ∧ 50 =
 50 ∧ 1 = 1 ∧ nat_lit 3 = 3 ∧ 0 = 0 ∧ lN q28 = lN q28) ∧ (3 : TypeId) = 3 ∧ 1 = 1 ∧ lN q29 = lN q23 + 1 ∧ ∀ (i j : Nat), i < lN q23 + 1 → j < 1 → zi (if i < lN q23 then aI (gD q23 i iZ) else Sx.rowAt [fun (x : Nat) => aI iZ] (i - lN q23) j) (aI (gD q29 i iZ))) ∧ ∀ (z : Nat), let q31 := (lN q24 + z); let q30 := (cI q31); let q33 := (ZJ q25 ++ List.replicate z iZ); let q34 := (q30 - q35); let q38 := (Int.toNat q34); let
 q37 := (cI q38); let q40 := ((((((50 = 50 ∧ 1 = 1 ∧ nat_lit 7 = 7 ∧ 0 = 0 ∧ Int.toNat q34 = Int.toNat q34) ∧ True) ∧ True) ∧ 3 = 3 ∧ 1 = 1 ∧ lN q28 = lN q28 ∧ ∀ (i j : Nat), i < lN q28 → j < 1 → kI ∧ gD q28 i iZ = gD q28 i iZ) ∧ 50 = 50 ∧ 1 = 1 ∧ nat_lit 6 = 6 ∧ 0 = 0 ∧ lN q24 + z = lN q24 + z) ∧ 50 = 50 ∧ 1 = 1 ∧ nat_lit 3 = 3 ∧ 0 = 0 ∧ lN q28 = lN q28); let q57 := (nat_lit 6 = 6 ∧ 0 = 0 ∧ lN q24 + z = lN q24 + z); z = 0 ∨ lN q24 + z ≤ lN x + 1 →
 bF (dK ((lZ x) + iO)) (zZ (zM q30 ((lZ x) + iO)) (bF (DB.db ((lN q24 + z + 1) * 8 ≤ 140737488355328)) (∃ (z' : Nat), let q32 := (ZJ q25 ++ List.replicate z' iZ); (((z' = 0 ∨ lN q24 + z' ≤ lN x + 1) ∧ lN x + 1 - lN q24 - z' < lN x + 1 - lN q24 - z) ∧ zi q2 q2 ∧ (nat_lit 0 = 0 ∧ 0 = 0) ∧ q26 ∧ (nat_lit 4 = 4 ∧ 0 = 0) ∧ (nat_lit 5 = 5 ∧ 0 = 0) ∧ True ∧ True) ∧ ((q27 ∧ 50 = 50 ∧ 1 = 1 ∧ nat_lit 6 = 6 ∧ 0 = 0 ∧ lN q24 + z' = lN q24
 + z + 1) ∧ 50 = 50 ∧ 1 = 1 ∧ nat_lit 3 = 3 ∧ 0 = 0 ∧ lN q28 = lN q28) ∧ (3 : TypeId) = 3 ∧ 1 = 1 ∧ lN q32 = lN q24 + z + 1 ∧ ∀ (i j : Nat), i < lN q24 + z + 1 → j < 1 → zi (if i < lN q24 + z then aI (gD q33 i iZ) else Sx.rowAt [fun (x : Nat) => aI iZ] (i - q31) j) (aI (gD q32 i iZ)))) (bF (dK q34) (bF (DB.db (iZ ≤ q30 - q35 ∧ q30 - q35 ≤ q30 - q35 ∧ (↑8 : Int) * q34 ≤ (140737488355328 : Int))) (bF (DB.db (ZB
 .i64 (q37 - iO))) ((∃ (z_1 : yr), ((Ww iB (zt iB x * W0 y) (zt iB y * W0 y) (lN y) q39 (yr.j z_1) (yr.q z_1) (yr.u z_1) ∧ yr.j z_1 ≤ max (lN (vO x [W0 y]) + 1) (lN x + 1) - lN y) ∧ nat_lit 9 = 9 ∧ (nat_lit 8 = 8 ∧ 0 = 0) ∧ kI ∧ q37 - iO = (cI (yr.j z_1)) - iO) ∧ (((q40 ∧ 3 = 3 ∧ 1 = 1 ∧ lN (yr.u z_1) = lN q33 ∧ ∀ (i j : Nat), i < lN q33 → j < 1 → kI ∧ gD q33 i iZ = gD (yr.u z_1) i iZ)
 ∧ (3 : TypeId) = 3 ∧ 1 = 1 ∧ lN (yr.q z_1) = Int.toNat q34 ∧ ∀ (i j : Nat), i < Int.toNat q34 → j < 1 → zi (ZC (Value.int .i64 iZ) j) (aI (gD (yr.q z_1) i iZ))) ∧ 50 = 50 ∧ 1 = 1 ∧ nat_lit 7 = 7 ∧ 0 = 0 ∧ Int.toNat q34 = Int.toNat q34) ∧ lR) ∧ ∀ (z_1 : yr), let q41 := (DB.db (iZ ≤ (cI (yr.j z_1)) - iO ∧ (cI (yr.j z_1)) - iO < q37)); let q43 := (AV.xl false 1 q31 fun i j => aI (gD (yr.u z_1) (0 + i) iZ)); let q42 := (ze
 Int q43); let q46 := (zU q43); let q51 := (Int.toNat (AV.int (aI ((cI (yr.j z_1)) - iO)))); let q52 := (ZJ (OB.arr (3 : TypeId) 1 (lN (yr.u z_1)) fun (i x : Nat) => aI (gD (yr.u z_1) i iZ))); let q50 := (List.drop q51 q52); let q53 := (kI ∧ (cI (yr.j z_1)) - iO = (cI (yr.j z_1)) - iO); let q77 := (zf q46); let q76 := (xI q77); let q78 := (zU q76); let q79 := (AV.xl false 1 q38 fun i
 j => aI (gD (yr.q z_1) (0 + i) iZ)); let q80 := (zf (zU q79)); let q81 := (zT 1000000000 (Int.toNat (zt iB q78) / Int.toNat q18)); Ww iB (zt iB x * W0 y) (zt iB y * W0 y) (lN y) q39 (yr.j z_1) (yr.q z_1) (yr.u z_1) ∧ yr.j z_1 ≤ max (lN (vO x [W0 y]) + 1) (lN x + 1) - lN y → zZ (leB iZ ((cI (yr.j z_1)) - iO)) (bF q41 (bF q42 (bF q44 ((∀ (x_1 : Int), List.Mem x_1 q46 → iZ ≤ x_1 ∧ x_1 < (1000000000
 : Int)) ∧ (∀ (x : Int), let q47 := (vO q8 (zU (AV.xl true 1 1 (Sx.rowAt [fun (x : Nat) => AV.v q20])))); List.Mem x (zU (AV.xl false 1 (lN q47) fun i j => aI (gD q47 (0 + i) iZ))) → iZ ≤ x ∧ x < iB) ∧ 2 ≤ lN q48 ∧ lN q48 ≤ 1000000000 ∧ (iZ ≤ (cI (yr.j z_1)) - iO ∧ (cI (yr.j z_1)) - iO + (lZ q48) < (lZ q46)) ∧ iZ < gD q48 q49 iZ ∧ gD q46 (Int.toNat ((cI (yr.j z_1)) - iO) + lN q48) iZ
 ≤ gD q48 q49 iZ ∧ (∃ (z_2 : Int), ((iZ ≤ z_2 ∧ z_2 ≤ (2000000000 : Int) ∧ zt iB q50 < (z_2 + iO) * (zt iB y * W0 y)) ∧ (nat_lit 0 = 0 ∧ 0 = 0) ∧ q26 ∧ (nat_lit 4 = 4 ∧ 0 = 0) ∧ (nat_lit 5 = 5 ∧ 0 = 0) ∧ q53 ∧ kI ∧ vG iB q46 q48 (Int.toNat ((cI (yr.j z_1)) - iO)) = z_2) ∧ (((q40 ∧ 3 = 3 ∧ 1 = 1 ∧ lN (yr.u z_1) = lN (yr.u z_1) ∧ ∀ (i j : Nat), i < lN (yr.u z_1) → j < 1 → kI ∧ gD (yr.u z_1) i iZ = gD (yr.u z_1) i (0 :
 Int)) ∧ 3 = 3 ∧ 1 = 1 ∧ lN (yr.q z_1) = lN (yr.q z_1) ∧ ∀ (i j : Nat), i < lN (yr.q z_1) → j < 1 → kI ∧ gD (yr.q z_1) i iZ = gD (yr.q z_1) i iZ) ∧ 50 = 50 ∧ 1 = 1 ∧ nat_lit 7 = 7 ∧ 0 = 0 ∧ Int.toNat q34 = Int.toNat q34) ∧ LoopState.busy = LoopState.busy ∧ Xd Code = Xd Code) ∧ ∀ (z_2 : Int), iZ ≤ z_2 ∧ z_2 ≤ (2000000000 : Int) ∧ zt iB q50 < (z_2 + iO) * (zt iB y * W0 y) → bF q54 ((∃ (z_3 : Zb), ((WC iB q52 q56 q51 (AV.int (AV.v (Value.int .i64
 z_2))) (Zb.i z_3) (Zb.w z_3) (Zb.c z_3) ∧ Zb.i z_3 ≤ lN q56 + 1) ∧ q57 ∧ q58 ∧ q53 ∧ (kI ∧ z_2 = z_2) ∧ q59 ∧ (kI ∧ iZ = Zb.c z_3) ∧ kI ∧ iZ = (cI (Zb.i z_3))) ∧ (((q40 ∧ 3 = 3 ∧ 1 = 1 ∧ lN (Zb.w z_3) = lN (yr.u z_1) ∧ ∀ (i j : Nat), i < lN (yr.u z_1) → j < 1 → kI ∧ gD (yr.u z_1) i iZ = gD (Zb.w z_3) i iZ) ∧ 3 = 3 ∧ 1 = 1 ∧ lN (yr.q z_1) = lN (yr.q z_1) ∧ ∀ (i j : Nat), i < lN (yr.q z_1) → j < 1 → IntKind.i64 =
 .i64 ∧ gD (yr.q z_1) i iZ = gD (yr.q z_1) i iZ) ∧ 50 = 50 ∧ 1 = 1 ∧ nat_lit 7 = 7 ∧ 0 = 0 ∧ Int.toNat q34 = Int.toNat q34) ∧ LoopState.busy = LoopState.busy ∧ Xd Code = Xd Code) ∧ ∀ (z_3 : Zb), let q61 := ((cI (yr.j z_1)) - iO + (cI (Zb.i z_3))); let q60 := (dK q61); let q62 := (DB.db (iZ ≤ (cI (yr.j z_1)) - iO + (cI (Zb.i z_3)) ∧ (cI (yr.j z_1)) - iO + (cI (Zb.i z_3)) < q30)); let q63 := (0 + Int.toNat q61); let q64 := (gD (Zb.w z_3) q63 iZ - Zb.c z_3 - z_2 * gD q48
 (Int.toNat (cI (Zb.i z_3))) iZ); let q65 := (-q64 + iB - iO); let q66 := (gD (Zb.w z_3) q63 iZ - Zb.c z_3 - z_2 * gD q48 (Int.toNat (cI (Zb.i z_3))) iZ + Int.tdiv q65 iB * iB); let q67 := (dK ((cI (Zb.i z_3)) + iO)); let q68 := (gD (Zb.w z_3) q63 iZ - Zb.c z_3 - z_2 * gD q48 (Int.toNat (cI (Zb.i z_3))) iZ + iZ * iB); let q69 := (ZJ (OB.arr (3 : TypeId) 1 (lN (Zb.w z_3)) fun (i x : Nat) => AV.v
 (Value.int .i64 (gD (Zb.w z_3) i iZ)))); WC iB q52 q56 q51 (AV.int (aI z_2)) (Zb.i z_3) (Zb.w z_3) (Zb.c z_3) ∧ Zb.i z_3 ≤ lN q56 + 1 → zZ (zM (cI (Zb.i z_3)) q55) (bF q60 (bF q62 (bF (dK (gD (Zb.w z_3) q63 iZ - Zb.c z_3)) (bF q44 (iZ ≤ (cI (Zb.i z_3)) ∧ bF (dK (z_2 * gD q48 (Int.toNat (cI (Zb.i z_3))) iZ)) (bF (dK q64) (zZ (zM q64 iZ) (bF (dK (-q64)) (bF (DB.db (ZB .i64
 (-q64 + iB))) (bF (dK q65) (bF (dK (Int.tdiv q65 iB)) (bF q60 (bF (dK (Int.tdiv q65 iB * iB)) (bF (dK q66) (bF q62 (bF q67 (∃ (z' : Zb), (((WC iB q52 q56 q51 (AV.int (aI z_2)) (Zb.i z') (Zb.w z') (Zb.c z') ∧ Zb.i z' ≤ lN q56 + 1) ∧ lN q56 + 1 - Zb.i z' < lN q56 + 1 - Zb.i z_3) ∧ q57 ∧ q58 ∧ q53 ∧ (kI ∧ z_2 = z_2) ∧ q59 ∧ (kI ∧ Int.tdiv q65
 iB = Zb.c z') ∧ kI ∧ (cI (Zb.i z_3)) + iO = (cI (Zb.i z'))) ∧ (((q40 ∧ 3 = 3 ∧ 1 = 1 ∧ lN (Zb.w z') = lN (Zb.w z_3) ∧ ∀ (i j : Nat), i < lN (Zb.w z_3) → j < 1 → zi (if i = 0 + Int.toNat q61 ∧ 0 ≤ j ∧ j < 1 then aI q66 else aI (gD (Zb.w z_3) i iZ)) (aI (gD (Zb.w z') i iZ))) ∧ 3 = 3 ∧ 1 = 1 ∧ lN (yr.q z_1) = lN (yr.q z_1) ∧ ∀ (i j : Nat), i < lN (yr.q z_1) → j < 1 → kI ∧ List.getD
 (yr.q z_1) i iZ = gD (yr.q z_1) i iZ) ∧ 50 = 50 ∧ 1 = 1 ∧ nat_lit 7 = 7 ∧ 0 = 0 ∧ Int.toNat q34 = Int.toNat q34) ∧ LoopState.busy = LoopState.busy ∧ Xd Code = Xd Code)))))))))) (bF q60 (bF (dK q68) (bF q62 (bF q67 (∃ (z' : Zb), (((WC iB q52 q56 q51 (AV.int (aI z_2)) (Zb.i z') (Zb.w z') (Zb.c z') ∧ Zb.i z' ≤ lN q56 + 1) ∧ lN q56 + 1 - Zb.i z' < lN q56 + 1 - Zb.i z_3) ∧ q57 ∧ q58 ∧ q53 ∧ (kI ∧ z_2 = z_2)
 ∧ q59 ∧ (kI ∧ iZ = Zb.c z') ∧ kI ∧ (cI (Zb.i z_3)) + iO = (cI (Zb.i z'))) ∧ (((q40 ∧ 3 = 3 ∧ 1 = 1 ∧ lN (Zb.w z') = lN (Zb.w z_3) ∧ ∀ (i j : Nat), i < lN (Zb.w z_3) → j < 1 → zi (if i = 0 + Int.toNat q61 ∧ 0 ≤ j ∧ j < 1 then aI q68 else aI (gD (Zb.w z_3) i iZ)) (aI (gD (Zb.w z') i iZ))) ∧ 3 = 3 ∧ 1 = 1 ∧ lN (yr.q z_1) = lN (yr.q z_1) ∧ ∀ (i j : Nat), i < lN (yr.q z_1) → j < 1 → IntKind.i64 =
 .i64 ∧ gD (yr.q z_1) i iZ = gD (yr.q z_1) i iZ) ∧ 50 = 50 ∧ 1 = 1 ∧ nat_lit 7 = 7 ∧ 0 = 0 ∧ Int.toNat q34 = Int.toNat q34) ∧ LoopState.busy = LoopState.busy ∧ Xd Code = Xd Code)))))))))))) (zZ (zM iZ (Zb.c z_3)) (bF q54 ((∃ (z_4 : Zb), ((uw iB q69 q56 q51 (AV.int (aI z_2)) (Zb.i z_4) (Zb.w z_4) (Zb.c z_4) ∧ Zb.i z_4 ≤ lN q56 + 1) ∧ q57 ∧ q58 ∧ q53 ∧ (kI ∧ z_2 = z_2) ∧ q59 ∧ (kI ∧ iZ = Zb.c z_4) ∧
 kI ∧ iZ = (cI (Zb.i z_4))) ∧ (((q40 ∧ 3 = 3 ∧ 1 = 1 ∧ lN (Zb.w z_4) = lN (Zb.w z_3) ∧ ∀ (i j : Nat), i < lN (Zb.w z_3) → j < 1 → kI ∧ gD (Zb.w z_3) i iZ = gD (Zb.w z_4) i iZ) ∧ 3 = 3 ∧ 1 = 1 ∧ lN (yr.q z_1) = lN (yr.q z_1) ∧ ∀ (i j : Nat), i < lN (yr.q z_1) → j < 1 → kI ∧ gD (yr.q z_1) i iZ = gD (yr.q z_1) i iZ) ∧ 50 = 50 ∧ 1 = 1 ∧ nat_lit 7 = 7 ∧ 0 = 0 ∧ Int.toNat q34 = Int.toNat q34) ∧ LoopState.busy =
 LoopState.busy ∧ Xd Code = Xd Code) ∧ ∀ (z_4 : Zb), let q71 := ((cI (yr.j z_1)) - iO + (cI (Zb.i z_4))); let q70 := (dK q71); let q72 := (DB.db (iZ ≤ (cI (yr.j z_1)) - iO + (cI (Zb.i z_4)) ∧ (cI (yr.j z_1)) - iO + (cI (Zb.i z_4)) < q30)); let q74 := (0 + Int.toNat q71); let q75 := (gD (Zb.w z_4) q74 iZ + z_2 * gD q48 (Int.toNat (cI (Zb.i z_4))) iZ + Zb.c z_4); let q73 := (iZ ≤ (cI (Zb.i z_4)) ∧ bF (dK (z_2 * gD q48 (Int.toNat (cI (Zb.i z_4))) (0
 : Int))) (bF (dK (gD (Zb.w z_4) q74 iZ + z_2 * gD q48 (Int.toNat (cI (Zb.i z_4))) iZ)) (bF (dK q75) (bF q70 (bF (dK (Int.tdiv q75 iB)) (bF q72 (bF (dK ((cI (Zb.i z_4)) + iO)) (∃ (z' : Zb), (((uw iB q69 q56 q51 (AV.int (aI z_2)) (Zb.i z') (Zb.w z') (Zb.c z') ∧ Zb.i z' ≤ lN q56 + 1) ∧ lN q56 + 1 - Zb.i z' < lN q56 + 1 - Zb.i z_4) ∧ q57 ∧ q58 ∧ q53 ∧ (kI ∧ z_2 = z_2) ∧
 q59 ∧ (kI ∧ Int.tdiv q75 iB = Zb.c z') ∧ kI ∧ (cI (Zb.i z_4)) + iO = (cI (Zb.i z'))) ∧ (((q40 ∧ 3 = 3 ∧ 1 = 1 ∧ lN (Zb.w z') = lN (Zb.w z_4) ∧ ∀ (i j : Nat), i < lN (Zb.w z_4) → j < 1 → zi (if i = 0 + Int.toNat q71 ∧ 0 ≤ j ∧ j < 1 then aI (Int.tmod q75 iB) else aI (gD (Zb.w z_4) i iZ)) (aI (gD (Zb.w z') i iZ))) ∧ 3 = 3 ∧ 1 = 1 ∧ lN (yr.q z_1) = lN (yr.q z_1) ∧ ∀ (i j : Nat), i <
 lN (yr.q z_1) → j < 1 → kI ∧ gD (yr.q z_1) i iZ = gD (yr.q z_1) i iZ) ∧ 50 = 50 ∧ 1 = 1 ∧ nat_lit 7 = 7 ∧ 0 = 0 ∧ Int.toNat q34 = Int.toNat q34) ∧ LoopState.busy = LoopState.busy ∧ Xd Code = Xd Code)))))))); uw iB q69 q56 q51 (AV.int (aI z_2)) (Zb.i z_4) (Zb.w z_4) (Zb.c z_4) ∧ Zb.i z_4 ≤ lN q56 + 1 → zZ (zM (cI (Zb.i z_4)) q55) (bF q70 (bF q72 (bF q44 q73 ∧ bF q44 q73))) (bF (DB.db (ZB .i64
 (z_2 - iO))) (∃ (z' : Int), (((iZ ≤ z' ∧ z' ≤ (2000000000 : Int) ∧ zt iB q50 < (z' + iO) * (zt iB y * W0 y)) ∧ Int.toNat z' < Int.toNat z_2) ∧ (nat_lit 0 = 0 ∧ 0 = 0) ∧ q26 ∧ (nat_lit 4 = 4 ∧ 0 = 0) ∧ (nat_lit 5 = 5 ∧ 0 = 0) ∧ q53 ∧ kI ∧ z_2 - iO = z') ∧ (((q40 ∧ 3 = 3 ∧ 1 = 1 ∧ lN (yr.u z_1) = lN (Zb.w z_4) ∧ ∀ (i j : Nat), i < lN (Zb.w z_4) → j < 1 → kI ∧ gD (Zb.w z_4) i iZ = gD (yr.u z_1) i iZ) ∧ 3 = 3 ∧ 1 = 1 ∧ lN (yr.q z_1) =
 lN (yr.q z_1) ∧ ∀ (i j : Nat), i < lN (yr.q z_1) → j < 1 → kI ∧ gD (yr.q z_1) i iZ = gD (yr.q z_1) i iZ) ∧ 50 = 50 ∧ 1 = 1 ∧ nat_lit 7 = 7 ∧ 0 = 0 ∧ Int.toNat q34 = Int.toNat q34) ∧ LoopState.busy = LoopState.busy ∧ Xd Code = Xd Code)))) (bF q41 (bF (dK ((cI (yr.j z_1)) - iO - iO)) (∃ (z' : yr), (((Ww iB (zt iB x * W0 y) (zt iB y * W0 y) (lN y) q39 (yr.j z') (yr.q z') (yr.u z') ∧ yr.j z' ≤ max (List.length
 (vO x [W0 y]) + 1) (lN x + 1) - lN y) ∧ yr.j z' < yr.j z_1) ∧ nat_lit 9 = 9 ∧ (nat_lit 8 = 8 ∧ 0 = 0) ∧ kI ∧ (cI (yr.j z_1)) - iO - iO = (cI (yr.j z')) - iO) ∧ (((q40 ∧ 3 = 3 ∧ 1 = 1 ∧ lN (yr.u z') = lN (Zb.w z_3) ∧ ∀ (i j : Nat), i < lN (Zb.w z_3) → j < 1 → kI ∧ gD (Zb.w z_3) i iZ = gD (yr.u z') i iZ) ∧ 3 = 3 ∧ 1 = 1 ∧ lN (yr.q z') = lN (yr.q z_1) ∧ ∀ (i j : Nat), i < lN (yr.q z_1) → j < 1 → zi (if i = 0 + Int.toNat
 ((cI (yr.j z_1)) - iO) ∧ 0 ≤ j ∧ j < 1 then aI z_2 else aI (gD (yr.q z_1) i iZ)) (aI (gD (yr.q z') i iZ))) ∧ 50 = 50 ∧ 1 = 1 ∧ nat_lit 7 = 7 ∧ 0 = 0 ∧ Int.toNat q34 = Int.toNat q34) ∧ lR))))))))) (bF q42 (bF (ze Int q76) ((∀ (x_1 : Int), List.Mem x_1 q78 → iZ ≤ x_1 ∧ x_1 < iB) ∧ (iZ < Int.tdiv iB q16 ∧ Int.tdiv iB q16 ≤ iB)
 ∧ lN q78 ≤ 1000000000 ∧ bF (ze Int q79) (j2 ∧ (True ∧ zi (xI q80) q14) ∧ zi (xI q81) q10))))))))))))))))))))) := by
 delta bF dK xI lR cI kI j2 lZ lN gD iZ iO iB aI
 dsimp only
 intro hb
 have e0 : (zR.dflt : Int) = 0 := rfl
 simp only [↓Zf, ↓Zu, row_one]
 simp only [sS, dS, e0]
 have en : ((y.length : Int) - 1).toNat = y.length - 1 := by omega
 have hF : Int.tdiv 1000000000 (y.getD (y.length - 1) 0 + 1) = W0 y := rfl
 simp only [FM, implies_true, and_true, true_and, kz, en, hF, FA, and_self]
 obtain ⟨f0, f1, vl, vi, vv, vt, vp, y0⟩ := mq hy ty hn
 have x0 := zd (b := 1000000000) (by omega) hx
 obtain ⟨pe, pv, pi⟩ := oL hx (f := W0 y) (by omega)
 have pl : (vO x [W0 y]).length ≤ x.length + 1 := by
  rw [pe]
  refine XY (b := 1000000000) (by omega) ?_
  have h1 := Yc (b := 1000000000) (by omega) hx
  have h2 : zt 1000000000 x * W0 y ≤ zt 1000000000 x * 1000000000 := Int.mul_le_mul_of_nonneg_left (by omega) x0
  rw [Int.toNat_of_nonneg (Int.mul_nonneg x0 (by omega))]
  show _ < (1000000000 : Int) ^ (x.length + 1)
  rw [Int.pow_succ]
  omega
 have i1 : ZR 1000000000 [W0 y] := .one (by omega) (by omega)
 have hcx := qJ hx hy tx ty
 obtain ⟨X, hX⟩ : ∃ X : Nat, zt 1000000000 x = X := ⟨(zt 1000000000 x).toNat, by omega⟩
 obtain ⟨Y, hY⟩ : ∃ Y : Nat, zt 1000000000 y = Y := ⟨(zt 1000000000 y).toNat, by omega⟩
 have ex : x = zT 1000000000 X := by
  have h : x = zT 1000000000 (zt 1000000000 x).toNat := wT (b := 1000000000) (by omega) hx tx
  rw [hX, Int.toNat_natCast] at h
  exact h
 refine ⟨hx, hy, fun hc => ?_, fun hc => ⟨fun h1 => ?_, fun h1 => ?_⟩⟩
 ·have hlt : X < Y := by omega
  rw [hX, hY, Int.toNat_natCast, Int.toNat_natCast, Nat.div_eq_of_lt hlt, Nat.mod_eq_of_lt hlt, Z3, ← ex]
  exact ⟨rfl, rfl, zV _⟩
 ·have d4 := hy.get (by omega) 0
  have ev : zt 1000000000 y = y.getD 0 0 := by
   have := Xw (1000000000 : Int) (l := y) (z := 0) (by omega)
   rw [List.drop_zero, List.drop_of_length_le (l := y) (i := 0 + 1) (by omega), xH, Int.mul_zero, Int.add_zero] at this
   exact this
  rw [ev] at y0 ⊢
  exact ⟨⟨by omega, by omega⟩, hx, ⟨by omega, by omega⟩, by omega, rfl, zV _, zV _⟩
 have d4 := hy.get (by omega) (y.length - 1)
 have ey : y = zT 1000000000 Y := by
  have h : y = zT 1000000000 (zt 1000000000 y).toNat := wT (b := 1000000000) (by omega) hy ty
  rw [hY, Int.toNat_natCast] at h
  exact h
 have hxy : y.length ≤ x.length := by
  have := yz (b := 1000000000) (m := Y) (n := X) (by omega) (by omega)
  rw [← ex, ← ey] at this
  exact this
 clear hF ex ey pe
 generalize vO x [W0 y] = P at *
 generalize vO y [W0 y] = W at *
 generalize W0 y = f at *
 generalize hA : zt 1000000000 x * f = A at *
 generalize hB : zt 1000000000 y * f = B at *
 simp only [List.length_append, List.length_singleton, List.length_replicate, vl]
 have lz : ∀ z, (P ++ [0] ++ List.replicate z 0).length = P.length + 1 + z := fun z => by simp; omega
 have zs : ∀ z, P ++ [0] ++ List.replicate (z + 1) 0 = (P ++ [0] ++ List.replicate z 0) ++ [(0 : Int)] := fun z => by rw [List.replicate_succ', ← List.append_assoc]
 refine ⟨⟨by omega, by omega⟩, ⟨by omega, by omega⟩, ⟨by omega, by omega⟩, by omega, ⟨by omega, by omega⟩, hx, i1, by omega, by omega, by omega, hy, i1, by omega, by omega, ⟨0, .inl rfl, ⟨rfl, rfl⟩, rfl, fun i j hi hj => ?_⟩, fun z hz => ⟨⟨by omega, by omega⟩, fun hlt => ⟨by omega, z + 1, ⟨.inr (by omega), by omega⟩, ⟨rfl, by omega⟩, by omega, fun i j hi hj => ?_⟩, fun hge => ?_⟩⟩
 ·rw [List.replicate_zero, List.append_nil]
  exact SP P 0 i j hi hj
 ·have := SP (P ++ [0] ++ List.replicate z 0) 0 i j (by rw [lz]; exact hi) hj
  rw [lz, ← zs] at this
  exact this
 obtain ⟨m, hm⟩ : ∃ m, P.length + 1 + z = m + y.length := ⟨P.length + 1 + z - y.length, by omega⟩
 have e1 : max (P.length + 1) (x.length + 1) - y.length = m := by omega
 have e2 : ((m + y.length : Nat) : Int) - (y.length : Int) = (m : Int) := by omega
 simp only [hm, e1, e2, Int.toNat_natCast]
 obtain ⟨s1, s2, s3, s4⟩ := MO (m := m) (n := y.length) (z := z) pi (by omega) hm vp
 refine ⟨⟨by omega, by omega⟩, ⟨by omega, by omega, by omega⟩, ⟨by omega, by omega⟩, ⟨⟨m, List.replicate m 0, P ++ [0] ++ List.replicate z 0⟩, ⟨⟨.start (by omega) s4 s3 s1 (by rw [s2, pv]), Nat.le_refl _⟩, rfl⟩, ⟨s4, fun _ _ _ _ => rfl⟩, by simp, fun i j _ hj => VN _ i j hj⟩, fun d ⟨d1, d2⟩ => ?_⟩
 obtain ⟨j, q, u⟩ := d
 simp only at d1 d2 ⊢
 have ul := d1.ul
 have ql := d1.ql
 simp only [(Fu ul.symm).1, (Fu ul.symm).2, (Fu ql.symm).1, (Fu ql.symm).2, X6]
 refine ⟨fun hj => ?_, fun hj => ?_⟩
 rotate_left
 ·obtain rfl : j = 0 := by omega
  obtain ⟨F, rfl⟩ : ∃ F : Nat, f = F := ⟨f.toNat, by omega⟩
  have hAn : A = ((X * F : Nat) : Int) := by rw [← hA, hX, Int.natCast_mul]
  have hBn : B = ((Y * F : Nat) : Int) := by rw [← hB, hY, Int.natCast_mul]
  have F0 : 0 < F := by omega
  have Y0 : 0 < Y := by omega
  rw [hAn, hBn] at d1
  obtain ⟨r1, r2⟩ := Ww.end_ (b := 1000000000) (by omega) (Nat.mul_pos Y0 F0) d1
  rw [Nat.mul_div_mul_right _ _ F0] at r1
  rw [Nat.mul_mod_mul_right] at r2
  have hlen : (zT 1000000000 (X % Y * F)).length ≤ W.length := by
   refine XY (b := 1000000000) (by omega) ?_
   have h1 := Yc (b := 1000000000) (by omega) vi
   rw [vv, hBn] at h1
   have h2 : X % Y * F ≤ Y * F := Nat.mul_le_mul_right _ (Nat.le_of_lt (Nat.mod_lt _ Y0))
   have h3 : ((X % Y * F : Nat) : Int) ≤ ((Y * F : Nat) : Int) := Int.ofNat_le.2 h2
   exact Int.lt_of_le_of_lt h3 h1
  have hv : zt 1000000000 (zT 1000000000 (X % Y * F)) = ((X % Y * F : Nat) : Int) := yL (b := 1000000000) (by omega) _
  rw [r1, r2, hX, hY, hv]
  simp only [Int.toNat_natCast, Nat.mul_div_cancel _ F0]
  exact ⟨xz (b := 1000000000) (by omega) _, ⟨by omega, by omega⟩, by omega, rfl, zV _, zV _⟩
 obtain ⟨k, rfl⟩ : ∃ k, j = k + 1 := ⟨j - 1, by omega⟩
 have hk1 : ((k + 1 : Nat) : Int) - 1 = (k : Int) := by omega
 have hki : ∀ i : Nat, ((k : Int) + (i : Int)).toNat = k + i := fun i => by omega
 simp only [hk1, hki, Int.toNat_natCast]
 have n2 : 2 ≤ W.length := by omega
 have d1' : Ww 1000000000 A B W.length m (k + 1) q u := by rw [vl]; exact d1
 have vt' : 0 < W.getD (W.length - 1) 0 := by rw [vl]; exact vt
 obtain ⟨g1, g2⟩ := KL vi vv n2 vt' (by omega : k < m) d1'
 rw [vl] at g2
 have ui := d1.ui
 have hi0 : ∀ i, k + 1 + W.length ≤ i → u.getD i 0 = 0 := fun i hi => d1.hi i (by omega)
 refine ⟨⟨by omega, by omega⟩, ui, vi, by omega, by omega, ⟨by omega, by omega⟩, vt, g2, ⟨_, g1, rfl⟩, fun Q ⟨Q0, Q1, Q2⟩ => ⟨⟨by omega, by omega⟩, ⟨⟨0, 0, u⟩, ⟨⟨.start ui Q0, Nat.zero_le _⟩, rfl, rfl⟩, rfl, fun _ _ _ _ => rfl⟩, fun t ⟨t1, t2⟩ => ⟨fun ht => ?_, fun ht => ?_⟩⟩⟩
 ·obtain ⟨⟨b0, b1⟩, hs⟩ := t1.step (by omega) vi Q0 (by omega : k + t.i < u.length)
  have tl := t1.len
  have w1 := vi.get (by omega) t.i
  have w2 := t1.in_.get (by omega) (k + t.i)
  have p0 : 0 ≤ Q * W.getD t.i 0 := Int.mul_nonneg Q0 w1.1
  have p1 : Q * W.getD t.i 0 ≤ Q * 1000000000 := Int.mul_le_mul_of_nonneg_left (by omega) Q0
  have c0 := t1.c0
  have c1 := t1.c1
  have h0 := hs.c0
  have h1 := hs.c1
  have o1 : -9223372036854775808 ≤ t.w.getD (k + t.i) 0 - t.c ∧ t.w.getD (k + t.i) 0 - t.c ≤ 9223372036854775807 := ⟨by omega, by omega⟩
  have o2 : -9223372036854775808 ≤ Q * W.getD t.i 0 ∧ Q * W.getD t.i 0 ≤ 9223372036854775807 := ⟨by omega, by omega⟩
  clear p0 p1 w2
  generalize t.w.getD (k + t.i) 0 - t.c - Q * W.getD t.i 0 = n at *
  refine ⟨⟨by omega, by omega⟩, ⟨by omega, by omega⟩, o1, by omega, o2, ⟨by omega, by omega⟩, fun hn => ?_, fun hn => ?_⟩
  ·have hcb : XR 1000000000 n = (-n + 1000000000 - 1).tdiv 1000000000 := by unfold XR; rw [(zq _ _).2 hn]; rfl
   rw [hcb] at hs h0 h1
   generalize (-n + 1000000000 - 1).tdiv 1000000000 = C at *
   exact ⟨⟨by omega, by omega⟩, ⟨by omega, by omega⟩, ⟨by omega, by omega⟩, ⟨by omega, by omega⟩, ⟨by omega, by omega⟩, ⟨by omega, by omega⟩, ⟨by omega, by omega⟩, ⟨by omega, by omega⟩, ⟨by omega, by omega⟩, ⟨t.i + 1, C, _⟩, ⟨⟨⟨hs, by simp only; omega⟩, by simp only; omega⟩, rfl, by simp only; omega⟩, by simp, fun i j' _ => Ro _ _ _ (by omega) i j'⟩
  ·have hcb : XR 1000000000 n = 0 := by unfold XR; rw [show zM n 0 = false from Bool.eq_false_iff.2 fun e => by have := (zq _ _).1 e; omega]; rfl
   rw [hcb] at hs h0 h1
   exact ⟨⟨by omega, by omega⟩, ⟨by omega, by omega⟩, ⟨by omega, by omega⟩, ⟨by omega, by omega⟩, ⟨t.i + 1, 0, _⟩, ⟨⟨⟨hs, by simp only; omega⟩, by simp only; omega⟩, rfl, by simp only; omega⟩, by simp, fun i j' _ => Ro _ _ _ (by omega) i j'⟩
 have ti : t.i = W.length + 1 := by omega
 have tl := t1.len
 have t3 : WC 1000000000 u W k Q (W.length + 1) t.w t.c := ti ▸ t1
 obtain ⟨t4, t5⟩ := t3.fits (by omega) (by omega : k ≤ u.length) hi0
 rw [vv] at t4 t5
 refine ⟨fun hc => ?_, fun hc => ?_⟩
 ·have hlt := t5 hc
  have u0 := zd (b := 1000000000) (by omega) (ui.drop k)
  have Qp : 0 < Q := by
   refine Decidable.byContradiction fun hn => ?_
   have : Q = 0 := by omega
   rw [this, Int.zero_mul] at hlt
   omega
  refine ⟨⟨by omega, by omega⟩, ⟨⟨0, 0, t.w⟩, ⟨⟨.start t1.in_ Q0, Nat.zero_le _⟩, rfl, rfl⟩, rfl, fun _ _ _ _ => rfl⟩, fun r ⟨r1, r2⟩ => ⟨fun hr => ?_, fun hr => ?_⟩⟩
  ·obtain ⟨⟨b0, b1⟩, hs⟩ := r1.step (by omega) vi Q0 (by omega : k + r.i < t.w.length)
   have rl := r1.len
   have w1 := vi.get (by omega) r.i
   have w2 := r1.in_.get (by omega) (k + r.i)
   have p0 : 0 ≤ Q * W.getD r.i 0 := Int.mul_nonneg Q0 w1.1
   have p1 : Q * W.getD r.i 0 ≤ Q * 1000000000 := Int.mul_le_mul_of_nonneg_left (by omega) Q0
   have c0 := r1.c0
   have c1 := r1.c1
   have h0 := hs.c0
   have h1 := hs.c1
   refine ⟨⟨by omega, by omega⟩, ⟨by omega, by omega⟩, by omega, ⟨by omega, by omega⟩, ⟨by omega, by omega⟩, ⟨by omega, by omega⟩, ⟨by omega, by omega⟩, ⟨by omega, by omega⟩, ⟨by omega, by omega⟩, ⟨by omega, by omega⟩, ⟨r.i + 1, _, _⟩, ⟨⟨⟨hs, by simp only; omega⟩, by simp only; omega⟩, rfl, by simp only; omega⟩, by simp, fun i j' _ => Ro _ _ _ (by omega) i j'⟩
  ·have ri : r.i = W.length + 1 := by omega
   have r3 : r.w = u := uw.end_ (by omega) ui (by omega : k ≤ u.length) hi0 t3 (ri ▸ r1 : uw 1000000000 t.w W k Q (W.length + 1) r.w r.c)
   rw [r3]
   exact ⟨⟨by omega, by omega⟩, Q - 1, ⟨⟨⟨by omega, by omega, by rw [Int.sub_add_cancel]; exact hlt⟩, by omega⟩, rfl⟩, rfl, fun _ _ _ _ => rfl⟩
 ·have hs := d1'.step (by omega) vi vv (by omega : k < m) Q0 Q2 t3 hc
  rw [vl] at hs
  exact ⟨⟨by omega, by omega⟩, ⟨by omega, by omega⟩, ⟨k, q.set k Q, t.w⟩, ⟨⟨⟨hs, by simp only; omega⟩, by simp only; omega⟩, by simp only⟩, ⟨rfl, fun _ _ _ _ => rfl⟩, by simp, fun i j' _ => Ro _ _ _ (by omega) i j'⟩
theorem jj (x : List Int) (y : List Int) (hx : ZR 1000000000 x) (hy : ZR 1000000000 y) (tx : zf x = x) (ty : zf y = y) (hn : y.length ≠ 0) (hlx : x.length ≤ 100000000) (hly : y.length ≤ 100000000) : zv Tryz.prog [] 132 [Zl x, Zl y] (.tup 2 (zw [Zl (zT 1000000000 ((zt 1000000000 x).toNat / (zt 1000000000 y).toNat)), Zl (zT 1000000000 ((zt 1000000000 x).toNat % (zt 1000000000 y).toNat))])) :=
 zW (T := e8) (an := Hm x (zt 1000000000 x * W0 y) (zt 1000000000 y * W0 y) y.length (max ((vO x [W0 y]).length + 1) (x.length + 1) - y.length)) mixed NS (Eq.mp (by kernel_rfl) (mP x y hx hy tx ty hn hlx hly))
theorem oF : zQ Tryz.prog [] 132 Uq := by
 intro xs ps r h hp
 unfold Uq at h
 split at h
 ·skip
  rename_i x_x x_y
  cases h
  obtain ⟨q0, q1, q2, q3, q4, q5, q6, q7, q8, -⟩ := ZT hp
  exact weaken (ys := [Zl (zU x_x), Zl (zU x_y)]) ⟨zI q0, zI q1, trivial⟩ (jj (zU x_x) (zU x_y) q2 q3 q4 q5 q6 q7 q8)
 ·cases h
end Go.Te

namespace Go.Te
open Go Go.Sx Go.Proofs Go.Ar
set_option maxRecDepth 100000
set_option maxHeartbeats 4000000
theorem Ws {n k : Nat} (h : n < 10 ^ k) : (zT 1000000000 n).length ≤ k := by
 refine XY (b := 1000000000) (by omega) ?_
 have h2 : 10 ^ k ≤ 1000000000 ^ k := Nat.pow_le_pow_left (by omega) _
 exact_mod_cast Nat.lt_of_lt_of_le h h2
theorem yY {a : zj} (h : ZU a = 0) : (zX a).natAbs < 10 ^ 301 ∧ a.length ≤ 301 ∧ Zy a = true := by
 obtain ⟨h1, h2⟩ := yq.1 h
 have h3 := wK a
 have h4 : 10 ^ a.length ≤ 10 ^ 301 := ff (a := a.length) (b := 301) (by omega)
 exact ⟨Nat.lt_of_lt_of_le (na h1) h4, by omega, h1⟩
theorem xt {a : zj} (h : Zy a = true) : YY (zJ a) (zT 1000000000 (zX a).natAbs) = zX a := by
 have hv : zt 1000000000 (zT 1000000000 (zX a).natAbs) = ((zX a).natAbs : Int) := yL (b := 1000000000) (by omega) _
 unfold YY
 rw [hv]
 rcases yd h with ⟨r, rfl, h1, _, h3⟩ | ⟨h1, h3⟩
 ·rw [show zJ (45 :: r) = true from rfl, h3]; simp only [cond_true]; omega
 ·have hm : zJ a = false := by
   unfold zJ
   rw [beq_eq_false_iff_ne]
   intro e
   have h0 := (Zt.1 h1).1
   have := (Zt.1 h1).2.1 _ (Wj (s := a) (i := 0) h0)
   rw [e] at this
   cases this
  rw [hm, h3]; simp only [cond_false]; omega
theorem qW (n : Bool) (l : List Int) : YY (!n) l = - YY n l := by unfold YY; cases n <;> simp
theorem Ty (n : Bool) {v : Int} (h : 0 ≤ v) : YY n (zT 1000000000 v.toNat) = bif n then - v else v := by
 have hv : zt 1000000000 (zT 1000000000 v.toNat) = (v.toNat : Int) := yL (b := 1000000000) (by omega) _
 unfold YY
 rw [hv, Int.toNat_of_nonneg h]
theorem Zg (n : Nat) : ZR 1000000000 (zT 1000000000 n) ∧ zf (zT 1000000000 n) = zT 1000000000 n := ⟨xz (b := 1000000000) (by omega) n, TO (b := 1000000000) (by omega) n⟩
theorem Xi (f : Bool) (l : List Int) : yR (AV.agg 2 fun i => [AV.v (Value.bool f), AV.xl false 1 l.length fun i j => AV.v (Value.int IntKind.i64 (l.getD i 0))][i]?.getD AV.junk) = (⟨f, l⟩ : Big) := Xy f l
theorem xr (f : Bool) (l : List Int) : yo Big (AV.agg 2 fun i => [AV.v (Value.bool f), AV.xl false 1 l.length fun i j => AV.v (Value.int IntKind.i64 (l.getD i 0))][i]?.getD AV.junk) = true := xY f l
theorem wC (f g : Bool) (l : List Int) (Z : Nat → AV) : yR (AV.agg 2 fun i => if i < 1 then AV.v (Value.bool f) else if i < 2 then zw [AV.v (Value.bool g), AV.xl false 1 l.length fun i j => AV.v (Value.int IntKind.i64 (l.getD i 0))] i else Z i) = (⟨f, l⟩ : Big) := by
 show (⟨f, Zn (Zl l)⟩ : Big) = _
 rw [wH]
theorem Xl (f g : Bool) (l : List Int) (Z : Nat → AV) : yo Big (AV.agg 2 fun i => if i < 1 then AV.v (Value.bool f) else if i < 2 then zw [AV.v (Value.bool g), AV.xl false 1 l.length fun i j => AV.v (Value.int IntKind.i64 (l.getD i 0))] i else Z i) = true := by
 show (ze Int (Zl l)) = true
 rw [Xj]
theorem wM (g : Bool) (l : List Int) (Z : Nat → AV) : yR (AV.agg 2 fun i => if i < 2 then zw [AV.v (Value.bool g), AV.xl false 1 l.length fun i j => AV.v (Value.int IntKind.i64 (l.getD i 0))] i else Z i) = (⟨g, l⟩ : Big) := by
 show (⟨g, Zn (Zl l)⟩ : Big) = _
 rw [wH]
theorem Xk (g : Bool) (l : List Int) (Z : Nat → AV) : yo Big (AV.agg 2 fun i => if i < 2 then zw [AV.v (Value.bool g), AV.xl false 1 l.length fun i j => AV.v (Value.int IntKind.i64 (l.getD i 0))] i else Z i) = true := by
 show (ze Int (Zl l)) = true
 rw [Xj]
theorem T6 {f : Int → Int → Int} {a b : zj} (h : zb a b ≠ 0) : Z5 f a b = [] ∧ Yi f a b = zb a b := by
 have e : Yi f a b = zb a b := by unfold Yi; rw [bne_iff_ne.2 h]; rfl
 refine ⟨?_, e⟩
 unfold Z5
 rw [e, beq_eq_false_iff_ne.2 h]
 rfl
theorem uf {f : Int → Int → Int} {a b : zj} (h : zb a b = 0) : Z5 f a b = Yg (f (zX a) (zX b)) ∧ Yi f a b = ZN (f (zX a) (zX b)) := by
 have e : Yi f a b = ZN (f (zX a) (zX b)) := by unfold Yi; rw [h]; rfl
 refine ⟨?_, e⟩
 unfold Z5 Yg
 rw [e]
theorem Zp {n : Int} {k : Nat} (h0 : 0 < k) (hk : k ≤ 300) (h : n.natAbs < 10 ^ k) : Yg n = Lib.itoa n ∧ ZN n = 0 := by
 have h1 := x5 h0 h
 have e : ZN n = 0 := by
  unfold ZN
  rw [show Nat.blt 300 (Xu n) = false from Bool.eq_false_iff.2 fun e => by have := (Zx _ _).1 e; omega]
  rfl
 refine ⟨?_, e⟩
 unfold Yg
 rw [e]
 rfl
theorem Jc {a : zj} (h : Zy a = true) (hl : leB (a.length : Int) 18 = true) : -1000000000000000000 < zX a ∧ zX a < 1000000000000000000 := by
 have := PI h (k := 18) (by have := (z8 _ _).1 hl; omega)
 rw [show (10 : Int) ^ 18 = 1000000000000000000 from by decide] at this
 exact this
theorem Pd {a : zj} (ha : ZU a = 0) {n : Bool} {k : Nat} {w : Int} (hk : YY n (zT 1000000000 k) = w) (hn : k < 10 ^ 301) :
  YY (oM ⟨zJ a, zT 1000000000 (zX a).natAbs⟩ ⟨n, zT 1000000000 k⟩) (zT 1000000000 (Rb ⟨zJ a, zT 1000000000 (zX a).natAbs⟩ ⟨n, zT 1000000000 k⟩).toNat) = zX a + w ∧
  (zT 1000000000 (Rb ⟨zJ a, zT 1000000000 (zX a).natAbs⟩ ⟨n, zT 1000000000 k⟩).toNat).length ≤ 302 ∧ 0 ≤ Rb ⟨zJ a, zT 1000000000 (zX a).natAbs⟩ ⟨n, zT 1000000000 k⟩ := by
 obtain ⟨a1, a2, a3⟩ := yY ha
 obtain ⟨s1, s2⟩ := mh (x := ⟨zJ a, zT 1000000000 (zX a).natAbs⟩) (y := ⟨n, zT 1000000000 k⟩) (Zg _).1 (Zg _).1 (Zg _).2 (Zg _).2
 simp only [hk, xt a3] at s2
 have hw : w.natAbs = k := by
  have hv : zt 1000000000 (zT 1000000000 k) = (k : Int) := yL (b := 1000000000) (by omega) _
  unfold YY at hk
  rw [hv] at hk
  cases n <;> simp at hk <;> omega
 rw [Ty _ s1, s2]
 refine ⟨rfl, Ws ?_, s1⟩
 generalize Rb ⟨zJ a, zT 1000000000 (zX a).natAbs⟩ ⟨n, zT 1000000000 k⟩ = v at *
 have : v.toNat ≤ (zX a).natAbs + k := by
  cases hx : oM ⟨zJ a, zT 1000000000 (zX a).natAbs⟩ ⟨n, zT 1000000000 k⟩ <;> rw [hx] at s2 <;> simp at s2 <;> omega
 have h3 : 10 ^ 302 = 10 ^ 301 * 10 := jW 301 302 rfl
 generalize 10 ^ 301 = M at *
 omega
theorem kF : ∀ (s t : Bool) (A B : Int), (bif !(s == t) then -(A * B) else A * B) = (bif s then -A else A) * (bif t then -B else B) := by
 intro s t A B
 cases s <;> cases t <;> simp [Int.neg_mul, Int.mul_neg]
theorem xD (n : Nat) : zt 1000000000 (zT 1000000000 n) = (n : Int) := yL (b := 1000000000) (by omega) _
theorem Lq {a b : zj} (ha : Zy a = true) (hb : Zy b = true) : YY (!(zJ a == zJ b)) (zT 1000000000 (((zX a).natAbs : Int) * ((zX b).natAbs : Int)).toNat) = zX a * zX b := by
 have h1 := xt ha
 have h2 := xt hb
 unfold YY at h1 h2
 rw [xD] at h1 h2
 rw [Ty _ (Int.mul_nonneg (by omega) (by omega)), kF, h1, h2]
noncomputable def Fx (G : List (Nat × Obj)) : Tb := (((((LC G).plus 85 Sf).plus 86 tt).plus 87 US).plus 88 PK).plus 100 vZ
theorem QN {G : List (Nat × Obj)} (hG : zO G) : zz Tryz.prog (Fx G) :=
 zz.plus (zz.plus (zz.plus (zz.plus (zz.plus (YK hG) (zQ.mono JV)) (zQ.mono Mn)) (zQ.mono om)) (zQ.mono HE)) (ss hG)
noncomputable def gw (G : List (Nat × Obj)) : Tb := ((((Fx G).plus 101 U3).plus 132 Uq).plus 137 Ul).plus 31 uR
theorem Xv {G : List (Nat × Obj)} (hG : zO G) : zz Tryz.prog (gw G) := zz.plus (zz.plus (zz.plus (zz.plus (QN hG) (zQ.mono mn)) (zQ.mono oF)) (zQ.mono Pe)) (zQ.mono RX)
def tg : List AV → Option (List zN × AV)
 | [.str a, .str b] => some ([.p (a.length ≤ 4294967280), .p (b.length ≤ 4294967280)], .tup 2 (zw [.str (Z5 (· + ·) a b), .i (Yi (· + ·) a b)]))
 | _ => none
theorem Kg (G : List (Nat × Obj)) (a : List UInt8) (b : List UInt8) (hla : a.length ≤ 4294967280) (hlb : b.length ≤ 4294967280) :
 let q2 := (bif leB (lZ a) (18 : Int) && leB (lZ b) (18 : Int) then zX a else iZ); let q1 := (q2 + bif leB (lZ a) (18 : Int) && leB (lZ b) (18 : Int) then zX b else iZ); let q4 := (zT 1000000000 (Int.natAbs (zX a))); let q3 := (AV.agg 2 fun i => Option.getD [AV.v (Value.bool (zJ a)), xI q4][i]? AV.junk); let q6 := (zT 1000000000 (Int.natAbs (zX b))); let q5 := (AV.agg 2 fun i => Option.getD [AV.v (Value.bool
 (zJ b)), xI q6][i]? AV.junk); let q8 := (yR q3); let q7 := (Big.l q8); let q10 := (yR q5); let q9 := (Big.l q10); let q12 := (zT 1000000000 (Int.toNat (Rb q8 q10))); let q11 := (AV.agg 2 fun i => Option.getD [AV.v (Value.bool (oM q8 q10)), xI q12][i]? AV.junk); let q14 := (yR q11); let q13 := (Big.l q14); let q15 := (YY (Big.neg q14) q13); zB [AV.str a, AV.str b] → lN a ≤ nM ∧ lN b ≤
 nM ∧ zZ (zb a b != iZ) (j2 ∧ (True ∧ bA #[] = Z5 (fun (x1 x2 : Int) => x1 + x2) a b) ∧ kI ∧ zb a b = Yi (fun (x1 x2 : Int) => x1 + x2) a b) (Zy a = true ∧ Zy b = true ∧ (18 : Int) = (18 : Int) ∧ zZ (leB (lZ a) (18 : Int) && leB (lZ b) (18 : Int)) (bF (dK q1) (((iN ≤ q2 + bif leB (lZ a) (18 : Int) && leB (lZ b) (18 : Int) then zX b else iZ) ∧ q1 ≤
 iX) ∧ j2 ∧ (True ∧ Lib.itoa q1 = Z5 (fun (x1 x2 : Int) => x1 + x2) a b) ∧ kI ∧ iZ = Yi (fun (x1 x2 : Int) => x1 + x2) a b)) (Zy a = true ∧ lN a ≤ 100000000 ∧ Zy b = true ∧ lN b ≤ 100000000 ∧ bF (yo Big q3) (bF (yo Big q5) ((∀ (x : Int), List.Mem x q7 → iZ ≤ x ∧ x < iB) ∧ (∀ (x : Int), List.Mem x q9 → iZ ≤ x ∧ x < iB) ∧ zf q7 = Big.l q8 ∧ zf q9 = Big.l q10 ∧ lN q7 ≤ 1000000000 ∧ lN q9 ≤ 1000000000 ∧ zZ
 (yo Big q11) ((∀ (x : Int), List.Mem x q13 → iZ ≤ x ∧ x < iB) ∧ zf q13 = Big.l q14 ∧ lN q13 ≤ 100000000 ∧ j2 ∧ (True ∧ Yg q15 = Z5 (fun (x1 x2 : Int) => x1 + x2) a b) ∧ kI ∧ ZN q15 = Yi (fun (x1 x2 : Int) => x1 + x2) a b) False)))) := by
 delta bF dK bA xI nM kI j2 lZ lN iZ iX iN iB
 dsimp only
 intro hb
 have e0 : (zR.dflt : Int) = 0 := rfl
 simp only [↓Zf, ↓Zu, row_one]
 simp only [sS, dS, e0, Xi, xr, Xy, xY, wC, Xl, wM, Xk, X6]
 refine ⟨by omega, by omega, fun hE => ⟨rfl, (T6 hE).1.symm, (T6 hE).2.symm⟩, fun hE => ?_⟩
 obtain ⟨hA, hB⟩ := xN hE
 obtain ⟨a1, a2, a3⟩ := yY hA
 obtain ⟨b1, b2, b3⟩ := yY hB
 rw [(uf hE).1, (uf hE).2]
 refine ⟨a3, b3, zY.2 ⟨fun c => ?_, fun c => ?_⟩⟩
 ·rw [c]
  rw [Bool.and_eq_true] at c
  have x1 := Jc a3 c.1
  have x2 := Jc b3 c.2
  simp only [cond_true]
  obtain ⟨r1, r2⟩ := Zp (n := zX a + zX b) (k := 20) (by omega) (by omega) (by omega)
  exact ⟨⟨by omega, by omega⟩, ⟨by omega, by omega⟩, rfl, r1.symm, r2.symm⟩
 ·obtain ⟨q1, q2, q3⟩ := Pd hA (xt b3) b1
  rw [q1]
  exact ⟨a3, by omega, b3, by omega, (Zg _).1, (Zg _).1, (Zg _).2, (Zg _).2, by have := Ws a1; omega, by have := Ws b1; omega, (Zg _).1, (Zg _).2, by omega, rfl, rfl, rfl⟩
theorem Hh {G : List (Nat × Obj)} (hG : zO G) (a : List UInt8) (b : List UInt8) (hla : a.length ≤ 4294967280) (hlb : b.length ≤ 4294967280) : zv Tryz.prog G 47 [.str a, .str b] (.tup 2 (zw [.str (Z5 (· + ·) a b), .i (Yi (· + ·) a b)])) :=
 zW (T := gw G) (an := .auto) mixed (Xv hG) (Eq.mp (by kernel_rfl) (Kg G a b hla hlb))
theorem PO {G : List (Nat × Obj)} (hG : zO G) : zQ Tryz.prog G 47 tg := by
 intro xs ps r h hp
 unfold tg at h
 split at h
 ·skip
  rename_i a b
  cases h
  obtain ⟨q0, q1, -⟩ := ZT hp
  exact weaken (ys := [.str a, .str b]) ⟨zV _, zV _, trivial⟩ (Hh hG a b q0 q1)
 ·cases h
def Rm : List AV → Option (List zN × AV)
 | [.str a, .str b] => some ([.p (a.length ≤ 4294967280), .p (b.length ≤ 4294967280)], .tup 2 (zw [.str (Z5 (· - ·) a b), .i (Yi (· - ·) a b)]))
 | _ => none
theorem JW (G : List (Nat × Obj)) (a : List UInt8) (b : List UInt8) (hla : a.length ≤ 4294967280) (hlb : b.length ≤ 4294967280) :
 let q2 := (bif leB (lZ a) (18 : Int) && leB (lZ b) (18 : Int) then zX a else iZ); let q1 := (q2 - bif leB (lZ a) (18 : Int) && leB (lZ b) (18 : Int) then zX b else iZ); let q4 := (zT 1000000000 (Int.natAbs (zX a))); let q3 := (AV.agg 2 fun i => Option.getD [AV.v (Value.bool (zJ a)), xI q4][i]? AV.junk); let q6 := (zT 1000000000 (Int.natAbs (zX b))); let q7 := (Value.agg #[Value.bool false, Value.slice (Xd Addr)
 0 0]); let q5 := (AV.agg 2 fun (i : Nat) => if 0 ≤ 0 + i ∧ 0 + i < 1 then AV.v (Value.bool !zJ b) else if 0 ≤ 0 + i ∧ 0 + i < 2 then zw [AV.v (Value.bool (zJ b)), xI q6] (0 + i - 0) else ZC q7 (0 + i)); let q9 := (yR q3); let q8 := (Big.l q9); let q11 := (yR q5); let q10 := (Big.l q11); let q12 := (AV.agg 2 fun i => let q13 := (yR (AV.agg 2 fun (i : Nat) => if 0 ≤ 0 + i ∧ 0 + i < 1 then AV.v (Value.bool !zJ b) else if 0 ≤ 0 + i ∧ 0 + i < 2 then zw [AV.v (Value.bool (zJ b)), AV.xl false 1
 (lN q6) fun i j => aI (gD q6 i zR.dflt)] (0 + i - 0) else ZC q7 (0 + i))); Option.getD [AV.v (Value.bool (oM q9 q13)), AV.xl false 1 (lN (zT 1000000000 (Int.toNat (Rb q9 q13)))) fun i j => AV.v (Value.int .i64 (gD (zT 1000000000 (Int.toNat (Rb q9 (yR (AV.agg 2 fun (i : Nat) => if 0 ≤ 0 + i ∧ 0 + i < 1 then AV.v (Value.bool !zJ b) else if 0 ≤ 0 + i ∧ 0 + i < 2 then zw [AV.v (Value.bool (zJ b)), xI q6] (0 + i - 0) else ZC q7 (0 + i)))))) i
 zR.dflt))][i]? AV.junk); let q15 := (yR q12); let q14 := (Big.l q15); let q16 := (YY (Big.neg q15) q14); zB [AV.str a, AV.str b] → lN a ≤ nM ∧ lN b ≤ nM ∧ zZ (zb a b != iZ) (j2 ∧ (True ∧ bA #[] = Z5 (fun (x1 x2 : Int) => x1 - x2) a b) ∧ kI ∧ zb a b = Yi (fun (x1 x2 : Int) => x1 - x2) a b) (Zy a = true ∧ Zy b = true ∧ (18 : Int) = (18 : Int) ∧ zZ (leB (lZ a) (18 : Int) && leB (lZ b) (18 : Int)) (zZ
 (dK q1) (((iN ≤ q2 - bif leB (lZ a) (18 : Int) && leB (lZ b) (18 : Int) then zX b else iZ) ∧ q1 ≤ iX) ∧ j2 ∧ (True ∧ Lib.itoa q1 = Z5 (fun (x1 x2 : Int) => x1 - x2) a b) ∧ kI ∧ iZ = Yi (fun (x1 x2 : Int) => x1 - x2) a b) False) (Zy b = true ∧ lN b ≤ 100000000 ∧ Zy a = true ∧ lN a ≤ 100000000 ∧ bF (yo Big q3) (bF (yo Big q5) ((∀ (x : Int), List.Mem x q8 → iZ ≤ x ∧ x < iB) ∧
 (∀ (x : Int), List.Mem x q10 → iZ ≤ x ∧ x < iB) ∧ zf q8 = Big.l q9 ∧ zf q10 = Big.l q11 ∧ lN q8 ≤ 1000000000 ∧ lN q10 ≤ 1000000000 ∧ bF (yo Big q12) ((∀ (x : Int), List.Mem x q14 → iZ ≤ x ∧ x < iB) ∧ zf q14 = Big.l q15 ∧ lN q14 ≤ 100000000 ∧ j2 ∧ (True ∧ Yg q16 = Z5 (fun (x1 x2 : Int) => x1 - x2) a b) ∧ kI ∧ ZN q16 = Yi (fun (x1 x2 : Int) => x1 - x2) a b))))) := by
 delta bF dK bA xI nM kI j2 lZ lN gD iZ iX iN iB aI
 dsimp only
 intro hb
 have e0 : (zR.dflt : Int) = 0 := rfl
 simp only [↓Zf, ↓Zu, row_one]
 simp only [sS, dS, e0, Xi, xr, Xy, xY, wC, Xl, wM, Xk, X6]
 refine ⟨by omega, by omega, fun hE => ⟨rfl, (T6 hE).1.symm, (T6 hE).2.symm⟩, fun hE => ?_⟩
 obtain ⟨hA, hB⟩ := xN hE
 obtain ⟨a1, a2, a3⟩ := yY hA
 obtain ⟨b1, b2, b3⟩ := yY hB
 rw [(uf hE).1, (uf hE).2]
 refine ⟨a3, b3, zY.2 ⟨fun c => ?_, fun c => ?_⟩⟩
 ·rw [c]
  rw [Bool.and_eq_true] at c
  have x1 := Jc a3 c.1
  have x2 := Jc b3 c.2
  simp only [cond_true]
  obtain ⟨r1, r2⟩ := Zp (n := zX a - zX b) (k := 20) (by omega) (by omega) (by omega)
  exact ⟨⟨by omega, by omega⟩, ⟨by omega, by omega⟩, rfl, r1.symm, r2.symm⟩
 ·have hs : YY (!zJ b) (zT 1000000000 (zX b).natAbs) = - zX b := by rw [qW, xt b3]
  obtain ⟨q1, q2, q3⟩ := Pd hA hs b1
  rw [q1]
  exact ⟨b3, by omega, a3, by omega, (Zg _).1, (Zg _).1, (Zg _).2, (Zg _).2, by have := Ws a1; omega, by have := Ws b1; omega, (Zg _).1, (Zg _).2, by omega, rfl, rfl, rfl⟩
theorem Hk {G : List (Nat × Obj)} (hG : zO G) (a : List UInt8) (b : List UInt8) (hla : a.length ≤ 4294967280) (hlb : b.length ≤ 4294967280) : zv Tryz.prog G 49 [.str a, .str b] (.tup 2 (zw [.str (Z5 (· - ·) a b), .i (Yi (· - ·) a b)])) :=
 zW (T := gw G) (an := .auto) mixed (Xv hG) (Eq.mp (by kernel_rfl) (JW G a b hla hlb))
theorem lH {G : List (Nat × Obj)} (hG : zO G) : zQ Tryz.prog G 49 Rm := by
 intro xs ps r h hp
 unfold Rm at h
 split at h
 ·skip
  rename_i a b
  cases h
  obtain ⟨q0, q1, -⟩ := ZT hp
  exact weaken (ys := [.str a, .str b]) ⟨zV _, zV _, trivial⟩ (Hk hG a b q0 q1)
 ·cases h
def Wc : List AV → Option (List zN × AV)
 | [.str a, .str b] => some ([.p (a.length ≤ 4294967280), .p (b.length ≤ 4294967280)], .tup 2 (zw [.str (Z5 (· * ·) a b), .i (Yi (· * ·) a b)]))
 | _ => none
theorem j5 (G : List (Nat × Obj)) (a : List UInt8) (b : List UInt8) (hla : a.length ≤ 4294967280) (hlb : b.length ≤ 4294967280) :
 let q1 := ((lZ a) + (lZ b)); let q3 := (bif leB (lZ a) (18 : Int) && leB (lZ b) (18 : Int) then zX a else iZ); let q2 := (q3 * bif leB (lZ a) (18 : Int) && leB (lZ b) (18 : Int) then zX b else iZ); let q6 := (zT 1000000000 (Int.natAbs (zX a))); let q5 := (xI q6); let q8 := (zT 1000000000 (Int.natAbs (zX b))); let q7 := (AV.xl false 1 (lN q8) fun i j => AV.v (Value.int
 .i64 (gD q8 i zR.dflt))); let q9 := (zU q5); let q10 := (zU q7); let q12 := (zT 1000000000 (Int.toNat (zt iB q9 * zt iB q10))); let q11 := (AV.agg 2 (zw [AV.v (Value.bool !zJ a == zJ b), xI q12])); let q14 := (yR q11); let q13 := (Big.l q14); let q15 := (YY (Big.neg q14) q13); let q4 := (Zy a = true ∧ lN a ≤ 100000000 ∧ Zy b = true ∧ lN b ≤ 100000000 ∧ bF (ze Int q5) (bF (ze Int q7) ((∀ (x : Int), List.Mem x q9 →
 iZ ≤ x ∧ x < iB) ∧ (∀ (x : Int), List.Mem x q10 → iZ ≤ x ∧ x < iB) ∧ lN q9 ≤ 1000000000 ∧ lN q10 ≤ 1000000000 ∧ bF (yo Big q11) ((∀ (x : Int), List.Mem x q13 → iZ ≤ x ∧ x < iB) ∧ zf q13 = Big.l q14 ∧ lN q13 ≤ 100000000 ∧ j2 ∧ (True ∧ Yg q15 = Z5 (fun (x1 x2 : Int) => x1 * x2) a b) ∧ kI ∧ ZN q15 = Yi (fun (x1 x2 : Int) => x1 * x2) a b)))); zB [AV.str a, AV.str b] → lN a ≤ nM ∧ lN b ≤ nM
 ∧ zZ (zb a b != iZ) (j2 ∧ (True ∧ bA #[] = Z5 (fun (x1 x2 : Int) => x1 * x2) a b) ∧ kI ∧ zb a b = Yi (fun (x1 x2 : Int) => x1 * x2) a b) (bF (dK q1) (zZ (leB q1 (18 : Int)) (Zy a = true ∧ Zy b = true ∧ (18 : Int) = (18 : Int) ∧ zZ (leB (lZ a) (18 : Int) && leB (lZ b) (18 : Int)) (bF (dK q2) (((iN ≤ q3 * bif leB (lZ a) (18 : Int) && leB (lZ b)
 (18 : Int) then zX b else iZ) ∧ q2 ≤ iX) ∧ j2 ∧ (True ∧ Lib.itoa q2 = Z5 (fun (x1 x2 : Int) => x1 * x2) a b) ∧ kI ∧ iZ = Yi (fun (x1 x2 : Int) => x1 * x2) a b)) q4) q4)) := by
 delta bF dK bA xI nM kI j2 lZ lN gD iZ iX iN iB
 dsimp only
 intro hb
 have e0 : (zR.dflt : Int) = 0 := rfl
 simp only [↓Zf, ↓Zu, row_one]
 simp only [sS, dS, e0, Xi, xr, Xy, xY, wC, Xl, wM, Xk, X6]
 simp only [xD]
 refine ⟨by omega, by omega, fun hE => ⟨rfl, (T6 hE).1.symm, (T6 hE).2.symm⟩, fun hE => ?_⟩
 obtain ⟨hA, hB⟩ := xN hE
 obtain ⟨a1, a2, a3⟩ := yY hA
 obtain ⟨b1, b2, b3⟩ := yY hB
 rw [(uf hE).1, (uf hE).2, Lq a3 b3]
 have hl : (zT 1000000000 (((zX a).natAbs : Int) * ((zX b).natAbs : Int)).toNat).length ≤ 602 := by
  refine Ws ?_
  rw [show (((zX a).natAbs : Int) * ((zX b).natAbs : Int)).toNat = (zX a).natAbs * (zX b).natAbs from by rw [← Int.natCast_mul]; rfl, show 10 ^ 602 = 10 ^ 301 * 10 ^ 301 from IL 301 602 rfl]
  have hm := Nat.mul_lt_mul'' a1 b1
  exact hm
 have la := Ws a1
 have lb := Ws b1
 refine ⟨⟨by omega, by omega⟩, fun h18 => ⟨a3, b3, zY.2 ⟨fun c => ?_, fun c => ?_⟩⟩, fun h18 => ?_⟩
 ·rw [c]
  rw [Bool.and_eq_true] at c
  simp only [cond_true]
  have hm : (zX a * zX b).natAbs < 10 ^ 18 := by
   rw [Int.natAbs_mul]
   have h1 := Nat.mul_lt_mul'' (na a3) (na b3)
   rw [← Nat.pow_add] at h1
   exact Nat.lt_of_lt_of_le h1 (Nat.pow_le_pow_right (by omega) (by omega))
  obtain ⟨r1, r2⟩ := Zp (n := zX a * zX b) (k := 18) (by omega) (by omega) hm
  rw [show 10 ^ 18 = 1000000000000000000 from by decide] at hm
  exact ⟨⟨by omega, by omega⟩, ⟨by omega, by omega⟩, rfl, r1.symm, r2.symm⟩
 ·exact ⟨a3, by omega, b3, by omega, (Zg _).1, (Zg _).1, by omega, by omega, (Zg _).1, (Zg _).2, by omega, rfl, rfl, rfl⟩
 ·exact ⟨a3, by omega, b3, by omega, (Zg _).1, (Zg _).1, by omega, by omega, (Zg _).1, (Zg _).2, by omega, rfl, rfl, rfl⟩
theorem ii {G : List (Nat × Obj)} (hG : zO G) (a : List UInt8) (b : List UInt8) (hla : a.length ≤ 4294967280) (hlb : b.length ≤ 4294967280) : zv Tryz.prog G 43 [.str a, .str b] (.tup 2 (zw [.str (Z5 (· * ·) a b), .i (Yi (· * ·) a b)])) :=
 zW (T := gw G) (an := .auto) mixed (Xv hG) (Eq.mp (by kernel_rfl) (j5 G a b hla hlb))
theorem uu {G : List (Nat × Obj)} (hG : zO G) : zQ Tryz.prog G 43 Wc := by
 intro xs ps r h hp
 unfold Wc at h
 split at h
 ·skip
  rename_i a b
  cases h
  obtain ⟨q0, q1, -⟩ := ZT hp
  exact weaken (ys := [.str a, .str b]) ⟨zV _, zV _, trivial⟩ (ii hG a b q0 q1)
 ·cases h
def rt : List AV → Option (List zN × AV)
 | [.str a, .str b] => some ([.p (a.length ≤ 4294967280), .p (b.length ≤ 4294967280)], .tup 2 (zw [.i (Yy a b), .i (zb a b)]))
 | _ => none
theorem kt (G : List (Nat × Obj)) (a : List UInt8) (b : List UInt8) (hla : a.length ≤ 4294967280) (hlb : b.length ≤ 4294967280) :
 let q1 := (True ∧ kI ∧ iZ = Yy a b); let q3 := (zT 1000000000 (Int.natAbs (zX a))); let q4 := (Value.agg #[Value.bool false, Value.slice (Xd Addr) 0 0]); let q2 := (AV.agg 2 fun (i : Nat) => if 0 ≤ 0 + i ∧ 0 + i < 2 then zw [AV.v (Value.bool (zJ a)), xI q3] (0 + i - 0) else ZC q4 (0 + i)); let q6 := (zT 1000000000 (Int.natAbs (zX b))); let q5 := (AV.agg 2 fun (i : Nat) => if 0 ≤ 0 + i ∧ 0 + i < 1 then AV.v (Value.bool !zJ b) else if 0 ≤ 0 + i ∧ 0 + i < 2 then zw
 [AV.v (Value.bool (zJ b)), xI q6] (0 + i - 0) else ZC q4 (0 + i)); let q8 := (yR q2); let q7 := (Big.l q8); let q10 := (yR q5); let q9 := (Big.l q10); zB [AV.str a, AV.str b] → lN a ≤ nM ∧ lN b ≤ nM ∧ zZ (zb a b != iZ) (j2 ∧ q1 ∧ kI ∧ zb a b = zb a b) (Zy a = true ∧ Zy b = true ∧ (18 : Int) = (18 : Int) ∧ zZ (leB (lZ a) (18 : Int) && leB (lZ b) (18 : Int)) (2
 = lN [AV.junk, AV.junk] ∧ (True ∧ kI ∧ Yh (bif leB (lZ a) (18 : Int) && leB (lZ b) (18 : Int) then zX a else iZ) (bif leB (lZ a) (18 : Int) && leB (lZ b) (18 : Int) then zX b else iZ) = Yy a b) ∧ kI ∧ iZ = zb a b) (Zy a = true ∧ lN a ≤ 100000000 ∧ Zy b = true ∧ lN b ≤ 100000000 ∧ bF (yo Big q2) (bF (yo Big q5) ((∀ (x : Int), List.Mem x q7 → iZ ≤ x ∧ x < iB) ∧ (∀ (x : Int), List.Mem x q9 → (0 :
 Int) ≤ x ∧ x < iB) ∧ zf q7 = Big.l q8 ∧ zf q9 = Big.l q10 ∧ lN q7 ≤ 1000000000 ∧ lN q9 ≤ 1000000000 ∧ zZ ((lZ (zT 1000000000 (Int.toNat (Rb q8 q10)))) == iZ) (j2 ∧ q1 ∧ kI ∧ iZ = zb a b) (zZ (oM q8 q10) (j2 ∧ (True ∧ kI ∧ (-1 : Int) = Yy a b) ∧ kI ∧ iZ = zb a b) (j2 ∧ (True ∧ kI ∧ iO = Yy a b) ∧ kI ∧ iZ =
 zb a b)))))) := by
 delta bF xI nM kI j2 lZ lN iZ iO iB
 dsimp only
 intro hb
 have e0 : (zR.dflt : Int) = 0 := rfl
 simp only [↓Zf, ↓Zu, row_one]
 simp only [sS, dS, e0, Xi, xr, Xy, xY, wC, Xl, wM, Xk, X6]
 have hV : zb a b = 0 → Yy a b = Yh (zX a) (zX b) := fun h => by unfold Yy; rw [h]; rfl
 refine ⟨by omega, by omega, fun hE => ⟨rfl, ?_⟩, fun hE => ?_⟩
 ·unfold Yy; rw [bne_iff_ne.2 hE]; rfl
 obtain ⟨hA, hB⟩ := xN hE
 obtain ⟨a1, a2, a3⟩ := yY hA
 obtain ⟨b1, b2, b3⟩ := yY hB
 rw [hV hE]
 refine ⟨a3, b3, zY.2 ⟨fun c => ?_, fun c => ?_⟩⟩
 ·rw [c]
  exact ⟨rfl, rfl, hE.symm⟩
 ·have hs : YY (!zJ b) (zT 1000000000 (zX b).natAbs) = - zX b := by rw [qW, xt b3]
  obtain ⟨q1, q2, q3⟩ := Pd hA hs b1
  have la := Ws a1
  have lb := Ws b1
  rw [Ty _ q3] at q1
  refine ⟨a3, by omega, b3, by omega, (Zg _).1, (Zg _).1, (Zg _).2, (Zg _).2, by omega, by omega, fun h0 => ?_, fun h0 => zY.2 ⟨fun hn => ?_, fun hn => ?_⟩⟩
  all_goals
   generalize Rb ⟨zJ a, zT 1000000000 (zX a).natAbs⟩ ⟨!zJ b, zT 1000000000 (zX b).natAbs⟩ = v at *
   generalize oM ⟨zJ a, zT 1000000000 (zX a).natAbs⟩ ⟨!zJ b, zT 1000000000 (zX b).natAbs⟩ = n at *
  ·have h1 := wz (b := 1000000000) (n := v.toNat) (by omega) (by omega)
   have : zX a = zX b := by cases n <;> simp at q1 <;> omega
   unfold Yh
   rw [this, show zM (zX b) (zX b) = false from Bool.eq_false_iff.2 fun e => by have := (zq _ _).1 e; omega, beq_self_eq_true]
   exact ⟨rfl, rfl, hE.symm⟩
  all_goals
   have h1 : v.toNat ≠ 0 := fun e => h0 (by rw [e, Z3]; rfl)
   rw [hn] at q1
   unfold Yh
  ·rw [cond_true] at q1
   rw [(zq _ _).2 (show zX a < zX b by omega)]
   exact ⟨rfl, rfl, hE.symm⟩
  ·rw [cond_false] at q1
   rw [show zM (zX a) (zX b) = false from Bool.eq_false_iff.2 fun e => by have := (zq _ _).1 e; omega, beq_eq_false_iff_ne.2 (show zX a ≠ zX b by omega)]
   exact ⟨rfl, rfl, hE.symm⟩
theorem iY {G : List (Nat × Obj)} (hG : zO G) (a : List UInt8) (b : List UInt8) (hla : a.length ≤ 4294967280) (hlb : b.length ≤ 4294967280) : zv Tryz.prog G 34 [.str a, .str b] (.tup 2 (zw [.i (Yy a b), .i (zb a b)])) :=
 zW (T := gw G) (an := .auto) mixed (Xv hG) (Eq.mp (by kernel_rfl) (kt G a b hla hlb))
theorem M6 {G : List (Nat × Obj)} (hG : zO G) : zQ Tryz.prog G 34 rt := by
 intro xs ps r h hp
 unfold rt at h
 split at h
 ·skip
  rename_i a b
  cases h
  obtain ⟨q0, q1, -⟩ := ZT hp
  exact weaken (ys := [.str a, .str b]) ⟨zV _, zV _, trivial⟩ (iY hG a b q0 q1)
 ·cases h
end Go.Te
