/- integer: long division. -/
import Derived.Test.YthbpnknhfokadaaGreatDoorThIf
import Derived.Test.YthbpnknhfokadaaGreatDoorArA
import Derived.Test.YthbpnknhfokadaaGreatDoorArM
set_option linter.unusedSimpArgs false
set_option linter.unusedVariables false
namespace Go.Te
open Go Go.Sx Go.Proofs Go.Ar
set_option maxRecDepth 100000
set_option maxHeartbeats 4000000
structure ZC where
 i : Nat
 c : Int
 w : List Int
def NS  : yS :=
 .two .auto (.two .auto (.two (.two .auto (.one (.loop ZC (fun σ z => [(0, σ.tm 0), (1, σ.tm 1), (2, σ.tm 2), (3, σ.tm 3), (14, σ.tm 14), (9, .i z.c), (15, .i (z.i : Int))]) (fun σ z => [(YN (σ.tm 0), tu z.w)]) 0 (fun σ z => Ws 1000000000 (ZL (σ.bl (YN (σ.tm 0)))) (ZL (σ.bl (YN (σ.tm 1)))) (AV.int (σ.tm 2)).toNat (AV.int (σ.tm 3)) z.i z.w z.c ∧ z.i ≤ (ZL (σ.bl (YN (σ.tm 1)))).length + 1) (fun σ z => (ZL (σ.bl (YN (σ.tm 1)))).length + 1 - z.i) .auto))) .auto))
def N6  : yS :=
 .two .auto (.two .auto (.two (.two .auto (.one (.loop ZC (fun σ z => [(0, σ.tm 0), (1, σ.tm 1), (2, σ.tm 2), (3, σ.tm 3), (14, σ.tm 14), (9, .i z.c), (15, .i (z.i : Int))]) (fun σ z => [(YN (σ.tm 0), tu z.w)]) 0 (fun σ z => Vq 1000000000 (ZL (σ.bl (YN (σ.tm 0)))) (ZL (σ.bl (YN (σ.tm 1)))) (AV.int (σ.tm 2)).toNat (AV.int (σ.tm 3)) z.i z.w z.c ∧ z.i ≤ (ZL (σ.bl (YN (σ.tm 1)))).length + 1) (fun σ z => (ZL (σ.bl (YN (σ.tm 1)))).length + 1 - z.i) .auto))) .auto))
noncomputable def IK : Tb := (((((T0.plus 147 WS).plus 155 Vw).plus 150 U1).plus 178 qQ).plus 176 sR).plusF 113 s8
theorem pW : zz Tryz.prog IK := zz.plusF (zz.plus (zz.plus (zz.plus (zz.plus (zz.plus zQ uE) Sk) pS) jD) KF) Ku
noncomputable def GG : Tb := IK.body Tryz.prog [(177, .auto), (179, NS), (180, N6)]
theorem oa : zz Tryz.prog GG := zz.body mixed pW _
structure yw where
 j : Nat
 q : List Int
 u : List Int
def V5 (σ : zK) (k : Nat) : Nat :=
 match σ.bl k with
 | .box _ _ cs => YN (cs 0)
 | _ => 0
def j0 (x : List Int) : yS := .loop Nat (fun σ z => [(0, σ.tm 0), (4, σ.tm 4), (6, σ.tm 6), (7, σ.tm 7), (8, σ.tm 8), (9, σ.tm 9), (61, σ.tm 61)])
 (fun σ z => [(4, .box 141 1 fun _ => .ns σ.nb 0 ((ZL (σ.bl (V5 σ 4))).length + z)), (V5 σ 4, .dead), (σ.nb, tu (ZL (σ.bl (V5 σ 4)) ++ List.replicate z 0))]) 1
 (fun σ z => z = 0 ∨ (ZL (σ.bl (V5 σ 4))).length + z ≤ x.length + 1) (fun σ z => x.length + 1 - (ZL (σ.bl (V5 σ 4))).length - z) .auto
def JY (V : Int) : yS := .loop Int (fun σ z => [(4, σ.tm 4), (6, σ.tm 6), (7, σ.tm 7), (8, σ.tm 8), (9, σ.tm 9), (10, .i z)]) (fun _ _ => []) 0
 (fun σ z => 0 ≤ z ∧ z ≤ 2000000000 ∧ zv 1000000000 ((ZL (σ.bl (V5 σ 4))).drop (AV.int (σ.tm 9)).toNat) < (z + 1) * V) (fun σ z => z.toNat) .auto
def jJ (A V : Int) (n m : Nat) : yS :=
 .two .auto (.one (.loop yw (fun σ z => [(0, σ.tm 0), (1, σ.tm 1), (3, .i ((z.j : Int) - 1))]) (fun σ z => [(V5 σ 0, tu z.q), (V5 σ 4, tu z.u)]) 0
  (fun _ z => wK 1000000000 A V n m z.j z.q z.u ∧ z.j ≤ m) (fun _ z => z.j) .auto))
def IY (x : List Int) (A V : Int) (n m : Nat) : yS :=
 .two .auto (.two .auto (.two .auto (.two .auto (.two .auto (.two (.one (j0 x)) (.two .auto (.two (.two .auto (.one (.range (jJ A V n m) .auto (.one (.two .auto (.two (.one (JY V)) .auto)))))) .auto)))))))
def WR (y : List Int) : Int := (1000000000 : Int).tdiv (y.getD (y.length - 1) 0 + 1)
theorem QM (l : List Int) (v : Int) (i : Nat) (h : i < l.length + 1) : (l ++ [v]).getD i 0 = if i < l.length then l.getD i 0 else v := by
 rw [List.getD_eq_getElem?_getD, List.getElem?_append]
 by_cases hi : i < l.length
 ·rw [if_pos hi, if_pos hi, ← List.getD_eq_getElem?_getD]
 ·rw [if_neg hi, if_neg hi, show i - l.length = 0 by omega]; rfl
theorem gk (l : List Int) (v : Int) : ZL (OB.arr 3 1 (l.length + 1) fun a b => if a < l.length then AV.v (Value.int IntKind.i64 (l.getD a 0)) else AV.v (Value.int IntKind.i64 v)) = l ++ [v] := by
 have e : ((List.range (l.length + 1)).map fun i => AV.int (if i < l.length then AV.v (Value.int IntKind.i64 (l.getD i 0)) else AV.v (Value.int IntKind.i64 v))) = l ++ [v] := by
  apply List.ext_getElem
  ·simp
  ·intro i h1 h2
   rw [List.getElem_map, List.getElem_range]
   have h3 : i < l.length + 1 := by simpa using h2
   have e2 : (l ++ [v])[i] = (l ++ [v]).getD i 0 := by rw [List.getD_eq_getElem?_getD, List.getElem?_eq_getElem h2]; rfl
   rw [e2, QM l v i h3]
   split <;> rfl
 exact e
theorem LK (r : Int) : zV (AV.xl true 1 1 fun x j => AV.v (Value.int IntKind.i64 r)) = [r] := rfl
theorem Pw {b : Int} {k : Nat} {u0 u1 u2 v1 v2 W V : Int} (h : oJ b k u0 u1 u2 v1 v2 W V) (hW : W < b * V) (hV : 0 < V) : ∀ (n : Nat) (q r : Int), ni b (u0 * b + u1) v1 W V q r → ∃ r', ni b (u0 * b + u1) v1 W V (VA b u2 v1 v2 n q r) r'
 | 0, q, r, hi => ⟨r, hi⟩
 | n + 1, q, r, hi => by
  unfold VA
  cases hc : (leB b q || (zg r b && zg (r * b + u2) (q * v2))) with
  | false => exact ⟨r, hi⟩
  | true =>
   rw [Bool.or_eq_true, ZY, Bool.and_eq_true, zq, zq] at hc
   obtain ⟨_, hs⟩ := h.step hi hW hV (hc.imp id fun x => x.2)
   simp only [cond_true]
   cases leB b (r + v1) with
   | true => exact ⟨_, hs⟩
   | false => exact Pw h hW hV n _ _ hs
theorem kZ {A V : Int} {v u q : List Int} {m j : Nat} (hv : Zp 1000000000 v) (hV : zv 1000000000 v = V) (hn : 2 ≤ v.length) (h1 : 0 < v.getD (v.length - 1) 0) (hj : j < m) (h : wK 1000000000 A V v.length m (j + 1) q u) :
  (0 ≤ vx 1000000000 u v j ∧ vx 1000000000 u v j ≤ 2000000000 ∧ zv 1000000000 (u.drop j) < (vx 1000000000 u v j + 1) * V) ∧ u.getD (j + v.length) 0 ≤ v.getD (v.length - 1) 0 := by
 obtain ⟨k, hk⟩ : ∃ k, v.length = k + 2 := ⟨v.length - 2, by omega⟩
 have hc := h.est (by omega) hv hV hk (by rw [show k + 1 = v.length - 1 by omega]; exact h1) hj
 obtain ⟨w0, w1⟩ := h.win (by omega) (by omega) hj
 have hV0 : 0 < V := by
  refine Decidable.byContradiction fun hn => ?_
  have : 1000000000 * V ≤ 0 := by omega
  omega
 obtain ⟨r', hr⟩ := Pw hc w1 hV0 ((u.getD (j + v.length) 0 * 1000000000 + u.getD (j + v.length - 1) 0).tdiv (v.getD (v.length - 1) 0)).toNat _ _ hc.start
 have hF : vx 1000000000 u v j = VA 1000000000 (u.getD (j + k) 0) (v.getD (k + 1) 0) (v.getD k 0) ((u.getD (j + v.length) 0 * 1000000000 + u.getD (j + v.length - 1) 0).tdiv (v.getD (v.length - 1) 0)).toNat
   ((u.getD (j + (k + 2)) 0 * 1000000000 + u.getD (j + (k + 1)) 0).tdiv (v.getD (k + 1) 0)) ((u.getD (j + (k + 2)) 0 * 1000000000 + u.getD (j + (k + 1)) 0).tmod (v.getD (k + 1) 0)) := by
  unfold vx
  rw [hk, show j + (k + 2) - 2 = j + k by omega, show j + (k + 2) - 1 = j + (k + 1) by omega, show k + 2 - 1 = k + 1 by omega, show k + 2 - 2 = k by omega]
 rw [← hF] at hr
 have := hr.le
 have a0 := hc.hu0.2
 rw [hk, show k + 2 - 1 = k + 1 by omega]
 exact ⟨⟨hr.q0, by omega, hr.lt⟩, a0⟩
theorem p9 {x : List Int} (hx : Zp 1000000000 x) {f : Int} (hf : 0 ≤ f) : WC x [f] = zu 1000000000 (zv 1000000000 x * f).toNat ∧ zv 1000000000 (WC x [f]) = zv 1000000000 x * f ∧ Zp 1000000000 (WC x [f]) := by
 have v0 := zG (b := 1000000000) (by omega) hx
 have e : WC x [f] = zu 1000000000 (zv 1000000000 x * f).toNat := by unfold WC; rw [lc]
 refine ⟨e, ?_, by rw [e]; exact YB (b := 1000000000) (by omega) _⟩
 rw [e, show zv 1000000000 (zu 1000000000 (zv 1000000000 x * f).toNat) = ((zv 1000000000 x * f).toNat : Int) from yQ (b := 1000000000) (by omega) _, Int.toNat_of_nonneg (Int.mul_nonneg v0 hf)]
theorem MW {y : List Int} (hy : Zp 1000000000 y) (ty : zI y = y) (hn : y.length ≠ 0) :
  0 < WR y ∧ WR y ≤ 500000000 ∧ (WC y [WR y]).length = y.length ∧ Zp 1000000000 (WC y [WR y]) ∧ zv 1000000000 (WC y [WR y]) = zv 1000000000 y * WR y ∧ 0 < (WC y [WR y]).getD (y.length - 1) 0 ∧
  (1000000000 : Int) ^ (y.length - 1) ≤ zv 1000000000 y * WR y ∧ 0 < zv 1000000000 y := by
 have g := hy.get (by omega) (y.length - 1)
 have g1 : y.getD (y.length - 1) 0 ≠ 0 := (T9 ty).resolve_left hn
 have hF : WR y = (1000000000 : Int).tdiv (y.getD (y.length - 1) 0 + 1) := rfl
 obtain ⟨e, m0, m1, d0⟩ := js (n := 1000000000) (b := y.getD (y.length - 1) 0 + 1) (by omega) (by omega)
 rw [← hF] at e d0
 have ee : y = zu 1000000000 (zv 1000000000 y).toNat := X0 (b := 1000000000) (by omega) hy ty
 have y0 := zG (b := 1000000000) (by omega) hy
 have t1 := xU (b := 1000000000) (by omega) hy (y.length - 1)
 have e3 : zv 1000000000 y = zv 1000000000 (y.take (y.length - 1)) + 1000000000 ^ (y.length - 1) * y.getD (y.length - 1) 0 := by
  rw [← Zs, List.take_of_length_le (by omega)]
 have pp : (0 : Int) < 1000000000 ^ (y.length - 1) := Int.pow_pos (by omega)
 have hpow : (1000000000 : Int) ^ y.length = 1000000000 ^ (y.length - 1) * 1000000000 := by
  obtain ⟨n, hn'⟩ : ∃ n, y.length = n + 1 := ⟨y.length - 1, by omega⟩
  rw [hn', show n + 1 - 1 = n by omega]
  exact Int.pow_succ _ _
 generalize WR y = f at *
 generalize y.getD (y.length - 1) 0 = t at *
 have f1 : 0 < f := by
  refine Decidable.byContradiction fun hf => ?_
  have : f = 0 := by omega
  subst this
  omega
 have f2 : f ≤ 500000000 := by
  have : 2 * f ≤ (t + 1) * f := Int.mul_le_mul_of_nonneg_right (by omega) (by omega)
  omega
 obtain ⟨p1, p2, p3⟩ := p9 hy (f := f) (by omega)
 have y1 : (1000000000 : Int) ^ (y.length - 1) ≤ zv 1000000000 y := by
  have : (1000000000 : Int) ^ (y.length - 1) * 1 ≤ 1000000000 ^ (y.length - 1) * t := Int.mul_le_mul_of_nonneg_left (by omega) (by omega)
  omega
 have yf : zv 1000000000 y ≤ zv 1000000000 y * f := by
  have : zv 1000000000 y * 1 ≤ zv 1000000000 y * f := Int.mul_le_mul_of_nonneg_left (by omega) (by omega)
  omega
 have yu : zv 1000000000 y * f < 1000000000 ^ y.length := by
  have a1 : zv 1000000000 y * f < (1000000000 ^ (y.length - 1) * (t + 1)) * f := Int.mul_lt_mul_of_pos_right (by rw [Int.mul_add]; omega) f1
  have a2 : (1000000000 : Int) ^ (y.length - 1) * ((t + 1) * f) ≤ 1000000000 ^ (y.length - 1) * 1000000000 := Int.mul_le_mul_of_nonneg_left (by omega) (by omega)
  rw [hpow]
  rw [Int.mul_assoc] at a1
  omega
 have hlen : (WC y [f]).length = y.length := by
  refine Nat.le_antisymm ?_ ?_
  ·rw [p1]
   refine xb (b := 1000000000) (by omega) ?_
   rw [Int.toNat_of_nonneg (by omega)]
   exact yu
  ·have := Z6 (b := 1000000000) (m := (zv 1000000000 y).toNat) (n := (zv 1000000000 y * f).toNat) (by omega) (by omega)
   rw [← ee, ← p1] at this
   exact this
 refine ⟨f1, f2, hlen, p3, p2, ?_, by omega, by omega⟩
 have g2 := p3.get (by omega) (y.length - 1)
 have := vY (b := 1000000000) (n := (zv 1000000000 y * f).toNat) (by omega) (by omega)
 rw [← p1, hlen] at this
 omega
theorem pQ {P : List Int} {z i : Nat} (h : P.length ≤ i) : (P ++ [0] ++ List.replicate z 0).getD i 0 = 0 := by
 rw [List.append_assoc, List.getD_eq_getElem?_getD, List.getElem?_append_right h]
 have : [(0 : Int)] ++ List.replicate z 0 = List.replicate (z + 1) 0 := rfl
 rw [this, List.getElem?_replicate]
 split <;> rfl
theorem NW {P : List Int} {n m z : Nat} {V : Int} (hP : Zp 1000000000 P) (hn : 0 < n) (hl : P.length + 1 + z = m + n) (hV : (1000000000 : Int) ^ (n - 1) ≤ V) :
  zv 1000000000 ((P ++ [0] ++ List.replicate z 0).drop m) < V ∧ zv 1000000000 (P ++ [0] ++ List.replicate z 0) = zv 1000000000 P ∧ Zp 1000000000 (P ++ [0] ++ List.replicate z 0) ∧ (P ++ [0] ++ List.replicate z 0).length = m + n := by
 have hU : Zp 1000000000 (P ++ [0] ++ List.replicate z 0) := (hP.app (.one (by omega) (by omega))).app (.zeros (by omega) _)
 refine ⟨?_, ?_, hU, by simp; omega⟩
 ·rw [XA (n := n - 1) fun i hi => by rw [yL]; exact pQ (by omega)]
  have := (xU (b := 1000000000) (by omega) (hU.drop m) (n - 1)).2
  omega
 ·rw [List.append_assoc, vj, show [(0 : Int)] ++ List.replicate z 0 = List.replicate (z + 1) 0 from rfl, X6, Int.mul_zero, Int.add_zero]
theorem H7 {l : List Int} {n : Nat} (h : n = l.length) : zB Int (AV.xl false 1 n fun i j => AV.v (Value.int IntKind.i64 (l.getD i 0))) = true ∧ zV (AV.xl false 1 n fun i j => AV.v (Value.int IntKind.i64 (l.getD i 0))) = l := by
 subst h
 exact ⟨Io _ l, GR _ l⟩
def ug : List AV → Option (List zn × AV)
 | [x_x, x_y] => some ([.b (zB Int x_x), .b (zB Int x_y), .p (Zp 1000000000 (zV x_x)), .p (Zp 1000000000 (zV x_y)), .p (zI (zV x_x) = (zV x_x)), .p (zI (zV x_y) = (zV x_y)), .p ((zV x_y).length ≠ 0), .p ((zV x_x).length ≤ 100000000), .p ((zV x_y).length ≤ 100000000)], .tup 2 (zw [ZD (zu 1000000000 ((zv 1000000000 (zV x_x)).toNat / (zv 1000000000 (zV x_y)).toNat)), ZD (zu 1000000000 ((zv 1000000000 (zV x_x)).toNat % (zv 1000000000 (zV x_y)).toNat))]))
 | _ => none
theorem Ml (x : List Int) (y : List Int) (hx : Zp 1000000000 x) (hy : Zp 1000000000 y) (tx : zI x = x) (ty : zI y = y) (hn : y.length ≠ 0) (hlx : x.length ≤ 100000000) (hly : y.length ≤ 100000000) :
 let q2 := (xI x); let q1 := (zB Int q2); let q4 := (xI y); let q3 := (zB Int q4); let q6 := (zV q2); let q5 := (∀ (x_1 : Int), List.Mem x_1 q6 → iZ ≤ x_1 ∧ x_1 < iB); let q8 := (zV q4); let q7 := (∀ (x : Int), List.Mem x q8 → iZ ≤ x ∧ x < iB); let q9 := (zu 1000000000 (Int.toNat (zv iB x) / Int.toNat (zv iB y))); let q11 := (zu
 1000000000 (Int.toNat (zv iB x) % Int.toNat (zv iB y))); let q10 := (xI q11); let q13 := (zv iB q6); let q12 := (zu 1000000000 (Int.toNat q13 / Int.toNat (gD y 0 zr.dflt))); let q14 := (xI q9); let q15 := (zu 1000000000 (Int.toNat q13 % Int.toNat (gD y 0 zr.dflt))); let q17 := (Int.toNat ((lZ y) - iO)); let q16 := (gD y
 q17 zr.dflt + iO); let q18 := (Int.tdiv iB q16); let q20 := (Value.int .i64 q18); let q19 := (∀ (x : Int), List.Mem x (zV (AV.xl true 1 1 (Sx.rowAt [fun (x : Nat) => AV.v q20]))) → iZ ≤ x ∧ x < iB); let q21 := (zV (AV.xl true 1 1 (Sx.rowAt [fun (x : Nat) => AV.v q20]))); let q23 := (WC q6 q21); let q22 := (lN q23 + 1); let q25 := (OB.arr 3 1 q22 fun (a b : Nat) => if a < lN q23 then aI (gD q23 a iZ) else Sx.rowAt [fun (x : Nat) => aI iZ] (a - lN q23) b);
 let q24 := (ZL q25); let q26 := (kI ∧ Int.tdiv iB q16 = Int.tdiv iB q16); let q28 := (WC q8 q21); let q27 := ((((141 = 141 ∧ 1 = 1 ∧ Value.slice (X5 Addr) 0 0 = Array.getD (Value.cells (Value.slice (X5 Addr) 0 0)) (nat_lit 0) undef) ∧ True) ∧ True) ∧ 3 = 3 ∧ 1 = 1 ∧ lN q28 = lN q28 ∧ ∀ (i j : Nat), i < lN q28 → j < 1 → kI ∧ gD q28 i iZ = gD q28 i iZ); let q36 := (lN q28); let q35 := (cI q36); let q39 := (max (lN (WC x [WR y]) + 1) (lN x +
 1) - lN y); let q45 := (AV.xl false 1 q36 fun i j => aI (gD q28 (0 + i) iZ)); let q44 := (zB Int q45); let q48 := (zV q45); let q49 := (lN q48 - 1); let q55 := (q35 + iO); let q54 := (dK q55); let q56 := (ZL (OB.arr (3 : TypeId) 1 q36 fun (i x : Nat) => AV.v (Value.int .i64 (gD (WC q8 (zV (AV.xl true 1 1 (Sx.rowAt [fun (x : Nat) => AV.v q20])))) i iZ)))); let q58 := (nat_lit 3 = 3 ∧ 0 = 0 ∧ lN q28 = lN q28); let q59 := (kI ∧ q35 + iO = q35 + iO);
 Zt [xI x, xI y] → bF q1 (bF q3 (q5 ∧ q7 ∧ zZ (zg (cmpL q6 q8) iZ) (j2 ∧ (True ∧ Value.slice (X5 Addr) 0 0 = Value.slice (X5 Addr) 0 0 ∧ lN q9 = 0) ∧ zE q2 q10) (zZ ((lZ y) == iO) (bF (DB.db (iZ ≤ iZ ∧ iZ < (lZ y))) (bF q1 (q5 ∧ (iZ < gD y 0 zr.dflt ∧ gD y 0 zr.dflt ≤
 iB) ∧ lN q6 ≤ 1000000000 ∧ j2 ∧ (True ∧ zE (xI q12) q14) ∧ zE (xI q15) q10))) (bF (dK ((lZ y) - iO)) (bF (DB.db (iZ ≤ (lZ y) - iO ∧ (lZ y) - iO < (lZ y))) (bF (dK q16) (bF (DB.db (gD y q17 zr.dflt + iO
 ≠ iZ)) (bF (dK q18) (bF q1 (q5 ∧ q19 ∧ lN q6 ≤ 1000000000 ∧ lN q21 ≤ 1000000000 ∧ bF (DB.db (q22 * 8 ≤ 140737488355328)) (bF q3 (q7 ∧ q19 ∧ lN q8 ≤ 1000000000 ∧ lN q21 ≤ 1000000000 ∧ (∃ (z : Nat), let q29 := (ZL q25 ++ List.replicate z iZ); ((z = 0 ∨ lN q24 + z ≤ lN x + 1) ∧ zE q2 q2 ∧ (nat_lit 0 = 0 ∧ 0 = 0) ∧ q26 ∧ (nat_lit 4 = 4 ∧ 0 = 0) ∧ (nat_lit 5 = 5 ∧ 0 = 0) ∧ True ∧ True) ∧ ((q27 ∧ (141 : TypeId) = 141 ∧ 1 = 1 ∧ nat_lit 6 = 6 ∧ 0 = 0 ∧ lN q24 + z = lN q23 + 1) ∧ 141
 = 141 ∧ 1 = 1 ∧ nat_lit 3 = 3 ∧ 0 = 0 ∧ lN q28 = lN q28) ∧ (3 : TypeId) = 3 ∧ 1 = 1 ∧ lN q29 = lN q23 + 1 ∧ ∀ (i j : Nat), i < lN q23 + 1 → j < 1 → zE (if i < lN q23 then aI (gD q23 i iZ) else Sx.rowAt [fun (x : Nat) => aI iZ] (i - lN q23) j) (aI (gD q29 i iZ))) ∧ ∀ (z : Nat), let q31 := (lN q24 + z); let q30 := (cI q31); let q33 := (ZL q25 ++ List.replicate z iZ); let q34 := (q30 - q35); let q38 := (Int.toNat q34);
 let q37 := (cI q38); let q40 := ((((((141 = 141 ∧ 1 = 1 ∧ nat_lit 7 = 7 ∧ 0 = 0 ∧ Int.toNat q34 = Int.toNat q34) ∧ True) ∧ True) ∧ 3 = 3 ∧ 1 = 1 ∧ lN q28 = lN q28 ∧ ∀ (i j : Nat), i < lN q28 → j < 1 → kI ∧ gD q28 i iZ = gD q28 i iZ) ∧ 141 = 141 ∧ 1 = 1 ∧ nat_lit 6 = 6 ∧ 0 = 0 ∧ lN q24 + z = lN q24 + z) ∧ 141 = 141 ∧ 1 = 1 ∧ nat_lit 3 = 3 ∧ 0 = 0 ∧ lN q28 = lN q28); let q57 := (nat_lit 6 = 6 ∧ 0 = 0 ∧ lN q24 + z = lN q24 + z); z = 0 ∨ lN q24 + z ≤ List.length
 x + 1 → bF (dK ((lZ x) + iO)) (zZ (zg q30 ((lZ x) + iO)) (bF (DB.db ((lN q24 + z + 1) * 8 ≤ 140737488355328)) (∃ (z' : Nat), let q32 := (ZL q25 ++ List.replicate z' iZ); (((z' = 0 ∨ lN q24 + z' ≤ lN x + 1) ∧ lN x + 1 - lN q24 - z' < lN x + 1 - lN q24 - z) ∧ zE q2 q2 ∧ (nat_lit 0 = 0 ∧ 0 = 0) ∧ q26 ∧ (nat_lit 4 = 4 ∧ 0 = 0) ∧ (nat_lit 5 = 5 ∧ 0 = 0) ∧ True ∧ True) ∧ ((q27 ∧ 141 = 141 ∧ 1 = 1 ∧ nat_lit 6 = 6 ∧ 0 = 0 ∧ lN q24 + z' =
 lN q24 + z + 1) ∧ 141 = 141 ∧ 1 = 1 ∧ nat_lit 3 = 3 ∧ 0 = 0 ∧ lN q28 = lN q28) ∧ (3 : TypeId) = 3 ∧ 1 = 1 ∧ lN q32 = lN q24 + z + 1 ∧ ∀ (i j : Nat), i < lN q24 + z + 1 → j < 1 → zE (if i < lN q24 + z then aI (gD q33 i iZ) else Sx.rowAt [fun (x : Nat) => aI iZ] (i - q31) j) (aI (gD q32 i iZ)))) (bF (dK q34) (zZ (DB.db (iZ ≤ q30 - q35 ∧ q30 - q35 ≤ q30 - q35 ∧ (↑8 : Int) * q34 ≤ (140737488355328 : Int)))
 (bF (dK (q37 - iO)) ((∃ (z_1 : yw), ((wK iB (zv iB x * WR y) (zv iB y * WR y) (lN y) q39 (yw.j z_1) (yw.q z_1) (yw.u z_1) ∧ yw.j z_1 ≤ max (lN (WC x [WR y]) + 1) (lN x + 1) - lN y) ∧ nat_lit 9 = 9 ∧ (nat_lit 8 = 8 ∧ 0 = 0) ∧ kI ∧ q37 - iO = (cI (yw.j z_1)) - iO) ∧ (((q40 ∧ 3 = 3 ∧ 1 = 1 ∧ lN (yw.u z_1) = lN q33 ∧ ∀ (i j : Nat), i < lN q33 → j < 1 → kI ∧ gD q33 i iZ = List.getD
 (yw.u z_1) i iZ) ∧ (3 : TypeId) = 3 ∧ 1 = 1 ∧ lN (yw.q z_1) = Int.toNat q34 ∧ ∀ (i j : Nat), i < Int.toNat q34 → j < 1 → zE (Z0 (Value.int .i64 iZ) j) (aI (gD (yw.q z_1) i iZ))) ∧ 141 = 141 ∧ 1 = 1 ∧ nat_lit 7 = 7 ∧ 0 = 0 ∧ Int.toNat q34 = Int.toNat q34) ∧ lR) ∧ ∀ (z_1 : yw), let q41 := (DB.db (iZ ≤ (cI (yw.j z_1)) - iO ∧ (cI (yw.j z_1)) - iO < q37)); let q43 := (AV.xl false 1 q31 fun i j => aI (gD (yw.u z_1) (0 + i) (0 :
 Int))); let q42 := (zB Int q43); let q46 := (zV q43); let q51 := (Int.toNat (AV.int (aI ((cI (yw.j z_1)) - iO)))); let q52 := (ZL (OB.arr (3 : TypeId) 1 (lN (yw.u z_1)) fun (i x : Nat) => aI (gD (yw.u z_1) i iZ))); let q50 := (List.drop q51 q52); let q53 := (kI ∧ (cI (yw.j z_1)) - iO = (cI (yw.j z_1)) - iO); let q77 := (zI q46); let q76 := (xI q77); let q78 := (zV q76); let q79 :=
 (AV.xl false 1 q38 fun i j => aI (gD (yw.q z_1) (0 + i) iZ)); let q80 := (zI (zV q79)); let q81 := (zu 1000000000 (Int.toNat (zv iB q78) / Int.toNat q18)); wK iB (zv iB x * WR y) (zv iB y * WR y) (lN y) q39 (yw.j z_1) (yw.q z_1) (yw.u z_1) ∧ yw.j z_1 ≤ max (lN (WC x [WR y]) + 1) (lN x + 1) - lN y → zZ (leB iZ ((cI (yw.j z_1)) - iO)) (bF q41 (bF q42 (bF q44 ((∀ (x_1 : Int), List.Mem x_1 q46 → iZ ≤
 x_1 ∧ x_1 < iB) ∧ (∀ (x : Int), let q47 := (WC q8 (zV (AV.xl true 1 1 (Sx.rowAt [fun (x : Nat) => AV.v q20])))); List.Mem x (zV (AV.xl false 1 (lN q47) fun i j => aI (gD q47 (0 + i) iZ))) → iZ ≤ x ∧ x < iB) ∧ 2 ≤ lN q48 ∧ lN q48 ≤ 1000000000 ∧ (iZ ≤ (cI (yw.j z_1)) - iO ∧ (cI (yw.j z_1)) - iO + (lZ q48) < (lZ q46)) ∧ iZ < gD q48 q49 iZ ∧ gD q46 (Int.toNat ((cI (yw.j z_1)) - iO) +
 lN q48) iZ ≤ gD q48 q49 iZ ∧ (∃ (z_2 : Int), ((iZ ≤ z_2 ∧ z_2 ≤ (2000000000 : Int) ∧ zv iB q50 < (z_2 + iO) * (zv iB y * WR y)) ∧ (nat_lit 0 = 0 ∧ 0 = 0) ∧ q26 ∧ (nat_lit 4 = 4 ∧ 0 = 0) ∧ (nat_lit 5 = 5 ∧ 0 = 0) ∧ q53 ∧ kI ∧ vx iB q46 q48 (Int.toNat ((cI (yw.j z_1)) - iO)) = z_2) ∧ (((q40 ∧ 3 = 3 ∧ 1 = 1 ∧ lN (yw.u z_1) = lN (yw.u z_1) ∧ ∀ (i j : Nat), i < lN (yw.u z_1) → j < 1 → kI ∧ gD (yw.u z_1) i iZ =
 gD (yw.u z_1) i iZ) ∧ 3 = 3 ∧ 1 = 1 ∧ lN (yw.q z_1) = lN (yw.q z_1) ∧ ∀ (i j : Nat), i < lN (yw.q z_1) → j < 1 → kI ∧ gD (yw.q z_1) i iZ = gD (yw.q z_1) i iZ) ∧ 141 = 141 ∧ 1 = 1 ∧ nat_lit 7 = 7 ∧ 0 = 0 ∧ Int.toNat q34 = Int.toNat q34) ∧ LoopState.busy = LoopState.busy ∧ X5 Code = X5 Code) ∧ ∀ (z_2 : Int), iZ ≤ z_2 ∧ z_2 ≤ (2000000000 : Int) ∧ zv iB q50 < (z_2 + iO) * (zv iB y * WR y) → bF q54 ((∃ (z_3 : ZC), ((Ws iB q52 q56 q51
 (AV.int (aI z_2)) (ZC.i z_3) (ZC.w z_3) (ZC.c z_3) ∧ ZC.i z_3 ≤ lN q56 + 1) ∧ q57 ∧ q58 ∧ q53 ∧ (kI ∧ z_2 = z_2) ∧ q59 ∧ (kI ∧ iZ = ZC.c z_3) ∧ kI ∧ iZ = (cI (ZC.i z_3))) ∧ (((q40 ∧ 3 = 3 ∧ 1 = 1 ∧ lN (ZC.w z_3) = lN (yw.u z_1) ∧ ∀ (i j : Nat), i < lN (yw.u z_1) → j < 1 → kI ∧ gD (yw.u z_1) i iZ = gD (ZC.w z_3) i iZ) ∧ 3 = 3 ∧ 1 = 1 ∧ lN (yw.q z_1) = lN (yw.q z_1) ∧ ∀ (i j : Nat), i < List.length
 (yw.q z_1) → j < 1 → kI ∧ gD (yw.q z_1) i iZ = gD (yw.q z_1) i iZ) ∧ 141 = 141 ∧ 1 = 1 ∧ nat_lit 7 = 7 ∧ 0 = 0 ∧ Int.toNat q34 = Int.toNat q34) ∧ LoopState.busy = LoopState.busy ∧ X5 Code = X5 Code) ∧ ∀ (z_3 : ZC), let q61 := ((cI (yw.j z_1)) - iO + (cI (ZC.i z_3))); let q60 := (dK q61); let q62 := (DB.db (iZ ≤ (cI (yw.j z_1)) - iO + (cI (ZC.i z_3)) ∧ (cI (yw.j z_1)) - iO + (cI (ZC.i z_3)) < q30)); let q63 := (0 + Int.toNat q61); let q64 := (gD (ZC.w z_3) q63 (0 :
 Int) - ZC.c z_3 - z_2 * gD q48 (Int.toNat (cI (ZC.i z_3))) iZ); let q65 := (-q64 + iB - iO); let q66 := (gD (ZC.w z_3) q63 iZ - ZC.c z_3 - z_2 * gD q48 (Int.toNat (cI (ZC.i z_3))) iZ + Int.tdiv q65 iB * iB); let q67 := (dK ((cI (ZC.i z_3)) + iO)); let q68 := (gD (ZC.w z_3) q63 iZ - ZC.c z_3 - z_2 * gD q48 (Int.toNat (cI (ZC.i z_3))) iZ + iZ * iB); let q69 := (ZL (OB.arr (3 : TypeId) 1 (List.length
 (ZC.w z_3)) fun (i x : Nat) => aI (gD (ZC.w z_3) i iZ))); Ws iB q52 q56 q51 (AV.int (aI z_2)) (ZC.i z_3) (ZC.w z_3) (ZC.c z_3) ∧ ZC.i z_3 ≤ lN q56 + 1 → zZ (zg (cI (ZC.i z_3)) q55) (bF q60 (bF q62 (bF (dK (gD (ZC.w z_3) q63 iZ - ZC.c z_3)) (bF q44 (iZ ≤ (cI (ZC.i z_3)) ∧ bF (dK (z_2 * gD q48 (Int.toNat (cI (ZC.i z_3))) iZ)) (bF (dK q64) (zZ (zg q64 iZ) (bF (DB.db (yR .i64
 (-q64))) (bF (dK (-q64 + iB)) (bF (dK q65) (bF (dK (Int.tdiv q65 iB)) (bF q60 (bF (dK (Int.tdiv q65 iB * iB)) (bF (dK q66) (bF q62 (bF q67 (∃ (z' : ZC), (((Ws iB q52 q56 q51 (AV.int (aI z_2)) (ZC.i z') (ZC.w z') (ZC.c z') ∧ ZC.i z' ≤ lN q56 + 1) ∧ lN q56 + 1 - ZC.i z' < lN q56 + 1 - ZC.i z_3) ∧ q57 ∧ q58 ∧ q53 ∧ (kI ∧ z_2 = z_2) ∧ q59 ∧
 (kI ∧ Int.tdiv q65 iB = ZC.c z') ∧ kI ∧ (cI (ZC.i z_3)) + iO = (cI (ZC.i z'))) ∧ (((q40 ∧ 3 = 3 ∧ 1 = 1 ∧ lN (ZC.w z') = lN (ZC.w z_3) ∧ ∀ (i j : Nat), i < lN (ZC.w z_3) → j < 1 → zE (if i = 0 + Int.toNat q61 ∧ 0 ≤ j ∧ j < 1 then aI q66 else aI (gD (ZC.w z_3) i iZ)) (aI (gD (ZC.w z') i iZ))) ∧ 3 = 3 ∧ 1 = 1 ∧ lN (yw.q z_1) = lN (yw.q z_1) ∧ ∀ (i j : Nat), i < lN (yw.q z_1) → j < 1 →
 kI ∧ gD (yw.q z_1) i iZ = gD (yw.q z_1) i iZ) ∧ 141 = 141 ∧ 1 = 1 ∧ nat_lit 7 = 7 ∧ 0 = 0 ∧ Int.toNat q34 = Int.toNat q34) ∧ LoopState.busy = LoopState.busy ∧ X5 Code = X5 Code)))))))))) (bF q60 (bF (dK q68) (bF q62 (bF q67 (∃ (z' : ZC), (((Ws iB q52 q56 q51 (AV.int (aI z_2)) (ZC.i z') (ZC.w z') (ZC.c z') ∧ ZC.i z' ≤ lN q56 + 1) ∧ lN q56 + 1 - ZC.i z' < lN q56 + 1 - ZC.i z_3) ∧ q57 ∧ q58 ∧ q53 ∧
 (kI ∧ z_2 = z_2) ∧ q59 ∧ (kI ∧ iZ = ZC.c z') ∧ kI ∧ (cI (ZC.i z_3)) + iO = (cI (ZC.i z'))) ∧ (((q40 ∧ 3 = 3 ∧ 1 = 1 ∧ lN (ZC.w z') = lN (ZC.w z_3) ∧ ∀ (i j : Nat), i < lN (ZC.w z_3) → j < 1 → zE (if i = 0 + Int.toNat q61 ∧ 0 ≤ j ∧ j < 1 then aI q68 else aI (gD (ZC.w z_3) i iZ)) (aI (gD (ZC.w z') i iZ))) ∧ 3 = 3 ∧ 1 = 1 ∧ lN (yw.q z_1) = lN (yw.q z_1) ∧ ∀ (i j : Nat), i < List.length
 (yw.q z_1) → j < 1 → kI ∧ gD (yw.q z_1) i iZ = gD (yw.q z_1) i iZ) ∧ 141 = 141 ∧ 1 = 1 ∧ nat_lit 7 = 7 ∧ 0 = 0 ∧ Int.toNat q34 = Int.toNat q34) ∧ LoopState.busy = LoopState.busy ∧ X5 Code = X5 Code)))))))))))) (zZ (zg iZ (ZC.c z_3)) (bF q54 ((∃ (z_4 : ZC), ((Vq iB q69 q56 q51 (AV.int (aI z_2)) (ZC.i z_4) (ZC.w z_4) (ZC.c z_4) ∧ ZC.i z_4 ≤ lN q56 + 1) ∧ q57 ∧ q58 ∧ q53 ∧ (kI ∧ z_2 = z_2) ∧ q59 ∧
 (kI ∧ iZ = ZC.c z_4) ∧ kI ∧ iZ = (cI (ZC.i z_4))) ∧ (((q40 ∧ 3 = 3 ∧ 1 = 1 ∧ lN (ZC.w z_4) = lN (ZC.w z_3) ∧ ∀ (i j : Nat), i < lN (ZC.w z_3) → j < 1 → kI ∧ gD (ZC.w z_3) i iZ = gD (ZC.w z_4) i iZ) ∧ 3 = 3 ∧ 1 = 1 ∧ lN (yw.q z_1) = lN (yw.q z_1) ∧ ∀ (i j : Nat), i < lN (yw.q z_1) → j < 1 → kI ∧ gD (yw.q z_1) i iZ = gD (yw.q z_1) i iZ) ∧ 141 = 141 ∧ 1 = 1 ∧ nat_lit 7 = 7 ∧ 0 = 0 ∧ Int.toNat q34
 = Int.toNat q34) ∧ LoopState.busy = LoopState.busy ∧ X5 Code = X5 Code) ∧ ∀ (z_4 : ZC), let q71 := ((cI (yw.j z_1)) - iO + (cI (ZC.i z_4))); let q70 := (dK q71); let q72 := (DB.db (iZ ≤ (cI (yw.j z_1)) - iO + (cI (ZC.i z_4)) ∧ (cI (yw.j z_1)) - iO + (cI (ZC.i z_4)) < q30)); let q74 := (0 + Int.toNat q71); let q75 := (gD (ZC.w z_4) q74 iZ + z_2 * gD q48 (Int.toNat (cI (ZC.i z_4))) iZ + ZC.c z_4); let q73 := (iZ ≤ (cI (ZC.i z_4)) ∧ bF (dK (z_2 * gD q48
 (Int.toNat (cI (ZC.i z_4))) iZ)) (bF (dK (gD (ZC.w z_4) q74 iZ + z_2 * gD q48 (Int.toNat (cI (ZC.i z_4))) iZ)) (bF (dK q75) (bF q70 (bF (dK (Int.tdiv q75 iB)) (bF q72 (bF (dK ((cI (ZC.i z_4)) + iO)) (∃ (z' : ZC), (((Vq iB q69 q56 q51 (AV.int (aI z_2)) (ZC.i z') (ZC.w z') (ZC.c z') ∧ ZC.i z' ≤ lN q56 + 1) ∧ lN q56 + 1 - ZC.i z' < lN q56 + 1 - ZC.i z_4) ∧ q57 ∧ q58 ∧ q53 ∧
 (kI ∧ z_2 = z_2) ∧ q59 ∧ (kI ∧ Int.tdiv q75 iB = ZC.c z') ∧ kI ∧ (cI (ZC.i z_4)) + iO = (cI (ZC.i z'))) ∧ (((q40 ∧ 3 = 3 ∧ 1 = 1 ∧ lN (ZC.w z') = lN (ZC.w z_4) ∧ ∀ (i j : Nat), i < lN (ZC.w z_4) → j < 1 → zE (if i = 0 + Int.toNat q71 ∧ 0 ≤ j ∧ j < 1 then aI (Int.tmod q75 iB) else aI (gD (ZC.w z_4) i iZ)) (aI (gD (ZC.w z') i iZ))) ∧ 3 = 3 ∧ 1 = 1 ∧ lN (yw.q z_1) =
 lN (yw.q z_1) ∧ ∀ (i j : Nat), i < lN (yw.q z_1) → j < 1 → kI ∧ gD (yw.q z_1) i iZ = gD (yw.q z_1) i iZ) ∧ 141 = 141 ∧ 1 = 1 ∧ nat_lit 7 = 7 ∧ 0 = 0 ∧ Int.toNat q34 = Int.toNat q34) ∧ LoopState.busy = LoopState.busy ∧ X5 Code = X5 Code)))))))); Vq iB q69 q56 q51 (AV.int (aI z_2)) (ZC.i z_4) (ZC.w z_4) (ZC.c z_4) ∧ ZC.i z_4 ≤ lN q56 + 1 → zZ (zg (cI (ZC.i z_4)) q55) (bF q70 (bF q72 (bF q44 q73 ∧ zZ q44 q73
 False))) (bF (dK (z_2 - iO)) (∃ (z' : Int), (((iZ ≤ z' ∧ z' ≤ (2000000000 : Int) ∧ zv iB q50 < (z' + iO) * (zv iB y * WR y)) ∧ Int.toNat z' < Int.toNat z_2) ∧ (nat_lit 0 = 0 ∧ 0 = 0) ∧ q26 ∧ (nat_lit 4 = 4 ∧ 0 = 0) ∧ (nat_lit 5 = 5 ∧ 0 = 0) ∧ q53 ∧ kI ∧ z_2 - iO = z') ∧ (((q40 ∧ 3 = 3 ∧ 1 = 1 ∧ lN (yw.u z_1) = lN (ZC.w z_4) ∧ ∀ (i j : Nat), i < lN (ZC.w z_4) → j < 1 → kI ∧ gD (ZC.w z_4) i iZ = gD (yw.u z_1) i (0 :
 Int)) ∧ 3 = 3 ∧ 1 = 1 ∧ lN (yw.q z_1) = lN (yw.q z_1) ∧ ∀ (i j : Nat), i < lN (yw.q z_1) → j < 1 → kI ∧ gD (yw.q z_1) i iZ = gD (yw.q z_1) i iZ) ∧ 141 = 141 ∧ 1 = 1 ∧ nat_lit 7 = 7 ∧ 0 = 0 ∧ Int.toNat q34 = Int.toNat q34) ∧ LoopState.busy = LoopState.busy ∧ X5 Code = X5 Code)))) (bF q41 (bF (dK ((cI (yw.j z_1)) - iO - iO)) (∃ (z' : yw), (((wK iB (zv iB x * WR y) (zv iB y * WR y) (lN y) q39 (yw.j z')
 (yw.q z') (yw.u z') ∧ yw.j z' ≤ max (lN (WC x [WR y]) + 1) (lN x + 1) - lN y) ∧ yw.j z' < yw.j z_1) ∧ nat_lit 9 = 9 ∧ (nat_lit 8 = 8 ∧ 0 = 0) ∧ kI ∧ (cI (yw.j z_1)) - iO - iO = (cI (yw.j z')) - iO) ∧ (((q40 ∧ 3 = 3 ∧ 1 = 1 ∧ lN (yw.u z') = lN (ZC.w z_3) ∧ ∀ (i j : Nat), i < lN (ZC.w z_3) → j < 1 → kI ∧ gD (ZC.w z_3) i iZ = gD (yw.u z') i iZ) ∧ 3 = 3 ∧ 1 = 1 ∧ lN (yw.q z') = lN (yw.q z_1) ∧ ∀ (i j : Nat), i < List.length
 (yw.q z_1) → j < 1 → zE (if i = 0 + Int.toNat ((cI (yw.j z_1)) - iO) ∧ 0 ≤ j ∧ j < 1 then aI z_2 else aI (gD (yw.q z_1) i iZ)) (aI (gD (yw.q z') i iZ))) ∧ 141 = 141 ∧ 1 = 1 ∧ nat_lit 7 = 7 ∧ 0 = 0 ∧ Int.toNat q34 = Int.toNat q34) ∧ lR))))))))) (bF q42 (bF (zB Int q76) ((∀ (x_1 : Int), List.Mem x_1 q78 → iZ ≤ x_1 ∧ x_1 < iB) ∧ (iZ < Int.tdiv iB q16 ∧
 Int.tdiv iB q16 ≤ iB) ∧ lN q78 ≤ 1000000000 ∧ bF (zB Int q79) (j2 ∧ (True ∧ zE (xI q80) q14) ∧ zE (xI q81) q10)))))) False))))))))))))))) := by
 delta bF dK xI lR cI kI j2 lZ lN gD iZ iO iB aI
 dsimp only
 intro hb
 have e0 : (zr.dflt : Int) = 0 := rfl
 simp only [↓yy, ↓Zi, row_one]
 simp only [sS, dS, e0]
 have en : ((y.length : Int) - 1).toNat = y.length - 1 := by omega
 have hF : Int.tdiv 1000000000 (y.getD (y.length - 1) 0 + 1) = WR y := rfl
 simp only [gt, implies_true, and_true, true_and, LK, en, hF, gk, and_self]
 obtain ⟨f0, f1, vl, vi, vv, vt, vp, y0⟩ := MW hy ty hn
 have x0 := zG (b := 1000000000) (by omega) hx
 obtain ⟨pe, pv, pi⟩ := p9 hx (f := WR y) (by omega)
 have pl : (WC x [WR y]).length ≤ x.length + 1 := by
  rw [pe]
  refine xb (b := 1000000000) (by omega) ?_
  have h1 := YI (b := 1000000000) (by omega) hx
  have h2 : zv 1000000000 x * WR y ≤ zv 1000000000 x * 1000000000 := Int.mul_le_mul_of_nonneg_left (by omega) x0
  rw [Int.toNat_of_nonneg (Int.mul_nonneg x0 (by omega))]
  show _ < (1000000000 : Int) ^ (x.length + 1)
  rw [Int.pow_succ]
  omega
 have i1 : Zp 1000000000 [WR y] := .one (by omega) (by omega)
 have hcx := RG hx hy tx ty
 obtain ⟨X, hX⟩ : ∃ X : Nat, zv 1000000000 x = X := ⟨(zv 1000000000 x).toNat, by omega⟩
 obtain ⟨Y, hY⟩ : ∃ Y : Nat, zv 1000000000 y = Y := ⟨(zv 1000000000 y).toNat, by omega⟩
 have ex : x = zu 1000000000 X := by
  have h : x = zu 1000000000 (zv 1000000000 x).toNat := X0 (b := 1000000000) (by omega) hx tx
  rw [hX, Int.toNat_natCast] at h
  exact h
 refine ⟨hx, hy, fun hc => ?_, fun hc => ⟨fun h1 => ?_, fun h1 => ?_⟩⟩
 ·have hlt : X < Y := by omega
  rw [hX, hY, Int.toNat_natCast, Int.toNat_natCast, Nat.div_eq_of_lt hlt, Nat.mod_eq_of_lt hlt, ZB, ← ex]
  exact ⟨rfl, rfl, zT _⟩
 ·have d4 := hy.get (by omega) 0
  have ev : zv 1000000000 y = y.getD 0 0 := by
   have := xB (1000000000 : Int) (l := y) (z := 0) (by omega)
   rw [List.drop_zero, List.drop_of_length_le (l := y) (i := 0 + 1) (by omega), xN, Int.mul_zero, Int.add_zero] at this
   exact this
  rw [ev] at y0 ⊢
  exact ⟨⟨by omega, by omega⟩, hx, ⟨by omega, by omega⟩, by omega, rfl, zT _, zT _⟩
 have d4 := hy.get (by omega) (y.length - 1)
 have ey : y = zu 1000000000 Y := by
  have h : y = zu 1000000000 (zv 1000000000 y).toNat := X0 (b := 1000000000) (by omega) hy ty
  rw [hY, Int.toNat_natCast] at h
  exact h
 have hxy : y.length ≤ x.length := by
  have := Z6 (b := 1000000000) (m := Y) (n := X) (by omega) (by omega)
  rw [← ex, ← ey] at this
  exact this
 clear hF ex ey pe
 generalize WC x [WR y] = P at *
 generalize WC y [WR y] = W at *
 generalize WR y = f at *
 generalize hA : zv 1000000000 x * f = A at *
 generalize hB : zv 1000000000 y * f = B at *
 simp only [List.length_append, List.length_singleton, List.length_replicate, vl]
 have lz : ∀ z, (P ++ [0] ++ List.replicate z 0).length = P.length + 1 + z := fun z => by simp; omega
 have zs : ∀ z, P ++ [0] ++ List.replicate (z + 1) 0 = (P ++ [0] ++ List.replicate z 0) ++ [(0 : Int)] := fun z => by rw [List.replicate_succ', ← List.append_assoc]
 refine ⟨⟨by omega, by omega⟩, ⟨by omega, by omega⟩, ⟨by omega, by omega⟩, by omega, ⟨by omega, by omega⟩, hx, i1, by omega, by omega, by omega, hy, i1, by omega, by omega, ⟨0, .inl rfl, ⟨rfl, rfl⟩, rfl, fun i j hi hj => ?_⟩, fun z hz => ⟨⟨by omega, by omega⟩, fun hlt => ⟨by omega, z + 1, ⟨.inr (by omega), by omega⟩, ⟨rfl, by omega⟩, by omega, fun i j hi hj => ?_⟩, fun hge => ?_⟩⟩
 ·rw [List.replicate_zero, List.append_nil]
  exact qv P 0 i j hi hj
 ·have := qv (P ++ [0] ++ List.replicate z 0) 0 i j (by rw [lz]; exact hi) hj
  rw [lz, ← zs] at this
  exact this
 obtain ⟨m, hm⟩ : ∃ m, P.length + 1 + z = m + y.length := ⟨P.length + 1 + z - y.length, by omega⟩
 have e1 : max (P.length + 1) (x.length + 1) - y.length = m := by omega
 have e2 : ((m + y.length : Nat) : Int) - (y.length : Int) = (m : Int) := by omega
 simp only [hm, e1, e2, Int.toNat_natCast]
 obtain ⟨s1, s2, s3, s4⟩ := NW (m := m) (n := y.length) (z := z) pi (by omega) hm vp
 refine ⟨⟨by omega, by omega⟩, ⟨by omega, by omega, by omega⟩, ⟨by omega, by omega⟩, ⟨⟨m, List.replicate m 0, P ++ [0] ++ List.replicate z 0⟩, ⟨⟨.start (by omega) s4 s3 s1 (by rw [s2, pv]), Nat.le_refl _⟩, rfl⟩, ⟨s4, fun _ _ _ _ => rfl⟩, by simp, fun i j _ hj => vP _ i j hj⟩, fun d ⟨d1, d2⟩ => ?_⟩
 obtain ⟨j, q, u⟩ := d
 simp only at d1 d2 ⊢
 have ul := d1.ul
 have ql := d1.ql
 simp only [(H7 ul.symm).1, (H7 ul.symm).2, (H7 ql.symm).1, (H7 ql.symm).2, Xi]
 refine ⟨fun hj => ?_, fun hj => ?_⟩
 rotate_left
 ·obtain rfl : j = 0 := by omega
  obtain ⟨F, rfl⟩ : ∃ F : Nat, f = F := ⟨f.toNat, by omega⟩
  have hAn : A = ((X * F : Nat) : Int) := by rw [← hA, hX, Int.natCast_mul]
  have hBn : B = ((Y * F : Nat) : Int) := by rw [← hB, hY, Int.natCast_mul]
  have F0 : 0 < F := by omega
  have Y0 : 0 < Y := by omega
  rw [hAn, hBn] at d1
  obtain ⟨r1, r2⟩ := wK.end_ (b := 1000000000) (by omega) (Nat.mul_pos Y0 F0) d1
  rw [Nat.mul_div_mul_right _ _ F0] at r1
  rw [Nat.mul_mod_mul_right] at r2
  have hlen : (zu 1000000000 (X % Y * F)).length ≤ W.length := by
   refine xb (b := 1000000000) (by omega) ?_
   have h1 := YI (b := 1000000000) (by omega) vi
   rw [vv, hBn] at h1
   have h2 : X % Y * F ≤ Y * F := Nat.mul_le_mul_right _ (Nat.le_of_lt (Nat.mod_lt _ Y0))
   have h3 : ((X % Y * F : Nat) : Int) ≤ ((Y * F : Nat) : Int) := Int.ofNat_le.2 h2
   exact Int.lt_of_le_of_lt h3 h1
  have hv : zv 1000000000 (zu 1000000000 (X % Y * F)) = ((X % Y * F : Nat) : Int) := yQ (b := 1000000000) (by omega) _
  rw [r1, r2, hX, hY, hv]
  simp only [Int.toNat_natCast, Nat.mul_div_cancel _ F0]
  exact ⟨YB (b := 1000000000) (by omega) _, ⟨by omega, by omega⟩, by omega, rfl, zT _, zT _⟩
 obtain ⟨k, rfl⟩ : ∃ k, j = k + 1 := ⟨j - 1, by omega⟩
 have hk1 : ((k + 1 : Nat) : Int) - 1 = (k : Int) := by omega
 have hki : ∀ i : Nat, ((k : Int) + (i : Int)).toNat = k + i := fun i => by omega
 simp only [hk1, hki, Int.toNat_natCast]
 have n2 : 2 ≤ W.length := by omega
 have d1' : wK 1000000000 A B W.length m (k + 1) q u := by rw [vl]; exact d1
 have vt' : 0 < W.getD (W.length - 1) 0 := by rw [vl]; exact vt
 obtain ⟨g1, g2⟩ := kZ vi vv n2 vt' (by omega : k < m) d1'
 rw [vl] at g2
 have ui := d1.ui
 have hi0 : ∀ i, k + 1 + W.length ≤ i → u.getD i 0 = 0 := fun i hi => d1.hi i (by omega)
 refine ⟨⟨by omega, by omega⟩, ui, vi, by omega, by omega, ⟨by omega, by omega⟩, vt, g2, ⟨_, g1, rfl⟩, fun Q ⟨Q0, Q1, Q2⟩ => ⟨⟨by omega, by omega⟩, ⟨⟨0, 0, u⟩, ⟨⟨.start ui Q0, Nat.zero_le _⟩, rfl, rfl⟩, rfl, fun _ _ _ _ => rfl⟩, fun t ⟨t1, t2⟩ => ⟨fun ht => ?_, fun ht => ?_⟩⟩⟩
 ·obtain ⟨⟨b0, b1⟩, hs⟩ := t1.step (by omega) vi Q0 (by omega : k + t.i < u.length)
  have tl := t1.len
  have w1 := vi.get (by omega) t.i
  have w2 := t1.in_.get (by omega) (k + t.i)
  have p0 : 0 ≤ Q * W.getD t.i 0 := Int.mul_nonneg Q0 w1.1
  have p1 : Q * W.getD t.i 0 ≤ Q * 1000000000 := Int.mul_le_mul_of_nonneg_left (by omega) Q0
  have c0 := t1.c0
  have c1 := t1.c1
  have h0 := hs.c0
  have h1 := hs.c1
  have o1 : -9223372036854775808 ≤ t.w.getD (k + t.i) 0 - t.c ∧ t.w.getD (k + t.i) 0 - t.c ≤ 9223372036854775807 := ⟨by omega, by omega⟩
  have o2 : -9223372036854775808 ≤ Q * W.getD t.i 0 ∧ Q * W.getD t.i 0 ≤ 9223372036854775807 := ⟨by omega, by omega⟩
  clear p0 p1 w2
  generalize t.w.getD (k + t.i) 0 - t.c - Q * W.getD t.i 0 = n at *
  refine ⟨⟨by omega, by omega⟩, ⟨by omega, by omega⟩, o1, by omega, o2, ⟨by omega, by omega⟩, fun hn => ?_, fun hn => ?_⟩
  ·have hcb : Xr 1000000000 n = (-n + 1000000000 - 1).tdiv 1000000000 := by unfold Xr; rw [(zq _ _).2 hn]; rfl
   rw [hcb] at hs h0 h1
   generalize (-n + 1000000000 - 1).tdiv 1000000000 = C at *
   exact ⟨⟨by omega, by omega⟩, ⟨by omega, by omega⟩, ⟨by omega, by omega⟩, ⟨by omega, by omega⟩, ⟨by omega, by omega⟩, ⟨by omega, by omega⟩, ⟨by omega, by omega⟩, ⟨by omega, by omega⟩, ⟨by omega, by omega⟩, ⟨t.i + 1, C, _⟩, ⟨⟨⟨hs, by simp only; omega⟩, by simp only; omega⟩, rfl, by simp only; omega⟩, by simp, fun i j' _ => Sb _ _ _ (by omega) i j'⟩
  ·have hcb : Xr 1000000000 n = 0 := by unfold Xr; rw [show zg n 0 = false from Bool.eq_false_iff.2 fun e => by have := (zq _ _).1 e; omega]; rfl
   rw [hcb] at hs h0 h1
   exact ⟨⟨by omega, by omega⟩, ⟨by omega, by omega⟩, ⟨by omega, by omega⟩, ⟨by omega, by omega⟩, ⟨t.i + 1, 0, _⟩, ⟨⟨⟨hs, by simp only; omega⟩, by simp only; omega⟩, rfl, by simp only; omega⟩, by simp, fun i j' _ => Sb _ _ _ (by omega) i j'⟩
 have ti : t.i = W.length + 1 := by omega
 have tl := t1.len
 have t3 : Ws 1000000000 u W k Q (W.length + 1) t.w t.c := ti ▸ t1
 obtain ⟨t4, t5⟩ := t3.fits (by omega) (by omega : k ≤ u.length) hi0
 rw [vv] at t4 t5
 refine ⟨fun hc => ?_, fun hc => ?_⟩
 ·have hlt := t5 hc
  have u0 := zG (b := 1000000000) (by omega) (ui.drop k)
  have Qp : 0 < Q := by
   refine Decidable.byContradiction fun hn => ?_
   have : Q = 0 := by omega
   rw [this, Int.zero_mul] at hlt
   omega
  refine ⟨⟨by omega, by omega⟩, ⟨⟨0, 0, t.w⟩, ⟨⟨.start t1.in_ Q0, Nat.zero_le _⟩, rfl, rfl⟩, rfl, fun _ _ _ _ => rfl⟩, fun r ⟨r1, r2⟩ => ⟨fun hr => ?_, fun hr => ?_⟩⟩
  ·obtain ⟨⟨b0, b1⟩, hs⟩ := r1.step (by omega) vi Q0 (by omega : k + r.i < t.w.length)
   have rl := r1.len
   have w1 := vi.get (by omega) r.i
   have w2 := r1.in_.get (by omega) (k + r.i)
   have p0 : 0 ≤ Q * W.getD r.i 0 := Int.mul_nonneg Q0 w1.1
   have p1 : Q * W.getD r.i 0 ≤ Q * 1000000000 := Int.mul_le_mul_of_nonneg_left (by omega) Q0
   have c0 := r1.c0
   have c1 := r1.c1
   have h0 := hs.c0
   have h1 := hs.c1
   refine ⟨⟨by omega, by omega⟩, ⟨by omega, by omega⟩, by omega, ⟨by omega, by omega⟩, ⟨by omega, by omega⟩, ⟨by omega, by omega⟩, ⟨by omega, by omega⟩, ⟨by omega, by omega⟩, ⟨by omega, by omega⟩, ⟨by omega, by omega⟩, ⟨r.i + 1, _, _⟩, ⟨⟨⟨hs, by simp only; omega⟩, by simp only; omega⟩, rfl, by simp only; omega⟩, by simp, fun i j' _ => Sb _ _ _ (by omega) i j'⟩
  ·have ri : r.i = W.length + 1 := by omega
   have r3 : r.w = u := Vq.end_ (by omega) ui (by omega : k ≤ u.length) hi0 t3 (ri ▸ r1 : Vq 1000000000 t.w W k Q (W.length + 1) r.w r.c)
   rw [r3]
   exact ⟨⟨by omega, by omega⟩, Q - 1, ⟨⟨⟨by omega, by omega, by rw [Int.sub_add_cancel]; exact hlt⟩, by omega⟩, rfl⟩, rfl, fun _ _ _ _ => rfl⟩
 ·have hs := d1'.step (by omega) vi vv (by omega : k < m) Q0 Q2 t3 hc
  rw [vl] at hs
  exact ⟨⟨by omega, by omega⟩, ⟨by omega, by omega⟩, ⟨k, q.set k Q, t.w⟩, ⟨⟨⟨hs, by simp only; omega⟩, by simp only; omega⟩, by simp only⟩, ⟨rfl, fun _ _ _ _ => rfl⟩, by simp, fun i j' _ => Sb _ _ _ (by omega) i j'⟩
theorem Ks (x : List Int) (y : List Int) (hx : Zp 1000000000 x) (hy : Zp 1000000000 y) (tx : zI x = x) (ty : zI y = y) (hn : y.length ≠ 0) (hlx : x.length ≤ 100000000) (hly : y.length ≤ 100000000) : zU Tryz.prog [] 143 [ZD x, ZD y] (.tup 2 (zw [ZD (zu 1000000000 ((zv 1000000000 x).toNat / (zv 1000000000 y).toNat)), ZD (zu 1000000000 ((zv 1000000000 x).toNat % (zv 1000000000 y).toNat))])) :=
 zW (T := GG) (an := IY x (zv 1000000000 x * WR y) (zv 1000000000 y * WR y) y.length (max ((WC x [WR y]).length + 1) (x.length + 1) - y.length)) mixed oa (Eq.mp (by kernel_rfl) (Ml x y hx hy tx ty hn hlx hly))
theorem PI : zp Tryz.prog [] 143 ug := by
 intro xs ps r h hp
 unfold ug at h
 split at h
 ·skip
  rename_i x_x x_y
  cases h
  obtain ⟨q0, q1, q2, q3, q4, q5, q6, q7, q8, -⟩ := ZF hp
  exact weaken (ys := [ZD (zV x_x), ZD (zV x_y)]) ⟨zd q0, zd q1, trivial⟩ (Ks (zV x_x) (zV x_y) q2 q3 q4 q5 q6 q7 q8)
 ·cases h
end Go.Te

namespace Go.Te
open Go Go.Sx Go.Proofs Go.Ar
set_option maxRecDepth 100000
set_option maxHeartbeats 4000000
theorem WW {n k : Nat} (h : n < 10 ^ k) : (zu 1000000000 n).length ≤ k := by
 refine xb (b := 1000000000) (by omega) ?_
 have h2 : 10 ^ k ≤ 1000000000 ^ k := Nat.pow_le_pow_left (by omega) _
 exact_mod_cast Nat.lt_of_lt_of_le h h2
theorem yV {a : zj} (h : ZQ a = 0) : (zY a).natAbs < 10 ^ 301 ∧ a.length ≤ 301 ∧ Zy a = true := by
 obtain ⟨h1, h2⟩ := yU.1 h
 have h3 := wW a
 have h4 : 10 ^ a.length ≤ 10 ^ 301 := I8 (a := a.length) (b := 301) (by omega)
 exact ⟨Nat.lt_of_lt_of_le (oF h1) h4, by omega, h1⟩
theorem Y9 {a : zj} (h : Zy a = true) : y6 (zL a) (zu 1000000000 (zY a).natAbs) = zY a := by
 have hv : zv 1000000000 (zu 1000000000 (zY a).natAbs) = ((zY a).natAbs : Int) := yQ (b := 1000000000) (by omega) _
 unfold y6
 rw [hv]
 rcases yj h with ⟨r, rfl, h1, _, h3⟩ | ⟨h1, h3⟩
 ·rw [show zL (45 :: r) = true from rfl, h3]; simp only [cond_true]; omega
 ·have hm : zL a = false := by
   unfold zL
   rw [beq_eq_false_iff_ne]
   intro e
   have h0 := (Zr.1 h1).1
   have := (Zr.1 h1).2.1 _ (w9 (s := a) (i := 0) h0)
   rw [e] at this
   cases this
  rw [hm, h3]; simp only [cond_false]; omega
theorem rK (n : Bool) (l : List Int) : y6 (!n) l = - y6 n l := by unfold y6; cases n <;> simp
theorem tw (n : Bool) {v : Int} (h : 0 ≤ v) : y6 n (zu 1000000000 v.toNat) = bif n then - v else v := by
 have hv : zv 1000000000 (zu 1000000000 v.toNat) = (v.toNat : Int) := yQ (b := 1000000000) (by omega) _
 unfold y6
 rw [hv, Int.toNat_of_nonneg h]
theorem Zf (n : Nat) : Zp 1000000000 (zu 1000000000 n) ∧ zI (zu 1000000000 n) = zu 1000000000 n := ⟨YB (b := 1000000000) (by omega) n, tG (b := 1000000000) (by omega) n⟩
theorem Xw (f : Bool) (l : List Int) : Z4 (AV.agg 2 fun i => [AV.v (Value.bool f), AV.xl false 1 l.length fun i j => AV.v (Value.int IntKind.i64 (l.getD i 0))][i]?.getD AV.junk) = (⟨f, l⟩ : Big) := xC f l
theorem Y6 (f : Bool) (l : List Int) : yt Big (AV.agg 2 fun i => [AV.v (Value.bool f), AV.xl false 1 l.length fun i j => AV.v (Value.int IntKind.i64 (l.getD i 0))][i]?.getD AV.junk) = true := Y3 f l
theorem wV (f g : Bool) (l : List Int) (Z : Nat → AV) : Z4 (AV.agg 2 fun i => if i < 1 then AV.v (Value.bool f) else if i < 2 then zw [AV.v (Value.bool g), AV.xl false 1 l.length fun i j => AV.v (Value.int IntKind.i64 (l.getD i 0))] i else Z i) = (⟨f, l⟩ : Big) := by
 show (⟨f, yx (ZD l)⟩ : Big) = _
 rw [uJ]
theorem XW (f g : Bool) (l : List Int) (Z : Nat → AV) : yt Big (AV.agg 2 fun i => if i < 1 then AV.v (Value.bool f) else if i < 2 then zw [AV.v (Value.bool g), AV.xl false 1 l.length fun i j => AV.v (Value.int IntKind.i64 (l.getD i 0))] i else Z i) = true := by
 show (zB Int (ZD l)) = true
 rw [vk]
theorem wu (g : Bool) (l : List Int) (Z : Nat → AV) : Z4 (AV.agg 2 fun i => if i < 2 then zw [AV.v (Value.bool g), AV.xl false 1 l.length fun i j => AV.v (Value.int IntKind.i64 (l.getD i 0))] i else Z i) = (⟨g, l⟩ : Big) := by
 show (⟨g, yx (ZD l)⟩ : Big) = _
 rw [uJ]
theorem Xv (g : Bool) (l : List Int) (Z : Nat → AV) : yt Big (AV.agg 2 fun i => if i < 2 then zw [AV.v (Value.bool g), AV.xl false 1 l.length fun i j => AV.v (Value.int IntKind.i64 (l.getD i 0))] i else Z i) = true := by
 show (zB Int (ZD l)) = true
 rw [vk]
theorem TO {f : Int → Int → Int} {a b : zj} (h : zD a b ≠ 0) : y5 f a b = [] ∧ Yd f a b = zD a b := by
 have e : Yd f a b = zD a b := by unfold Yd; rw [bne_iff_ne.2 h]; rfl
 refine ⟨?_, e⟩
 unfold y5
 rw [e, beq_eq_false_iff_ne.2 h]
 rfl
theorem uv {f : Int → Int → Int} {a b : zj} (h : zD a b = 0) : y5 f a b = YL (f (zY a) (zY b)) ∧ Yd f a b = Zm (f (zY a) (zY b)) := by
 have e : Yd f a b = Zm (f (zY a) (zY b)) := by unfold Yd; rw [h]; rfl
 refine ⟨?_, e⟩
 unfold y5 YL
 rw [e]
theorem ZP {n : Int} {k : Nat} (h0 : 0 < k) (hk : k ≤ 300) (h : n.natAbs < 10 ^ k) : YL n = Lib.itoa n ∧ Zm n = 0 := by
 have h1 := xK h0 h
 have e : Zm n = 0 := by
  unfold Zm
  rw [show Nat.blt 300 (Xx n) = false from Bool.eq_false_iff.2 fun e => by have := (Zx _ _).1 e; omega]
  rfl
 refine ⟨?_, e⟩
 unfold YL
 rw [e]
 rfl
theorem jo {a : zj} (h : Zy a = true) (hl : leB (a.length : Int) 18 = true) : -1000000000000000000 < zY a ∧ zY a < 1000000000000000000 := by
 have := Qm h (k := 18) (by have := (ZY _ _).1 hl; omega)
 rw [show (10 : Int) ^ 18 = 1000000000000000000 from by decide] at this
 exact this
theorem pq {a : zj} (ha : ZQ a = 0) {n : Bool} {k : Nat} {w : Int} (hk : y6 n (zu 1000000000 k) = w) (hn : k < 10 ^ 301) :
  y6 (Px ⟨zL a, zu 1000000000 (zY a).natAbs⟩ ⟨n, zu 1000000000 k⟩) (zu 1000000000 (rh ⟨zL a, zu 1000000000 (zY a).natAbs⟩ ⟨n, zu 1000000000 k⟩).toNat) = zY a + w ∧
  (zu 1000000000 (rh ⟨zL a, zu 1000000000 (zY a).natAbs⟩ ⟨n, zu 1000000000 k⟩).toNat).length ≤ 302 ∧ 0 ≤ rh ⟨zL a, zu 1000000000 (zY a).natAbs⟩ ⟨n, zu 1000000000 k⟩ := by
 obtain ⟨a1, a2, a3⟩ := yV ha
 obtain ⟨s1, s2⟩ := N8 (x := ⟨zL a, zu 1000000000 (zY a).natAbs⟩) (y := ⟨n, zu 1000000000 k⟩) (Zf _).1 (Zf _).1 (Zf _).2 (Zf _).2
 simp only [hk, Y9 a3] at s2
 have hw : w.natAbs = k := by
  have hv : zv 1000000000 (zu 1000000000 k) = (k : Int) := yQ (b := 1000000000) (by omega) _
  unfold y6 at hk
  rw [hv] at hk
  cases n <;> simp at hk <;> omega
 rw [tw _ s1, s2]
 refine ⟨rfl, WW ?_, s1⟩
 generalize rh ⟨zL a, zu 1000000000 (zY a).natAbs⟩ ⟨n, zu 1000000000 k⟩ = v at *
 have : v.toNat ≤ (zY a).natAbs + k := by
  cases hx : Px ⟨zL a, zu 1000000000 (zY a).natAbs⟩ ⟨n, zu 1000000000 k⟩ <;> rw [hx] at s2 <;> simp at s2 <;> omega
 have h3 : 10 ^ 302 = 10 ^ 301 * 10 := Lo 301 302 rfl
 generalize 10 ^ 301 = M at *
 omega
theorem Lm : ∀ (s t : Bool) (A B : Int), (bif !(s == t) then -(A * B) else A * B) = (bif s then -A else A) * (bif t then -B else B) := by
 intro s t A B
 cases s <;> cases t <;> simp [Int.neg_mul, Int.mul_neg]
theorem xO (n : Nat) : zv 1000000000 (zu 1000000000 n) = (n : Int) := yQ (b := 1000000000) (by omega) _
theorem nV {a b : zj} (ha : Zy a = true) (hb : Zy b = true) : y6 (!(zL a == zL b)) (zu 1000000000 (((zY a).natAbs : Int) * ((zY b).natAbs : Int)).toNat) = zY a * zY b := by
 have h1 := Y9 ha
 have h2 := Y9 hb
 unfold y6 at h1 h2
 rw [xO] at h1 h2
 rw [tw _ (Int.mul_nonneg (by omega) (by omega)), Lm, h1, h2]
noncomputable def Hf (G : List (Nat × Obj)) : Tb := (((((NR G).plus 97 sH).plus 98 U2).plus 99 ud).plus 100 QS).plus 103 WK
theorem qj {G : List (Nat × Obj)} (hG : zo G) : zz Tryz.prog (Hf G) :=
 zz.plus (zz.plus (zz.plus (zz.plus (zz.plus (YZ hG) (zp.mono Lf)) (zp.mono MR)) (zp.mono PS)) (zp.mono Iy)) (Td hG)
noncomputable def jL (G : List (Nat × Obj)) : Tb := ((((Hf G).plus 113 uc).plus 143 ug).plus 148 tU).plus 56 Uo
theorem x5 {G : List (Nat × Obj)} (hG : zo G) : zz Tryz.prog (jL G) := zz.plus (zz.plus (zz.plus (zz.plus (qj hG) (zp.mono NI)) (zp.mono PI)) (zp.mono qK)) (zp.mono pP)
def Ut : List AV → Option (List zn × AV)
 | [.str a, .str b] => some ([.p (a.length ≤ 4294967280), .p (b.length ≤ 4294967280)], .tup 2 (zw [.str (y5 (· + ·) a b), .i (Yd (· + ·) a b)]))
 | _ => none
theorem kL (G : List (Nat × Obj)) (a : List UInt8) (b : List UInt8) (hla : a.length ≤ 4294967280) (hlb : b.length ≤ 4294967280) :
 let q2 := (bif leB (lZ a) (18 : Int) && leB (lZ b) (18 : Int) then zY a else iZ); let q1 := (q2 + bif leB (lZ a) (18 : Int) && leB (lZ b) (18 : Int) then zY b else iZ); let q4 := (zu 1000000000 (Int.natAbs (zY a))); let q3 := (AV.agg 2 fun i => Option.getD [AV.v (Value.bool (zL a)), xI q4][i]? AV.junk); let q6 := (zu 1000000000 (Int.natAbs (zY b))); let q5 := (AV.agg 2 fun i => Option.getD [AV.v (Value.bool
 (zL b)), xI q6][i]? AV.junk); let q8 := (Z4 q3); let q7 := (Big.l q8); let q10 := (Z4 q5); let q9 := (Big.l q10); let q12 := (zu 1000000000 (Int.toNat (rh q8 q10))); let q11 := (AV.agg 2 fun i => Option.getD [AV.v (Value.bool (Px q8 q10)), xI q12][i]? AV.junk); let q14 := (Z4 q11); let q13 := (Big.l q14); let q15 := (y6 (Big.neg q14) q13); Zt [AV.str a, AV.str b] → lN a ≤ nM ∧ lN b ≤
 nM ∧ zZ (zD a b != iZ) (j2 ∧ (True ∧ bA #[] = y5 (fun (x1 x2 : Int) => x1 + x2) a b) ∧ kI ∧ zD a b = Yd (fun (x1 x2 : Int) => x1 + x2) a b) (Zy a = true ∧ Zy b = true ∧ (18 : Int) = (18 : Int) ∧ zZ (leB (lZ a) (18 : Int) && leB (lZ b) (18 : Int)) (bF (dK q1) (((iN ≤ q2 + bif leB (lZ a) (18 : Int) && leB (lZ b) (18 : Int) then zY b else iZ) ∧ q1 ≤
 iX) ∧ j2 ∧ (True ∧ Lib.itoa q1 = y5 (fun (x1 x2 : Int) => x1 + x2) a b) ∧ kI ∧ iZ = Yd (fun (x1 x2 : Int) => x1 + x2) a b)) (Zy a = true ∧ lN a ≤ 100000000 ∧ Zy b = true ∧ lN b ≤ 100000000 ∧ bF (yt Big q3) (bF (yt Big q5) ((∀ (x : Int), List.Mem x q7 → iZ ≤ x ∧ x < iB) ∧ (∀ (x : Int), List.Mem x q9 → iZ ≤ x ∧ x < iB) ∧ zI q7 = Big.l q8 ∧ zI q9 = Big.l q10 ∧ lN q7 ≤ 1000000000 ∧ lN q9 ≤ 1000000000 ∧ zZ
 (yt Big q11) ((∀ (x : Int), List.Mem x q13 → iZ ≤ x ∧ x < iB) ∧ zI q13 = Big.l q14 ∧ lN q13 ≤ 100000000 ∧ j2 ∧ (True ∧ YL q15 = y5 (fun (x1 x2 : Int) => x1 + x2) a b) ∧ kI ∧ Zm q15 = Yd (fun (x1 x2 : Int) => x1 + x2) a b) False)))) := by
 delta bF dK bA xI nM kI j2 lZ lN iZ iX iN iB
 dsimp only
 intro hb
 have e0 : (zr.dflt : Int) = 0 := rfl
 simp only [↓yy, ↓Zi, row_one]
 simp only [sS, dS, e0, Xw, Y6, xC, Y3, wV, XW, wu, Xv, Xi]
 refine ⟨by omega, by omega, fun hE => ⟨rfl, (TO hE).1.symm, (TO hE).2.symm⟩, fun hE => ?_⟩
 obtain ⟨hA, hB⟩ := xx hE
 obtain ⟨a1, a2, a3⟩ := yV hA
 obtain ⟨b1, b2, b3⟩ := yV hB
 rw [(uv hE).1, (uv hE).2]
 refine ⟨a3, b3, zX.2 ⟨fun c => ?_, fun c => ?_⟩⟩
 ·rw [c]
  rw [Bool.and_eq_true] at c
  have x1 := jo a3 c.1
  have x2 := jo b3 c.2
  simp only [cond_true]
  obtain ⟨r1, r2⟩ := ZP (n := zY a + zY b) (k := 20) (by omega) (by omega) (by omega)
  exact ⟨⟨by omega, by omega⟩, ⟨by omega, by omega⟩, rfl, r1.symm, r2.symm⟩
 ·obtain ⟨q1, q2, q3⟩ := pq hA (Y9 b3) b1
  rw [q1]
  exact ⟨a3, by omega, b3, by omega, (Zf _).1, (Zf _).1, (Zf _).2, (Zf _).2, by have := WW a1; omega, by have := WW b1; omega, (Zf _).1, (Zf _).2, by omega, rfl, rfl, rfl⟩
theorem Iz {G : List (Nat × Obj)} (hG : zo G) (a : List UInt8) (b : List UInt8) (hla : a.length ≤ 4294967280) (hlb : b.length ≤ 4294967280) : zU Tryz.prog G 64 [.str a, .str b] (.tup 2 (zw [.str (y5 (· + ·) a b), .i (Yd (· + ·) a b)])) :=
 zW (T := jL G) (an := .auto) mixed (x5 hG) (Eq.mp (by kernel_rfl) (kL G a b hla hlb))
theorem Qt {G : List (Nat × Obj)} (hG : zo G) : zp Tryz.prog G 64 Ut := by
 intro xs ps r h hp
 unfold Ut at h
 split at h
 ·skip
  rename_i a b
  cases h
  obtain ⟨q0, q1, -⟩ := ZF hp
  exact weaken (ys := [.str a, .str b]) ⟨zT _, zT _, trivial⟩ (Iz hG a b q0 q1)
 ·cases h
def sA : List AV → Option (List zn × AV)
 | [.str a, .str b] => some ([.p (a.length ≤ 4294967280), .p (b.length ≤ 4294967280)], .tup 2 (zw [.str (y5 (· - ·) a b), .i (Yd (· - ·) a b)]))
 | _ => none
theorem KL (G : List (Nat × Obj)) (a : List UInt8) (b : List UInt8) (hla : a.length ≤ 4294967280) (hlb : b.length ≤ 4294967280) :
 let q2 := (bif leB (lZ a) (18 : Int) && leB (lZ b) (18 : Int) then zY a else iZ); let q1 := (q2 - bif leB (lZ a) (18 : Int) && leB (lZ b) (18 : Int) then zY b else iZ); let q4 := (zu 1000000000 (Int.natAbs (zY a))); let q3 := (AV.agg 2 fun i => Option.getD [AV.v (Value.bool (zL a)), xI q4][i]? AV.junk); let q6 := (zu 1000000000 (Int.natAbs (zY b))); let q7 := (Value.agg #[Value.bool false, Value.slice (X5 Addr)
 0 0]); let q5 := (AV.agg 2 fun (i : Nat) => if 0 ≤ 0 + i ∧ 0 + i < 1 then AV.v (Value.bool !zL b) else if 0 ≤ 0 + i ∧ 0 + i < 2 then zw [AV.v (Value.bool (zL b)), xI q6] (0 + i - 0) else Z0 q7 (0 + i)); let q9 := (Z4 q3); let q8 := (Big.l q9); let q11 := (Z4 q5); let q10 := (Big.l q11); let q12 := (AV.agg 2 fun i => let q13 := (Z4 (AV.agg 2 fun (i : Nat) => if 0 ≤ 0 + i ∧ 0 + i < 1 then AV.v (Value.bool !zL b) else if 0 ≤ 0 + i ∧ 0 + i < 2 then zw [AV.v (Value.bool (zL b)), AV.xl false 1
 (lN q6) fun i j => aI (gD q6 i zr.dflt)] (0 + i - 0) else Z0 q7 (0 + i))); Option.getD [AV.v (Value.bool (Px q9 q13)), AV.xl false 1 (lN (zu 1000000000 (Int.toNat (rh q9 q13)))) fun i j => AV.v (Value.int .i64 (gD (zu 1000000000 (Int.toNat (rh q9 (Z4 (AV.agg 2 fun (i : Nat) => if 0 ≤ 0 + i ∧ 0 + i < 1 then AV.v (Value.bool !zL b) else if 0 ≤ 0 + i ∧ 0 + i < 2 then zw [AV.v (Value.bool (zL b)), xI q6] (0 + i - 0) else Z0 q7 (0 + i)))))) i
 zr.dflt))][i]? AV.junk); let q15 := (Z4 q12); let q14 := (Big.l q15); let q16 := (y6 (Big.neg q15) q14); Zt [AV.str a, AV.str b] → lN a ≤ nM ∧ lN b ≤ nM ∧ zZ (zD a b != iZ) (j2 ∧ (True ∧ bA #[] = y5 (fun (x1 x2 : Int) => x1 - x2) a b) ∧ kI ∧ zD a b = Yd (fun (x1 x2 : Int) => x1 - x2) a b) (Zy a = true ∧ Zy b = true ∧ (18 : Int) = (18 : Int) ∧ zZ (leB (lZ a) (18 : Int) && leB (lZ b) (18 : Int)) (zZ
 (dK q1) (((iN ≤ q2 - bif leB (lZ a) (18 : Int) && leB (lZ b) (18 : Int) then zY b else iZ) ∧ q1 ≤ iX) ∧ j2 ∧ (True ∧ Lib.itoa q1 = y5 (fun (x1 x2 : Int) => x1 - x2) a b) ∧ kI ∧ iZ = Yd (fun (x1 x2 : Int) => x1 - x2) a b) False) (Zy b = true ∧ lN b ≤ 100000000 ∧ Zy a = true ∧ lN a ≤ 100000000 ∧ bF (yt Big q3) (bF (yt Big q5) ((∀ (x : Int), List.Mem x q8 → iZ ≤ x ∧ x < iB) ∧
 (∀ (x : Int), List.Mem x q10 → iZ ≤ x ∧ x < iB) ∧ zI q8 = Big.l q9 ∧ zI q10 = Big.l q11 ∧ lN q8 ≤ 1000000000 ∧ lN q10 ≤ 1000000000 ∧ bF (yt Big q12) ((∀ (x : Int), List.Mem x q14 → iZ ≤ x ∧ x < iB) ∧ zI q14 = Big.l q15 ∧ lN q14 ≤ 100000000 ∧ j2 ∧ (True ∧ YL q16 = y5 (fun (x1 x2 : Int) => x1 - x2) a b) ∧ kI ∧ Zm q16 = Yd (fun (x1 x2 : Int) => x1 - x2) a b))))) := by
 delta bF dK bA xI nM kI j2 lZ lN gD iZ iX iN iB aI
 dsimp only
 intro hb
 have e0 : (zr.dflt : Int) = 0 := rfl
 simp only [↓yy, ↓Zi, row_one]
 simp only [sS, dS, e0, Xw, Y6, xC, Y3, wV, XW, wu, Xv, Xi]
 refine ⟨by omega, by omega, fun hE => ⟨rfl, (TO hE).1.symm, (TO hE).2.symm⟩, fun hE => ?_⟩
 obtain ⟨hA, hB⟩ := xx hE
 obtain ⟨a1, a2, a3⟩ := yV hA
 obtain ⟨b1, b2, b3⟩ := yV hB
 rw [(uv hE).1, (uv hE).2]
 refine ⟨a3, b3, zX.2 ⟨fun c => ?_, fun c => ?_⟩⟩
 ·rw [c]
  rw [Bool.and_eq_true] at c
  have x1 := jo a3 c.1
  have x2 := jo b3 c.2
  simp only [cond_true]
  obtain ⟨r1, r2⟩ := ZP (n := zY a - zY b) (k := 20) (by omega) (by omega) (by omega)
  exact ⟨⟨by omega, by omega⟩, ⟨by omega, by omega⟩, rfl, r1.symm, r2.symm⟩
 ·have hs : y6 (!zL b) (zu 1000000000 (zY b).natAbs) = - zY b := by rw [rK, Y9 b3]
  obtain ⟨q1, q2, q3⟩ := pq hA hs b1
  rw [q1]
  exact ⟨b3, by omega, a3, by omega, (Zf _).1, (Zf _).1, (Zf _).2, (Zf _).2, by have := WW a1; omega, by have := WW b1; omega, (Zf _).1, (Zf _).2, by omega, rfl, rfl, rfl⟩
theorem J3 {G : List (Nat × Obj)} (hG : zo G) (a : List UInt8) (b : List UInt8) (hla : a.length ≤ 4294967280) (hlb : b.length ≤ 4294967280) : zU Tryz.prog G 118 [.str a, .str b] (.tup 2 (zw [.str (y5 (· - ·) a b), .i (Yd (· - ·) a b)])) :=
 zW (T := jL G) (an := .auto) mixed (x5 hG) (Eq.mp (by kernel_rfl) (KL G a b hla hlb))
theorem nS {G : List (Nat × Obj)} (hG : zo G) : zp Tryz.prog G 118 sA := by
 intro xs ps r h hp
 unfold sA at h
 split at h
 ·skip
  rename_i a b
  cases h
  obtain ⟨q0, q1, -⟩ := ZF hp
  exact weaken (ys := [.str a, .str b]) ⟨zT _, zT _, trivial⟩ (J3 hG a b q0 q1)
 ·cases h
def vq : List AV → Option (List zn × AV)
 | [.str a, .str b] => some ([.p (a.length ≤ 4294967280), .p (b.length ≤ 4294967280)], .tup 2 (zw [.str (y5 (· * ·) a b), .i (Yd (· * ·) a b)]))
 | _ => none
theorem LL (G : List (Nat × Obj)) (a : List UInt8) (b : List UInt8) (hla : a.length ≤ 4294967280) (hlb : b.length ≤ 4294967280) :
 let q1 := ((lZ a) + (lZ b)); let q3 := (bif leB (lZ a) (18 : Int) && leB (lZ b) (18 : Int) then zY a else iZ); let q2 := (q3 * bif leB (lZ a) (18 : Int) && leB (lZ b) (18 : Int) then zY b else iZ); let q6 := (zu 1000000000 (Int.natAbs (zY a))); let q5 := (xI q6); let q8 := (zu 1000000000 (Int.natAbs (zY b))); let q7 := (AV.xl false 1 (lN q8) fun i j => AV.v (Value.int
 .i64 (gD q8 i zr.dflt))); let q9 := (zV q5); let q10 := (zV q7); let q12 := (zu 1000000000 (Int.toNat (zv iB q9 * zv iB q10))); let q11 := (AV.agg 2 (zw [AV.v (Value.bool !zL a == zL b), xI q12])); let q14 := (Z4 q11); let q13 := (Big.l q14); let q15 := (y6 (Big.neg q14) q13); let q4 := (Zy a = true ∧ lN a ≤ 100000000 ∧ Zy b = true ∧ lN b ≤ 100000000 ∧ bF (zB Int q5) (bF (zB Int q7) ((∀ (x : Int), List.Mem x q9 →
 iZ ≤ x ∧ x < iB) ∧ (∀ (x : Int), List.Mem x q10 → iZ ≤ x ∧ x < iB) ∧ lN q9 ≤ 1000000000 ∧ lN q10 ≤ 1000000000 ∧ bF (yt Big q11) ((∀ (x : Int), List.Mem x q13 → iZ ≤ x ∧ x < iB) ∧ zI q13 = Big.l q14 ∧ lN q13 ≤ 100000000 ∧ j2 ∧ (True ∧ YL q15 = y5 (fun (x1 x2 : Int) => x1 * x2) a b) ∧ kI ∧ Zm q15 = Yd (fun (x1 x2 : Int) => x1 * x2) a b)))); Zt [AV.str a, AV.str b] → lN a ≤ nM ∧ lN b ≤ nM
 ∧ zZ (zD a b != iZ) (j2 ∧ (True ∧ bA #[] = y5 (fun (x1 x2 : Int) => x1 * x2) a b) ∧ kI ∧ zD a b = Yd (fun (x1 x2 : Int) => x1 * x2) a b) (bF (dK q1) (zZ (leB q1 (18 : Int)) (Zy a = true ∧ Zy b = true ∧ (18 : Int) = (18 : Int) ∧ zZ (leB (lZ a) (18 : Int) && leB (lZ b) (18 : Int)) (bF (dK q2) (((iN ≤ q3 * bif leB (lZ a) (18 : Int) && leB (lZ b)
 (18 : Int) then zY b else iZ) ∧ q2 ≤ iX) ∧ j2 ∧ (True ∧ Lib.itoa q2 = y5 (fun (x1 x2 : Int) => x1 * x2) a b) ∧ kI ∧ iZ = Yd (fun (x1 x2 : Int) => x1 * x2) a b)) q4) q4)) := by
 delta bF dK bA xI nM kI j2 lZ lN gD iZ iX iN iB
 dsimp only
 intro hb
 have e0 : (zr.dflt : Int) = 0 := rfl
 simp only [↓yy, ↓Zi, row_one]
 simp only [sS, dS, e0, Xw, Y6, xC, Y3, wV, XW, wu, Xv, Xi]
 simp only [xO]
 refine ⟨by omega, by omega, fun hE => ⟨rfl, (TO hE).1.symm, (TO hE).2.symm⟩, fun hE => ?_⟩
 obtain ⟨hA, hB⟩ := xx hE
 obtain ⟨a1, a2, a3⟩ := yV hA
 obtain ⟨b1, b2, b3⟩ := yV hB
 rw [(uv hE).1, (uv hE).2, nV a3 b3]
 have hl : (zu 1000000000 (((zY a).natAbs : Int) * ((zY b).natAbs : Int)).toNat).length ≤ 602 := by
  refine WW ?_
  rw [show (((zY a).natAbs : Int) * ((zY b).natAbs : Int)).toNat = (zY a).natAbs * (zY b).natAbs from by rw [← Int.natCast_mul]; rfl, show 10 ^ 602 = 10 ^ 301 * 10 ^ 301 from JD 301 602 rfl]
  have hm := Nat.mul_lt_mul'' a1 b1
  exact hm
 have la := WW a1
 have lb := WW b1
 refine ⟨⟨by omega, by omega⟩, fun h18 => ⟨a3, b3, zX.2 ⟨fun c => ?_, fun c => ?_⟩⟩, fun h18 => ?_⟩
 ·rw [c]
  rw [Bool.and_eq_true] at c
  simp only [cond_true]
  have hm : (zY a * zY b).natAbs < 10 ^ 18 := by
   rw [Int.natAbs_mul]
   have h1 := Nat.mul_lt_mul'' (oF a3) (oF b3)
   rw [← Nat.pow_add] at h1
   exact Nat.lt_of_lt_of_le h1 (Nat.pow_le_pow_right (by omega) (by omega))
  obtain ⟨r1, r2⟩ := ZP (n := zY a * zY b) (k := 18) (by omega) (by omega) hm
  rw [show 10 ^ 18 = 1000000000000000000 from by decide] at hm
  exact ⟨⟨by omega, by omega⟩, ⟨by omega, by omega⟩, rfl, r1.symm, r2.symm⟩
 ·exact ⟨a3, by omega, b3, by omega, (Zf _).1, (Zf _).1, by omega, by omega, (Zf _).1, (Zf _).2, by omega, rfl, rfl, rfl⟩
 ·exact ⟨a3, by omega, b3, by omega, (Zf _).1, (Zf _).1, by omega, by omega, (Zf _).1, (Zf _).2, by omega, rfl, rfl, rfl⟩
theorem iD {G : List (Nat × Obj)} (hG : zo G) (a : List UInt8) (b : List UInt8) (hla : a.length ≤ 4294967280) (hlb : b.length ≤ 4294967280) : zU Tryz.prog G 78 [.str a, .str b] (.tup 2 (zw [.str (y5 (· * ·) a b), .i (Yd (· * ·) a b)])) :=
 zW (T := jL G) (an := .auto) mixed (x5 hG) (Eq.mp (by kernel_rfl) (LL G a b hla hlb))
theorem UX {G : List (Nat × Obj)} (hG : zo G) : zp Tryz.prog G 78 vq := by
 intro xs ps r h hp
 unfold vq at h
 split at h
 ·skip
  rename_i a b
  cases h
  obtain ⟨q0, q1, -⟩ := ZF hp
  exact weaken (ys := [.str a, .str b]) ⟨zT _, zT _, trivial⟩ (iD hG a b q0 q1)
 ·cases h
def rn : List AV → Option (List zn × AV)
 | [.str a, .str b] => some ([.p (a.length ≤ 4294967280), .p (b.length ≤ 4294967280)], .tup 2 (zw [.i (yc a b), .i (zD a b)]))
 | _ => none
theorem Lu (G : List (Nat × Obj)) (a : List UInt8) (b : List UInt8) (hla : a.length ≤ 4294967280) (hlb : b.length ≤ 4294967280) :
 let q1 := (True ∧ kI ∧ iZ = yc a b); let q3 := (zu 1000000000 (Int.natAbs (zY a))); let q4 := (Value.agg #[Value.bool false, Value.slice (X5 Addr) 0 0]); let q2 := (AV.agg 2 fun (i : Nat) => if 0 ≤ 0 + i ∧ 0 + i < 2 then zw [AV.v (Value.bool (zL a)), xI q3] (0 + i - 0) else Z0 q4 (0 + i)); let q6 := (zu 1000000000 (Int.natAbs (zY b))); let q5 := (AV.agg 2 fun (i : Nat) => if 0 ≤ 0 + i ∧ 0 + i < 1 then AV.v (Value.bool !zL b) else if 0 ≤ 0 + i ∧ 0 + i < 2 then zw
 [AV.v (Value.bool (zL b)), xI q6] (0 + i - 0) else Z0 q4 (0 + i)); let q8 := (Z4 q2); let q7 := (Big.l q8); let q10 := (Z4 q5); let q9 := (Big.l q10); Zt [AV.str a, AV.str b] → lN a ≤ nM ∧ lN b ≤ nM ∧ zZ (zD a b != iZ) (j2 ∧ q1 ∧ kI ∧ zD a b = zD a b) (Zy a = true ∧ Zy b = true ∧ (18 : Int) = (18 : Int) ∧ zZ (leB (lZ a) (18 : Int) && leB (lZ b) (18 : Int)) (2
 = lN [AV.junk, AV.junk] ∧ (True ∧ kI ∧ xS (bif leB (lZ a) (18 : Int) && leB (lZ b) (18 : Int) then zY a else iZ) (bif leB (lZ a) (18 : Int) && leB (lZ b) (18 : Int) then zY b else iZ) = yc a b) ∧ kI ∧ iZ = zD a b) (Zy a = true ∧ lN a ≤ 100000000 ∧ Zy b = true ∧ lN b ≤ 100000000 ∧ bF (yt Big q2) (bF (yt Big q5) ((∀ (x : Int), List.Mem x q7 → iZ ≤ x ∧ x < iB) ∧ (∀ (x : Int), List.Mem x q9 → (0 :
 Int) ≤ x ∧ x < iB) ∧ zI q7 = Big.l q8 ∧ zI q9 = Big.l q10 ∧ lN q7 ≤ 1000000000 ∧ lN q9 ≤ 1000000000 ∧ zZ ((lZ (zu 1000000000 (Int.toNat (rh q8 q10)))) == iZ) (j2 ∧ q1 ∧ kI ∧ iZ = zD a b) (zZ (Px q8 q10) (j2 ∧ (True ∧ kI ∧ (-1 : Int) = yc a b) ∧ kI ∧ iZ = zD a b) (j2 ∧ (True ∧ kI ∧ iO = yc a b) ∧ kI ∧ iZ =
 zD a b)))))) := by
 delta bF xI nM kI j2 lZ lN iZ iO iB
 dsimp only
 intro hb
 have e0 : (zr.dflt : Int) = 0 := rfl
 simp only [↓yy, ↓Zi, row_one]
 simp only [sS, dS, e0, Xw, Y6, xC, Y3, wV, XW, wu, Xv, Xi]
 have hV : zD a b = 0 → yc a b = xS (zY a) (zY b) := fun h => by unfold yc; rw [h]; rfl
 refine ⟨by omega, by omega, fun hE => ⟨rfl, ?_⟩, fun hE => ?_⟩
 ·unfold yc; rw [bne_iff_ne.2 hE]; rfl
 obtain ⟨hA, hB⟩ := xx hE
 obtain ⟨a1, a2, a3⟩ := yV hA
 obtain ⟨b1, b2, b3⟩ := yV hB
 rw [hV hE]
 refine ⟨a3, b3, zX.2 ⟨fun c => ?_, fun c => ?_⟩⟩
 ·rw [c]
  exact ⟨rfl, rfl, hE.symm⟩
 ·have hs : y6 (!zL b) (zu 1000000000 (zY b).natAbs) = - zY b := by rw [rK, Y9 b3]
  obtain ⟨q1, q2, q3⟩ := pq hA hs b1
  have la := WW a1
  have lb := WW b1
  rw [tw _ q3] at q1
  refine ⟨a3, by omega, b3, by omega, (Zf _).1, (Zf _).1, (Zf _).2, (Zf _).2, by omega, by omega, fun h0 => ?_, fun h0 => zX.2 ⟨fun hn => ?_, fun hn => ?_⟩⟩
  all_goals
   generalize rh ⟨zL a, zu 1000000000 (zY a).natAbs⟩ ⟨!zL b, zu 1000000000 (zY b).natAbs⟩ = v at *
   generalize Px ⟨zL a, zu 1000000000 (zY a).natAbs⟩ ⟨!zL b, zu 1000000000 (zY b).natAbs⟩ = n at *
  ·have h1 := Xf (b := 1000000000) (n := v.toNat) (by omega) (by omega)
   have : zY a = zY b := by cases n <;> simp at q1 <;> omega
   unfold xS
   rw [this, show zg (zY b) (zY b) = false from Bool.eq_false_iff.2 fun e => by have := (zq _ _).1 e; omega, beq_self_eq_true]
   exact ⟨rfl, rfl, hE.symm⟩
  all_goals
   have h1 : v.toNat ≠ 0 := fun e => h0 (by rw [e, ZB]; rfl)
   rw [hn] at q1
   unfold xS
  ·rw [cond_true] at q1
   rw [(zq _ _).2 (show zY a < zY b by omega)]
   exact ⟨rfl, rfl, hE.symm⟩
  ·rw [cond_false] at q1
   rw [show zg (zY a) (zY b) = false from Bool.eq_false_iff.2 fun e => by have := (zq _ _).1 e; omega, beq_eq_false_iff_ne.2 (show zY a ≠ zY b by omega)]
   exact ⟨rfl, rfl, hE.symm⟩
theorem jN {G : List (Nat × Obj)} (hG : zo G) (a : List UInt8) (b : List UInt8) (hla : a.length ≤ 4294967280) (hlb : b.length ≤ 4294967280) : zU Tryz.prog G 59 [.str a, .str b] (.tup 2 (zw [.i (yc a b), .i (zD a b)])) :=
 zW (T := jL G) (an := .auto) mixed (x5 hG) (Eq.mp (by kernel_rfl) (Lu G a b hla hlb))
theorem Mj {G : List (Nat × Obj)} (hG : zo G) : zp Tryz.prog G 59 rn := by
 intro xs ps r h hp
 unfold rn at h
 split at h
 ·skip
  rename_i a b
  cases h
  obtain ⟨q0, q1, -⟩ := ZF hp
  exact weaken (ys := [.str a, .str b]) ⟨zT _, zT _, trivial⟩ (jN hG a b q0 q1)
 ·cases h
end Go.Te
