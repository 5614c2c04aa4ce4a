/- integer: long division. -/
import Derived.Test.YtgpbohfbhfbelaaGreatDoorTkIf
import Derived.Test.YtgpbohfbhfbelaaGreatDoorArA
import Derived.Test.YtgpbohfbhfbelaaGreatDoorArM
set_option linter.unusedSimpArgs false
set_option linter.unusedVariables false
namespace Go.Te
open Go Go.Sx Go.Proofs Go.Ar
set_option maxRecDepth 100000
set_option maxHeartbeats 4000000
structure ZC where
 i : Nat
 c : Int
 w : List Int
def Na  : Z9 :=
 .two .auto (.two .auto (.two (.two .auto (.one (.loop ZC (fun σ z => [(0, σ.tm 0), (1, σ.tm 1), (2, σ.tm 2), (3, σ.tm 3), (14, σ.tm 14), (9, .i z.c), (15, .i (z.i : Int))]) (fun σ z => [(yd (σ.tm 0), WZ z.w)]) 0 (fun σ z => Wu 1000000000 (Zj (σ.bl (yd (σ.tm 0)))) (Zj (σ.bl (yd (σ.tm 1)))) (AV.int (σ.tm 2)).toNat (AV.int (σ.tm 3)) z.i z.w z.c ∧ z.i ≤ (Zj (σ.bl (yd (σ.tm 1)))).length + 1) (fun σ z => (Zj (σ.bl (yd (σ.tm 1)))).length + 1 - z.i) .auto))) .auto))
def NA  : Z9 :=
 .two .auto (.two .auto (.two (.two .auto (.one (.loop ZC (fun σ z => [(0, σ.tm 0), (1, σ.tm 1), (2, σ.tm 2), (3, σ.tm 3), (14, σ.tm 14), (9, .i z.c), (15, .i (z.i : Int))]) (fun σ z => [(yd (σ.tm 0), WZ z.w)]) 0 (fun σ z => uu 1000000000 (Zj (σ.bl (yd (σ.tm 0)))) (Zj (σ.bl (yd (σ.tm 1)))) (AV.int (σ.tm 2)).toNat (AV.int (σ.tm 3)) z.i z.w z.c ∧ z.i ≤ (Zj (σ.bl (yd (σ.tm 1)))).length + 1) (fun σ z => (Zj (σ.bl (yd (σ.tm 1)))).length + 1 - z.i) .auto))) .auto))
noncomputable def gk : Tb := (((((T0.plus 136 vV).plus 161 VD).plus 139 tj).plus 192 pc).plus 190 SF).plusF 101 rS
theorem PS : zZ Tryz.prog gk := zZ.plusF (zZ.plus (zZ.plus (zZ.plus (zZ.plus (zZ.plus zq Uh) Rn) Qe) H0) K1) KV
noncomputable def ES : Tb := gk.body Tryz.prog [(191, .auto), (193, Na), (194, NA)]
theorem NK : zZ Tryz.prog ES := zZ.body mixed PS _
structure Z7 where
 j : Nat
 q : List Int
 u : List Int
def UT (σ : zo) (k : Nat) : Nat :=
 match σ.bl k with
 | .box _ _ cs => yd (cs 0)
 | _ => 0
def Iz (x : List Int) : Z9 := .loop Nat (fun σ z => [(0, σ.tm 0), (4, σ.tm 4), (6, σ.tm 6), (7, σ.tm 7), (8, σ.tm 8), (9, σ.tm 9), (61, σ.tm 61)])
 (fun σ z => [(4, .box 50 1 fun _ => .ns σ.nb 0 ((Zj (σ.bl (UT σ 4))).length + z)), (UT σ 4, .dead), (σ.nb, WZ (Zj (σ.bl (UT σ 4)) ++ List.replicate z 0))]) 1
 (fun σ z => z = 0 ∨ (Zj (σ.bl (UT σ 4))).length + z ≤ x.length + 1) (fun σ z => x.length + 1 - (Zj (σ.bl (UT σ 4))).length - z) .auto
def Hw (V : Int) : Z9 := .loop Int (fun σ z => [(4, σ.tm 4), (6, σ.tm 6), (7, σ.tm 7), (8, σ.tm 8), (9, σ.tm 9), (10, .i z)]) (fun _ _ => []) 0
 (fun σ z => 0 ≤ z ∧ z ≤ 2000000000 ∧ zX 1000000000 ((Zj (σ.bl (UT σ 4))).drop (AV.int (σ.tm 9)).toNat) < (z + 1) * V) (fun σ z => z.toNat) .auto
def IQ (A V : Int) (n m : Nat) : Z9 :=
 .two .auto (.one (.loop Z7 (fun σ z => [(0, σ.tm 0), (1, σ.tm 1), (3, .i ((z.j : Int) - 1))]) (fun σ z => [(UT σ 0, WZ z.q), (UT σ 4, WZ z.u)]) 0
  (fun _ z => w9 1000000000 A V n m z.j z.q z.u ∧ z.j ≤ m) (fun _ z => z.j) .auto))
def IU (x : List Int) (A V : Int) (n m : Nat) : Z9 :=
 .two .auto (.two .auto (.two .auto (.two .auto (.two .auto (.two (.one (Iz x)) (.two .auto (.two (.two .auto (.one (.range (IQ A V n m) .auto (.one (.two .auto (.two (.one (Hw V)) .auto)))))) .auto)))))))
def W7 (y : List Int) : Int := (1000000000 : Int).tdiv (y.getD (y.length - 1) 0 + 1)
theorem pH (l : List Int) (v : Int) (i : Nat) (h : i < l.length + 1) : (l ++ [v]).getD i 0 = if i < l.length then l.getD i 0 else v := by
 rw [List.getD_eq_getElem?_getD, List.getElem?_append]
 by_cases hi : i < l.length
 ·rw [if_pos hi, if_pos hi, ← List.getD_eq_getElem?_getD]
 ·rw [if_neg hi, if_neg hi, show i - l.length = 0 by omega]; rfl
theorem FS (l : List Int) (v : Int) : Zj (OB.arr 3 1 (l.length + 1) fun a b => if a < l.length then AV.v (Value.int IntKind.i64 (l.getD a 0)) else AV.v (Value.int IntKind.i64 v)) = l ++ [v] := by
 have e : ((List.range (l.length + 1)).map fun i => AV.int (if i < l.length then AV.v (Value.int IntKind.i64 (l.getD i 0)) else AV.v (Value.int IntKind.i64 v))) = l ++ [v] := by
  apply List.ext_getElem
  ·simp
  ·intro i h1 h2
   rw [List.getElem_map, List.getElem_range]
   have h3 : i < l.length + 1 := by simpa using h2
   have e2 : (l ++ [v])[i] = (l ++ [v]).getD i 0 := by rw [List.getD_eq_getElem?_getD, List.getElem?_eq_getElem h2]; rfl
   rw [e2, pH l v i h3]
   split <;> rfl
 exact e
theorem kP (r : Int) : zW (AV.xl true 1 1 fun x j => AV.v (Value.int IntKind.i64 r)) = [r] := rfl
theorem ot {b : Int} {k : Nat} {u0 u1 u2 v1 v2 W V : Int} (h : NE b k u0 u1 u2 v1 v2 W V) (hW : W < b * V) (hV : 0 < V) : ∀ (n : Nat) (q r : Int), Lc b (u0 * b + u1) v1 W V q r → ∃ r', Lc b (u0 * b + u1) v1 W V (uh b u2 v1 v2 n q r) r'
 | 0, q, r, hi => ⟨r, hi⟩
 | n + 1, q, r, hi => by
  unfold uh
  cases hc : (leB b q || (zH r b && zH (r * b + u2) (q * v2))) with
  | false => exact ⟨r, hi⟩
  | true =>
   rw [Bool.or_eq_true, ze, Bool.and_eq_true, zR, zR] at hc
   obtain ⟨_, hs⟩ := h.step hi hW hV (hc.imp id fun x => x.2)
   simp only [cond_true]
   cases leB b (r + v1) with
   | true => exact ⟨_, hs⟩
   | false => exact ot h hW hV n _ _ hs
theorem JS {A V : Int} {v u q : List Int} {m j : Nat} (hv : z8 1000000000 v) (hV : zX 1000000000 v = V) (hn : 2 ≤ v.length) (h1 : 0 < v.getD (v.length - 1) 0) (hj : j < m) (h : w9 1000000000 A V v.length m (j + 1) q u) :
  (0 ≤ vg 1000000000 u v j ∧ vg 1000000000 u v j ≤ 2000000000 ∧ zX 1000000000 (u.drop j) < (vg 1000000000 u v j + 1) * V) ∧ u.getD (j + v.length) 0 ≤ v.getD (v.length - 1) 0 := by
 obtain ⟨k, hk⟩ : ∃ k, v.length = k + 2 := ⟨v.length - 2, by omega⟩
 have hc := h.est (by omega) hv hV hk (by rw [show k + 1 = v.length - 1 by omega]; exact h1) hj
 obtain ⟨w0, w1⟩ := h.win (by omega) (by omega) hj
 have hV0 : 0 < V := by
  refine Decidable.byContradiction fun hn => ?_
  have : 1000000000 * V ≤ 0 := by omega
  omega
 obtain ⟨r', hr⟩ := ot hc w1 hV0 ((u.getD (j + v.length) 0 * 1000000000 + u.getD (j + v.length - 1) 0).tdiv (v.getD (v.length - 1) 0)).toNat _ _ hc.start
 have hF : vg 1000000000 u v j = uh 1000000000 (u.getD (j + k) 0) (v.getD (k + 1) 0) (v.getD k 0) ((u.getD (j + v.length) 0 * 1000000000 + u.getD (j + v.length - 1) 0).tdiv (v.getD (v.length - 1) 0)).toNat
   ((u.getD (j + (k + 2)) 0 * 1000000000 + u.getD (j + (k + 1)) 0).tdiv (v.getD (k + 1) 0)) ((u.getD (j + (k + 2)) 0 * 1000000000 + u.getD (j + (k + 1)) 0).tmod (v.getD (k + 1) 0)) := by
  unfold vg
  rw [hk, show j + (k + 2) - 2 = j + k by omega, show j + (k + 2) - 1 = j + (k + 1) by omega, show k + 2 - 1 = k + 1 by omega, show k + 2 - 2 = k by omega]
 rw [← hF] at hr
 have := hr.le
 have a0 := hc.hu0.2
 rw [hk, show k + 2 - 1 = k + 1 by omega]
 exact ⟨⟨hr.q0, by omega, hr.lt⟩, a0⟩
theorem OM {x : List Int} (hx : z8 1000000000 x) {f : Int} (hf : 0 ≤ f) : vS x [f] = zw 1000000000 (zX 1000000000 x * f).toNat ∧ zX 1000000000 (vS x [f]) = zX 1000000000 x * f ∧ z8 1000000000 (vS x [f]) := by
 have v0 := zK (b := 1000000000) (by omega) hx
 have e : vS x [f] = zw 1000000000 (zX 1000000000 x * f).toNat := by unfold vS; rw [lj]
 refine ⟨e, ?_, by rw [e]; exact y9 (b := 1000000000) (by omega) _⟩
 rw [e, show zX 1000000000 (zw 1000000000 (zX 1000000000 x * f).toNat) = ((zX 1000000000 x * f).toNat : Int) from yz (b := 1000000000) (by omega) _, Int.toNat_of_nonneg (Int.mul_nonneg v0 hf)]
theorem LO {y : List Int} (hy : z8 1000000000 y) (ty : zO y = y) (hn : y.length ≠ 0) :
  0 < W7 y ∧ W7 y ≤ 500000000 ∧ (vS y [W7 y]).length = y.length ∧ z8 1000000000 (vS y [W7 y]) ∧ zX 1000000000 (vS y [W7 y]) = zX 1000000000 y * W7 y ∧ 0 < (vS y [W7 y]).getD (y.length - 1) 0 ∧
  (1000000000 : Int) ^ (y.length - 1) ≤ zX 1000000000 y * W7 y ∧ 0 < zX 1000000000 y := by
 have g := hy.get (by omega) (y.length - 1)
 have g1 : y.getD (y.length - 1) 0 ≠ 0 := (sF ty).resolve_left hn
 have hF : W7 y = (1000000000 : Int).tdiv (y.getD (y.length - 1) 0 + 1) := rfl
 obtain ⟨e, m0, m1, d0⟩ := kV (n := 1000000000) (b := y.getD (y.length - 1) 0 + 1) (by omega) (by omega)
 rw [← hF] at e d0
 have ee : y = zw 1000000000 (zX 1000000000 y).toNat := YO (b := 1000000000) (by omega) hy ty
 have y0 := zK (b := 1000000000) (by omega) hy
 have t1 := xp (b := 1000000000) (by omega) hy (y.length - 1)
 have e3 : zX 1000000000 y = zX 1000000000 (y.take (y.length - 1)) + 1000000000 ^ (y.length - 1) * y.getD (y.length - 1) 0 := by
  rw [← Zq, List.take_of_length_le (by omega)]
 have pp : (0 : Int) < 1000000000 ^ (y.length - 1) := Int.pow_pos (by omega)
 have hpow : (1000000000 : Int) ^ y.length = 1000000000 ^ (y.length - 1) * 1000000000 := by
  obtain ⟨n, hn'⟩ : ∃ n, y.length = n + 1 := ⟨y.length - 1, by omega⟩
  rw [hn', show n + 1 - 1 = n by omega]
  exact Int.pow_succ _ _
 generalize W7 y = f at *
 generalize y.getD (y.length - 1) 0 = t at *
 have f1 : 0 < f := by
  refine Decidable.byContradiction fun hf => ?_
  have : f = 0 := by omega
  subst this
  omega
 have f2 : f ≤ 500000000 := by
  have : 2 * f ≤ (t + 1) * f := Int.mul_le_mul_of_nonneg_right (by omega) (by omega)
  omega
 obtain ⟨p1, p2, p3⟩ := OM hy (f := f) (by omega)
 have y1 : (1000000000 : Int) ^ (y.length - 1) ≤ zX 1000000000 y := by
  have : (1000000000 : Int) ^ (y.length - 1) * 1 ≤ 1000000000 ^ (y.length - 1) * t := Int.mul_le_mul_of_nonneg_left (by omega) (by omega)
  omega
 have yf : zX 1000000000 y ≤ zX 1000000000 y * f := by
  have : zX 1000000000 y * 1 ≤ zX 1000000000 y * f := Int.mul_le_mul_of_nonneg_left (by omega) (by omega)
  omega
 have yu : zX 1000000000 y * f < 1000000000 ^ y.length := by
  have a1 : zX 1000000000 y * f < (1000000000 ^ (y.length - 1) * (t + 1)) * f := Int.mul_lt_mul_of_pos_right (by rw [Int.mul_add]; omega) f1
  have a2 : (1000000000 : Int) ^ (y.length - 1) * ((t + 1) * f) ≤ 1000000000 ^ (y.length - 1) * 1000000000 := Int.mul_le_mul_of_nonneg_left (by omega) (by omega)
  rw [hpow]
  rw [Int.mul_assoc] at a1
  omega
 have hlen : (vS y [f]).length = y.length := by
  refine Nat.le_antisymm ?_ ?_
  ·rw [p1]
   refine yU (b := 1000000000) (by omega) ?_
   rw [Int.toNat_of_nonneg (by omega)]
   exact yu
  ·have := Zu (b := 1000000000) (m := (zX 1000000000 y).toNat) (n := (zX 1000000000 y * f).toNat) (by omega) (by omega)
   rw [← ee, ← p1] at this
   exact this
 refine ⟨f1, f2, hlen, p3, p2, ?_, by omega, by omega⟩
 have g2 := p3.get (by omega) (y.length - 1)
 have := vE (b := 1000000000) (n := (zX 1000000000 y * f).toNat) (by omega) (by omega)
 rw [← p1, hlen] at this
 omega
theorem QB {P : List Int} {z i : Nat} (h : P.length ≤ i) : (P ++ [0] ++ List.replicate z 0).getD i 0 = 0 := by
 rw [List.append_assoc, List.getD_eq_getElem?_getD, List.getElem?_append_right h]
 have : [(0 : Int)] ++ List.replicate z 0 = List.replicate (z + 1) 0 := rfl
 rw [this, List.getElem?_replicate]
 split <;> rfl
theorem mh {P : List Int} {n m z : Nat} {V : Int} (hP : z8 1000000000 P) (hn : 0 < n) (hl : P.length + 1 + z = m + n) (hV : (1000000000 : Int) ^ (n - 1) ≤ V) :
  zX 1000000000 ((P ++ [0] ++ List.replicate z 0).drop m) < V ∧ zX 1000000000 (P ++ [0] ++ List.replicate z 0) = zX 1000000000 P ∧ z8 1000000000 (P ++ [0] ++ List.replicate z 0) ∧ (P ++ [0] ++ List.replicate z 0).length = m + n := by
 have hU : z8 1000000000 (P ++ [0] ++ List.replicate z 0) := (hP.app (.one (by omega) (by omega))).app (.zeros (by omega) _)
 refine ⟨?_, ?_, hU, by simp; omega⟩
 ·rw [X0 (n := n - 1) fun i hi => by rw [yq]; exact QB (by omega)]
  have := (xp (b := 1000000000) (by omega) (hU.drop m) (n - 1)).2
  omega
 ·rw [List.append_assoc, VR, show [(0 : Int)] ++ List.replicate z 0 = List.replicate (z + 1) 0 from rfl, wj, Int.mul_zero, Int.add_zero]
theorem fC {l : List Int} {n : Nat} (h : n = l.length) : Zy Int (AV.xl false 1 n fun i j => AV.v (Value.int IntKind.i64 (l.getD i 0))) = true ∧ zW (AV.xl false 1 n fun i j => AV.v (Value.int IntKind.i64 (l.getD i 0))) = l := by
 subst h
 exact ⟨fN _ l, EQ _ l⟩
def UK : List AV → Option (List zn × AV)
 | [x_x, x_y] => some ([.b (Zy Int x_x), .b (Zy Int x_y), .p (z8 1000000000 (zW x_x)), .p (z8 1000000000 (zW x_y)), .p (zO (zW x_x) = (zW x_x)), .p (zO (zW x_y) = (zW x_y)), .p ((zW x_y).length ≠ 0), .p ((zW x_x).length ≤ 100000000), .p ((zW x_y).length ≤ 100000000)], .tup 2 (zt [ZF (zw 1000000000 ((zX 1000000000 (zW x_x)).toNat / (zX 1000000000 (zW x_y)).toNat)), ZF (zw 1000000000 ((zX 1000000000 (zW x_x)).toNat % (zX 1000000000 (zW x_y)).toNat))]))
 | _ => none
theorem lh (x : List Int) (y : List Int) (hx : z8 1000000000 x) (hy : z8 1000000000 y) (tx : zO x = x) (ty : zO y = y) (hn : y.length ≠ 0) (hlx : x.length ≤ 100000000) (hly : y.length ≤ 100000000) :
 let q2 := (xI x); let q1 := (Zy Int q2); let q4 := (xI y); let q3 := (Zy Int q4); let q6 := (zW q2); let q5 := (∀ (x_1 : Int), List.Mem x_1 q6 → iZ ≤ x_1 ∧ x_1 < iB); let q8 := (zW q4); let q7 := (∀ (x : Int), List.Mem x q8 → iZ ≤ x ∧ x < iB); let q9 := (zw 1000000000 (Int.toNat (zX iB x) / Int.toNat (zX iB y))); let q11 := (zw
 1000000000 (Int.toNat (zX iB x) % Int.toNat (zX iB y))); let q10 := (xI q11); let q13 := (zX iB q6); let q12 := (zw 1000000000 (Int.toNat q13 / Int.toNat (gD y 0 zi.dflt))); let q14 := (xI q9); let q15 := (zw 1000000000 (Int.toNat q13 % Int.toNat (gD y 0 zi.dflt))); let q17 := (Int.toNat ((lZ y) - iO)); let q16 := (gD y
 q17 zi.dflt + iO); let q18 := (Int.tdiv iB q16); let q20 := (Value.int .i64 q18); let q19 := (∀ (x : Int), List.Mem x (zW (AV.xl true 1 1 (Sx.rowAt [fun (x : Nat) => AV.v q20]))) → iZ ≤ x ∧ x < iB); let q21 := (zW (AV.xl true 1 1 (Sx.rowAt [fun (x : Nat) => AV.v q20]))); let q23 := (vS q6 q21); let q22 := (lN q23 + 1); let q25 := (OB.arr 3 1 q22 fun (a b : Nat) => if a < lN q23 then aI (gD q23 a iZ) else Sx.rowAt [fun (x : Nat) => aI iZ] (a - lN q23) b);
 let q24 := (Zj q25); let q26 := (kI ∧ Int.tdiv iB q16 = Int.tdiv iB q16); let q28 := (vS q8 q21); let q27 := ((((50 = 50 ∧ 1 = 1 ∧ Value.slice (wP Addr) 0 0 = Array.getD (Value.cells (Value.slice (wP Addr) 0 0)) (nat_lit 0) undef) ∧ True) ∧ True) ∧ 3 = 3 ∧ 1 = 1 ∧ lN q28 = lN q28 ∧ ∀ (i j : Nat), i < lN q28 → j < 1 → kI ∧ gD q28 i iZ = gD q28 i iZ); let q36 := (lN q28); let q35 := (cI q36); let q39 := (max (lN (vS x [W7 y]) + 1) (lN x +
 1) - lN y); let q45 := (AV.xl false 1 q36 fun i j => aI (gD q28 (0 + i) iZ)); let q44 := (Zy Int q45); let q48 := (zW q45); let q49 := (lN q48 - 1); let q55 := (q35 + iO); let q54 := (dK q55); let q56 := (Zj (OB.arr (3 : TypeId) 1 q36 fun (i x : Nat) => AV.v (Value.int .i64 (gD (vS q8 (zW (AV.xl true 1 1 (Sx.rowAt [fun (x : Nat) => AV.v q20])))) i iZ)))); let q58 := (nat_lit 3 = 3 ∧ 0 = 0 ∧ lN q28 = lN q28); let q59 := (kI ∧ q35 + iO = q35 + iO);
 ZY [xI x, xI y] → bF q1 (bF q3 (q5 ∧ q7 ∧ zY (zH (cmpL q6 q8) iZ) (j2 ∧ (True ∧ Value.slice (wP Addr) 0 0 = Value.slice (wP Addr) 0 0 ∧ lN q9 = 0) ∧ zB q2 q10) (zY ((lZ y) == iO) (bF (DB.db (iZ ≤ iZ ∧ iZ < (lZ y))) (bF q1 (q5 ∧ (iZ < gD y 0 zi.dflt ∧ gD y 0 zi.dflt ≤
 iB) ∧ lN q6 ≤ 1000000000 ∧ j2 ∧ (True ∧ zB (xI q12) q14) ∧ zB (xI q15) q10))) (bF (dK ((lZ y) - iO)) (bF (DB.db (iZ ≤ (lZ y) - iO ∧ (lZ y) - iO < (lZ y))) (bF (dK q16) (bF (DB.db (gD y q17 zi.dflt + iO
 ≠ iZ)) (bF (dK q18) (bF q1 (q5 ∧ q19 ∧ lN q6 ≤ 1000000000 ∧ lN q21 ≤ 1000000000 ∧ bF (DB.db (q22 * 8 ≤ 140737488355328)) (bF q3 (q7 ∧ q19 ∧ lN q8 ≤ 1000000000 ∧ lN q21 ≤ 1000000000 ∧ (∃ (z : Nat), let q29 := (Zj q25 ++ List.replicate z iZ); ((z = 0 ∨ lN q24 + z ≤ lN x + 1) ∧ zB q2 q2 ∧ (nat_lit 0 = 0 ∧ 0 = 0) ∧ q26 ∧ (nat_lit 4 = 4 ∧ 0 = 0) ∧ (nat_lit 5 = 5 ∧ 0 = 0) ∧ True ∧ True) ∧ ((q27 ∧ (50 : TypeId) = 50 ∧ 1 = 1 ∧ nat_lit 6 = 6 ∧ 0 = 0 ∧ lN q24 + z = lN q23 + 1) ∧ 50 =
 50 ∧ 1 = 1 ∧ nat_lit 3 = 3 ∧ 0 = 0 ∧ lN q28 = lN q28) ∧ (3 : TypeId) = 3 ∧ 1 = 1 ∧ lN q29 = lN q23 + 1 ∧ ∀ (i j : Nat), i < lN q23 + 1 → j < 1 → zB (if i < lN q23 then aI (gD q23 i iZ) else Sx.rowAt [fun (x : Nat) => aI iZ] (i - lN q23) j) (aI (gD q29 i iZ))) ∧ ∀ (z : Nat), let q31 := (lN q24 + z); let q30 := (cI q31); let q33 := (Zj q25 ++ List.replicate z iZ); let q34 := (q30 - q35); let q38 := (Int.toNat q34); let
 q37 := (cI q38); let q40 := ((((((50 = 50 ∧ 1 = 1 ∧ nat_lit 7 = 7 ∧ 0 = 0 ∧ Int.toNat q34 = Int.toNat q34) ∧ True) ∧ True) ∧ 3 = 3 ∧ 1 = 1 ∧ lN q28 = lN q28 ∧ ∀ (i j : Nat), i < lN q28 → j < 1 → kI ∧ gD q28 i iZ = gD q28 i iZ) ∧ 50 = 50 ∧ 1 = 1 ∧ nat_lit 6 = 6 ∧ 0 = 0 ∧ lN q24 + z = lN q24 + z) ∧ 50 = 50 ∧ 1 = 1 ∧ nat_lit 3 = 3 ∧ 0 = 0 ∧ lN q28 = lN q28); let q57 := (nat_lit 6 = 6 ∧ 0 = 0 ∧ lN q24 + z = lN q24 + z); z = 0 ∨ lN q24 + z ≤ lN x + 1 →
 bF (dK ((lZ x) + iO)) (zY (zH q30 ((lZ x) + iO)) (bF (DB.db ((lN q24 + z + 1) * 8 ≤ 140737488355328)) (∃ (z' : Nat), let q32 := (Zj q25 ++ List.replicate z' iZ); (((z' = 0 ∨ lN q24 + z' ≤ lN x + 1) ∧ lN x + 1 - lN q24 - z' < lN x + 1 - lN q24 - z) ∧ zB q2 q2 ∧ (nat_lit 0 = 0 ∧ 0 = 0) ∧ q26 ∧ (nat_lit 4 = 4 ∧ 0 = 0) ∧ (nat_lit 5 = 5 ∧ 0 = 0) ∧ True ∧ True) ∧ ((q27 ∧ 50 = 50 ∧ 1 = 1 ∧ nat_lit 6 = 6 ∧ 0 = 0 ∧ lN q24 + z' = lN q24
 + z + 1) ∧ 50 = 50 ∧ 1 = 1 ∧ nat_lit 3 = 3 ∧ 0 = 0 ∧ lN q28 = lN q28) ∧ (3 : TypeId) = 3 ∧ 1 = 1 ∧ lN q32 = lN q24 + z + 1 ∧ ∀ (i j : Nat), i < lN q24 + z + 1 → j < 1 → zB (if i < lN q24 + z then aI (gD q33 i iZ) else Sx.rowAt [fun (x : Nat) => aI iZ] (i - q31) j) (aI (gD q32 i iZ)))) (bF (dK q34) (bF (DB.db (iZ ≤ q30 - q35 ∧ q30 - q35 ≤ q30 - q35 ∧ (↑8 : Int) * q34 ≤ (140737488355328 : Int))) (bF (DB.db (Y1
 .i64 (q37 - iO))) ((∃ (z_1 : Z7), ((w9 iB (zX iB x * W7 y) (zX iB y * W7 y) (lN y) q39 (Z7.j z_1) (Z7.q z_1) (Z7.u z_1) ∧ Z7.j z_1 ≤ max (lN (vS x [W7 y]) + 1) (lN x + 1) - lN y) ∧ nat_lit 9 = 9 ∧ (nat_lit 8 = 8 ∧ 0 = 0) ∧ kI ∧ q37 - iO = (cI (Z7.j z_1)) - iO) ∧ (((q40 ∧ 3 = 3 ∧ 1 = 1 ∧ lN (Z7.u z_1) = lN q33 ∧ ∀ (i j : Nat), i < lN q33 → j < 1 → kI ∧ gD q33 i iZ = gD (Z7.u z_1) i iZ)
 ∧ (3 : TypeId) = 3 ∧ 1 = 1 ∧ lN (Z7.q z_1) = Int.toNat q34 ∧ ∀ (i j : Nat), i < Int.toNat q34 → j < 1 → zB (ZD (Value.int .i64 iZ) j) (aI (gD (Z7.q z_1) i iZ))) ∧ 50 = 50 ∧ 1 = 1 ∧ nat_lit 7 = 7 ∧ 0 = 0 ∧ Int.toNat q34 = Int.toNat q34) ∧ lR) ∧ ∀ (z_1 : Z7), let q41 := (DB.db (iZ ≤ (cI (Z7.j z_1)) - iO ∧ (cI (Z7.j z_1)) - iO < q37)); let q43 := (AV.xl false 1 q31 fun i j => aI (gD (Z7.u z_1) (0 + i) iZ)); let q42 := (Zy
 Int q43); let q46 := (zW q43); let q51 := (Int.toNat (AV.int (aI ((cI (Z7.j z_1)) - iO)))); let q52 := (Zj (OB.arr (3 : TypeId) 1 (lN (Z7.u z_1)) fun (i x : Nat) => aI (gD (Z7.u z_1) i iZ))); let q50 := (List.drop q51 q52); let q53 := (kI ∧ (cI (Z7.j z_1)) - iO = (cI (Z7.j z_1)) - iO); let q77 := (zO q46); let q76 := (xI q77); let q78 := (zW q76); let q79 := (AV.xl false 1 q38 fun i
 j => aI (gD (Z7.q z_1) (0 + i) iZ)); let q80 := (zO (zW q79)); let q81 := (zw 1000000000 (Int.toNat (zX iB q78) / Int.toNat q18)); w9 iB (zX iB x * W7 y) (zX iB y * W7 y) (lN y) q39 (Z7.j z_1) (Z7.q z_1) (Z7.u z_1) ∧ Z7.j z_1 ≤ max (lN (vS x [W7 y]) + 1) (lN x + 1) - lN y → zY (leB iZ ((cI (Z7.j z_1)) - iO)) (bF q41 (bF q42 (bF q44 ((∀ (x_1 : Int), List.Mem x_1 q46 → iZ ≤ x_1 ∧ x_1 < (1000000000
 : Int)) ∧ (∀ (x : Int), let q47 := (vS q8 (zW (AV.xl true 1 1 (Sx.rowAt [fun (x : Nat) => AV.v q20])))); List.Mem x (zW (AV.xl false 1 (lN q47) fun i j => aI (gD q47 (0 + i) iZ))) → iZ ≤ x ∧ x < iB) ∧ 2 ≤ lN q48 ∧ lN q48 ≤ 1000000000 ∧ (iZ ≤ (cI (Z7.j z_1)) - iO ∧ (cI (Z7.j z_1)) - iO + (lZ q48) < (lZ q46)) ∧ iZ < gD q48 q49 iZ ∧ gD q46 (Int.toNat ((cI (Z7.j z_1)) - iO) + lN q48) iZ
 ≤ gD q48 q49 iZ ∧ (∃ (z_2 : Int), ((iZ ≤ z_2 ∧ z_2 ≤ (2000000000 : Int) ∧ zX iB q50 < (z_2 + iO) * (zX iB y * W7 y)) ∧ (nat_lit 0 = 0 ∧ 0 = 0) ∧ q26 ∧ (nat_lit 4 = 4 ∧ 0 = 0) ∧ (nat_lit 5 = 5 ∧ 0 = 0) ∧ q53 ∧ kI ∧ vg iB q46 q48 (Int.toNat ((cI (Z7.j z_1)) - iO)) = z_2) ∧ (((q40 ∧ 3 = 3 ∧ 1 = 1 ∧ lN (Z7.u z_1) = lN (Z7.u z_1) ∧ ∀ (i j : Nat), i < lN (Z7.u z_1) → j < 1 → kI ∧ gD (Z7.u z_1) i iZ = gD (Z7.u z_1) i (0 :
 Int)) ∧ 3 = 3 ∧ 1 = 1 ∧ lN (Z7.q z_1) = lN (Z7.q z_1) ∧ ∀ (i j : Nat), i < lN (Z7.q z_1) → j < 1 → kI ∧ gD (Z7.q z_1) i iZ = gD (Z7.q z_1) i iZ) ∧ 50 = 50 ∧ 1 = 1 ∧ nat_lit 7 = 7 ∧ 0 = 0 ∧ Int.toNat q34 = Int.toNat q34) ∧ LoopState.busy = LoopState.busy ∧ wP Code = wP Code) ∧ ∀ (z_2 : Int), iZ ≤ z_2 ∧ z_2 ≤ (2000000000 : Int) ∧ zX iB q50 < (z_2 + iO) * (zX iB y * W7 y) → bF q54 ((∃ (z_3 : ZC), ((Wu iB q52 q56 q51 (AV.int (AV.v (Value.int .i64
 z_2))) (ZC.i z_3) (ZC.w z_3) (ZC.c z_3) ∧ ZC.i z_3 ≤ lN q56 + 1) ∧ q57 ∧ q58 ∧ q53 ∧ (kI ∧ z_2 = z_2) ∧ q59 ∧ (kI ∧ iZ = ZC.c z_3) ∧ kI ∧ iZ = (cI (ZC.i z_3))) ∧ (((q40 ∧ 3 = 3 ∧ 1 = 1 ∧ lN (ZC.w z_3) = lN (Z7.u z_1) ∧ ∀ (i j : Nat), i < lN (Z7.u z_1) → j < 1 → kI ∧ gD (Z7.u z_1) i iZ = gD (ZC.w z_3) i iZ) ∧ 3 = 3 ∧ 1 = 1 ∧ lN (Z7.q z_1) = lN (Z7.q z_1) ∧ ∀ (i j : Nat), i < lN (Z7.q z_1) → j < 1 → IntKind.i64 =
 .i64 ∧ gD (Z7.q z_1) i iZ = gD (Z7.q z_1) i iZ) ∧ 50 = 50 ∧ 1 = 1 ∧ nat_lit 7 = 7 ∧ 0 = 0 ∧ Int.toNat q34 = Int.toNat q34) ∧ LoopState.busy = LoopState.busy ∧ wP Code = wP Code) ∧ ∀ (z_3 : ZC), let q61 := ((cI (Z7.j z_1)) - iO + (cI (ZC.i z_3))); let q60 := (dK q61); let q62 := (DB.db (iZ ≤ (cI (Z7.j z_1)) - iO + (cI (ZC.i z_3)) ∧ (cI (Z7.j z_1)) - iO + (cI (ZC.i z_3)) < q30)); let q63 := (0 + Int.toNat q61); let q64 := (gD (ZC.w z_3) q63 iZ - ZC.c z_3 - z_2 * gD q48
 (Int.toNat (cI (ZC.i z_3))) iZ); let q65 := (-q64 + iB - iO); let q66 := (gD (ZC.w z_3) q63 iZ - ZC.c z_3 - z_2 * gD q48 (Int.toNat (cI (ZC.i z_3))) iZ + Int.tdiv q65 iB * iB); let q67 := (dK ((cI (ZC.i z_3)) + iO)); let q68 := (gD (ZC.w z_3) q63 iZ - ZC.c z_3 - z_2 * gD q48 (Int.toNat (cI (ZC.i z_3))) iZ + iZ * iB); let q69 := (Zj (OB.arr (3 : TypeId) 1 (lN (ZC.w z_3)) fun (i x : Nat) => AV.v
 (Value.int .i64 (gD (ZC.w z_3) i iZ)))); Wu iB q52 q56 q51 (AV.int (aI z_2)) (ZC.i z_3) (ZC.w z_3) (ZC.c z_3) ∧ ZC.i z_3 ≤ lN q56 + 1 → zY (zH (cI (ZC.i z_3)) q55) (bF q60 (bF q62 (bF (dK (gD (ZC.w z_3) q63 iZ - ZC.c z_3)) (bF q44 (iZ ≤ (cI (ZC.i z_3)) ∧ bF (dK (z_2 * gD q48 (Int.toNat (cI (ZC.i z_3))) iZ)) (bF (dK q64) (zY (zH q64 iZ) (bF (dK (-q64)) (bF (DB.db (Y1 .i64
 (-q64 + iB))) (bF (dK q65) (bF (dK (Int.tdiv q65 iB)) (bF q60 (bF (dK (Int.tdiv q65 iB * iB)) (bF (dK q66) (bF q62 (bF q67 (∃ (z' : ZC), (((Wu iB q52 q56 q51 (AV.int (aI z_2)) (ZC.i z') (ZC.w z') (ZC.c z') ∧ ZC.i z' ≤ lN q56 + 1) ∧ lN q56 + 1 - ZC.i z' < lN q56 + 1 - ZC.i z_3) ∧ q57 ∧ q58 ∧ q53 ∧ (kI ∧ z_2 = z_2) ∧ q59 ∧ (kI ∧ Int.tdiv q65
 iB = ZC.c z') ∧ kI ∧ (cI (ZC.i z_3)) + iO = (cI (ZC.i z'))) ∧ (((q40 ∧ 3 = 3 ∧ 1 = 1 ∧ lN (ZC.w z') = lN (ZC.w z_3) ∧ ∀ (i j : Nat), i < lN (ZC.w z_3) → j < 1 → zB (if i = 0 + Int.toNat q61 ∧ 0 ≤ j ∧ j < 1 then aI q66 else aI (gD (ZC.w z_3) i iZ)) (aI (gD (ZC.w z') i iZ))) ∧ 3 = 3 ∧ 1 = 1 ∧ lN (Z7.q z_1) = lN (Z7.q z_1) ∧ ∀ (i j : Nat), i < lN (Z7.q z_1) → j < 1 → kI ∧ List.getD
 (Z7.q z_1) i iZ = gD (Z7.q z_1) i iZ) ∧ 50 = 50 ∧ 1 = 1 ∧ nat_lit 7 = 7 ∧ 0 = 0 ∧ Int.toNat q34 = Int.toNat q34) ∧ LoopState.busy = LoopState.busy ∧ wP Code = wP Code)))))))))) (bF q60 (bF (dK q68) (bF q62 (bF q67 (∃ (z' : ZC), (((Wu iB q52 q56 q51 (AV.int (aI z_2)) (ZC.i z') (ZC.w z') (ZC.c z') ∧ ZC.i z' ≤ lN q56 + 1) ∧ lN q56 + 1 - ZC.i z' < lN q56 + 1 - ZC.i z_3) ∧ q57 ∧ q58 ∧ q53 ∧ (kI ∧ z_2 = z_2)
 ∧ q59 ∧ (kI ∧ iZ = ZC.c z') ∧ kI ∧ (cI (ZC.i z_3)) + iO = (cI (ZC.i z'))) ∧ (((q40 ∧ 3 = 3 ∧ 1 = 1 ∧ lN (ZC.w z') = lN (ZC.w z_3) ∧ ∀ (i j : Nat), i < lN (ZC.w z_3) → j < 1 → zB (if i = 0 + Int.toNat q61 ∧ 0 ≤ j ∧ j < 1 then aI q68 else aI (gD (ZC.w z_3) i iZ)) (aI (gD (ZC.w z') i iZ))) ∧ 3 = 3 ∧ 1 = 1 ∧ lN (Z7.q z_1) = lN (Z7.q z_1) ∧ ∀ (i j : Nat), i < lN (Z7.q z_1) → j < 1 → IntKind.i64 =
 .i64 ∧ gD (Z7.q z_1) i iZ = gD (Z7.q z_1) i iZ) ∧ 50 = 50 ∧ 1 = 1 ∧ nat_lit 7 = 7 ∧ 0 = 0 ∧ Int.toNat q34 = Int.toNat q34) ∧ LoopState.busy = LoopState.busy ∧ wP Code = wP Code)))))))))))) (zY (zH iZ (ZC.c z_3)) (bF q54 ((∃ (z_4 : ZC), ((uu iB q69 q56 q51 (AV.int (aI z_2)) (ZC.i z_4) (ZC.w z_4) (ZC.c z_4) ∧ ZC.i z_4 ≤ lN q56 + 1) ∧ q57 ∧ q58 ∧ q53 ∧ (kI ∧ z_2 = z_2) ∧ q59 ∧ (kI ∧ iZ = ZC.c z_4) ∧
 kI ∧ iZ = (cI (ZC.i z_4))) ∧ (((q40 ∧ 3 = 3 ∧ 1 = 1 ∧ lN (ZC.w z_4) = lN (ZC.w z_3) ∧ ∀ (i j : Nat), i < lN (ZC.w z_3) → j < 1 → kI ∧ gD (ZC.w z_3) i iZ = gD (ZC.w z_4) i iZ) ∧ 3 = 3 ∧ 1 = 1 ∧ lN (Z7.q z_1) = lN (Z7.q z_1) ∧ ∀ (i j : Nat), i < lN (Z7.q z_1) → j < 1 → kI ∧ gD (Z7.q z_1) i iZ = gD (Z7.q z_1) i iZ) ∧ 50 = 50 ∧ 1 = 1 ∧ nat_lit 7 = 7 ∧ 0 = 0 ∧ Int.toNat q34 = Int.toNat q34) ∧ LoopState.busy =
 LoopState.busy ∧ wP Code = wP Code) ∧ ∀ (z_4 : ZC), let q71 := ((cI (Z7.j z_1)) - iO + (cI (ZC.i z_4))); let q70 := (dK q71); let q72 := (DB.db (iZ ≤ (cI (Z7.j z_1)) - iO + (cI (ZC.i z_4)) ∧ (cI (Z7.j z_1)) - iO + (cI (ZC.i z_4)) < q30)); let q74 := (0 + Int.toNat q71); let q75 := (gD (ZC.w z_4) q74 iZ + z_2 * gD q48 (Int.toNat (cI (ZC.i z_4))) iZ + ZC.c z_4); let q73 := (iZ ≤ (cI (ZC.i z_4)) ∧ bF (dK (z_2 * gD q48 (Int.toNat (cI (ZC.i z_4))) (0
 : Int))) (bF (dK (gD (ZC.w z_4) q74 iZ + z_2 * gD q48 (Int.toNat (cI (ZC.i z_4))) iZ)) (bF (dK q75) (bF q70 (bF (dK (Int.tdiv q75 iB)) (bF q72 (bF (dK ((cI (ZC.i z_4)) + iO)) (∃ (z' : ZC), (((uu iB q69 q56 q51 (AV.int (aI z_2)) (ZC.i z') (ZC.w z') (ZC.c z') ∧ ZC.i z' ≤ lN q56 + 1) ∧ lN q56 + 1 - ZC.i z' < lN q56 + 1 - ZC.i z_4) ∧ q57 ∧ q58 ∧ q53 ∧ (kI ∧ z_2 = z_2) ∧
 q59 ∧ (kI ∧ Int.tdiv q75 iB = ZC.c z') ∧ kI ∧ (cI (ZC.i z_4)) + iO = (cI (ZC.i z'))) ∧ (((q40 ∧ 3 = 3 ∧ 1 = 1 ∧ lN (ZC.w z') = lN (ZC.w z_4) ∧ ∀ (i j : Nat), i < lN (ZC.w z_4) → j < 1 → zB (if i = 0 + Int.toNat q71 ∧ 0 ≤ j ∧ j < 1 then aI (Int.tmod q75 iB) else aI (gD (ZC.w z_4) i iZ)) (aI (gD (ZC.w z') i iZ))) ∧ 3 = 3 ∧ 1 = 1 ∧ lN (Z7.q z_1) = lN (Z7.q z_1) ∧ ∀ (i j : Nat), i <
 lN (Z7.q z_1) → j < 1 → kI ∧ gD (Z7.q z_1) i iZ = gD (Z7.q z_1) i iZ) ∧ 50 = 50 ∧ 1 = 1 ∧ nat_lit 7 = 7 ∧ 0 = 0 ∧ Int.toNat q34 = Int.toNat q34) ∧ LoopState.busy = LoopState.busy ∧ wP Code = wP Code)))))))); uu iB q69 q56 q51 (AV.int (aI z_2)) (ZC.i z_4) (ZC.w z_4) (ZC.c z_4) ∧ ZC.i z_4 ≤ lN q56 + 1 → zY (zH (cI (ZC.i z_4)) q55) (bF q70 (bF q72 (bF q44 q73 ∧ bF q44 q73))) (bF (DB.db (Y1 .i64
 (z_2 - iO))) (∃ (z' : Int), (((iZ ≤ z' ∧ z' ≤ (2000000000 : Int) ∧ zX iB q50 < (z' + iO) * (zX iB y * W7 y)) ∧ Int.toNat z' < Int.toNat z_2) ∧ (nat_lit 0 = 0 ∧ 0 = 0) ∧ q26 ∧ (nat_lit 4 = 4 ∧ 0 = 0) ∧ (nat_lit 5 = 5 ∧ 0 = 0) ∧ q53 ∧ kI ∧ z_2 - iO = z') ∧ (((q40 ∧ 3 = 3 ∧ 1 = 1 ∧ lN (Z7.u z_1) = lN (ZC.w z_4) ∧ ∀ (i j : Nat), i < lN (ZC.w z_4) → j < 1 → kI ∧ gD (ZC.w z_4) i iZ = gD (Z7.u z_1) i iZ) ∧ 3 = 3 ∧ 1 = 1 ∧ lN (Z7.q z_1) =
 lN (Z7.q z_1) ∧ ∀ (i j : Nat), i < lN (Z7.q z_1) → j < 1 → kI ∧ gD (Z7.q z_1) i iZ = gD (Z7.q z_1) i iZ) ∧ 50 = 50 ∧ 1 = 1 ∧ nat_lit 7 = 7 ∧ 0 = 0 ∧ Int.toNat q34 = Int.toNat q34) ∧ LoopState.busy = LoopState.busy ∧ wP Code = wP Code)))) (bF q41 (bF (dK ((cI (Z7.j z_1)) - iO - iO)) (∃ (z' : Z7), (((w9 iB (zX iB x * W7 y) (zX iB y * W7 y) (lN y) q39 (Z7.j z') (Z7.q z') (Z7.u z') ∧ Z7.j z' ≤ max (List.length
 (vS x [W7 y]) + 1) (lN x + 1) - lN y) ∧ Z7.j z' < Z7.j z_1) ∧ nat_lit 9 = 9 ∧ (nat_lit 8 = 8 ∧ 0 = 0) ∧ kI ∧ (cI (Z7.j z_1)) - iO - iO = (cI (Z7.j z')) - iO) ∧ (((q40 ∧ 3 = 3 ∧ 1 = 1 ∧ lN (Z7.u z') = lN (ZC.w z_3) ∧ ∀ (i j : Nat), i < lN (ZC.w z_3) → j < 1 → kI ∧ gD (ZC.w z_3) i iZ = gD (Z7.u z') i iZ) ∧ 3 = 3 ∧ 1 = 1 ∧ lN (Z7.q z') = lN (Z7.q z_1) ∧ ∀ (i j : Nat), i < lN (Z7.q z_1) → j < 1 → zB (if i = 0 + Int.toNat
 ((cI (Z7.j z_1)) - iO) ∧ 0 ≤ j ∧ j < 1 then aI z_2 else aI (gD (Z7.q z_1) i iZ)) (aI (gD (Z7.q z') i iZ))) ∧ 50 = 50 ∧ 1 = 1 ∧ nat_lit 7 = 7 ∧ 0 = 0 ∧ Int.toNat q34 = Int.toNat q34) ∧ lR))))))))) (bF q42 (bF (Zy Int q76) ((∀ (x_1 : Int), List.Mem x_1 q78 → iZ ≤ x_1 ∧ x_1 < iB) ∧ (iZ < Int.tdiv iB q16 ∧ Int.tdiv iB q16 ≤ iB)
 ∧ lN q78 ≤ 1000000000 ∧ bF (Zy Int q79) (j2 ∧ (True ∧ zB (xI q80) q14) ∧ zB (xI q81) q10))))))))))))))))))))) := by
 delta bF dK xI lR cI kI j2 lZ lN gD iZ iO iB aI
 dsimp only
 intro hb
 have e0 : (zi.dflt : Int) = 0 := rfl
 simp only [↓ZE, ↓ZR, row_one]
 simp only [sS, dS, e0]
 have en : ((y.length : Int) - 1).toNat = y.length - 1 := by omega
 have hF : Int.tdiv 1000000000 (y.getD (y.length - 1) 0 + 1) = W7 y := rfl
 simp only [eX, implies_true, and_true, true_and, kP, en, hF, FS, and_self]
 obtain ⟨f0, f1, vl, vi, vv, vt, vp, y0⟩ := LO hy ty hn
 have x0 := zK (b := 1000000000) (by omega) hx
 obtain ⟨pe, pv, pi⟩ := OM hx (f := W7 y) (by omega)
 have pl : (vS x [W7 y]).length ≤ x.length + 1 := by
  rw [pe]
  refine yU (b := 1000000000) (by omega) ?_
  have h1 := yN (b := 1000000000) (by omega) hx
  have h2 : zX 1000000000 x * W7 y ≤ zX 1000000000 x * 1000000000 := Int.mul_le_mul_of_nonneg_left (by omega) x0
  rw [Int.toNat_of_nonneg (Int.mul_nonneg x0 (by omega))]
  show _ < (1000000000 : Int) ^ (x.length + 1)
  rw [Int.pow_succ]
  omega
 have i1 : z8 1000000000 [W7 y] := .one (by omega) (by omega)
 have hcx := qk hx hy tx ty
 obtain ⟨X, hX⟩ : ∃ X : Nat, zX 1000000000 x = X := ⟨(zX 1000000000 x).toNat, by omega⟩
 obtain ⟨Y, hY⟩ : ∃ Y : Nat, zX 1000000000 y = Y := ⟨(zX 1000000000 y).toNat, by omega⟩
 have ex : x = zw 1000000000 X := by
  have h : x = zw 1000000000 (zX 1000000000 x).toNat := YO (b := 1000000000) (by omega) hx tx
  rw [hX, Int.toNat_natCast] at h
  exact h
 refine ⟨hx, hy, fun hc => ?_, fun hc => ⟨fun h1 => ?_, fun h1 => ?_⟩⟩
 ·have hlt : X < Y := by omega
  rw [hX, hY, Int.toNat_natCast, Int.toNat_natCast, Nat.div_eq_of_lt hlt, Nat.mod_eq_of_lt hlt, ZN, ← ex]
  exact ⟨rfl, rfl, zr _⟩
 ·have d4 := hy.get (by omega) 0
  have ev : zX 1000000000 y = y.getD 0 0 := by
   have := Y9 (1000000000 : Int) (l := y) (z := 0) (by omega)
   rw [List.drop_zero, List.drop_of_length_le (l := y) (i := 0 + 1) (by omega), yj, Int.mul_zero, Int.add_zero] at this
   exact this
  rw [ev] at y0 ⊢
  exact ⟨⟨by omega, by omega⟩, hx, ⟨by omega, by omega⟩, by omega, rfl, zr _, zr _⟩
 have d4 := hy.get (by omega) (y.length - 1)
 have ey : y = zw 1000000000 Y := by
  have h : y = zw 1000000000 (zX 1000000000 y).toNat := YO (b := 1000000000) (by omega) hy ty
  rw [hY, Int.toNat_natCast] at h
  exact h
 have hxy : y.length ≤ x.length := by
  have := Zu (b := 1000000000) (m := Y) (n := X) (by omega) (by omega)
  rw [← ex, ← ey] at this
  exact this
 clear hF ex ey pe
 generalize vS x [W7 y] = P at *
 generalize vS y [W7 y] = W at *
 generalize W7 y = f at *
 generalize hA : zX 1000000000 x * f = A at *
 generalize hB : zX 1000000000 y * f = B at *
 simp only [List.length_append, List.length_singleton, List.length_replicate, vl]
 have lz : ∀ z, (P ++ [0] ++ List.replicate z 0).length = P.length + 1 + z := fun z => by simp; omega
 have zs : ∀ z, P ++ [0] ++ List.replicate (z + 1) 0 = (P ++ [0] ++ List.replicate z 0) ++ [(0 : Int)] := fun z => by rw [List.replicate_succ', ← List.append_assoc]
 refine ⟨⟨by omega, by omega⟩, ⟨by omega, by omega⟩, ⟨by omega, by omega⟩, by omega, ⟨by omega, by omega⟩, hx, i1, by omega, by omega, by omega, hy, i1, by omega, by omega, ⟨0, .inl rfl, ⟨rfl, rfl⟩, rfl, fun i j hi hj => ?_⟩, fun z hz => ⟨⟨by omega, by omega⟩, fun hlt => ⟨by omega, z + 1, ⟨.inr (by omega), by omega⟩, ⟨rfl, by omega⟩, by omega, fun i j hi hj => ?_⟩, fun hge => ?_⟩⟩
 ·rw [List.replicate_zero, List.append_nil]
  exact Uv P 0 i j hi hj
 ·have := Uv (P ++ [0] ++ List.replicate z 0) 0 i j (by rw [lz]; exact hi) hj
  rw [lz, ← zs] at this
  exact this
 obtain ⟨m, hm⟩ : ∃ m, P.length + 1 + z = m + y.length := ⟨P.length + 1 + z - y.length, by omega⟩
 have e1 : max (P.length + 1) (x.length + 1) - y.length = m := by omega
 have e2 : ((m + y.length : Nat) : Int) - (y.length : Int) = (m : Int) := by omega
 simp only [hm, e1, e2, Int.toNat_natCast]
 obtain ⟨s1, s2, s3, s4⟩ := mh (m := m) (n := y.length) (z := z) pi (by omega) hm vp
 refine ⟨⟨by omega, by omega⟩, ⟨by omega, by omega, by omega⟩, ⟨by omega, by omega⟩, ⟨⟨m, List.replicate m 0, P ++ [0] ++ List.replicate z 0⟩, ⟨⟨.start (by omega) s4 s3 s1 (by rw [s2, pv]), Nat.le_refl _⟩, rfl⟩, ⟨s4, fun _ _ _ _ => rfl⟩, by simp, fun i j _ hj => w5 _ i j hj⟩, fun d ⟨d1, d2⟩ => ?_⟩
 obtain ⟨j, q, u⟩ := d
 simp only at d1 d2 ⊢
 have ul := d1.ul
 have ql := d1.ql
 simp only [(fC ul.symm).1, (fC ul.symm).2, (fC ql.symm).1, (fC ql.symm).2, Y3]
 refine ⟨fun hj => ?_, fun hj => ?_⟩
 rotate_left
 ·obtain rfl : j = 0 := by omega
  obtain ⟨F, rfl⟩ : ∃ F : Nat, f = F := ⟨f.toNat, by omega⟩
  have hAn : A = ((X * F : Nat) : Int) := by rw [← hA, hX, Int.natCast_mul]
  have hBn : B = ((Y * F : Nat) : Int) := by rw [← hB, hY, Int.natCast_mul]
  have F0 : 0 < F := by omega
  have Y0 : 0 < Y := by omega
  rw [hAn, hBn] at d1
  obtain ⟨r1, r2⟩ := w9.end_ (b := 1000000000) (by omega) (Nat.mul_pos Y0 F0) d1
  rw [Nat.mul_div_mul_right _ _ F0] at r1
  rw [Nat.mul_mod_mul_right] at r2
  have hlen : (zw 1000000000 (X % Y * F)).length ≤ W.length := by
   refine yU (b := 1000000000) (by omega) ?_
   have h1 := yN (b := 1000000000) (by omega) vi
   rw [vv, hBn] at h1
   have h2 : X % Y * F ≤ Y * F := Nat.mul_le_mul_right _ (Nat.le_of_lt (Nat.mod_lt _ Y0))
   have h3 : ((X % Y * F : Nat) : Int) ≤ ((Y * F : Nat) : Int) := Int.ofNat_le.2 h2
   exact Int.lt_of_le_of_lt h3 h1
  have hv : zX 1000000000 (zw 1000000000 (X % Y * F)) = ((X % Y * F : Nat) : Int) := yz (b := 1000000000) (by omega) _
  rw [r1, r2, hX, hY, hv]
  simp only [Int.toNat_natCast, Nat.mul_div_cancel _ F0]
  exact ⟨y9 (b := 1000000000) (by omega) _, ⟨by omega, by omega⟩, by omega, rfl, zr _, zr _⟩
 obtain ⟨k, rfl⟩ : ∃ k, j = k + 1 := ⟨j - 1, by omega⟩
 have hk1 : ((k + 1 : Nat) : Int) - 1 = (k : Int) := by omega
 have hki : ∀ i : Nat, ((k : Int) + (i : Int)).toNat = k + i := fun i => by omega
 simp only [hk1, hki, Int.toNat_natCast]
 have n2 : 2 ≤ W.length := by omega
 have d1' : w9 1000000000 A B W.length m (k + 1) q u := by rw [vl]; exact d1
 have vt' : 0 < W.getD (W.length - 1) 0 := by rw [vl]; exact vt
 obtain ⟨g1, g2⟩ := JS vi vv n2 vt' (by omega : k < m) d1'
 rw [vl] at g2
 have ui := d1.ui
 have hi0 : ∀ i, k + 1 + W.length ≤ i → u.getD i 0 = 0 := fun i hi => d1.hi i (by omega)
 refine ⟨⟨by omega, by omega⟩, ui, vi, by omega, by omega, ⟨by omega, by omega⟩, vt, g2, ⟨_, g1, rfl⟩, fun Q ⟨Q0, Q1, Q2⟩ => ⟨⟨by omega, by omega⟩, ⟨⟨0, 0, u⟩, ⟨⟨.start ui Q0, Nat.zero_le _⟩, rfl, rfl⟩, rfl, fun _ _ _ _ => rfl⟩, fun t ⟨t1, t2⟩ => ⟨fun ht => ?_, fun ht => ?_⟩⟩⟩
 ·obtain ⟨⟨b0, b1⟩, hs⟩ := t1.step (by omega) vi Q0 (by omega : k + t.i < u.length)
  have tl := t1.len
  have w1 := vi.get (by omega) t.i
  have w2 := t1.in_.get (by omega) (k + t.i)
  have p0 : 0 ≤ Q * W.getD t.i 0 := Int.mul_nonneg Q0 w1.1
  have p1 : Q * W.getD t.i 0 ≤ Q * 1000000000 := Int.mul_le_mul_of_nonneg_left (by omega) Q0
  have c0 := t1.c0
  have c1 := t1.c1
  have h0 := hs.c0
  have h1 := hs.c1
  have o1 : -9223372036854775808 ≤ t.w.getD (k + t.i) 0 - t.c ∧ t.w.getD (k + t.i) 0 - t.c ≤ 9223372036854775807 := ⟨by omega, by omega⟩
  have o2 : -9223372036854775808 ≤ Q * W.getD t.i 0 ∧ Q * W.getD t.i 0 ≤ 9223372036854775807 := ⟨by omega, by omega⟩
  clear p0 p1 w2
  generalize t.w.getD (k + t.i) 0 - t.c - Q * W.getD t.i 0 = n at *
  refine ⟨⟨by omega, by omega⟩, ⟨by omega, by omega⟩, o1, by omega, o2, ⟨by omega, by omega⟩, fun hn => ?_, fun hn => ?_⟩
  ·have hcb : Xs 1000000000 n = (-n + 1000000000 - 1).tdiv 1000000000 := by unfold Xs; rw [(zR _ _).2 hn]; rfl
   rw [hcb] at hs h0 h1
   generalize (-n + 1000000000 - 1).tdiv 1000000000 = C at *
   exact ⟨⟨by omega, by omega⟩, ⟨by omega, by omega⟩, ⟨by omega, by omega⟩, ⟨by omega, by omega⟩, ⟨by omega, by omega⟩, ⟨by omega, by omega⟩, ⟨by omega, by omega⟩, ⟨by omega, by omega⟩, ⟨by omega, by omega⟩, ⟨t.i + 1, C, _⟩, ⟨⟨⟨hs, by simp only; omega⟩, by simp only; omega⟩, rfl, by simp only; omega⟩, by simp, fun i j' _ => Up _ _ _ (by omega) i j'⟩
  ·have hcb : Xs 1000000000 n = 0 := by unfold Xs; rw [show zH n 0 = false from Bool.eq_false_iff.2 fun e => by have := (zR _ _).1 e; omega]; rfl
   rw [hcb] at hs h0 h1
   exact ⟨⟨by omega, by omega⟩, ⟨by omega, by omega⟩, ⟨by omega, by omega⟩, ⟨by omega, by omega⟩, ⟨t.i + 1, 0, _⟩, ⟨⟨⟨hs, by simp only; omega⟩, by simp only; omega⟩, rfl, by simp only; omega⟩, by simp, fun i j' _ => Up _ _ _ (by omega) i j'⟩
 have ti : t.i = W.length + 1 := by omega
 have tl := t1.len
 have t3 : Wu 1000000000 u W k Q (W.length + 1) t.w t.c := ti ▸ t1
 obtain ⟨t4, t5⟩ := t3.fits (by omega) (by omega : k ≤ u.length) hi0
 rw [vv] at t4 t5
 refine ⟨fun hc => ?_, fun hc => ?_⟩
 ·have hlt := t5 hc
  have u0 := zK (b := 1000000000) (by omega) (ui.drop k)
  have Qp : 0 < Q := by
   refine Decidable.byContradiction fun hn => ?_
   have : Q = 0 := by omega
   rw [this, Int.zero_mul] at hlt
   omega
  refine ⟨⟨by omega, by omega⟩, ⟨⟨0, 0, t.w⟩, ⟨⟨.start t1.in_ Q0, Nat.zero_le _⟩, rfl, rfl⟩, rfl, fun _ _ _ _ => rfl⟩, fun r ⟨r1, r2⟩ => ⟨fun hr => ?_, fun hr => ?_⟩⟩
  ·obtain ⟨⟨b0, b1⟩, hs⟩ := r1.step (by omega) vi Q0 (by omega : k + r.i < t.w.length)
   have rl := r1.len
   have w1 := vi.get (by omega) r.i
   have w2 := r1.in_.get (by omega) (k + r.i)
   have p0 : 0 ≤ Q * W.getD r.i 0 := Int.mul_nonneg Q0 w1.1
   have p1 : Q * W.getD r.i 0 ≤ Q * 1000000000 := Int.mul_le_mul_of_nonneg_left (by omega) Q0
   have c0 := r1.c0
   have c1 := r1.c1
   have h0 := hs.c0
   have h1 := hs.c1
   refine ⟨⟨by omega, by omega⟩, ⟨by omega, by omega⟩, by omega, ⟨by omega, by omega⟩, ⟨by omega, by omega⟩, ⟨by omega, by omega⟩, ⟨by omega, by omega⟩, ⟨by omega, by omega⟩, ⟨by omega, by omega⟩, ⟨by omega, by omega⟩, ⟨r.i + 1, _, _⟩, ⟨⟨⟨hs, by simp only; omega⟩, by simp only; omega⟩, rfl, by simp only; omega⟩, by simp, fun i j' _ => Up _ _ _ (by omega) i j'⟩
  ·have ri : r.i = W.length + 1 := by omega
   have r3 : r.w = u := uu.end_ (by omega) ui (by omega : k ≤ u.length) hi0 t3 (ri ▸ r1 : uu 1000000000 t.w W k Q (W.length + 1) r.w r.c)
   rw [r3]
   exact ⟨⟨by omega, by omega⟩, Q - 1, ⟨⟨⟨by omega, by omega, by rw [Int.sub_add_cancel]; exact hlt⟩, by omega⟩, rfl⟩, rfl, fun _ _ _ _ => rfl⟩
 ·have hs := d1'.step (by omega) vi vv (by omega : k < m) Q0 Q2 t3 hc
  rw [vl] at hs
  exact ⟨⟨by omega, by omega⟩, ⟨by omega, by omega⟩, ⟨k, q.set k Q, t.w⟩, ⟨⟨⟨hs, by simp only; omega⟩, by simp only; omega⟩, by simp only⟩, ⟨rfl, fun _ _ _ _ => rfl⟩, by simp, fun i j' _ => Up _ _ _ (by omega) i j'⟩
theorem kK (x : List Int) (y : List Int) (hx : z8 1000000000 x) (hy : z8 1000000000 y) (tx : zO x = x) (ty : zO y = y) (hn : y.length ≠ 0) (hlx : x.length ≤ 100000000) (hly : y.length ≤ 100000000) : zT Tryz.prog [] 132 [ZF x, ZF y] (.tup 2 (zt [ZF (zw 1000000000 ((zX 1000000000 x).toNat / (zX 1000000000 y).toNat)), ZF (zw 1000000000 ((zX 1000000000 x).toNat % (zX 1000000000 y).toNat))])) :=
 zU (T := ES) (an := IU x (zX 1000000000 x * W7 y) (zX 1000000000 y * W7 y) y.length (max ((vS x [W7 y]).length + 1) (x.length + 1) - y.length)) mixed NK (Eq.mp (by kernel_rfl) (lh x y hx hy tx ty hn hlx hly))
theorem OS : zQ Tryz.prog [] 132 UK := by
 intro xs ps r h hp
 unfold UK at h
 split at h
 ·skip
  rename_i x_x x_y
  cases h
  obtain ⟨q0, q1, q2, q3, q4, q5, q6, q7, q8, -⟩ := Zo hp
  exact weaken (ys := [ZF (zW x_x), ZF (zW x_y)]) ⟨za q0, za q1, trivial⟩ (kK (zW x_x) (zW x_y) q2 q3 q4 q5 q6 q7 q8)
 ·cases h
end Go.Te

namespace Go.Te
open Go Go.Sx Go.Proofs Go.Ar
set_option maxRecDepth 100000
set_option maxHeartbeats 4000000
theorem Ww {n k : Nat} (h : n < 10 ^ k) : (zw 1000000000 n).length ≤ k := by
 refine yU (b := 1000000000) (by omega) ?_
 have h2 : 10 ^ k ≤ 1000000000 ^ k := Nat.pow_le_pow_left (by omega) _
 exact_mod_cast Nat.lt_of_lt_of_le h h2
theorem Zb {a : zL} (h : ZX a = 0) : (zV a).natAbs < 10 ^ 301 ∧ a.length ≤ 301 ∧ zC a = true := by
 obtain ⟨h1, h2⟩ := Ze.1 h
 have h3 := xB a
 have h4 : 10 ^ a.length ≤ 10 ^ 301 := fm (a := a.length) (b := 301) (by omega)
 exact ⟨Nat.lt_of_lt_of_le (TS h1) h4, by omega, h1⟩
theorem xu {a : zL} (h : zC a = true) : yG (zG a) (zw 1000000000 (zV a).natAbs) = zV a := by
 have hv : zX 1000000000 (zw 1000000000 (zV a).natAbs) = ((zV a).natAbs : Int) := yz (b := 1000000000) (by omega) _
 unfold yG
 rw [hv]
 rcases yQ h with ⟨r, rfl, h1, _, h3⟩ | ⟨h1, h3⟩
 ·rw [show zG (45 :: r) = true from rfl, h3]; simp only [cond_true]; omega
 ·have hm : zG a = false := by
   unfold zG
   rw [beq_eq_false_iff_ne]
   intro e
   have h0 := (Zx.1 h1).1
   have := (Zx.1 h1).2.1 _ (We (s := a) (i := 0) h0)
   rw [e] at this
   cases this
  rw [hm, h3]; simp only [cond_false]; omega
theorem qW (n : Bool) (l : List Int) : yG (!n) l = - yG n l := by unfold yG; cases n <;> simp
theorem tA (n : Bool) {v : Int} (h : 0 ≤ v) : yG n (zw 1000000000 v.toNat) = bif n then - v else v := by
 have hv : zX 1000000000 (zw 1000000000 v.toNat) = (v.toNat : Int) := yz (b := 1000000000) (by omega) _
 unfold yG
 rw [hv, Int.toNat_of_nonneg h]
theorem Zg (n : Nat) : z8 1000000000 (zw 1000000000 n) ∧ zO (zw 1000000000 n) = zw 1000000000 n := ⟨y9 (b := 1000000000) (by omega) n, XT (b := 1000000000) (by omega) n⟩
theorem Yb (f : Bool) (l : List Int) : Zi (AV.agg 2 fun i => [AV.v (Value.bool f), AV.xl false 1 l.length fun i j => AV.v (Value.int IntKind.i64 (l.getD i 0))][i]?.getD AV.junk) = (⟨f, l⟩ : Big) := Ym f l
theorem YW (f : Bool) (l : List Int) : yZ Big (AV.agg 2 fun i => [AV.v (Value.bool f), AV.xl false 1 l.length fun i j => AV.v (Value.int IntKind.i64 (l.getD i 0))][i]?.getD AV.junk) = true := yE f l
theorem x8 (f g : Bool) (l : List Int) (Z : Nat → AV) : Zi (AV.agg 2 fun i => if i < 1 then AV.v (Value.bool f) else if i < 2 then zt [AV.v (Value.bool g), AV.xl false 1 l.length fun i j => AV.v (Value.int IntKind.i64 (l.getD i 0))] i else Z i) = (⟨f, l⟩ : Big) := by
 show (⟨f, So (ZF l)⟩ : Big) = _
 rw [RR]
theorem YD (f g : Bool) (l : List Int) (Z : Nat → AV) : yZ Big (AV.agg 2 fun i => if i < 1 then AV.v (Value.bool f) else if i < 2 then zt [AV.v (Value.bool g), AV.xl false 1 l.length fun i j => AV.v (Value.int IntKind.i64 (l.getD i 0))] i else Z i) = true := by
 show (Zy Int (ZF l)) = true
 rw [TZ]
theorem x5 (g : Bool) (l : List Int) (Z : Nat → AV) : Zi (AV.agg 2 fun i => if i < 2 then zt [AV.v (Value.bool g), AV.xl false 1 l.length fun i j => AV.v (Value.int IntKind.i64 (l.getD i 0))] i else Z i) = (⟨g, l⟩ : Big) := by
 show (⟨g, So (ZF l)⟩ : Big) = _
 rw [RR]
theorem YB (g : Bool) (l : List Int) (Z : Nat → AV) : yZ Big (AV.agg 2 fun i => if i < 2 then zt [AV.v (Value.bool g), AV.xl false 1 l.length fun i j => AV.v (Value.int IntKind.i64 (l.getD i 0))] i else Z i) = true := by
 show (Zy Int (ZF l)) = true
 rw [TZ]
theorem u7 {f : Int → Int → Int} {a b : zL} (h : zI a b ≠ 0) : YR f a b = [] ∧ yI f a b = zI a b := by
 have e : yI f a b = zI a b := by unfold yI; rw [bne_iff_ne.2 h]; rfl
 refine ⟨?_, e⟩
 unfold YR
 rw [e, beq_eq_false_iff_ne.2 h]
 rfl
theorem vm {f : Int → Int → Int} {a b : zL} (h : zI a b = 0) : YR f a b = yp (f (zV a) (zV b)) ∧ yI f a b = ZU (f (zV a) (zV b)) := by
 have e : yI f a b = ZU (f (zV a) (zV b)) := by unfold yI; rw [h]; rfl
 refine ⟨?_, e⟩
 unfold YR yp
 rw [e]
theorem ZS {n : Int} {k : Nat} (h0 : 0 < k) (hk : k ≤ 300) (h : n.natAbs < 10 ^ k) : yp n = Lib.itoa n ∧ ZU n = 0 := by
 have h1 := rh h0 h
 have e : ZU n = 0 := by
  unfold ZU
  rw [show Nat.blt 300 (TA n) = false from Bool.eq_false_iff.2 fun e => by have := (zA _ _).1 e; omega]
  rfl
 refine ⟨?_, e⟩
 unfold yp
 rw [e]
 rfl
theorem JC {a : zL} (h : zC a = true) (hl : leB (a.length : Int) 18 = true) : -1000000000000000000 < zV a ∧ zV a < 1000000000000000000 := by
 have := PU h (k := 18) (by have := (ze _ _).1 hl; omega)
 rw [show (10 : Int) ^ 18 = 1000000000000000000 from by decide] at this
 exact this
theorem PD {a : zL} (ha : ZX a = 0) {n : Bool} {k : Nat} {w : Int} (hk : yG n (zw 1000000000 k) = w) (hn : k < 10 ^ 301) :
  yG (OT ⟨zG a, zw 1000000000 (zV a).natAbs⟩ ⟨n, zw 1000000000 k⟩) (zw 1000000000 (qC ⟨zG a, zw 1000000000 (zV a).natAbs⟩ ⟨n, zw 1000000000 k⟩).toNat) = zV a + w ∧
  (zw 1000000000 (qC ⟨zG a, zw 1000000000 (zV a).natAbs⟩ ⟨n, zw 1000000000 k⟩).toNat).length ≤ 302 ∧ 0 ≤ qC ⟨zG a, zw 1000000000 (zV a).natAbs⟩ ⟨n, zw 1000000000 k⟩ := by
 obtain ⟨a1, a2, a3⟩ := Zb ha
 obtain ⟨s1, s2⟩ := My (x := ⟨zG a, zw 1000000000 (zV a).natAbs⟩) (y := ⟨n, zw 1000000000 k⟩) (Zg _).1 (Zg _).1 (Zg _).2 (Zg _).2
 simp only [hk, xu a3] at s2
 have hw : w.natAbs = k := by
  have hv : zX 1000000000 (zw 1000000000 k) = (k : Int) := yz (b := 1000000000) (by omega) _
  unfold yG at hk
  rw [hv] at hk
  cases n <;> simp at hk <;> omega
 rw [tA _ s1, s2]
 refine ⟨rfl, Ww ?_, s1⟩
 generalize qC ⟨zG a, zw 1000000000 (zV a).natAbs⟩ ⟨n, zw 1000000000 k⟩ = v at *
 have : v.toNat ≤ (zV a).natAbs + k := by
  cases hx : OT ⟨zG a, zw 1000000000 (zV a).natAbs⟩ ⟨n, zw 1000000000 k⟩ <;> rw [hx] at s2 <;> simp at s2 <;> omega
 have h3 : 10 ^ 302 = 10 ^ 301 * 10 := kC 301 302 rfl
 generalize 10 ^ 301 = M at *
 omega
theorem OV : ∀ (s t : Bool) (A B : Int), (bif !(s == t) then -(A * B) else A * B) = (bif s then -A else A) * (bif t then -B else B) := by
 intro s t A B
 cases s <;> cases t <;> simp [Int.neg_mul, Int.mul_neg]
theorem xN (n : Nat) : zX 1000000000 (zw 1000000000 n) = (n : Int) := yz (b := 1000000000) (by omega) _
theorem M8 {a b : zL} (ha : zC a = true) (hb : zC b = true) : yG (!(zG a == zG b)) (zw 1000000000 (((zV a).natAbs : Int) * ((zV b).natAbs : Int)).toNat) = zV a * zV b := by
 have h1 := xu ha
 have h2 := xu hb
 unfold yG at h1 h2
 rw [xN] at h1 h2
 rw [tA _ (Int.mul_nonneg (by omega) (by omega)), OV, h1, h2]
noncomputable def fk (G : List (Nat × Obj)) : Tb := (((((Kk G).plus 85 Rr).plus 86 tq).plus 87 UM).plus 88 Ps).plus 100 WC
theorem Ph {G : List (Nat × Obj)} (hG : zh G) : zZ Tryz.prog (fk G) :=
 zZ.plus (zZ.plus (zZ.plus (zZ.plus (zZ.plus (Yj hG) (zQ.mono JP)) (zQ.mono LL)) (zQ.mono Ol)) (zQ.mono HE)) (SP hG)
noncomputable def HX (G : List (Nat × Obj)) : Tb := ((((fk G).plus 101 tZ).plus 132 UK).plus 137 tG).plus 31 SE
theorem XY {G : List (Nat × Obj)} (hG : zh G) : zZ Tryz.prog (HX G) := zZ.plus (zZ.plus (zZ.plus (zZ.plus (Ph hG) (zQ.mono Mr)) (zQ.mono OS)) (zQ.mono QD)) (zQ.mono MR)
def Pb : List AV → Option (List zn × AV)
 | [.str a, .str b] => some ([.p (a.length ≤ 4294967280), .p (b.length ≤ 4294967280)], .tup 2 (zt [.str (YR (· + ·) a b), .i (yI (· + ·) a b)]))
 | _ => none
theorem kF (G : List (Nat × Obj)) (a : List UInt8) (b : List UInt8) (hla : a.length ≤ 4294967280) (hlb : b.length ≤ 4294967280) :
 let q2 := (bif leB (lZ a) (18 : Int) && leB (lZ b) (18 : Int) then zV a else iZ); let q1 := (q2 + bif leB (lZ a) (18 : Int) && leB (lZ b) (18 : Int) then zV b else iZ); let q4 := (zw 1000000000 (Int.natAbs (zV a))); let q3 := (AV.agg 2 fun i => Option.getD [AV.v (Value.bool (zG a)), xI q4][i]? AV.junk); let q6 := (zw 1000000000 (Int.natAbs (zV b))); let q5 := (AV.agg 2 fun i => Option.getD [AV.v (Value.bool
 (zG b)), xI q6][i]? AV.junk); let q8 := (Zi q3); let q7 := (Big.l q8); let q10 := (Zi q5); let q9 := (Big.l q10); let q12 := (zw 1000000000 (Int.toNat (qC q8 q10))); let q11 := (AV.agg 2 fun i => Option.getD [AV.v (Value.bool (OT q8 q10)), xI q12][i]? AV.junk); let q14 := (Zi q11); let q13 := (Big.l q14); let q15 := (yG (Big.neg q14) q13); ZY [AV.str a, AV.str b] → lN a ≤ nM ∧ lN b ≤
 nM ∧ zY (zI a b != iZ) (j2 ∧ (True ∧ bA #[] = YR (fun (x1 x2 : Int) => x1 + x2) a b) ∧ kI ∧ zI a b = yI (fun (x1 x2 : Int) => x1 + x2) a b) (zC a = true ∧ zC b = true ∧ (18 : Int) = (18 : Int) ∧ zY (leB (lZ a) (18 : Int) && leB (lZ b) (18 : Int)) (bF (dK q1) (((iN ≤ q2 + bif leB (lZ a) (18 : Int) && leB (lZ b) (18 : Int) then zV b else iZ) ∧ q1 ≤
 iX) ∧ j2 ∧ (True ∧ Lib.itoa q1 = YR (fun (x1 x2 : Int) => x1 + x2) a b) ∧ kI ∧ iZ = yI (fun (x1 x2 : Int) => x1 + x2) a b)) (zC a = true ∧ lN a ≤ 100000000 ∧ zC b = true ∧ lN b ≤ 100000000 ∧ bF (yZ Big q3) (bF (yZ Big q5) ((∀ (x : Int), List.Mem x q7 → iZ ≤ x ∧ x < iB) ∧ (∀ (x : Int), List.Mem x q9 → iZ ≤ x ∧ x < iB) ∧ zO q7 = Big.l q8 ∧ zO q9 = Big.l q10 ∧ lN q7 ≤ 1000000000 ∧ lN q9 ≤ 1000000000 ∧ zY
 (yZ Big q11) ((∀ (x : Int), List.Mem x q13 → iZ ≤ x ∧ x < iB) ∧ zO q13 = Big.l q14 ∧ lN q13 ≤ 100000000 ∧ j2 ∧ (True ∧ yp q15 = YR (fun (x1 x2 : Int) => x1 + x2) a b) ∧ kI ∧ ZU q15 = yI (fun (x1 x2 : Int) => x1 + x2) a b) False)))) := by
 delta bF dK bA xI nM kI j2 lZ lN iZ iX iN iB
 dsimp only
 intro hb
 have e0 : (zi.dflt : Int) = 0 := rfl
 simp only [↓ZE, ↓ZR, row_one]
 simp only [sS, dS, e0, Yb, YW, Ym, yE, x8, YD, x5, YB, Y3]
 refine ⟨by omega, by omega, fun hE => ⟨rfl, (u7 hE).1.symm, (u7 hE).2.symm⟩, fun hE => ?_⟩
 obtain ⟨hA, hB⟩ := yg hE
 obtain ⟨a1, a2, a3⟩ := Zb hA
 obtain ⟨b1, b2, b3⟩ := Zb hB
 rw [(vm hE).1, (vm hE).2]
 refine ⟨a3, b3, zv.2 ⟨fun c => ?_, fun c => ?_⟩⟩
 ·rw [c]
  rw [Bool.and_eq_true] at c
  have x1 := JC a3 c.1
  have x2 := JC b3 c.2
  simp only [cond_true]
  obtain ⟨r1, r2⟩ := ZS (n := zV a + zV b) (k := 20) (by omega) (by omega) (by omega)
  exact ⟨⟨by omega, by omega⟩, ⟨by omega, by omega⟩, rfl, r1.symm, r2.symm⟩
 ·obtain ⟨q1, q2, q3⟩ := PD hA (xu b3) b1
  rw [q1]
  exact ⟨a3, by omega, b3, by omega, (Zg _).1, (Zg _).1, (Zg _).2, (Zg _).2, by have := Ww a1; omega, by have := Ww b1; omega, (Zg _).1, (Zg _).2, by omega, rfl, rfl, rfl⟩
theorem lD {G : List (Nat × Obj)} (hG : zh G) (a : List UInt8) (b : List UInt8) (hla : a.length ≤ 4294967280) (hlb : b.length ≤ 4294967280) : zT Tryz.prog G 47 [.str a, .str b] (.tup 2 (zt [.str (YR (· + ·) a b), .i (yI (· + ·) a b)])) :=
 zU (T := HX G) (an := .auto) mixed (XY hG) (Eq.mp (by kernel_rfl) (kF G a b hla hlb))
theorem Hu {G : List (Nat × Obj)} (hG : zh G) : zQ Tryz.prog G 47 Pb := by
 intro xs ps r h hp
 unfold Pb at h
 split at h
 ·skip
  rename_i a b
  cases h
  obtain ⟨q0, q1, -⟩ := Zo hp
  exact weaken (ys := [.str a, .str b]) ⟨zr _, zr _, trivial⟩ (lD hG a b q0 q1)
 ·cases h
def PC : List AV → Option (List zn × AV)
 | [.str a, .str b] => some ([.p (a.length ≤ 4294967280), .p (b.length ≤ 4294967280)], .tup 2 (zt [.str (YR (· - ·) a b), .i (yI (· - ·) a b)]))
 | _ => none
theorem j5 (G : List (Nat × Obj)) (a : List UInt8) (b : List UInt8) (hla : a.length ≤ 4294967280) (hlb : b.length ≤ 4294967280) :
 let q2 := (bif leB (lZ a) (18 : Int) && leB (lZ b) (18 : Int) then zV a else iZ); let q1 := (q2 - bif leB (lZ a) (18 : Int) && leB (lZ b) (18 : Int) then zV b else iZ); let q4 := (zw 1000000000 (Int.natAbs (zV a))); let q3 := (AV.agg 2 fun i => Option.getD [AV.v (Value.bool (zG a)), xI q4][i]? AV.junk); let q6 := (zw 1000000000 (Int.natAbs (zV b))); let q7 := (Value.agg #[Value.bool false, Value.slice (wP Addr)
 0 0]); let q5 := (AV.agg 2 fun (i : Nat) => if 0 ≤ 0 + i ∧ 0 + i < 1 then AV.v (Value.bool !zG b) else if 0 ≤ 0 + i ∧ 0 + i < 2 then zt [AV.v (Value.bool (zG b)), xI q6] (0 + i - 0) else ZD q7 (0 + i)); let q9 := (Zi q3); let q8 := (Big.l q9); let q11 := (Zi q5); let q10 := (Big.l q11); let q12 := (AV.agg 2 fun i => let q13 := (Zi (AV.agg 2 fun (i : Nat) => if 0 ≤ 0 + i ∧ 0 + i < 1 then AV.v (Value.bool !zG b) else if 0 ≤ 0 + i ∧ 0 + i < 2 then zt [AV.v (Value.bool (zG b)), AV.xl false 1
 (lN q6) fun i j => aI (gD q6 i zi.dflt)] (0 + i - 0) else ZD q7 (0 + i))); Option.getD [AV.v (Value.bool (OT q9 q13)), AV.xl false 1 (lN (zw 1000000000 (Int.toNat (qC q9 q13)))) fun i j => AV.v (Value.int .i64 (gD (zw 1000000000 (Int.toNat (qC q9 (Zi (AV.agg 2 fun (i : Nat) => if 0 ≤ 0 + i ∧ 0 + i < 1 then AV.v (Value.bool !zG b) else if 0 ≤ 0 + i ∧ 0 + i < 2 then zt [AV.v (Value.bool (zG b)), xI q6] (0 + i - 0) else ZD q7 (0 + i)))))) i
 zi.dflt))][i]? AV.junk); let q15 := (Zi q12); let q14 := (Big.l q15); let q16 := (yG (Big.neg q15) q14); ZY [AV.str a, AV.str b] → lN a ≤ nM ∧ lN b ≤ nM ∧ zY (zI a b != iZ) (j2 ∧ (True ∧ bA #[] = YR (fun (x1 x2 : Int) => x1 - x2) a b) ∧ kI ∧ zI a b = yI (fun (x1 x2 : Int) => x1 - x2) a b) (zC a = true ∧ zC b = true ∧ (18 : Int) = (18 : Int) ∧ zY (leB (lZ a) (18 : Int) && leB (lZ b) (18 : Int)) (zY
 (dK q1) (((iN ≤ q2 - bif leB (lZ a) (18 : Int) && leB (lZ b) (18 : Int) then zV b else iZ) ∧ q1 ≤ iX) ∧ j2 ∧ (True ∧ Lib.itoa q1 = YR (fun (x1 x2 : Int) => x1 - x2) a b) ∧ kI ∧ iZ = yI (fun (x1 x2 : Int) => x1 - x2) a b) False) (zC b = true ∧ lN b ≤ 100000000 ∧ zC a = true ∧ lN a ≤ 100000000 ∧ bF (yZ Big q3) (bF (yZ Big q5) ((∀ (x : Int), List.Mem x q8 → iZ ≤ x ∧ x < iB) ∧
 (∀ (x : Int), List.Mem x q10 → iZ ≤ x ∧ x < iB) ∧ zO q8 = Big.l q9 ∧ zO q10 = Big.l q11 ∧ lN q8 ≤ 1000000000 ∧ lN q10 ≤ 1000000000 ∧ bF (yZ Big q12) ((∀ (x : Int), List.Mem x q14 → iZ ≤ x ∧ x < iB) ∧ zO q14 = Big.l q15 ∧ lN q14 ≤ 100000000 ∧ j2 ∧ (True ∧ yp q16 = YR (fun (x1 x2 : Int) => x1 - x2) a b) ∧ kI ∧ ZU q16 = yI (fun (x1 x2 : Int) => x1 - x2) a b))))) := by
 delta bF dK bA xI nM kI j2 lZ lN gD iZ iX iN iB aI
 dsimp only
 intro hb
 have e0 : (zi.dflt : Int) = 0 := rfl
 simp only [↓ZE, ↓ZR, row_one]
 simp only [sS, dS, e0, Yb, YW, Ym, yE, x8, YD, x5, YB, Y3]
 refine ⟨by omega, by omega, fun hE => ⟨rfl, (u7 hE).1.symm, (u7 hE).2.symm⟩, fun hE => ?_⟩
 obtain ⟨hA, hB⟩ := yg hE
 obtain ⟨a1, a2, a3⟩ := Zb hA
 obtain ⟨b1, b2, b3⟩ := Zb hB
 rw [(vm hE).1, (vm hE).2]
 refine ⟨a3, b3, zv.2 ⟨fun c => ?_, fun c => ?_⟩⟩
 ·rw [c]
  rw [Bool.and_eq_true] at c
  have x1 := JC a3 c.1
  have x2 := JC b3 c.2
  simp only [cond_true]
  obtain ⟨r1, r2⟩ := ZS (n := zV a - zV b) (k := 20) (by omega) (by omega) (by omega)
  exact ⟨⟨by omega, by omega⟩, ⟨by omega, by omega⟩, rfl, r1.symm, r2.symm⟩
 ·have hs : yG (!zG b) (zw 1000000000 (zV b).natAbs) = - zV b := by rw [qW, xu b3]
  obtain ⟨q1, q2, q3⟩ := PD hA hs b1
  rw [q1]
  exact ⟨b3, by omega, a3, by omega, (Zg _).1, (Zg _).1, (Zg _).2, (Zg _).2, by have := Ww a1; omega, by have := Ww b1; omega, (Zg _).1, (Zg _).2, by omega, rfl, rfl, rfl⟩
theorem kx {G : List (Nat × Obj)} (hG : zh G) (a : List UInt8) (b : List UInt8) (hla : a.length ≤ 4294967280) (hlb : b.length ≤ 4294967280) : zT Tryz.prog G 49 [.str a, .str b] (.tup 2 (zt [.str (YR (· - ·) a b), .i (yI (· - ·) a b)])) :=
 zU (T := HX G) (an := .auto) mixed (XY hG) (Eq.mp (by kernel_rfl) (j5 G a b hla hlb))
theorem IH {G : List (Nat × Obj)} (hG : zh G) : zQ Tryz.prog G 49 PC := by
 intro xs ps r h hp
 unfold PC at h
 split at h
 ·skip
  rename_i a b
  cases h
  obtain ⟨q0, q1, -⟩ := Zo hp
  exact weaken (ys := [.str a, .str b]) ⟨zr _, zr _, trivial⟩ (kx hG a b q0 q1)
 ·cases h
def vI : List AV → Option (List zn × AV)
 | [.str a, .str b] => some ([.p (a.length ≤ 4294967280), .p (b.length ≤ 4294967280)], .tup 2 (zt [.str (YR (· * ·) a b), .i (yI (· * ·) a b)]))
 | _ => none
theorem K2 (G : List (Nat × Obj)) (a : List UInt8) (b : List UInt8) (hla : a.length ≤ 4294967280) (hlb : b.length ≤ 4294967280) :
 let q1 := ((lZ a) + (lZ b)); let q3 := (bif leB (lZ a) (18 : Int) && leB (lZ b) (18 : Int) then zV a else iZ); let q2 := (q3 * bif leB (lZ a) (18 : Int) && leB (lZ b) (18 : Int) then zV b else iZ); let q6 := (zw 1000000000 (Int.natAbs (zV a))); let q5 := (xI q6); let q8 := (zw 1000000000 (Int.natAbs (zV b))); let q7 := (AV.xl false 1 (lN q8) fun i j => AV.v (Value.int
 .i64 (gD q8 i zi.dflt))); let q9 := (zW q5); let q10 := (zW q7); let q12 := (zw 1000000000 (Int.toNat (zX iB q9 * zX iB q10))); let q11 := (AV.agg 2 (zt [AV.v (Value.bool !zG a == zG b), xI q12])); let q14 := (Zi q11); let q13 := (Big.l q14); let q15 := (yG (Big.neg q14) q13); let q4 := (zC a = true ∧ lN a ≤ 100000000 ∧ zC b = true ∧ lN b ≤ 100000000 ∧ bF (Zy Int q5) (bF (Zy Int q7) ((∀ (x : Int), List.Mem x q9 →
 iZ ≤ x ∧ x < iB) ∧ (∀ (x : Int), List.Mem x q10 → iZ ≤ x ∧ x < iB) ∧ lN q9 ≤ 1000000000 ∧ lN q10 ≤ 1000000000 ∧ bF (yZ Big q11) ((∀ (x : Int), List.Mem x q13 → iZ ≤ x ∧ x < iB) ∧ zO q13 = Big.l q14 ∧ lN q13 ≤ 100000000 ∧ j2 ∧ (True ∧ yp q15 = YR (fun (x1 x2 : Int) => x1 * x2) a b) ∧ kI ∧ ZU q15 = yI (fun (x1 x2 : Int) => x1 * x2) a b)))); ZY [AV.str a, AV.str b] → lN a ≤ nM ∧ lN b ≤ nM
 ∧ zY (zI a b != iZ) (j2 ∧ (True ∧ bA #[] = YR (fun (x1 x2 : Int) => x1 * x2) a b) ∧ kI ∧ zI a b = yI (fun (x1 x2 : Int) => x1 * x2) a b) (bF (dK q1) (zY (leB q1 (18 : Int)) (zC a = true ∧ zC b = true ∧ (18 : Int) = (18 : Int) ∧ zY (leB (lZ a) (18 : Int) && leB (lZ b) (18 : Int)) (bF (dK q2) (((iN ≤ q3 * bif leB (lZ a) (18 : Int) && leB (lZ b)
 (18 : Int) then zV b else iZ) ∧ q2 ≤ iX) ∧ j2 ∧ (True ∧ Lib.itoa q2 = YR (fun (x1 x2 : Int) => x1 * x2) a b) ∧ kI ∧ iZ = yI (fun (x1 x2 : Int) => x1 * x2) a b)) q4) q4)) := by
 delta bF dK bA xI nM kI j2 lZ lN gD iZ iX iN iB
 dsimp only
 intro hb
 have e0 : (zi.dflt : Int) = 0 := rfl
 simp only [↓ZE, ↓ZR, row_one]
 simp only [sS, dS, e0, Yb, YW, Ym, yE, x8, YD, x5, YB, Y3]
 simp only [xN]
 refine ⟨by omega, by omega, fun hE => ⟨rfl, (u7 hE).1.symm, (u7 hE).2.symm⟩, fun hE => ?_⟩
 obtain ⟨hA, hB⟩ := yg hE
 obtain ⟨a1, a2, a3⟩ := Zb hA
 obtain ⟨b1, b2, b3⟩ := Zb hB
 rw [(vm hE).1, (vm hE).2, M8 a3 b3]
 have hl : (zw 1000000000 (((zV a).natAbs : Int) * ((zV b).natAbs : Int)).toNat).length ≤ 602 := by
  refine Ww ?_
  rw [show (((zV a).natAbs : Int) * ((zV b).natAbs : Int)).toNat = (zV a).natAbs * (zV b).natAbs from by rw [← Int.natCast_mul]; rfl, show 10 ^ 602 = 10 ^ 301 * 10 ^ 301 from Lq 301 602 rfl]
  have hm := Nat.mul_lt_mul'' a1 b1
  exact hm
 have la := Ww a1
 have lb := Ww b1
 refine ⟨⟨by omega, by omega⟩, fun h18 => ⟨a3, b3, zv.2 ⟨fun c => ?_, fun c => ?_⟩⟩, fun h18 => ?_⟩
 ·rw [c]
  rw [Bool.and_eq_true] at c
  simp only [cond_true]
  have hm : (zV a * zV b).natAbs < 10 ^ 18 := by
   rw [Int.natAbs_mul]
   have h1 := Nat.mul_lt_mul'' (TS a3) (TS b3)
   rw [← Nat.pow_add] at h1
   exact Nat.lt_of_lt_of_le h1 (Nat.pow_le_pow_right (by omega) (by omega))
  obtain ⟨r1, r2⟩ := ZS (n := zV a * zV b) (k := 18) (by omega) (by omega) hm
  rw [show 10 ^ 18 = 1000000000000000000 from by decide] at hm
  exact ⟨⟨by omega, by omega⟩, ⟨by omega, by omega⟩, rfl, r1.symm, r2.symm⟩
 ·exact ⟨a3, by omega, b3, by omega, (Zg _).1, (Zg _).1, by omega, by omega, (Zg _).1, (Zg _).2, by omega, rfl, rfl, rfl⟩
 ·exact ⟨a3, by omega, b3, by omega, (Zg _).1, (Zg _).1, by omega, by omega, (Zg _).1, (Zg _).2, by omega, rfl, rfl, rfl⟩
theorem Mw {G : List (Nat × Obj)} (hG : zh G) (a : List UInt8) (b : List UInt8) (hla : a.length ≤ 4294967280) (hlb : b.length ≤ 4294967280) : zT Tryz.prog G 43 [.str a, .str b] (.tup 2 (zt [.str (YR (· * ·) a b), .i (yI (· * ·) a b)])) :=
 zU (T := HX G) (an := .auto) mixed (XY hG) (Eq.mp (by kernel_rfl) (K2 G a b hla hlb))
theorem Tf {G : List (Nat × Obj)} (hG : zh G) : zQ Tryz.prog G 43 vI := by
 intro xs ps r h hp
 unfold vI at h
 split at h
 ·skip
  rename_i a b
  cases h
  obtain ⟨q0, q1, -⟩ := Zo hp
  exact weaken (ys := [.str a, .str b]) ⟨zr _, zr _, trivial⟩ (Mw hG a b q0 q1)
 ·cases h
def PH : List AV → Option (List zn × AV)
 | [.str a, .str b] => some ([.p (a.length ≤ 4294967280), .p (b.length ≤ 4294967280)], .tup 2 (zt [.i (x3 a b), .i (zI a b)]))
 | _ => none
theorem kL (G : List (Nat × Obj)) (a : List UInt8) (b : List UInt8) (hla : a.length ≤ 4294967280) (hlb : b.length ≤ 4294967280) :
 let q1 := (True ∧ kI ∧ iZ = x3 a b); let q3 := (zw 1000000000 (Int.natAbs (zV a))); let q4 := (Value.agg #[Value.bool false, Value.slice (wP Addr) 0 0]); let q2 := (AV.agg 2 fun (i : Nat) => if 0 ≤ 0 + i ∧ 0 + i < 2 then zt [AV.v (Value.bool (zG a)), xI q3] (0 + i - 0) else ZD q4 (0 + i)); let q6 := (zw 1000000000 (Int.natAbs (zV b))); let q5 := (AV.agg 2 fun (i : Nat) => if 0 ≤ 0 + i ∧ 0 + i < 1 then AV.v (Value.bool !zG b) else if 0 ≤ 0 + i ∧ 0 + i < 2 then zt
 [AV.v (Value.bool (zG b)), xI q6] (0 + i - 0) else ZD q4 (0 + i)); let q8 := (Zi q2); let q7 := (Big.l q8); let q10 := (Zi q5); let q9 := (Big.l q10); ZY [AV.str a, AV.str b] → lN a ≤ nM ∧ lN b ≤ nM ∧ zY (zI a b != iZ) (j2 ∧ q1 ∧ kI ∧ zI a b = zI a b) (zC a = true ∧ zC b = true ∧ (18 : Int) = (18 : Int) ∧ zY (leB (lZ a) (18 : Int) && leB (lZ b) (18 : Int)) (2
 = lN [AV.junk, AV.junk] ∧ (True ∧ kI ∧ Xk (bif leB (lZ a) (18 : Int) && leB (lZ b) (18 : Int) then zV a else iZ) (bif leB (lZ a) (18 : Int) && leB (lZ b) (18 : Int) then zV b else iZ) = x3 a b) ∧ kI ∧ iZ = zI a b) (zC a = true ∧ lN a ≤ 100000000 ∧ zC b = true ∧ lN b ≤ 100000000 ∧ bF (yZ Big q2) (bF (yZ Big q5) ((∀ (x : Int), List.Mem x q7 → iZ ≤ x ∧ x < iB) ∧ (∀ (x : Int), List.Mem x q9 → (0 :
 Int) ≤ x ∧ x < iB) ∧ zO q7 = Big.l q8 ∧ zO q9 = Big.l q10 ∧ lN q7 ≤ 1000000000 ∧ lN q9 ≤ 1000000000 ∧ zY ((lZ (zw 1000000000 (Int.toNat (qC q8 q10)))) == iZ) (j2 ∧ q1 ∧ kI ∧ iZ = zI a b) (zY (OT q8 q10) (j2 ∧ (True ∧ kI ∧ (-1 : Int) = x3 a b) ∧ kI ∧ iZ = zI a b) (j2 ∧ (True ∧ kI ∧ iO = x3 a b) ∧ kI ∧ iZ =
 zI a b)))))) := by
 delta bF xI nM kI j2 lZ lN iZ iO iB
 dsimp only
 intro hb
 have e0 : (zi.dflt : Int) = 0 := rfl
 simp only [↓ZE, ↓ZR, row_one]
 simp only [sS, dS, e0, Yb, YW, Ym, yE, x8, YD, x5, YB, Y3]
 have hV : zI a b = 0 → x3 a b = Xk (zV a) (zV b) := fun h => by unfold x3; rw [h]; rfl
 refine ⟨by omega, by omega, fun hE => ⟨rfl, ?_⟩, fun hE => ?_⟩
 ·unfold x3; rw [bne_iff_ne.2 hE]; rfl
 obtain ⟨hA, hB⟩ := yg hE
 obtain ⟨a1, a2, a3⟩ := Zb hA
 obtain ⟨b1, b2, b3⟩ := Zb hB
 rw [hV hE]
 refine ⟨a3, b3, zv.2 ⟨fun c => ?_, fun c => ?_⟩⟩
 ·rw [c]
  exact ⟨rfl, rfl, hE.symm⟩
 ·have hs : yG (!zG b) (zw 1000000000 (zV b).natAbs) = - zV b := by rw [qW, xu b3]
  obtain ⟨q1, q2, q3⟩ := PD hA hs b1
  have la := Ww a1
  have lb := Ww b1
  rw [tA _ q3] at q1
  refine ⟨a3, by omega, b3, by omega, (Zg _).1, (Zg _).1, (Zg _).2, (Zg _).2, by omega, by omega, fun h0 => ?_, fun h0 => zv.2 ⟨fun hn => ?_, fun hn => ?_⟩⟩
  all_goals
   generalize qC ⟨zG a, zw 1000000000 (zV a).natAbs⟩ ⟨!zG b, zw 1000000000 (zV b).natAbs⟩ = v at *
   generalize OT ⟨zG a, zw 1000000000 (zV a).natAbs⟩ ⟨!zG b, zw 1000000000 (zV b).natAbs⟩ = n at *
  ·have h1 := yb (b := 1000000000) (n := v.toNat) (by omega) (by omega)
   have : zV a = zV b := by cases n <;> simp at q1 <;> omega
   unfold Xk
   rw [this, show zH (zV b) (zV b) = false from Bool.eq_false_iff.2 fun e => by have := (zR _ _).1 e; omega, beq_self_eq_true]
   exact ⟨rfl, rfl, hE.symm⟩
  all_goals
   have h1 : v.toNat ≠ 0 := fun e => h0 (by rw [e, ZN]; rfl)
   rw [hn] at q1
   unfold Xk
  ·rw [cond_true] at q1
   rw [(zR _ _).2 (show zV a < zV b by omega)]
   exact ⟨rfl, rfl, hE.symm⟩
  ·rw [cond_false] at q1
   rw [show zH (zV a) (zV b) = false from Bool.eq_false_iff.2 fun e => by have := (zR _ _).1 e; omega, beq_eq_false_iff_ne.2 (show zV a ≠ zV b by omega)]
   exact ⟨rfl, rfl, hE.symm⟩
theorem LX {G : List (Nat × Obj)} (hG : zh G) (a : List UInt8) (b : List UInt8) (hla : a.length ≤ 4294967280) (hlb : b.length ≤ 4294967280) : zT Tryz.prog G 34 [.str a, .str b] (.tup 2 (zt [.i (x3 a b), .i (zI a b)])) :=
 zU (T := HX G) (an := .auto) mixed (XY hG) (Eq.mp (by kernel_rfl) (kL G a b hla hlb))
theorem Hz {G : List (Nat × Obj)} (hG : zh G) : zQ Tryz.prog G 34 PH := by
 intro xs ps r h hp
 unfold PH at h
 split at h
 ·skip
  rename_i a b
  cases h
  obtain ⟨q0, q1, -⟩ := Zo hp
  exact weaken (ys := [.str a, .str b]) ⟨zr _, zr _, trivial⟩ (LX hG a b q0 q1)
 ·cases h
end Go.Te
