/- kingpostref01: long division. -/
import Derived.Test.YtdkpceodckdcfaaGreatDoorTeG
import Derived.Test.YtdkpceodckdcfaaGreatDoorArM
set_option linter.unusedSimpArgs false
set_option linter.unusedVariables false
namespace Go.Te
open Go Go.Sx Go.Proofs Go.Ar
set_option maxRecDepth 100000
set_option maxHeartbeats 4000000
theorem Hh (a : Int) (l : List Int) : (AV.xl false 1 (1 + l.length) fun i j => if i < 1 then AV.v (Value.int IntKind.i64 a) else AV.v (Value.int IntKind.i64 (l.getD (i - 1) 0))) = AV.xl false 1 (a :: l).length fun i j => AV.v (Value.int IntKind.i64 ((a :: l).getD i 0)) := by
 rw [List.length_cons, Nat.add_comm 1]
 congr 1
 funext i j
 cases i with
 | zero => rfl
 | succ i => rfl
theorem vL (n : Nat) : zW 1000000 (zw 1000000 n) = (n : Int) := yN (b := 1000000) (by omega) n
theorem IW {n : Int} (h : 0 ≤ n) : zW 1000000 (zw 1000000 n.toNat) = n := by rw [vL, Int.toNat_of_nonneg h]
theorem TV (n : Nat) : Zv 1000000 (zw 1000000 n) := YO (b := 1000000) (by omega) n
theorem J0 {g : Int} (h0 : 0 ≤ g) (h1 : g < 1000000) : Zv 1000000 [g] := .one h0 h1
theorem LC (b g : Int) : zW b [g] = g := by simp [zW]
theorem KD {d : Int} (hd : 0 < d) {a q : List Int} {r : Int} (ha : Zv 1000000 a) (h : UV 1000000 d a 0 q r) :
  zm q = zw 1000000 ((zW 1000000 a).toNat / d.toNat) ∧ r.toNat = (zW 1000000 a).toNat % d.toNat := by
 have hv := h.val
 rw [List.drop_zero, List.drop_zero] at hv
 have q0 := zj (b := 1000000) (by omega) h.in_
 have a0 := zj (b := 1000000) (by omega) ha
 have h0 := h.r0
 have h1 := h.r1
 have ht : zm q = zw 1000000 (zW 1000000 q).toNat := YT (b := 1000000) (by omega) h.in_
 obtain ⟨D, rfl⟩ : ∃ D : Nat, d = D := ⟨d.toNat, by omega⟩
 obtain ⟨R, rfl⟩ : ∃ R : Nat, r = R := ⟨r.toNat, by omega⟩
 obtain ⟨Q, hQ⟩ : ∃ Q : Nat, zW 1000000 q = Q := ⟨(zW 1000000 q).toNat, by omega⟩
 obtain ⟨X, hX⟩ : ∃ X : Nat, zW 1000000 a = X := ⟨(zW 1000000 a).toNat, by omega⟩
 rw [ht, hQ, hX]
 rw [hQ, hX] at hv
 have e : X = D * Q + R := by exact_mod_cast hv
 simp only [Int.toNat_natCast]
 rw [e, Nat.mul_add_div (by omega), Nat.div_eq_of_lt (by omega), Nat.mul_add_mod, Nat.mod_eq_of_lt (by omega)]
 exact ⟨rfl, rfl⟩
theorem rN {n : Int} : ug n < 0 ↔ n < 0 := by
 rcases Int.lt_or_le n 0 with h | h
 ·rw [rf h]; omega
 ·rcases Int.lt_or_eq_of_le h with h2 | h2
  ·rw [rL h2]; omega
  ·subst h2; decide
theorem Gs {y : List Int} (hy : Zv 1000000 y) (ht : zm y = y) {A : Int} (hA : 0 ≤ A) :
  (0 ≤ ug (cmpL (zw 1000000 A.toNat) y) → zW 1000000 y ≤ A ∧ y.length ≤ (zw 1000000 A.toNat).length) ∧ (ug (cmpL (zw 1000000 A.toNat) y) < 0 → A < zW 1000000 y) := by
 have e : y = zw 1000000 (zW 1000000 y).toNat := YI (b := 1000000) (by omega) hy ht
 have v0 := zj (b := 1000000) (by omega) hy
 have c := (Va (b := 1000000) (by omega) A.toNat (zW 1000000 y).toNat).1
 rw [← e] at c
 refine ⟨fun h => ?_, fun h => ?_⟩
 ·have h1 : ¬ ug (cmpL (zw 1000000 A.toNat) y) < 0 := by omega
  rw [rN, c] at h1
  have h2 := ZM (b := 1000000) (m := (zW 1000000 y).toNat) (n := A.toNat) (by omega) (by omega)
  rw [← e] at h2
  exact ⟨by omega, h2⟩
 ·rw [rN, c] at h
  omega
theorem j8 {y : List Int} (hy : Zv 1000000 y) (ht : zm y = y) (hn : y.length ≠ 0) : 0 < zW 1000000 y := by
 have e : y = zw 1000000 (zW 1000000 y).toNat := YI (b := 1000000) (by omega) hy ht
 have v0 := zj (b := 1000000) (by omega) hy
 refine Decidable.byContradiction fun h => hn ?_
 rw [show (zW 1000000 y).toNat = 0 by omega, Zj] at e
 rw [e]; rfl
theorem iK {N V z : Int} (h0 : 0 ≤ N) (hV : 0 < V) (h1 : V * z ≤ N) (h2 : N - V * z < V) : N.tdiv V = z ∧ N.tmod V = N - V * z := by
 obtain ⟨e, m0, m1, d0⟩ := LI h0 hV
 have a1 : N.tdiv V = z := by
  have b1 : V * N.tdiv V < V * (z + 1) := by rw [Int.mul_add, Int.mul_one]; omega
  have b2 : V * z < V * (N.tdiv V + 1) := by rw [Int.mul_add, Int.mul_one]; omega
  have c1 := Int.lt_of_mul_lt_mul_left b1 (by omega)
  have c2 := Int.lt_of_mul_lt_mul_left b2 (by omega)
  omega
 exact ⟨a1, by rw [a1] at e; omega⟩
structure xP where
 z : Nat
 q : List Int
 R : Int
def Mi (x y : List Int) : yW :=
 .two .auto (.two .auto (.two .auto (.two .auto (.two .auto (.two .auto (.two (.two .auto (.one (.loop xP (fun σ z => [(0, σ.tm 0), (1, σ.tm 1), (6, σ.tm 6), (7, σ.tm 7), (8, σ.tm 8), (9, Zp (zw 1000000 z.R.toNat)), (10, .i ((z.z : Int) - 1))]) (fun σ z => [(Yx (σ.tm 8), w8 z.q)]) 0 (fun σ z => UV 1000000 (zW 1000000 y) x z.z z.q z.R) (fun σ z => z.z) (.two .auto (.two (.one (.two .auto (.two .auto (.two .auto (.two (.one (.loop Nat (fun σ z => [(0, σ.tm 0), (1, σ.tm 1), (6, σ.tm 6), (7, σ.tm 7), (8, σ.tm 8), (10, σ.tm 10), (9, Zp (zw 1000000 (zW 1000000 (zv (σ.tm 9)) + zW 1000000 y * AV.int (σ.tm 11) - zW 1000000 y * (z : Int)).toNat)), (11, .i (z : Int))]) (fun σ z => []) 0 (fun σ z => zW 1000000 y * (z : Int) ≤ zW 1000000 (zv (σ.tm 9)) + zW 1000000 y * AV.int (σ.tm 11)) (fun σ z => (zW 1000000 (zv (σ.tm 9)) + zW 1000000 y * AV.int (σ.tm 11) - zW 1000000 y * (z : Int)).toNat) .auto)) .auto))))) .auto))))) .auto))))))
def u4 : List AV → Option (List zN × AV)
 | [x_x, x_y] => some ([.b (za Int x_x), .b (za Int x_y), .p (Zv 1000000 (zv x_x)), .p (Zv 1000000 (zv x_y)), .p (zm (zv x_y) = (zv x_y)), .p ((zv x_y).length ≠ 0), .p ((zv x_x).length ≤ 100000000), .p ((zv x_y).length ≤ 100000000)], .tup 2 (zT [Zp (zw 1000000 ((zW 1000000 (zv x_x)).toNat / (zW 1000000 (zv x_y)).toNat)), Zp (zw 1000000 ((zW 1000000 (zv x_x)).toNat % (zW 1000000 (zv x_y)).toNat))]))
 | _ => none
theorem mu (x : List Int) (y : List Int) (hx : Zv 1000000 x) (hy : Zv 1000000 y) (ht : zm y = y) (hn : y.length ≠ 0) (hlx : x.length ≤ 100000000) (hly : y.length ≤ 100000000) :
 let q1 := (xI x); let q2 := (zv q1); let q4 := (zW (1000000 : Int) q2); let q3 := (zw 1000000 (Int.toNat q4 / Int.toNat (gD y 0 zp.dflt))); let q6 := (zw 1000000 (Int.toNat (zW (1000000 : Int) x) / Int.toNat (zW (1000000 : Int) y))); let q5 := (xI q6); let q7 := (zw 1000000 (Int.toNat q4 % Int.toNat (gD y 0 zp.dflt))); let q9 := (zw 1000000 (Int.toNat (zW (1000000 : Int) x) % Int.toNat (zW
 (1000000 : Int) y))); let q8 := (xI q9); let q10 := (dK ((lZ y) - iO)); let q11 := (Int.toNat ((lZ y) - iO)); let q12 := (dK ((lZ y) - (2 : Int))); let q13 := (Int.toNat ((lZ y) - (2 : Int))); let q14 := (xI y); let q15 := (kI ∧ (lZ y) = (lZ y)); let q16 :=
 (kI ∧ gD y q11 zp.dflt * (1000000 : Int) + gD y q13 zp.dflt = gD y q11 zp.dflt * (1000000 : Int) + gD y q13 zp.dflt); let q17 := (nat_lit 0 = 0 ∧ 0 = 0 ∧ Int.toNat (lZ x) = Int.toNat (lZ x)); let q27 := (gD y q11 zp.dflt * (1000000 : Int) + gD y q13 zp.dflt + iO); let q29 := (za Int q14); let q31 := (zv q14); let q30 := (∀ (x : Int), List.Mem x q31 → iZ ≤ x ∧ x < (1000000 : Int)); zB [xI x,
 xI y] → zZ ((lZ y) == iO) (bF (DB.db (iZ ≤ iZ ∧ iZ < (lZ y))) (bF (za Int q1) ((∀ (x_1 : Int), List.Mem x_1 q2 → iZ ≤ x_1 ∧ x_1 < (1000000 : Int)) ∧ iZ < gD y 0 zp.dflt ∧ gD y 0 zp.dflt ≤ (1000000 : Int) ∧ lN q2 ≤ 1000000000 ∧ j2 ∧ (True ∧ zc (xI q3) q5) ∧ zc (AV.xl false 1
 (lN q7) fun i j => aI (gD q7 i zp.dflt)) q8))) (bF q10 (bF (DB.db (iZ ≤ (lZ y) - iO ∧ (lZ y) - iO < (lZ y))) (bF (dK (gD y q11 zp.dflt * (1000000 : Int))) (bF q12 (bF (DB.db (iZ ≤ (lZ y) - (2 : Int) ∧ (lZ y) - (2 : Int) < (lZ y))) (bF (dK (gD y q11 zp.dflt * (1000000 : Int) + gD y q13 zp.dflt)) (bF (DB.db (iZ ≤ (↑(lN x)
 : Int) ∧ (lZ x) ≤ (lZ x) ∧ (↑8 : Int) * (lZ x) ≤ (140737488355328 : Int))) (bF (dK ((lZ x) - iO)) ((∃ (z : xP), (UV (1000000 : Int) (zW (1000000 : Int) y) x (xP.z z) (xP.q z) (xP.R z) ∧ zc q1 q1 ∧ zc q14 q14 ∧ q15 ∧ q16 ∧ q17 ∧ zc (AV.xl true 1 0 (Sx.rowAt [])) (xI (zw 1000000 (Int.toNat (xP.R z)))) ∧ kI ∧ (lZ x) - iO = (cI (xP.z
 z)) - iO) ∧ (3 : TypeId) = 3 ∧ 1 = 1 ∧ lN (xP.q z) = Int.toNat (lZ x) ∧ ∀ (i j : Nat), i < Int.toNat (lZ x) → j < 1 → zc (Zf (Value.int .i64 iZ) j) (aI (gD (xP.q z) i iZ))) ∧ ∀ (z : xP), let q18 := (1 + lN (zw 1000000 (Int.toNat (xP.R z)))); let q20 := (Value.int .i64 (gD x (Int.toNat ((cI (xP.z z)) - iO)) zp.dflt)); let q19 := (AV.xl false 1 q18 fun (a b : Nat) => if a < 1 then Sx.rowAt [fun (x_1 : Nat) => AV.v q20] a b else aI (List.getD
 (zw 1000000 (Int.toNat (xP.R z))) (a - 1) zp.dflt)); let q23 := (zm (zv q19)); let q22 := (xI q23); let q21 := (za Int q22); let q24 := (zv q22); let q25 := (gD q24 (Int.toNat (lZ y)) iZ * (1000000 : Int) + gD q24 q11 iZ); let q26 := (q25 * (1000000 : Int) + gD q24 q13 iZ); let q28 := (Int.tdiv q26 q27); let q34 := (zm (zv (AV.xl false 1 q18 fun (a b : Nat) => if a < 1 then Sx.rowAt [fun (x_3 : Nat) => AV.v q20] a b else AV.v
 (Value.int .i64 (gD (zw 1000000 (Int.toNat (xP.R z))) (a - 1) zp.dflt))))); let q33 := (zv (xI q34)); let q32 := (zv (AV.xl true 1 1 (Sx.rowAt [fun (x_2 : Nat) => AV.v (Value.int .i64 (Int.tdiv ((gD q33 (Int.toNat (lZ y)) iZ * (1000000 : Int) + gD q33 q11 iZ) * (1000000 : Int) + gD q33 q13 iZ) q27))]))); let q38 := (zm (zv (AV.xl false 1 q18 fun (a b : Nat) => if a < 1 then Sx.rowAt [fun (x_2 : Nat) => AV.v q20] a b else AV.v
 (Value.int .i64 (gD (zw 1000000 (Int.toNat (xP.R z))) (a - 1) zp.dflt))))); let q37 := (zv (xI q38)); let q36 := (Value.int .i64 (Int.tdiv ((gD q37 (Int.toNat (lZ y)) iZ * (1000000 : Int) + gD q37 q11 iZ) * (1000000 : Int) + gD q37 q13 iZ) q27)); let q35 := (zv (AV.xl true 1 1 (Sx.rowAt [fun (x_1 : Nat) => AV.v q36]))); let q40 := (zw 1000000 (Int.toNat (zW (1000000 : Int) q31 * zW (1000000 : Int) q35))); let q39 := (AV.xl
 false 1 (lN q40) fun i j => aI (gD q40 i zp.dflt)); let q42 := (zw 1000000 (Int.toNat (zW (1000000 : Int) q31 * zW (1000000 : Int) q32))); let q41 := (zv (xI q42)); let q43 := (zv q39); let q46 := (zw 1000000 (Int.toNat (zW (1000000 : Int) q24 - zW (1000000 : Int) q43))); let q45 := (xI q46); let q44 := (zv q45); let q47 := (aI q28); let q48 :=
 (kI ∧ (cI (xP.z z)) - iO = (cI (xP.z z)) - iO); let q56 := (zw 1000000 (Int.toNat (zW (1000000 : Int) q37 - zW (1000000 : Int) q41))); let q60 := (AV.xl false 1 (Int.toNat (lZ x)) fun i j => aI (gD (xP.q z) (0 + i) iZ)); let q61 := (zm (zv q60)); UV (1000000 : Int) (zW (1000000 : Int) y) x (xP.z z) (xP.q z) (xP.R z) → zZ (leB iZ ((cI (xP.z z)) - iO)) (bF (DB.db (iZ ≤ (cI (xP.z z)) - iO ∧ (cI (xP.z z)) - iO < (↑(lN x) :
 Int))) (bF (DB.db (q18 * 8 ≤ 140737488355328)) (bF (za Int q19) (bF q21 (iZ ≤ (lZ y) ∧ bF (dK (gD q24 (Int.toNat (lZ y)) iZ * (1000000 : Int))) (bF q10 (bF q21 (iZ ≤ (lZ y) - iO ∧ bF (dK q25) (bF (dK (q25 * (1000000 : Int))) (bF q12 (bF q21 (iZ ≤ (lZ y) - (2 : Int) ∧ bF (dK q26) (bF (dK q27) (bF (DB.db (gD y q11 zp.dflt * (1000000 : Int) + gD y
 q13 zp.dflt + iO ≠ iZ)) (bF (dK q28) (bF q29 (q30 ∧ (∀ (x_1 : Int), List.Mem x_1 q32 → iZ ≤ x_1 ∧ x_1 < (1000000 : Int)) ∧ lN q31 ≤ 1000000000 ∧ lN q35 ≤ 1000000000 ∧ bF q21 (bF (za Int q39) ((∀ (x_1 : Int), List.Mem x_1 q37 → iZ ≤ x_1 ∧ x_1 < (1000000 : Int)) ∧ (∀ (x_1 : Int), List.Mem x_1 q41 → iZ ≤ x_1 ∧ x_1 < (1000000 : Int)) ∧ lN q43 ≤ lN q24 ∧ lN q24 ≤ 1000000000 ∧ zW (1000000 : Int) q43 ≤ zW (1000000 : Int) q24 ∧ (∃ (z_1 : Nat), let q49 := (zw 1000000 (Int.toNat (zW
 (1000000 : Int) q44 + zW (1000000 : Int) y * AV.int q47 - zW (1000000 : Int) y * (cI z_1)))); (zW (1000000 : Int) y * (cI z_1) ≤ zW (1000000 : Int) q44 + zW (1000000 : Int) y * AV.int q47 ∧ zc q1 q1 ∧ zc q14 q14 ∧ q15 ∧ q16 ∧ q17 ∧ q48 ∧ zc q45 (xI q49) ∧ kI ∧ Int.tdiv q26 q27 = (cI z_1)) ∧ 3 = 3 ∧ 1 = 1 ∧ lN (xP.q z) = lN (xP.q z) ∧ ∀ (i j : Nat), i < lN (xP.q z) → j < 1 → kI ∧ gD (xP.q z) i iZ = List.getD
 (xP.q z) i iZ) ∧ ∀ (z_1 : Nat), let q53 := (zW (1000000 : Int) q44 + zW (1000000 : Int) y * AV.int q47 - zW (1000000 : Int) y * (cI z_1)); let q52 := (zw 1000000 (Int.toNat q53)); let q51 := (xI q52); let q50 := (za Int q51); let q54 := (zv q51); let q55 := (zw 1000000 (Int.toNat (zW (1000000 : Int) (zv (xI q56)) + zW (1000000 : Int) y * AV.int (AV.v q36) - zW (1000000 : Int) y * (↑z_1 :
 Int)))); let q58 := (zw 1000000 (Int.toNat (zW (1000000 : Int) q54 - zW (1000000 : Int) q31))); zW (1000000 : Int) y * (cI z_1) ≤ zW (1000000 : Int) q44 + zW (1000000 : Int) y * AV.int q47 → bF q50 (bF q29 (zZ (leB iZ (ug (cmpL q54 q31))) (bF q50 (bF q29 ((∀ (x_1 : Int), List.Mem x_1 (zv (xI q55)) → iZ ≤ x_1 ∧ x_1 < (1000000 : Int)) ∧ q30 ∧ lN q31 ≤ lN q54 ∧ lN q54 ≤ 1000000000 ∧ zW (1000000 : Int) q31 ≤ zW (1000000 : Int)
 q54 ∧ bF (dK ((cI z_1) + iO)) (∃ (z' : Nat), let q57 := (zW (1000000 : Int) q44 + zW (1000000 : Int) y * AV.int q47 - zW (1000000 : Int) y * (cI z')); let q59 := (zw 1000000 (Int.toNat q57)); ((zW (1000000 : Int) y * (cI z') ≤ zW (1000000 : Int) q44 + zW (1000000 : Int) y * AV.int q47 ∧ Int.toNat q57 < Int.toNat q53) ∧ zc q1 q1 ∧ zc q14 q14 ∧ q15 ∧ q16 ∧ q17 ∧ q48 ∧ zc (xI q58) (AV.xl false 1 (lN q59) fun i j => aI (gD q59
 i zp.dflt)) ∧ kI ∧ (cI z_1) + iO = (cI z')) ∧ 3 = 3 ∧ 1 = 1 ∧ lN (xP.q z) = lN (xP.q z) ∧ ∀ (i j : Nat), i < lN (xP.q z) → j < 1 → kI ∧ gD (xP.q z) i iZ = gD (xP.q z) i iZ)))) (bF (DB.db (iZ ≤ (cI (xP.z z)) - iO ∧ (cI (xP.z z)) - iO < (cI (Int.toNat (lZ x))))) (bF (dK ((cI (xP.z z)) - iO - iO)) (∃ (z' : xP), ((UV (1000000 : Int) (zW (1000000 : Int) y) x (xP.z z') (xP.q
 z') (xP.R z') ∧ xP.z z' < xP.z z) ∧ zc q1 q1 ∧ zc q14 q14 ∧ q15 ∧ q16 ∧ q17 ∧ zc q51 (xI (zw 1000000 (Int.toNat (xP.R z')))) ∧ kI ∧ (cI (xP.z z)) - iO - iO = (cI (xP.z z')) - iO) ∧ 3 = 3 ∧ 1 = 1 ∧ lN (xP.q z') = lN (xP.q z) ∧ ∀ (i j : Nat), i < lN (xP.q z) → j < 1 → zc (if i = 0 + Int.toNat ((cI (xP.z z)) - iO) ∧ 0 ≤ j ∧ j < 1 then aI (cI z_1) else AV.v
 (Value.int .i64 (gD (xP.q z) i iZ))) (aI (gD (xP.q z') i iZ)))))))))))))))))))))))))) (bF (za Int q60) (j2 ∧ (True ∧ zc (xI q61) q5) ∧ zc (AV.xl false 1 (lN (zw 1000000 (Int.toNat (xP.R z)))) fun i j => aI (gD (zw 1000000 (Int.toNat (xP.R z))) i
 zp.dflt)) q8))))))))))) := by
 delta bF dK xI cI kI j2 lZ lN gD iZ iO aI
 dsimp only
 intro hb
 have e0 : (zp.dflt : Int) = 0 := rfl
 simp only [↓ZK, ↓ZT, row_one]
 simp only [sS, dS, e0]
 simp only [Hh]
 simp only [sS, dS, e0]
 have hV := j8 hy ht hn
 have er : ∀ r : Int, zv (AV.xl true 1 1 fun x j => AV.v (Value.int IntKind.i64 r)) = [r] := fun r => rfl
 refine ⟨fun h1 => ?_, fun h1 => ⟨⟨by omega, by omega⟩, ⟨by omega, by omega⟩, ⟨?_, ?_⟩, ⟨by omega, by omega⟩, ⟨by omega, by omega⟩, ⟨?_, ?_⟩, ⟨by omega, Int.le_refl _, by omega⟩, ⟨by omega, by omega⟩, ⟨⟨x.length, List.replicate x.length 0, 0⟩, ⟨.start (by omega) hV x, ?_, rfl⟩, by simp, fun i j _ hj => wB _ i j hj⟩, fun z z1 => ⟨fun hz => ?_, fun hz => ?_⟩⟩⟩
 ·have d4 := hy.get (by omega) 0
  have ev : zW 1000000 y = y.getD 0 0 := by
   have := xQ 1000000 y 0
   rw [List.drop_zero, List.drop_of_length_le (l := y) (i := 0 + 1) (by omega), y9, Int.mul_zero, Int.add_zero] at this
   exact this
  rw [ev] at hV ⊢
  exact ⟨⟨by omega, by omega⟩, hx, hV, by omega, by omega, rfl, zX _, zX _⟩
 ·have := hy.get (by omega) ((y.length : Int) - 1).toNat; omega
 ·have := hy.get (by omega) ((y.length : Int) - 1).toNat; omega
 ·have := hy.get (by omega) ((y.length : Int) - 1).toNat
  have := hy.get (by omega) ((y.length : Int) - 2).toNat
  omega
 ·have := hy.get (by omega) ((y.length : Int) - 1).toNat
  have := hy.get (by omega) ((y.length : Int) - 2).toNat
  omega
 ·rw [show ((0 : Int)).toNat = 0 from rfl, Zj]
  exact ⟨fun _ => rfl, rfl, rfl, fun i j hi => absurd hi (Nat.not_lt_zero _)⟩
 rotate_left
 ·have hz' : z.z = 0 := by have := z1.le; omega
  have z2 : UV 1000000 (zW 1000000 y) x 0 z.q z.R := hz' ▸ z1
  obtain ⟨t1, t2⟩ := KD hV hx z2
  rw [← z1.len]
  simp only [sS, dS, e0]
  rw [t1, t2]
  exact ⟨rfl, zX _, zX _⟩
 have ek : ((z.z : Int) - 1).toNat = z.z - 1 := by omega
 have ey1 : ((y.length : Int) - 1).toNat = y.length - 1 := by omega
 have ey2 : ((y.length : Int) - 2).toNat = y.length - 2 := by omega
 rw [ek, ey1, ey2]
 obtain ⟨zz, q, R⟩ := z
 simp only at hz z1 ek ⊢
 obtain ⟨k, rfl⟩ : ∃ k, zz = k + 1 := ⟨zz - 1, by omega⟩
 rw [show k + 1 - 1 = k by omega]
 have zle := z1.le
 have R0 := z1.r0
 have R1 := z1.r1
 obtain ⟨⟨n0, n1⟩, hs⟩ := z1.step (by omega) hx
 have xk := hx.get (by omega) k
 have el : zm (x.getD k 0 :: zw 1000000 R.toNat) = zw 1000000 (x.getD k 0 + R * 1000000).toNat := by
  rw [YT (b := 1000000) (by omega) (show Zv 1000000 (x.getD k 0 :: zw 1000000 R.toNat) from Zv.app (.one xk.1 xk.2) (TV _))]
  show zw 1000000 (x.getD k 0 + 1000000 * zW 1000000 (zw 1000000 R.toNat)).toNat = _
  rw [IW R0, Int.mul_comm]
 rw [el]
 generalize hN : x.getD k 0 + R * 1000000 = N at *
 have lN : (zw 1000000 N.toNat).length ≤ y.length + 1 := by
  refine yg (b := 1000000) (by omega) ?_
  have := yB (b := 1000000) (by omega) hy
  rw [Int.toNat_of_nonneg n0]
  show N < (1000000 : Int) ^ (y.length + 1)
  rw [X1]
  omega
 obtain ⟨g0, g1, g2⟩ := GQ (b := 1000000) (by omega) hy (TV N.toNat) (by omega) rfl lN (by rw [IW n0]; omega) rfl rfl
 rw [IW n0] at g2
 have d1 := (TV N.toNat).get (by omega) y.length
 have d2 := (TV N.toNat).get (by omega) (y.length - 1)
 have d3 := (TV N.toNat).get (by omega) (y.length - 2)
 have d4 := hy.get (by omega) (y.length - 1)
 have d5 := hy.get (by omega) (y.length - 2)
 generalize (zw 1000000 N.toNat).getD y.length 0 = t1 at *
 generalize (zw 1000000 N.toNat).getD (y.length - 1) 0 = t2 at *
 generalize (zw 1000000 N.toNat).getD (y.length - 2) 0 = t3 at *
 generalize y.getD (y.length - 1) 0 = u1 at *
 generalize y.getD (y.length - 2) 0 = u2 at *
 generalize ((t1 * 1000000 + t2) * 1000000 + t3).tdiv (u1 * 1000000 + u2 + 1) = g at *
 have V0 := zj (b := 1000000) (by omega) hy
 have g3 : 0 ≤ zW 1000000 y * g := Int.mul_nonneg V0 g0
 simp only [er, LC, IW n0, IW g3]
 have g4 : 0 ≤ N - zW 1000000 y * g := by omega
 simp only [IW g4, Int.sub_add_cancel]
 have lR : (zw 1000000 R.toNat).length ≤ y.length := by
  refine yg (b := 1000000) (by omega) ?_
  have := yB (b := 1000000) (by omega) hy
  rw [Int.toNat_of_nonneg R0]
  show R < (1000000 : Int) ^ y.length
  omega
 have lVg : (zw 1000000 (zW 1000000 y * g).toNat).length ≤ (zw 1000000 N.toNat).length := ZM (b := 1000000) (by omega) (by omega)
 refine ⟨⟨by omega, by omega⟩, by omega, by omega, ⟨by omega, by omega⟩, ⟨by omega, by omega⟩, by omega, ⟨by omega, by omega⟩, ⟨by omega, by omega⟩, ⟨by omega, by omega⟩, by omega, ⟨by omega, by omega⟩, ⟨by omega, by omega⟩, by omega, ⟨by omega, by omega⟩, hy, J0 g0 g1, by omega, by simp, TV _, TV _, lVg, by omega, g2, ⟨⟨g.toNat, ⟨by rw [Int.toNat_of_nonneg g0]; exact g2, by rw [Int.toNat_of_nonneg g0]; exact zX _, by omega⟩, fun _ _ _ _ => trivial⟩, fun z hz2 => ?_⟩⟩
 have A0 : 0 ≤ N - zW 1000000 y * (z : Int) := by omega
 obtain ⟨c1, c2⟩ := Gs hy ht A0
 have zb : (z : Int) < 1000000 := by
  have : zW 1000000 y * (z : Int) < zW 1000000 y * 1000000 := by omega
  exact Int.lt_of_mul_lt_mul_left this V0
 have lA : (zw 1000000 (N - zW 1000000 y * (z : Int)).toNat).length ≤ (zw 1000000 N.toNat).length := ZM (b := 1000000) (by omega) (by
  have : 0 ≤ zW 1000000 y * (z : Int) := Int.mul_nonneg V0 (by omega)
  omega)
 simp only [IW A0]
 refine ⟨fun hc => ?_, fun hc => ?_⟩
 ·obtain ⟨c3, c4⟩ := c1 hc
  have es : zW 1000000 y * ((z + 1 : Nat) : Int) = zW 1000000 y * (z : Int) + zW 1000000 y := by rw [Int.natCast_add, Int.mul_add]; simp
  refine ⟨TV _, hy, c4, by omega, c3, ⟨by omega, by omega⟩, ⟨z + 1, ⟨⟨by omega, by omega⟩, ?_, by omega⟩, fun _ _ _ _ => trivial⟩⟩
  rw [es, show N - (zW 1000000 y * (z : Int) + zW 1000000 y) = N - zW 1000000 y * (z : Int) - zW 1000000 y by omega]
  exact zX _
 ·obtain ⟨q1, q2⟩ := iK n0 hV hz2 (c2 hc)
  rw [q1, q2] at hs
  exact ⟨⟨by omega, by omega⟩, ⟨by omega, by omega⟩, ⟨k, _, _⟩, ⟨⟨hs, by simp only; omega⟩, zX _, by simp only; omega⟩, by simp, fun i j _ => uG _ _ _ (by rw [z1.len]; omega) i j⟩
theorem Lb (x : List Int) (y : List Int) (hx : Zv 1000000 x) (hy : Zv 1000000 y) (ht : zm y = y) (hn : y.length ≠ 0) (hlx : x.length ≤ 100000000) (hly : y.length ≤ 100000000) : zS Tryz.prog [] 105 [Zp x, Zp y] (.tup 2 (zT [Zp (zw 1000000 ((zW 1000000 x).toNat / (zW 1000000 y).toNat)), Zp (zw 1000000 ((zW 1000000 x).toNat % (zW 1000000 y).toNat))])) :=
 zV (T := (((((T0.plus 154 xJ).plus 156 wU).plus 157 WE).plus 158 Wb).plus 155 Vg).plus 159 vD) (an := Mi x y) mixed (zY.plus (zY.plus (zY.plus (zY.plus (zY.plus (zY.plus zr wS) VV) T9) TE) Ov) qO) (Eq.mp (by kernel_rfl) (mu x y hx hy ht hn hlx hly))
theorem oV : zQ Tryz.prog [] 105 u4 := by
 intro xs ps r h hp
 unfold u4 at h
 split at h
 ·skip
  rename_i x_x x_y
  cases h
  obtain ⟨q0, q1, q2, q3, q4, q5, q6, q7, -⟩ := Zx hp
  exact weaken (ys := [Zp (zv x_x), Zp (zv x_y)]) ⟨zi q0, zi q1, trivial⟩ (Lb (zv x_x) (zv x_y) q2 q3 q4 q5 q6 q7)
 ·cases h
end Go.Te
