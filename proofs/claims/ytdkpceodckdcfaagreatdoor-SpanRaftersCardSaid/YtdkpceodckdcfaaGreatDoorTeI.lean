/- kingpostref01: long division. -/
import Derived.Test.YtdkpceodckdcfaaGreatDoorTeG
import Derived.Test.YtdkpceodckdcfaaGreatDoorArM
set_option linter.unusedSimpArgs false
set_option linter.unusedVariables false
namespace Go.Te
open Go Go.Sx Go.Proofs Go.Ar
set_option maxRecDepth 100000
set_option maxHeartbeats 4000000
theorem consI (a : Int) (l : List Int) : (AV.xl false 1 (1 + l.length) fun i j => if i < 1 then AV.v (Value.int IntKind.i64 a) else AV.v (Value.int IntKind.i64 (l.getD (i - 1) 0))) = AV.xl false 1 (a :: l).length fun i j => AV.v (Value.int IntKind.i64 ((a :: l).getD i 0)) := by
 rw [List.length_cons, Nat.add_comm 1]
 congr 1
 funext i j
 cases i with
 | zero => rfl
 | succ i => rfl
theorem vL (n : Nat) : valL 1000000 (limbs 1000000 n) = (n : Int) := limbs_val (b := 1000000) (by omega) n
theorem vLi {n : Int} (h : 0 ≤ n) : valL 1000000 (limbs 1000000 n.toNat) = n := by rw [vL, Int.toNat_of_nonneg h]
theorem inLm (n : Nat) : InL 1000000 (limbs 1000000 n) := limbs_in (b := 1000000) (by omega) n
theorem one_in {g : Int} (h0 : 0 ≤ g) (h1 : g < 1000000) : InL 1000000 [g] := .one h0 h1
theorem val1 (b g : Int) : valL b [g] = g := by simp [valL]
theorem ShZ_end {d : Int} (hd : 0 < d) {a q : List Int} {r : Int} (ha : InL 1000000 a) (h : ShZ 1000000 d a 0 q r) :
  trimL q = limbs 1000000 ((valL 1000000 a).toNat / d.toNat) ∧ r.toNat = (valL 1000000 a).toNat % d.toNat := by
 have hv := h.val
 rw [List.drop_zero, List.drop_zero] at hv
 have q0 := valL_nonneg (b := 1000000) (by omega) h.in_
 have a0 := valL_nonneg (b := 1000000) (by omega) ha
 have h0 := h.r0
 have h1 := h.r1
 have ht : trimL q = limbs 1000000 (valL 1000000 q).toNat := trim_eq (b := 1000000) (by omega) h.in_
 obtain ⟨D, rfl⟩ : ∃ D : Nat, d = D := ⟨d.toNat, by omega⟩
 obtain ⟨R, rfl⟩ : ∃ R : Nat, r = R := ⟨r.toNat, by omega⟩
 obtain ⟨Q, hQ⟩ : ∃ Q : Nat, valL 1000000 q = Q := ⟨(valL 1000000 q).toNat, by omega⟩
 obtain ⟨X, hX⟩ : ∃ X : Nat, valL 1000000 a = X := ⟨(valL 1000000 a).toNat, by omega⟩
 rw [ht, hQ, hX]
 rw [hQ, hX] at hv
 have e : X = D * Q + R := by exact_mod_cast hv
 simp only [Int.toNat_natCast]
 rw [e, Nat.mul_add_div (by omega), Nat.div_eq_of_lt (by omega), Nat.mul_add_mod, Nat.mod_eq_of_lt (by omega)]
 exact ⟨rfl, rfl⟩
theorem sgn_lt {n : Int} : sgn n < 0 ↔ n < 0 := by
 rcases Int.lt_or_le n 0 with h | h
 ·rw [sgn_neg h]; omega
 ·rcases Int.lt_or_eq_of_le h with h2 | h2
  ·rw [sgn_pos h2]; omega
  ·subst h2; decide
theorem cmpY {y : List Int} (hy : InL 1000000 y) (ht : trimL y = y) {A : Int} (hA : 0 ≤ A) :
  (0 ≤ sgn (cmpL (limbs 1000000 A.toNat) y) → valL 1000000 y ≤ A ∧ y.length ≤ (limbs 1000000 A.toNat).length) ∧ (sgn (cmpL (limbs 1000000 A.toNat) y) < 0 → A < valL 1000000 y) := by
 have e : y = limbs 1000000 (valL 1000000 y).toNat := limbs_eq (b := 1000000) (by omega) hy ht
 have v0 := valL_nonneg (b := 1000000) (by omega) hy
 have c := (cmpL_sign (b := 1000000) (by omega) A.toNat (valL 1000000 y).toNat).1
 rw [← e] at c
 refine ⟨fun h => ?_, fun h => ?_⟩
 ·have h1 : ¬ sgn (cmpL (limbs 1000000 A.toNat) y) < 0 := by omega
  rw [sgn_lt, c] at h1
  have h2 := limbs_len_mono (b := 1000000) (m := (valL 1000000 y).toNat) (n := A.toNat) (by omega) (by omega)
  rw [← e] at h2
  exact ⟨by omega, h2⟩
 ·rw [sgn_lt, c] at h
  omega
theorem pos_y {y : List Int} (hy : InL 1000000 y) (ht : trimL y = y) (hn : y.length ≠ 0) : 0 < valL 1000000 y := by
 have e : y = limbs 1000000 (valL 1000000 y).toNat := limbs_eq (b := 1000000) (by omega) hy ht
 have v0 := valL_nonneg (b := 1000000) (by omega) hy
 refine Decidable.byContradiction fun h => hn ?_
 rw [show (valL 1000000 y).toNat = 0 by omega, limbs_zero] at e
 rw [e]; rfl
theorem quo_eq {N V z : Int} (h0 : 0 ≤ N) (hV : 0 < V) (h1 : V * z ≤ N) (h2 : N - V * z < V) : N.tdiv V = z ∧ N.tmod V = N - V * z := by
 obtain ⟨e, m0, m1, d0⟩ := tdm h0 hV
 have a1 : N.tdiv V = z := by
  have b1 : V * N.tdiv V < V * (z + 1) := by rw [Int.mul_add, Int.mul_one]; omega
  have b2 : V * z < V * (N.tdiv V + 1) := by rw [Int.mul_add, Int.mul_one]; omega
  have c1 := Int.lt_of_mul_lt_mul_left b1 (by omega)
  have c2 := Int.lt_of_mul_lt_mul_left b2 (by omega)
  omega
 exact ⟨a1, by rw [a1] at e; omega⟩
structure DvS where
 z : Nat
 q : List Int
 R : Int
def r1div_an (x y : List Int) : Ann :=
 .two .auto (.two .auto (.two .auto (.two .auto (.two .auto (.two .auto (.two (.two .auto (.one (.loop DvS (fun σ z => [(0, σ.tm 0), (1, σ.tm 1), (6, σ.tm 6), (7, σ.tm 7), (8, σ.tm 8), (9, slE (limbs 1000000 z.R.toNat)), (10, .i ((z.z : Int) - 1))]) (fun σ z => [(blkAt (σ.tm 8), iArr z.q)]) 0 (fun σ z => ShZ 1000000 (valL 1000000 y) x z.z z.q z.R) (fun σ z => z.z) (.two .auto (.two (.one (.two .auto (.two .auto (.two .auto (.two (.one (.loop Nat (fun σ z => [(0, σ.tm 0), (1, σ.tm 1), (6, σ.tm 6), (7, σ.tm 7), (8, σ.tm 8), (10, σ.tm 10), (9, slE (limbs 1000000 (valL 1000000 (intsOf (σ.tm 9)) + valL 1000000 y * AV.int (σ.tm 11) - valL 1000000 y * (z : Int)).toNat)), (11, .i (z : Int))]) (fun σ z => []) 0 (fun σ z => valL 1000000 y * (z : Int) ≤ valL 1000000 (intsOf (σ.tm 9)) + valL 1000000 y * AV.int (σ.tm 11)) (fun σ z => (valL 1000000 (intsOf (σ.tm 9)) + valL 1000000 y * AV.int (σ.tm 11) - valL 1000000 y * (z : Int)).toNat) .auto)) .auto))))) .auto))))) .auto))))))
def r1div_t : List AV → Option (List Cond × AV)
 | [x_x, x_y] => some ([.b (slOk Int x_x), .b (slOk Int x_y), .p (InL 1000000 (intsOf x_x)), .p (InL 1000000 (intsOf x_y)), .p (trimL (intsOf x_y) = (intsOf x_y)), .p ((intsOf x_y).length ≠ 0), .p ((intsOf x_x).length ≤ 100000000), .p ((intsOf x_y).length ≤ 100000000)], .tup 2 (listFn [slE (limbs 1000000 ((valL 1000000 (intsOf x_x)).toNat / (valL 1000000 (intsOf x_y)).toNat)), slE (limbs 1000000 ((valL 1000000 (intsOf x_x)).toNat % (valL 1000000 (intsOf x_y)).toNat))]))
 | _ => none
theorem r1div_vc (x : List Int) (y : List Int) (hx : InL 1000000 x) (hy : InL 1000000 y) (ht : trimL y = y) (hn : y.length ≠ 0) (hlx : x.length ≤ 100000000) (hly : y.length ≤ 100000000) :
 let q1 := (AV.xl false 1 (lN x) fun i j => aI (gD x i Enc.dflt)); let q2 := (intsOf q1); let q4 := (valL (1000000 : Int) q2); let q3 := (limbs 1000000 (Int.toNat q4 / Int.toNat (gD y 0 Enc.dflt))); let q6 := (limbs 1000000 (Int.toNat (valL (1000000 : Int) x) / Int.toNat (valL (1000000 : Int) y))); let q5 := (AV.xl false 1 (lN q6) fun i j => aI (gD q6 i Enc.dflt)); let q7 := (limbs 1000000 (Int.toNat q4 % Int.toNat (gD y 0 Enc.dflt))); let q9 := (limbs 1000000 (Int.toNat (valL (1000000 : Int) x) % Int.toNat (valL
 (1000000 : Int) y))); let q8 := (AV.xl false 1 (lN q9) fun i j => aI (gD q9 i Enc.dflt)); let q10 := (DB.db (inK .i64 ((lZ y) - iO))); let q11 := (Int.toNat ((lZ y) - iO)); let q12 := (DB.db (inK .i64 ((lZ y) - (2 : Int)))); let q13 := (Int.toNat ((lZ y) - (2 : Int))); let q14 := (AV.xl false 1 (lN y) fun i j => aI (gD y i Enc.dflt)); let q15 := (kI ∧ (lZ y) = (lZ y)); let q16 :=
 (kI ∧ gD y q11 Enc.dflt * (1000000 : Int) + gD y q13 Enc.dflt = gD y q11 Enc.dflt * (1000000 : Int) + gD y q13 Enc.dflt); let q17 := (nat_lit 0 = 0 ∧ 0 = 0 ∧ Int.toNat (lZ x) = Int.toNat (lZ x)); let q27 := (gD y q11 Enc.dflt * (1000000 : Int) + gD y q13 Enc.dflt + iO); let q29 := (slOk Int q14); let q31 := (intsOf q14); let q30 := (∀ (x : Int), List.Mem x q31 → iZ ≤ x ∧ x < (1000000 : Int)); bndL [AV.xl false 1 (lN x) fun i j => aI (gD x i Enc.dflt),
 AV.xl false 1 (lN y) fun i j => aI (gD y i Enc.dflt)] → bsplit ((lZ y) == iO) (bsplit (DB.db (iZ ≤ iZ ∧ iZ < (lZ y))) (bsplit (slOk Int q1) ((∀ (x_1 : Int), List.Mem x_1 q2 → iZ ≤ x_1 ∧ x_1 < (1000000 : Int)) ∧ iZ < gD y 0 Enc.dflt ∧ gD y 0 Enc.dflt ≤ (1000000 : Int) ∧ lN q2 ≤ 1000000000 ∧ j2 ∧ (True ∧ avM (AV.xl false 1 (lN q3) fun i j => aI (gD q3 i Enc.dflt)) q5) ∧ avM (AV.xl false 1
 (lN q7) fun i j => aI (gD q7 i Enc.dflt)) q8) False) False) (bsplit q10 (bsplit (DB.db (iZ ≤ (lZ y) - iO ∧ (lZ y) - iO < (lZ y))) (bsplit (DB.db (inK .i64 (gD y q11 Enc.dflt * (1000000 : Int)))) (bsplit q12 (bsplit (DB.db (iZ ≤ (lZ y) - (2 : Int) ∧ (lZ y) - (2 : Int) < (lZ y))) (bsplit (DB.db (inK .i64 (gD y q11 Enc.dflt * (1000000 : Int) + gD y q13 Enc.dflt))) (bsplit (DB.db (iZ ≤ (↑(lN x)
 : Int) ∧ (lZ x) ≤ (lZ x) ∧ (↑8 : Int) * (lZ x) ≤ (140737488355328 : Int))) (bsplit (DB.db (inK .i64 ((lZ x) - iO))) ((∃ (z : DvS), (ShZ (1000000 : Int) (valL (1000000 : Int) y) x (DvS.z z) (DvS.q z) (DvS.R z) ∧ avM q1 q1 ∧ avM q14 q14 ∧ q15 ∧ q16 ∧ q17 ∧ avM (AV.xl true 1 0 (Sx.rowAt [])) (AV.xl false 1 (lN (limbs 1000000 (Int.toNat (DvS.R z)))) fun i j => aI (gD (limbs 1000000 (Int.toNat (DvS.R z))) i Enc.dflt)) ∧ kI ∧ (lZ x) - iO = (↑(DvS.z
 z) : Int) - iO) ∧ (3 : TypeId) = 3 ∧ 1 = 1 ∧ lN (DvS.q z) = Int.toNat (lZ x) ∧ ∀ (i j : Nat), i < Int.toNat (lZ x) → j < 1 → avM (zcell (Value.int .i64 iZ) j) (aI (gD (DvS.q z) i iZ))) ∧ ∀ (z : DvS), let q18 := (1 + lN (limbs 1000000 (Int.toNat (DvS.R z)))); let q20 := (Value.int .i64 (gD x (Int.toNat ((↑(DvS.z z) : Int) - iO)) Enc.dflt)); let q19 := (AV.xl false 1 q18 fun (a b : Nat) => if a < 1 then Sx.rowAt [fun (x_1 : Nat) => AV.v q20] a b else aI (List.getD
 (limbs 1000000 (Int.toNat (DvS.R z))) (a - 1) Enc.dflt)); let q23 := (trimL (intsOf q19)); let q22 := (AV.xl false 1 (lN q23) fun i j => aI (gD q23 i Enc.dflt)); let q21 := (slOk Int q22); let q24 := (intsOf q22); let q25 := (gD q24 (Int.toNat (lZ y)) iZ * (1000000 : Int) + gD q24 q11 iZ); let q26 := (q25 * (1000000 : Int) + gD q24 q13 iZ); let q28 := (Int.tdiv q26 q27); let q34 := (trimL (intsOf (AV.xl false 1 q18 fun (a b : Nat) => if a < 1 then Sx.rowAt [fun (x_3 : Nat) => AV.v q20] a b else AV.v
 (Value.int .i64 (gD (limbs 1000000 (Int.toNat (DvS.R z))) (a - 1) Enc.dflt))))); let q33 := (intsOf (AV.xl false 1 (lN q34) fun i j => aI (gD q34 i Enc.dflt))); let q32 := (intsOf (AV.xl true 1 1 (Sx.rowAt [fun (x_2 : Nat) => AV.v (Value.int .i64 (Int.tdiv ((gD q33 (Int.toNat (lZ y)) iZ * (1000000 : Int) + gD q33 q11 iZ) * (1000000 : Int) + gD q33 q13 iZ) q27))]))); let q38 := (trimL (intsOf (AV.xl false 1 q18 fun (a b : Nat) => if a < 1 then Sx.rowAt [fun (x_2 : Nat) => AV.v q20] a b else AV.v
 (Value.int .i64 (gD (limbs 1000000 (Int.toNat (DvS.R z))) (a - 1) Enc.dflt))))); let q37 := (intsOf (AV.xl false 1 (lN q38) fun i j => aI (gD q38 i Enc.dflt))); let q36 := (Value.int .i64 (Int.tdiv ((gD q37 (Int.toNat (lZ y)) iZ * (1000000 : Int) + gD q37 q11 iZ) * (1000000 : Int) + gD q37 q13 iZ) q27)); let q35 := (intsOf (AV.xl true 1 1 (Sx.rowAt [fun (x_1 : Nat) => AV.v q36]))); let q40 := (limbs 1000000 (Int.toNat (valL (1000000 : Int) q31 * valL (1000000 : Int) q35))); let q39 := (AV.xl
 false 1 (lN q40) fun i j => aI (gD q40 i Enc.dflt)); let q42 := (limbs 1000000 (Int.toNat (valL (1000000 : Int) q31 * valL (1000000 : Int) q32))); let q41 := (intsOf (AV.xl false 1 (lN q42) fun i j => aI (gD q42 i Enc.dflt))); let q43 := (intsOf q39); let q46 := (limbs 1000000 (Int.toNat (valL (1000000 : Int) q24 - valL (1000000 : Int) q43))); let q45 := (AV.xl false 1 (lN q46) fun i j => aI (gD q46 i Enc.dflt)); let q44 := (intsOf q45); let q47 := (aI q28); let q48 :=
 (kI ∧ (↑(DvS.z z) : Int) - iO = (↑(DvS.z z) : Int) - iO); let q56 := (limbs 1000000 (Int.toNat (valL (1000000 : Int) q37 - valL (1000000 : Int) q41))); let q60 := (AV.xl false 1 (Int.toNat (lZ x)) fun i j => aI (gD (DvS.q z) (0 + i) iZ)); let q61 := (trimL (intsOf q60)); ShZ (1000000 : Int) (valL (1000000 : Int) y) x (DvS.z z) (DvS.q z) (DvS.R z) → bsplit (leB iZ ((↑(DvS.z z) : Int) - iO)) (bsplit (DB.db (iZ ≤ (↑(DvS.z z) : Int) - iO ∧ (↑(DvS.z z) : Int) - iO < (↑(lN x) :
 Int))) (bsplit (DB.db (q18 * 8 ≤ 140737488355328)) (bsplit (slOk Int q19) (bsplit q21 (iZ ≤ (lZ y) ∧ bsplit (DB.db (inK .i64 (gD q24 (Int.toNat (lZ y)) iZ * (1000000 : Int)))) (bsplit q10 (bsplit q21 (iZ ≤ (lZ y) - iO ∧ bsplit (DB.db (inK .i64 q25)) (bsplit (DB.db (inK .i64 (q25 * (1000000 : Int)))) (bsplit q12 (bsplit q21 (iZ ≤ (lZ y) - (2 : Int) ∧ bsplit (DB.db (inK .i64 q26)) (bsplit (DB.db (inK .i64 q27)) (bsplit (DB.db (gD y q11 Enc.dflt * (1000000 : Int) + gD y
 q13 Enc.dflt + iO ≠ iZ)) (bsplit (DB.db (inK .i64 q28)) (bsplit q29 (q30 ∧ (∀ (x_1 : Int), List.Mem x_1 q32 → iZ ≤ x_1 ∧ x_1 < (1000000 : Int)) ∧ lN q31 ≤ 1000000000 ∧ lN q35 ≤ 1000000000 ∧ bsplit q21 (bsplit (slOk Int q39) ((∀ (x_1 : Int), List.Mem x_1 q37 → iZ ≤ x_1 ∧ x_1 < (1000000 : Int)) ∧ (∀ (x_1 : Int), List.Mem x_1 q41 → iZ ≤ x_1 ∧ x_1 < (1000000 : Int)) ∧ lN q43 ≤ lN q24 ∧ lN q24 ≤ 1000000000 ∧ valL (1000000 : Int) q43 ≤ valL (1000000 : Int) q24 ∧ (∃ (z_1 : Nat), let q49 := (limbs 1000000 (Int.toNat (valL
 (1000000 : Int) q44 + valL (1000000 : Int) y * AV.int q47 - valL (1000000 : Int) y * (↑z_1 : Int)))); (valL (1000000 : Int) y * (↑z_1 : Int) ≤ valL (1000000 : Int) q44 + valL (1000000 : Int) y * AV.int q47 ∧ avM q1 q1 ∧ avM q14 q14 ∧ q15 ∧ q16 ∧ q17 ∧ q48 ∧ avM q45 (AV.xl false 1 (lN q49) fun i j => aI (gD q49 i Enc.dflt)) ∧ kI ∧ Int.tdiv q26 q27 = (↑z_1 : Int)) ∧ 3 = 3 ∧ 1 = 1 ∧ lN (DvS.q z) = lN (DvS.q z) ∧ ∀ (i j : Nat), i < lN (DvS.q z) → j < 1 → kI ∧ gD (DvS.q z) i iZ = List.getD
 (DvS.q z) i iZ) ∧ ∀ (z_1 : Nat), let q53 := (valL (1000000 : Int) q44 + valL (1000000 : Int) y * AV.int q47 - valL (1000000 : Int) y * (↑z_1 : Int)); let q52 := (limbs 1000000 (Int.toNat q53)); let q51 := (AV.xl false 1 (lN q52) fun i j => aI (gD q52 i Enc.dflt)); let q50 := (slOk Int q51); let q54 := (intsOf q51); let q55 := (limbs 1000000 (Int.toNat (valL (1000000 : Int) (intsOf (AV.xl false 1 (lN q56) fun i j => aI (gD q56 i Enc.dflt))) + valL (1000000 : Int) y * AV.int (AV.v q36) - valL (1000000 : Int) y * (↑z_1 :
 Int)))); let q58 := (limbs 1000000 (Int.toNat (valL (1000000 : Int) q54 - valL (1000000 : Int) q31))); valL (1000000 : Int) y * (↑z_1 : Int) ≤ valL (1000000 : Int) q44 + valL (1000000 : Int) y * AV.int q47 → bsplit q50 (bsplit q29 (bsplit (leB iZ (sgn (cmpL q54 q31))) (bsplit q50 (bsplit q29 ((∀ (x_1 : Int), List.Mem x_1 (intsOf (AV.xl false 1 (lN q55) fun i j => aI (gD q55 i Enc.dflt))) → iZ ≤ x_1 ∧ x_1 < (1000000 : Int)) ∧ q30 ∧ lN q31 ≤ lN q54 ∧ lN q54 ≤ 1000000000 ∧ valL (1000000 : Int) q31 ≤ valL (1000000 : Int)
 q54 ∧ bsplit (DB.db (inK .i64 ((↑z_1 : Int) + iO))) (∃ (z' : Nat), let q57 := (valL (1000000 : Int) q44 + valL (1000000 : Int) y * AV.int q47 - valL (1000000 : Int) y * (↑z' : Int)); let q59 := (limbs 1000000 (Int.toNat q57)); ((valL (1000000 : Int) y * (↑z' : Int) ≤ valL (1000000 : Int) q44 + valL (1000000 : Int) y * AV.int q47 ∧ Int.toNat q57 < Int.toNat q53) ∧ avM q1 q1 ∧ avM q14 q14 ∧ q15 ∧ q16 ∧ q17 ∧ q48 ∧ avM (AV.xl false 1 (lN q58) fun i j => aI (gD q58 i Enc.dflt)) (AV.xl false 1 (lN q59) fun i j => aI (gD q59
 i Enc.dflt)) ∧ kI ∧ (↑z_1 : Int) + iO = (↑z' : Int)) ∧ 3 = 3 ∧ 1 = 1 ∧ lN (DvS.q z) = lN (DvS.q z) ∧ ∀ (i j : Nat), i < lN (DvS.q z) → j < 1 → kI ∧ gD (DvS.q z) i iZ = gD (DvS.q z) i iZ) False) False) False) (bsplit (DB.db (iZ ≤ (↑(DvS.z z) : Int) - iO ∧ (↑(DvS.z z) : Int) - iO < (↑(Int.toNat (lZ x)) : Int))) (bsplit (DB.db (inK .i64 ((↑(DvS.z z) : Int) - iO - iO))) (∃ (z' : DvS), ((ShZ (1000000 : Int) (valL (1000000 : Int) y) x (DvS.z z') (DvS.q
 z') (DvS.R z') ∧ DvS.z z' < DvS.z z) ∧ avM q1 q1 ∧ avM q14 q14 ∧ q15 ∧ q16 ∧ q17 ∧ avM q51 (AV.xl false 1 (lN (limbs 1000000 (Int.toNat (DvS.R z')))) fun i j => aI (gD (limbs 1000000 (Int.toNat (DvS.R z'))) i Enc.dflt)) ∧ kI ∧ (↑(DvS.z z) : Int) - iO - iO = (↑(DvS.z z') : Int) - iO) ∧ 3 = 3 ∧ 1 = 1 ∧ lN (DvS.q z') = lN (DvS.q z) ∧ ∀ (i j : Nat), i < lN (DvS.q z) → j < 1 → avM (if i = 0 + Int.toNat ((↑(DvS.z z) : Int) - iO) ∧ 0 ≤ j ∧ j < 1 then aI (↑z_1 : Int) else AV.v
 (Value.int .i64 (gD (DvS.q z) i iZ))) (aI (gD (DvS.q z') i iZ))) False) False)) False) False) False) False) False) False) False) False) False) False) False) False) False) False) False) False) False) False) False) False) (bsplit (slOk Int q60) (j2 ∧ (True ∧ avM (AV.xl false 1 (lN q61) fun i j => aI (gD q61 i Enc.dflt)) q5) ∧ avM (AV.xl false 1 (lN (limbs 1000000 (Int.toNat (DvS.R z)))) fun i j => aI (gD (limbs 1000000 (Int.toNat (DvS.R z))) i
 Enc.dflt)) q8) False)) False) False) False) False) False) False) False) False) := by
 delta kI j2 lZ lN gD iZ iO aI
 dsimp only
 intro hb
 have e0 : (Enc.dflt : Int) = 0 := rfl
 simp only [↓vc_db, ↓vc_gdb, row_one]
 simp only [sS, dS, e0]
 simp only [consI]
 simp only [sS, dS, e0]
 have hV := pos_y hy ht hn
 have er : ∀ r : Int, intsOf (AV.xl true 1 1 fun x j => AV.v (Value.int IntKind.i64 r)) = [r] := fun r => rfl
 refine ⟨fun h1 => ?_, fun h1 => ⟨⟨by omega, by omega⟩, ⟨by omega, by omega⟩, ⟨?_, ?_⟩, ⟨by omega, by omega⟩, ⟨by omega, by omega⟩, ⟨?_, ?_⟩, ⟨by omega, Int.le_refl _, by omega⟩, ⟨by omega, by omega⟩, ⟨⟨x.length, List.replicate x.length 0, 0⟩, ⟨.start (by omega) hV x, ?_, rfl⟩, by simp, fun i j _ hj => zeroI _ i j hj⟩, fun z z1 => ⟨fun hz => ?_, fun hz => ?_⟩⟩⟩
 ·have d4 := hy.get (by omega) 0
  have ev : valL 1000000 y = y.getD 0 0 := by
   have := valL_dropA 1000000 y 0
   rw [List.drop_zero, List.drop_of_length_le (l := y) (i := 0 + 1) (by omega), valL_nil, Int.mul_zero, Int.add_zero] at this
   exact this
  rw [ev] at hV ⊢
  exact ⟨⟨by omega, by omega⟩, hx, hV, by omega, by omega, rfl, avM_refl _, avM_refl _⟩
 ·have := hy.get (by omega) ((y.length : Int) - 1).toNat; omega
 ·have := hy.get (by omega) ((y.length : Int) - 1).toNat; omega
 ·have := hy.get (by omega) ((y.length : Int) - 1).toNat
  have := hy.get (by omega) ((y.length : Int) - 2).toNat
  omega
 ·have := hy.get (by omega) ((y.length : Int) - 1).toNat
  have := hy.get (by omega) ((y.length : Int) - 2).toNat
  omega
 ·rw [show ((0 : Int)).toNat = 0 from rfl, limbs_zero]
  exact ⟨fun _ => rfl, rfl, rfl, fun i j hi => absurd hi (Nat.not_lt_zero _)⟩
 rotate_left
 ·have hz' : z.z = 0 := by have := z1.le; omega
  have z2 : ShZ 1000000 (valL 1000000 y) x 0 z.q z.R := hz' ▸ z1
  obtain ⟨t1, t2⟩ := ShZ_end hV hx z2
  rw [← z1.len]
  simp only [sS, dS, e0]
  rw [t1, t2]
  exact ⟨rfl, avM_refl _, avM_refl _⟩
 have ek : ((z.z : Int) - 1).toNat = z.z - 1 := by omega
 have ey1 : ((y.length : Int) - 1).toNat = y.length - 1 := by omega
 have ey2 : ((y.length : Int) - 2).toNat = y.length - 2 := by omega
 rw [ek, ey1, ey2]
 obtain ⟨zz, q, R⟩ := z
 simp only at hz z1 ek ⊢
 obtain ⟨k, rfl⟩ : ∃ k, zz = k + 1 := ⟨zz - 1, by omega⟩
 rw [show k + 1 - 1 = k by omega]
 have zle := z1.le
 have R0 := z1.r0
 have R1 := z1.r1
 obtain ⟨⟨n0, n1⟩, hs⟩ := z1.step (by omega) hx
 have xk := hx.get (by omega) k
 have el : trimL (x.getD k 0 :: limbs 1000000 R.toNat) = limbs 1000000 (x.getD k 0 + R * 1000000).toNat := by
  rw [trim_eq (b := 1000000) (by omega) (show InL 1000000 (x.getD k 0 :: limbs 1000000 R.toNat) from InL.app (.one xk.1 xk.2) (inLm _))]
  show limbs 1000000 (x.getD k 0 + 1000000 * valL 1000000 (limbs 1000000 R.toNat)).toNat = _
  rw [vLi R0, Int.mul_comm]
 rw [el]
 generalize hN : x.getD k 0 + R * 1000000 = N at *
 have lN : (limbs 1000000 N.toNat).length ≤ y.length + 1 := by
  refine limbs_len_le (b := 1000000) (by omega) ?_
  have := valL_lt (b := 1000000) (by omega) hy
  rw [Int.toNat_of_nonneg n0]
  show N < (1000000 : Int) ^ (y.length + 1)
  rw [powI_succ]
  omega
 obtain ⟨g0, g1, g2⟩ := est3 (b := 1000000) (by omega) hy (inLm N.toNat) (by omega) rfl lN (by rw [vLi n0]; omega) rfl rfl
 rw [vLi n0] at g2
 have d1 := (inLm N.toNat).get (by omega) y.length
 have d2 := (inLm N.toNat).get (by omega) (y.length - 1)
 have d3 := (inLm N.toNat).get (by omega) (y.length - 2)
 have d4 := hy.get (by omega) (y.length - 1)
 have d5 := hy.get (by omega) (y.length - 2)
 generalize (limbs 1000000 N.toNat).getD y.length 0 = t1 at *
 generalize (limbs 1000000 N.toNat).getD (y.length - 1) 0 = t2 at *
 generalize (limbs 1000000 N.toNat).getD (y.length - 2) 0 = t3 at *
 generalize y.getD (y.length - 1) 0 = u1 at *
 generalize y.getD (y.length - 2) 0 = u2 at *
 generalize ((t1 * 1000000 + t2) * 1000000 + t3).tdiv (u1 * 1000000 + u2 + 1) = g at *
 have V0 := valL_nonneg (b := 1000000) (by omega) hy
 have g3 : 0 ≤ valL 1000000 y * g := Int.mul_nonneg V0 g0
 simp only [er, val1, vLi n0, vLi g3]
 have g4 : 0 ≤ N - valL 1000000 y * g := by omega
 simp only [vLi g4, Int.sub_add_cancel]
 have lR : (limbs 1000000 R.toNat).length ≤ y.length := by
  refine limbs_len_le (b := 1000000) (by omega) ?_
  have := valL_lt (b := 1000000) (by omega) hy
  rw [Int.toNat_of_nonneg R0]
  show R < (1000000 : Int) ^ y.length
  omega
 have lVg : (limbs 1000000 (valL 1000000 y * g).toNat).length ≤ (limbs 1000000 N.toNat).length := limbs_len_mono (b := 1000000) (by omega) (by omega)
 refine ⟨⟨by omega, by omega⟩, by omega, by omega, ⟨by omega, by omega⟩, ⟨by omega, by omega⟩, by omega, ⟨by omega, by omega⟩, ⟨by omega, by omega⟩, ⟨by omega, by omega⟩, by omega, ⟨by omega, by omega⟩, ⟨by omega, by omega⟩, by omega, ⟨by omega, by omega⟩, hy, one_in g0 g1, by omega, by simp, inLm _, inLm _, lVg, by omega, g2, ⟨⟨g.toNat, ⟨by rw [Int.toNat_of_nonneg g0]; exact g2, by rw [Int.toNat_of_nonneg g0]; exact avM_refl _, by omega⟩, fun _ _ _ _ => trivial⟩, fun z hz2 => ?_⟩⟩
 have A0 : 0 ≤ N - valL 1000000 y * (z : Int) := by omega
 obtain ⟨c1, c2⟩ := cmpY hy ht A0
 have zb : (z : Int) < 1000000 := by
  have : valL 1000000 y * (z : Int) < valL 1000000 y * 1000000 := by omega
  exact Int.lt_of_mul_lt_mul_left this V0
 have lA : (limbs 1000000 (N - valL 1000000 y * (z : Int)).toNat).length ≤ (limbs 1000000 N.toNat).length := limbs_len_mono (b := 1000000) (by omega) (by
  have : 0 ≤ valL 1000000 y * (z : Int) := Int.mul_nonneg V0 (by omega)
  omega)
 simp only [vLi A0]
 refine ⟨fun hc => ?_, fun hc => ?_⟩
 ·obtain ⟨c3, c4⟩ := c1 hc
  have es : valL 1000000 y * ((z + 1 : Nat) : Int) = valL 1000000 y * (z : Int) + valL 1000000 y := by rw [Int.natCast_add, Int.mul_add]; simp
  refine ⟨inLm _, hy, c4, by omega, c3, ⟨by omega, by omega⟩, ⟨z + 1, ⟨⟨by omega, by omega⟩, ?_, by omega⟩, fun _ _ _ _ => trivial⟩⟩
  rw [es, show N - (valL 1000000 y * (z : Int) + valL 1000000 y) = N - valL 1000000 y * (z : Int) - valL 1000000 y by omega]
  exact avM_refl _
 ·obtain ⟨q1, q2⟩ := quo_eq n0 hV hz2 (c2 hc)
  rw [q1, q2] at hs
  exact ⟨⟨by omega, by omega⟩, ⟨by omega, by omega⟩, ⟨k, _, _⟩, ⟨⟨hs, by simp only; omega⟩, avM_refl _, by simp only; omega⟩, by simp, fun i j _ => setI _ _ _ (by rw [z1.len]; omega) i j⟩
theorem r1div_C (x : List Int) (y : List Int) (hx : InL 1000000 x) (hy : InL 1000000 y) (ht : trimL y = y) (hn : y.length ≠ 0) (hlx : x.length ≤ 100000000) (hly : y.length ≤ 100000000) : PureCall Tryz.prog [] 105 [slE x, slE y] (.tup 2 (listFn [slE (limbs 1000000 ((valL 1000000 x).toNat / (valL 1000000 y).toNat)), slE (limbs 1000000 ((valL 1000000 x).toNat % (valL 1000000 y).toNat))])) :=
 pure_of_vc (T := (((((T0.plus 154 r1trim_t).plus 156 r1limb_t).plus 157 r1minus_t).plus 158 r1times_t).plus 155 r1short_t).plus 159 r1size_t) (an := r1div_an x y) mixed (TbSound.plus (TbSound.plus (TbSound.plus (TbSound.plus (TbSound.plus (TbSound.plus tb0_sound r1trim_T) r1limb_T) r1minus_T) r1times_T) r1short_T) r1size_T) (Eq.mp (by kernel_rfl) (r1div_vc x y hx hy ht hn hlx hly))
theorem r1div_T : PureT Tryz.prog [] 105 r1div_t := by
 intro xs ps r h hp
 unfold r1div_t at h
 split at h
 ·skip
  rename_i x_x x_y
  cases h
  obtain ⟨q0, q1, q2, q3, q4, q5, q6, q7, -⟩ := allC hp
  exact weaken (ys := [slE (intsOf x_x), slE (intsOf x_y)]) ⟨slE_sound q0, slE_sound q1, trivial⟩ (r1div_C (intsOf x_x) (intsOf x_y) q2 q3 q4 q5 q6 q7)
 ·cases h
end Go.Te
