/- rational: sums, products, quotients and comparing of numbers with short parts; numbers made of ints. -/
import Derived.Test.YtinnclmkhedgeaaGreatDoorTfF
import Derived.Test.YtinnclmkhedgeaaGreatDoorArW
import Derived.Lib.BitFns
set_option linter.unusedSimpArgs false
set_option linter.unusedVariables false
namespace Go.Te
open Go Go.Sx Go.Proofs Go.Ar
set_option maxRecDepth 100000
set_option maxHeartbeats 4000000
structure Nt where
 n : Int
 d : Int
instance : yo Nt := ⟨2, ⟨0, 0⟩, fun c => zY [.i c.n, .i c.d], fun cs => ⟨AV.int (cs 0), AV.int (cs 1)⟩, fun cs => Z7 (cs 0) && Z7 (cs 1), fun cs h j hj => by
 simp only [Bool.and_eq_true] at h
 match j, hj with
 | 0, _ => exact Zi (Wi h.1)
 | 1, _ => exact Zi (Wi h.2)⟩
instance : xw Nt := ⟨fun _ => rfl, fun _ => rfl⟩
theorem S5 (n : Int) {d : Int} (hd : 0 < d) : xZ (if -n > n then -n else n) d = (Nat.gcd n.natAbs d.toNat : Int) := by
 have e : (if -n > n then -n else n) = (n.natAbs : Int) := by split <;> omega
 unfold xZ
 rw [e, (ZY _ _).2 (show (0 : Int) ≤ (n.natAbs : Int) by omega), (ZY _ _).2 (show 0 ≤ d by omega), Int.toNat_natCast]
 rfl
theorem tl (n : Int) {d : Int} (hd : 0 < d) : (0 : Int) < (Nat.gcd n.natAbs d.toNat : Int) ∧ n.tdiv (Nat.gcd n.natAbs d.toNat : Int) = n / (Nat.gcd n.natAbs d.toNat : Int) ∧ d.tdiv (Nat.gcd n.natAbs d.toNat : Int) = ((d.toNat / Nat.gcd n.natAbs d.toNat : Nat) : Int) ∧ (n / (Nat.gcd n.natAbs d.toNat : Int)).natAbs ≤ n.natAbs ∧ 0 < d.toNat / Nat.gcd n.natAbs d.toNat ∧ d.toNat / Nat.gcd n.natAbs d.toNat ≤ d.toNat := by
 have hg : 0 < Nat.gcd n.natAbs d.toNat := Nat.gcd_pos_of_pos_right _ (by omega)
 have hdv := Nat.gcd_dvd_right n.natAbs d.toNat
 have hnv : ((Nat.gcd n.natAbs d.toNat : Nat) : Int) ∣ n := Int.ofNat_dvd_left.2 (Nat.gcd_dvd_left _ _)
 generalize Nat.gcd n.natAbs d.toNat = g at *
 have e1 : n.tdiv (g : Int) = n / (g : Int) := Int.tdiv_eq_ediv_of_dvd hnv
 refine ⟨by omega, e1, ?_, ?_, Nat.div_pos (Nat.le_of_dvd (by omega) hdv) hg, Nat.div_le_self _ _⟩
 ·rw [Int.tdiv_eq_ediv_of_nonneg (by omega), Int.natCast_ediv]
  congr 1
  omega
 ·rw [← e1]; exact Int.natAbs_tdiv_le_natAbs n g
theorem uU (n : Int) (d : Nat) : (d / Nat.gcd n.natAbs d = 1 → Lib.itoa (n / (Nat.gcd n.natAbs d : Int)) = zt n d) ∧ (d / Nat.gcd n.natAbs d ≠ 1 → Lib.itoa (n / (Nat.gcd n.natAbs d : Int)) ++ [47] ++ Lib.itoa ((d / Nat.gcd n.natAbs d : Nat) : Int) = zt n d) := by
 unfold zt yq
 refine ⟨fun h => ?_, fun h => ?_⟩
 ·rw [h]
  exact (List.append_nil _).symm
 ·rw [show Nat.beq (d / Nat.gcd n.natAbs d) 1 = false from Bool.eq_false_iff.2 fun e => h (Nat.eq_of_beq_eq_true e), Go.Ar.y6]
  simp
theorem vT {n : Int} (h : n.natAbs < 10 ^ 20) : (Lib.itoa n).length ≤ 21 := by
 rw [YS]
 have : Wd n ≤ 20 := Y3 (by omega) h
 split <;> omega
def UV : List AV → Option (List zO × AV)
 | [.agg 2 p_x] => some ([.b (Z7 (p_x 0) && Z7 (p_x 1)), .p ((⟨AV.int (p_x 0), AV.int (p_x 1)⟩ : Nt).d ≠ 0), .p (-1000000000000000000 ≤ (⟨AV.int (p_x 0), AV.int (p_x 1)⟩ : Nt).d ∧ (⟨AV.int (p_x 0), AV.int (p_x 1)⟩ : Nt).d ≤ 1000000000000000000), .p (-1000000000000000000 ≤ (⟨AV.int (p_x 0), AV.int (p_x 1)⟩ : Nt).n ∧ (⟨AV.int (p_x 0), AV.int (p_x 1)⟩ : Nt).n ≤ 1000000000000000000)], .str (Vs (⟨AV.int (p_x 0), AV.int (p_x 1)⟩ : Nt).n (⟨AV.int (p_x 0), AV.int (p_x 1)⟩ : Nt).d))
 | _ => none
theorem Re (G : List (Nat × Obj)) (x : Nt) (h0 : x.d ≠ 0) (h1 : -1000000000000000000 ≤ x.d ∧ x.d ≤ 1000000000000000000) (h2 : -1000000000000000000 ≤ x.n ∧ x.n ≤ 1000000000000000000) :
 let q1 := (if - -Nt.n x > -Nt.n x then - -Nt.n x else -Nt.n x); let q2 := (DB.db (xZ q1 (-Nt.d x) ≠ iZ)); let q4 := (xZ q1 (-Nt.d x)); let q3 := (Int.tdiv (-Nt.n x) q4); let q5 := (Int.tdiv (-Nt.d x) q4); let q6 := (iN ≤ Int.tdiv (-Nt.n x) q4 ∧ Int.tdiv (-Nt.n x) q4 ≤ iX); let q7 := (ByteArray.data (ByteArray.mk #[(47 : UInt8)])); let q8 := (if -Nt.n x > Nt.n x then -Nt.n x else Nt.n x); let q9 := (DB.db (xZ q8 (Nt.d x) ≠ iZ)); let q11 := (xZ q8 (Nt.d x)); let q10 := (Int.tdiv (Nt.n x) q11); let q12 := (Int.tdiv (Nt.d x)
 q11); let q13 := (iN ≤ Int.tdiv (Nt.n x) q11 ∧ Int.tdiv (Nt.n x) q11 ≤ iX); Zw [AV.agg 2 (yo.enc x)] → zw (Zz (Nt.d x) iZ) (bF (dK (-Nt.n x)) (bF (dK (-Nt.d x)) (bF (dK (- -Nt.n x)) (((iZ ≤ if - -Nt.n x > -Nt.n x then - -Nt.n x else -Nt.n x) ∧ q1 ≤ iX) ∧ (iZ ≤ -Nt.d x ∧ -Nt.d x ≤ iX) ∧ bF q2 (bF (dK q3) (bF q2 (bF (dK q5) (zw (Int.tdiv (-Nt.d x) q4 == iO) (q6
 ∧ Lib.itoa q3 = Vs (Nt.n x) (Nt.d x)) (q6 ∧ bF (DB.db (lN (Lib.itoa q3) + 1 ≤ nX)) ((iN ≤ Int.tdiv (-Nt.d x) q4 ∧ Int.tdiv (-Nt.d x) q4 ≤ iX) ∧ bF (DB.db (lN (Lib.itoa q3 ++ Array.toList q7) + lN (Lib.itoa q5) ≤ nX)) (Lib.itoa q3 ++ Array.toList q7 ++ Lib.itoa q5 = Vs (Nt.n x) (Nt.d x)))))))))))) (bF (dK (-Nt.n x)) (((iZ ≤ if -Nt.n x > Nt.n x then -Nt.n x else Nt.n x) ∧ q8 ≤ (9223372036854775807 :
 Int)) ∧ (iZ ≤ Nt.d x ∧ Nt.d x ≤ iX) ∧ bF q9 (bF (dK q10) (bF q9 (bF (dK q12) (zw (Int.tdiv (Nt.d x) q11 == iO) (q13 ∧ Lib.itoa q10 = Vs (Nt.n x) (Nt.d x)) (q13 ∧ bF (DB.db (lN (Lib.itoa q10) + 1 ≤ nX)) ((iN ≤ Int.tdiv (Nt.d x) q11 ∧ Int.tdiv (Nt.d x) q11 ≤ iX) ∧ bF (DB.db (lN (Lib.itoa q10 ++ Array.toList q7) + lN (Lib.itoa q12) ≤ nX)) (Lib.itoa q10 ++ Array.toList q7 ++ Lib.itoa q12 = Vs
 (Nt.n x) (Nt.d x)))))))))) := by
 delta bF dK nX lN iZ iO iX iN
 dsimp only
 intro hb
 simp only [sS, dS]
 have key : ∀ n d : Int, 0 < d → d ≤ 1000000000000000000 → -1000000000000000000 ≤ n ∧ n ≤ 1000000000000000000 → _ := fun n d hd hd1 hn => And.intro (S5 n hd) (And.intro (tl n hd) (uU n d.toNat))
 refine ⟨fun hd => ?_, fun hd => ?_⟩
 ·obtain ⟨k1, ⟨k2, k3, k4, k5, k6, k7⟩, k8, k9⟩ := key (-x.n) (-x.d) (by omega) (by omega) ⟨by omega, by omega⟩
  have hs : Vs x.n x.d = zt (-x.n) (-x.d).toNat := by unfold Vs; rw [(zm _ _).2 hd]; rfl
  rw [k1, k3, k4, hs]
  generalize zt (-x.n) (-x.d).toNat = R at *
  generalize Nat.gcd (-x.n).natAbs (-x.d).toNat = g at *
  generalize (-x.n) / (g : Int) = q at *
  generalize (-x.d).toNat / g = e at *
  have l1 := vT (n := q) (by omega)
  have l2 := vT (n := (e : Int)) (by omega)
  refine ⟨⟨by omega, by omega⟩, ⟨by omega, by omega⟩, ⟨by omega, by omega⟩, ⟨by split <;> omega, by split <;> omega⟩, ⟨by omega, by omega⟩, by omega, ⟨by omega, by omega⟩, by omega, ⟨by omega, by omega⟩, fun h => ⟨⟨by omega, by omega⟩, k8 (by omega)⟩, fun h => ⟨⟨by omega, by omega⟩, by omega, ⟨by omega, by omega⟩, by rw [List.length_append, List.length_singleton]; omega, k9 (by omega)⟩⟩
 ·obtain ⟨k1, ⟨k2, k3, k4, k5, k6, k7⟩, k8, k9⟩ := key x.n x.d (by omega) (by omega) h2
  have hs : Vs x.n x.d = zt x.n x.d.toNat := by unfold Vs; rw [show Zz x.d 0 = false from Bool.eq_false_iff.2 fun e => by have := (zm _ _).1 e; omega]; rfl
  rw [k1, k3, k4, hs]
  generalize zt x.n x.d.toNat = R at *
  generalize Nat.gcd x.n.natAbs x.d.toNat = g at *
  generalize x.n / (g : Int) = q at *
  generalize hD : x.d.toNat / g = e at *
  have l1 := vT (n := q) (by omega)
  have l2 := vT (n := (e : Int)) (by omega)
  refine ⟨⟨by omega, by omega⟩, ⟨by split <;> omega, by split <;> omega⟩, ⟨by omega, by omega⟩, by omega, ⟨by omega, by omega⟩, by omega, ⟨by omega, by omega⟩, fun h => ⟨⟨by omega, by omega⟩, k8 (by omega)⟩, fun h => ⟨⟨by omega, by omega⟩, by omega, ⟨by omega, by omega⟩, by rw [List.length_append, List.length_singleton]; omega, k9 (by omega)⟩⟩
theorem pz {G : List (Nat × Obj)} (hG : zJ G) (x : Nt) (h0 : x.d ≠ 0) (h1 : -1000000000000000000 ≤ x.d ∧ x.d ≤ 1000000000000000000) (h2 : -1000000000000000000 ≤ x.n ∧ x.n ≤ 1000000000000000000) : zV Tryz.prog G 95 [WC x] (.str (Vs x.n x.d)) :=
 zW (T := (pJ G).plus 111 VZ) (an := .auto) mixed (zz.plus (xr hG) (zn.mono sF)) (Eq.mp (by kernel_rfl) (Re G x h0 h1 h2))
theorem Qj {G : List (Nat × Obj)} (hG : zJ G) : zn Tryz.prog G 95 UV := by
 intro xs ps r h hp
 unfold UV at h
 split at h
 ·skip
  rename_i p_x
  cases h
  obtain ⟨q0, q1, q2, q3, -⟩ := Zr hp
  exact weaken (ys := [WC (⟨AV.int (p_x 0), AV.int (p_x 1)⟩ : Nt)]) ⟨yw (x := .agg 2 p_x) (α := Nt) q0, trivial⟩ (pz hG (⟨AV.int (p_x 0), AV.int (p_x 1)⟩ : Nt) q1 q2 q3)
 ·cases h
theorem Z0 {a b : Int} (ha : -99999999 ≤ a ∧ a ≤ 99999999) (hb : -99999999 ≤ b ∧ b ≤ 99999999) : -10000000000000000 ≤ a * b ∧ a * b ≤ 10000000000000000 := by
 have h : (a * b).natAbs ≤ 99999999 * 99999999 := by rw [Int.natAbs_mul]; exact Nat.mul_le_mul (by omega) (by omega)
 omega
def XO (x : Nt) : Prop := (-99999999 ≤ x.n ∧ x.n ≤ 99999999) ∧ (0 < x.d ∧ x.d ≤ 99999999)
def rX : List AV → Option (List zO × AV)
 | [.agg 2 p_x, .agg 2 p_y] => some ([.b (Z7 (p_x 0) && Z7 (p_x 1)), .b (Z7 (p_y 0) && Z7 (p_y 1)), .p (XO (⟨AV.int (p_x 0), AV.int (p_x 1)⟩ : Nt)), .p (XO (⟨AV.int (p_y 0), AV.int (p_y 1)⟩ : Nt))], WC (⟨(⟨AV.int (p_x 0), AV.int (p_x 1)⟩ : Nt).n * (⟨AV.int (p_y 0), AV.int (p_y 1)⟩ : Nt).d + (⟨AV.int (p_y 0), AV.int (p_y 1)⟩ : Nt).n * (⟨AV.int (p_x 0), AV.int (p_x 1)⟩ : Nt).d, (⟨AV.int (p_x 0), AV.int (p_x 1)⟩ : Nt).d * (⟨AV.int (p_y 0), AV.int (p_y 1)⟩ : Nt).d⟩ : Nt))
 | _ => none
theorem QY (x : Nt) (y : Nt) (h1 : XO x) (h2 : XO y) :
 Zw [AV.agg 2 (yo.enc x), AV.agg 2 (yo.enc y)] → bF (dK (Nt.n x * Nt.d y)) (bF (dK (Nt.n y * Nt.d x)) (bF (dK (Nt.n x * Nt.d y + Nt.n y * Nt.d x)) (bF (dK (Nt.d x * Nt.d y)) (2 = 2 ∧ (kI ∧ Nt.n x * Nt.d y + Nt.n y * Nt.d x = Nt.n (Nt.mk (Nt.n x * Nt.d y + Nt.n y * Nt.d x) (Nt.d x * Nt.d y))) ∧ kI ∧ Nt.d x * Nt.d y = Nt.d (Nt.mk (Nt.n x * Nt.d y + Nt.n y * Nt.d x) (Nt.d x * Nt.d y)))))) := by
 delta bF dK kI
 intro hb
 simp only [sS, dS]
 unfold XO at h1 h2
 have m1 := Z0 (a := x.n) (b := y.d) h1.1 ⟨by omega, h2.2.2⟩
 have m2 := Z0 (a := y.n) (b := x.d) h2.1 ⟨by omega, h1.2.2⟩
 have m3 := Z0 (a := x.d) (b := y.d) ⟨by omega, h1.2.2⟩ ⟨by omega, h2.2.2⟩
 exact ⟨⟨by omega, by omega⟩, ⟨by omega, by omega⟩, ⟨by omega, by omega⟩, ⟨by omega, by omega⟩⟩
theorem pm (x : Nt) (y : Nt) (h1 : XO x) (h2 : XO y) : zV Tryz.prog [] 87 [WC x, WC y] (WC (⟨x.n * y.d + y.n * x.d, x.d * y.d⟩ : Nt)) :=
 zW (T := T0) (an := .auto) mixed zN (Eq.mp (by kernel_rfl) (QY x y h1 h2))
theorem PW : zn Tryz.prog [] 87 rX := by
 intro xs ps r h hp
 unfold rX at h
 split at h
 ·skip
  rename_i p_x p_y
  cases h
  obtain ⟨q0, q1, q2, q3, -⟩ := Zr hp
  exact weaken (ys := [WC (⟨AV.int (p_x 0), AV.int (p_x 1)⟩ : Nt), WC (⟨AV.int (p_y 0), AV.int (p_y 1)⟩ : Nt)]) ⟨yw (x := .agg 2 p_x) (α := Nt) q0, yw (x := .agg 2 p_y) (α := Nt) q1, trivial⟩ (pm (⟨AV.int (p_x 0), AV.int (p_x 1)⟩ : Nt) (⟨AV.int (p_y 0), AV.int (p_y 1)⟩ : Nt) q2 q3)
 ·cases h
def S4 : List AV → Option (List zO × AV)
 | [.agg 2 p_x, .agg 2 p_y] => some ([.b (Z7 (p_x 0) && Z7 (p_x 1)), .b (Z7 (p_y 0) && Z7 (p_y 1)), .p (XO (⟨AV.int (p_x 0), AV.int (p_x 1)⟩ : Nt)), .p (XO (⟨AV.int (p_y 0), AV.int (p_y 1)⟩ : Nt))], WC (⟨(⟨AV.int (p_x 0), AV.int (p_x 1)⟩ : Nt).n * (⟨AV.int (p_y 0), AV.int (p_y 1)⟩ : Nt).n, (⟨AV.int (p_x 0), AV.int (p_x 1)⟩ : Nt).d * (⟨AV.int (p_y 0), AV.int (p_y 1)⟩ : Nt).d⟩ : Nt))
 | _ => none
theorem Qv (x : Nt) (y : Nt) (h1 : XO x) (h2 : XO y) :
 Zw [AV.agg 2 (yo.enc x), AV.agg 2 (yo.enc y)] → bF (dK (Nt.n x * Nt.n y)) (bF (dK (Nt.d x * Nt.d y)) (2 = 2 ∧ (kI ∧ Nt.n x * Nt.n y = Nt.n (Nt.mk (Nt.n x * Nt.n y) (Nt.d x * Nt.d y))) ∧ kI ∧ Nt.d x * Nt.d y = Nt.d (Nt.mk (Nt.n x * Nt.n y) (Nt.d x * Nt.d y)))) := by
 delta bF dK kI
 intro hb
 simp only [sS, dS]
 unfold XO at h1 h2
 have m1 := Z0 (a := x.n) (b := y.n) h1.1 ⟨by omega, h2.1.2⟩
 have m2 := Z0 (a := y.n) (b := x.d) h2.1 ⟨by omega, h1.2.2⟩
 have m3 := Z0 (a := x.d) (b := y.d) ⟨by omega, h1.2.2⟩ ⟨by omega, h2.2.2⟩
 exact ⟨⟨by omega, by omega⟩, ⟨by omega, by omega⟩⟩
theorem pc (x : Nt) (y : Nt) (h1 : XO x) (h2 : XO y) : zV Tryz.prog [] 54 [WC x, WC y] (WC (⟨x.n * y.n, x.d * y.d⟩ : Nt)) :=
 zW (T := T0) (an := .auto) mixed zN (Eq.mp (by kernel_rfl) (Qv x y h1 h2))
theorem Py : zn Tryz.prog [] 54 S4 := by
 intro xs ps r h hp
 unfold S4 at h
 split at h
 ·skip
  rename_i p_x p_y
  cases h
  obtain ⟨q0, q1, q2, q3, -⟩ := Zr hp
  exact weaken (ys := [WC (⟨AV.int (p_x 0), AV.int (p_x 1)⟩ : Nt), WC (⟨AV.int (p_y 0), AV.int (p_y 1)⟩ : Nt)]) ⟨yw (x := .agg 2 p_x) (α := Nt) q0, yw (x := .agg 2 p_y) (α := Nt) q1, trivial⟩ (pc (⟨AV.int (p_x 0), AV.int (p_x 1)⟩ : Nt) (⟨AV.int (p_y 0), AV.int (p_y 1)⟩ : Nt) q2 q3)
 ·cases h
def Sd : List AV → Option (List zO × AV)
 | [.agg 2 p_x, .agg 2 p_y] => some ([.b (Z7 (p_x 0) && Z7 (p_x 1)), .b (Z7 (p_y 0) && Z7 (p_y 1)), .p (XO (⟨AV.int (p_x 0), AV.int (p_x 1)⟩ : Nt)), .p (XO (⟨AV.int (p_y 0), AV.int (p_y 1)⟩ : Nt))], WC (⟨(⟨AV.int (p_x 0), AV.int (p_x 1)⟩ : Nt).n * (⟨AV.int (p_y 0), AV.int (p_y 1)⟩ : Nt).d, (⟨AV.int (p_x 0), AV.int (p_x 1)⟩ : Nt).d * (⟨AV.int (p_y 0), AV.int (p_y 1)⟩ : Nt).n⟩ : Nt))
 | _ => none
theorem QQ (x : Nt) (y : Nt) (h1 : XO x) (h2 : XO y) :
 Zw [AV.agg 2 (yo.enc x), AV.agg 2 (yo.enc y)] → bF (dK (Nt.n x * Nt.d y)) (bF (dK (Nt.d x * Nt.n y)) (2 = 2 ∧ (kI ∧ Nt.n x * Nt.d y = Nt.n (Nt.mk (Nt.n x * Nt.d y) (Nt.d x * Nt.n y))) ∧ kI ∧ Nt.d x * Nt.n y = Nt.d (Nt.mk (Nt.n x * Nt.d y) (Nt.d x * Nt.n y)))) := by
 delta bF dK kI
 intro hb
 simp only [sS, dS]
 unfold XO at h1 h2
 have m1 := Z0 (a := x.n) (b := y.d) h1.1 ⟨by omega, h2.2.2⟩
 have m3 := Z0 (a := x.d) (b := y.n) ⟨by omega, h1.2.2⟩ h2.1
 exact ⟨⟨by omega, by omega⟩, ⟨by omega, by omega⟩⟩
theorem Pz (x : Nt) (y : Nt) (h1 : XO x) (h2 : XO y) : zV Tryz.prog [] 93 [WC x, WC y] (WC (⟨x.n * y.d, x.d * y.n⟩ : Nt)) :=
 zW (T := T0) (an := .auto) mixed zN (Eq.mp (by kernel_rfl) (QQ x y h1 h2))
theorem pg : zn Tryz.prog [] 93 Sd := by
 intro xs ps r h hp
 unfold Sd at h
 split at h
 ·skip
  rename_i p_x p_y
  cases h
  obtain ⟨q0, q1, q2, q3, -⟩ := Zr hp
  exact weaken (ys := [WC (⟨AV.int (p_x 0), AV.int (p_x 1)⟩ : Nt), WC (⟨AV.int (p_y 0), AV.int (p_y 1)⟩ : Nt)]) ⟨yw (x := .agg 2 p_x) (α := Nt) q0, yw (x := .agg 2 p_y) (α := Nt) q1, trivial⟩ (Pz (⟨AV.int (p_x 0), AV.int (p_x 1)⟩ : Nt) (⟨AV.int (p_y 0), AV.int (p_y 1)⟩ : Nt) q2 q3)
 ·cases h
noncomputable def Pe (G : List (Nat × Obj)) : Tb := (((((U7 G).plus 65 V0).plus 95 UV).plus 87 rX).plus 54 S4).plus 93 Sd
theorem T1 {G : List (Nat × Obj)} (hG : zJ G) : zz Tryz.prog (Pe G) := zz.plus (zz.plus (zz.plus (zz.plus (zz.plus zN (zn.mono R9)) (Qj hG)) (zn.mono PW)) (zn.mono Py)) (zn.mono pg)
def P9 : List (FuncId × Z4) := [(53, .auto)]
noncomputable def PR (G : List (Nat × Obj)) : Tb := (Pe G).body Tryz.prog P9
theorem Xb {G : List (Nat × Obj)} (hG : zJ G) : zz Tryz.prog (PR G) := zz.body mixed (T1 hG) _
theorem XC {a : zL} (h : zZ a = true) : XO ⟨zU a, (zS a : Int)⟩ := by
 obtain ⟨_, h2, h3, h4⟩ := Z9 h
 exact ⟨⟨by simp only; omega, by simp only; omega⟩, by simp only; omega, by simp only; omega⟩
def UX : List AV → Option (List zO × AV)
 | [.str a, .str b] => some ([.p (zZ a = true), .p (zZ b = true)], .tup 2 (zY [.str (za a b), .i 0]))
 | _ => none
theorem Rj (G : List (Nat × Obj)) (a : List UInt8) (b : List UInt8) (ha : zZ a = true) (hc : zZ b = true) :
 let q3 := (Value.agg #[Value.int .i64 iZ, Value.int .i64 iZ]); let q2 := (fun (i : Nat) => if 0 ≤ i ∧ i < 0 + 2 then zY [AV.i (zU a), AV.i (cI (zS a))] (i - 0) else yB q3 i); let q1 := (Nt.mk (AV.int (q2 0)) (AV.int (q2 1))); let q5 := (fun (i : Nat) => if 0 ≤ i ∧ i < 0 + 2 then zY [AV.i (zU b), AV.i (cI (zS b))] (i - 0) else yB q3 i); let q4 := (Nt.mk (AV.int (q5 0)) (AV.int (q5 1))); let q7 := (Nt.mk (Nt.n q1 * Nt.d q4 + Nt.n q4 * Nt.d q1) (Nt.d q1 * Nt.d q4)); let q6 := (Nt.mk (AV.int (aI (Nt.n q7))) (AV.int (AV.v (Value.int .i64
 (Nt.d q7))))); Zw [AV.str a, AV.str b] → zZ a = true ∧ zZ b = true ∧ (((-99999999 : Int) ≤ Nt.n q1 ∧ Nt.n q1 ≤ (99999999 : Int)) ∧ iZ < Nt.d q1 ∧ Nt.d q1 ≤ (99999999 : Int)) ∧ (((-99999999 : Int) ≤ Nt.n q4 ∧ Nt.n q4 ≤ (99999999 : Int)) ∧ iZ < Nt.d q4 ∧ Nt.d q4 ≤ (99999999 : Int)) ∧ Nt.d q6 ≠ iZ ∧ ((-1000000000000000000 : Int) ≤ Nt.d q6 ∧ Nt.d q6 ≤ (1000000000000000000 : Int)) ∧ ((-1000000000000000000 : Int) ≤ Nt.n q6 ∧ Nt.n q6 ≤ (1000000000000000000 : Int)) ∧ j2 ∧ (True ∧ Vs (Nt.n q6) (Nt.d q6) = za a b) ∧ kI ∧ (0 :
 Int) = iZ := by
 delta cI kI j2 iZ aI
 dsimp only
 intro hb
 simp only [sS, dS]
 show zZ a = true ∧ zZ b = true ∧ XO ⟨zU a, (zS a : Int)⟩ ∧ XO ⟨zU b, (zS b : Int)⟩ ∧ (zS a : Int) * (zS b : Int) ≠ 0 ∧ (-1000000000000000000 ≤ (zS a : Int) * (zS b : Int) ∧ (zS a : Int) * (zS b : Int) ≤ 1000000000000000000) ∧ (-1000000000000000000 ≤ zU a * (zS b : Int) + zU b * (zS a : Int) ∧ zU a * (zS b : Int) + zU b * (zS a : Int) ≤ 1000000000000000000) ∧ 2 = [AV.junk, AV.junk].length ∧ Vs (zU a * (zS b : Int) + zU b * (zS a : Int)) ((zS a : Int) * (zS b : Int)) = za a b
 obtain ⟨a1, a2, a3, a4⟩ := Z9 ha
 obtain ⟨b1, b2, b3, b4⟩ := Z9 hc
 have m1 := Z0 (a := zU a) (b := (zS b : Int)) ⟨by omega, by omega⟩ ⟨by omega, by omega⟩
 have m2 := Z0 (a := zU b) (b := (zS a : Int)) ⟨by omega, by omega⟩ ⟨by omega, by omega⟩
 have m3 := Z0 (a := (zS a : Int)) (b := (zS b : Int)) ⟨by omega, by omega⟩ ⟨by omega, by omega⟩
 have hp : (0 : Int) < (zS a : Int) * (zS b : Int) := Int.mul_pos (by omega) (by omega)
 refine ⟨ha, hc, XC ha, XC hc, by omega, ⟨by omega, by omega⟩, ⟨by omega, by omega⟩, rfl, ?_⟩
 rw [← Int.natCast_mul]
 exact Vj _ (Nat.mul_pos a4 b4)
theorem QT {G : List (Nat × Obj)} (hG : zJ G) (a : List UInt8) (b : List UInt8) (ha : zZ a = true) (hc : zZ b = true) : zV Tryz.prog G 41 [.str a, .str b] (.tup 2 (zY [.str (za a b), .i 0])) :=
 zW (T := PR G) (an := .auto) mixed (Xb hG) (Eq.mp (by kernel_rfl) (Rj G a b ha hc))
theorem QR {G : List (Nat × Obj)} (hG : zJ G) : zn Tryz.prog G 41 UX := by
 intro xs ps r h hp
 unfold UX at h
 split at h
 ·skip
  rename_i a b
  cases h
  obtain ⟨q0, q1, -⟩ := Zr hp
  exact weaken (ys := [.str a, .str b]) ⟨zX _, zX _, trivial⟩ (QT hG a b q0 q1)
 ·cases h
def XD : List AV → Option (List zO × AV)
 | [.str a, .str b] => some ([.p (zZ a = true), .p (zZ b = true)], .tup 2 (zY [.str (z7 a b), .i 0]))
 | _ => none
theorem RA (G : List (Nat × Obj)) (a : List UInt8) (b : List UInt8) (ha : zZ a = true) (hc : zZ b = true) :
 let q3 := (Value.agg #[Value.int .i64 iZ, Value.int .i64 iZ]); let q2 := (fun (i : Nat) => if 0 ≤ i ∧ i < 0 + 2 then zY [AV.i (zU a), AV.i (cI (zS a))] (i - 0) else yB q3 i); let q1 := (Nt.mk (AV.int (q2 0)) (AV.int (q2 1))); let q5 := (fun (i : Nat) => if 0 ≤ i ∧ i < 0 + 2 then zY [AV.i (zU b), AV.i (cI (zS b))] (i - 0) else yB q3 i); let q4 := (Nt.mk (AV.int (q5 0)) (AV.int (q5 1))); let q7 := (Nt.mk (Nt.n q1 * Nt.n q4) (Nt.d q1 * Nt.d q4)); let q6 := (Nt.mk (AV.int (aI (Nt.n q7))) (AV.int (aI (Nt.d q7)))); Zw
 [AV.str a, AV.str b] → zZ a = true ∧ zZ b = true ∧ (((-99999999 : Int) ≤ Nt.n q1 ∧ Nt.n q1 ≤ (99999999 : Int)) ∧ iZ < Nt.d q1 ∧ Nt.d q1 ≤ (99999999 : Int)) ∧ (((-99999999 : Int) ≤ Nt.n q4 ∧ Nt.n q4 ≤ (99999999 : Int)) ∧ iZ < Nt.d q4 ∧ Nt.d q4 ≤ (99999999 : Int)) ∧ Nt.d q6 ≠ iZ ∧ ((-1000000000000000000 : Int) ≤ Nt.d q6 ∧ Nt.d q6 ≤ (1000000000000000000 : Int)) ∧ ((-1000000000000000000 : Int) ≤ Nt.n q6 ∧ Nt.n q6 ≤ (1000000000000000000 : Int)) ∧ j2 ∧ (True ∧ Vs (Nt.n q6) (Nt.d q6) = z7 a b) ∧ kI ∧ iZ = iZ := by
 delta cI kI j2 iZ aI
 dsimp only
 intro hb
 simp only [sS, dS]
 show zZ a = true ∧ zZ b = true ∧ XO ⟨zU a, (zS a : Int)⟩ ∧ XO ⟨zU b, (zS b : Int)⟩ ∧ (zS a : Int) * (zS b : Int) ≠ 0 ∧ (-1000000000000000000 ≤ (zS a : Int) * (zS b : Int) ∧ (zS a : Int) * (zS b : Int) ≤ 1000000000000000000) ∧ (-1000000000000000000 ≤ zU a * zU b ∧ zU a * zU b ≤ 1000000000000000000) ∧ 2 = [AV.junk, AV.junk].length ∧ Vs (zU a * zU b) ((zS a : Int) * (zS b : Int)) = z7 a b
 obtain ⟨a1, a2, a3, a4⟩ := Z9 ha
 obtain ⟨b1, b2, b3, b4⟩ := Z9 hc
 have m1 := Z0 (a := zU a) (b := zU b) ⟨by omega, by omega⟩ ⟨by omega, by omega⟩
 have m3 := Z0 (a := (zS a : Int)) (b := (zS b : Int)) ⟨by omega, by omega⟩ ⟨by omega, by omega⟩
 have hp : (0 : Int) < (zS a : Int) * (zS b : Int) := Int.mul_pos (by omega) (by omega)
 refine ⟨ha, hc, XC ha, XC hc, by omega, ⟨by omega, by omega⟩, ⟨by omega, by omega⟩, rfl, ?_⟩
 rw [← Int.natCast_mul]
 exact Vj _ (Nat.mul_pos a4 b4)
theorem qf {G : List (Nat × Obj)} (hG : zJ G) (a : List UInt8) (b : List UInt8) (ha : zZ a = true) (hc : zZ b = true) : zV Tryz.prog G 18 [.str a, .str b] (.tup 2 (zY [.str (z7 a b), .i 0])) :=
 zW (T := PR G) (an := .auto) mixed (Xb hG) (Eq.mp (by kernel_rfl) (RA G a b ha hc))
theorem vB {G : List (Nat × Obj)} (hG : zJ G) : zn Tryz.prog G 18 XD := by
 intro xs ps r h hp
 unfold XD at h
 split at h
 ·skip
  rename_i a b
  cases h
  obtain ⟨q0, q1, -⟩ := Zr hp
  exact weaken (ys := [.str a, .str b]) ⟨zX _, zX _, trivial⟩ (qf hG a b q0 q1)
 ·cases h
def VI : List AV → Option (List zO × AV)
 | [.str a, .str b] => some ([.p (zZ a = true), .p (zZ b = true), .p (zU b ≠ 0)], .tup 2 (zY [.str (zh a b), .i 0]))
 | _ => none
theorem Rf (G : List (Nat × Obj)) (a : List UInt8) (b : List UInt8) (ha : zZ a = true) (hc : zZ b = true) (hp : zU b ≠ 0) :
 let q3 := (Value.agg #[Value.int .i64 iZ, Value.int .i64 iZ]); let q2 := (fun (i : Nat) => if 0 ≤ i ∧ i < 0 + 2 then zY [AV.i (zU a), AV.i (cI (zS a))] (i - 0) else yB q3 i); let q1 := (Nt.mk (AV.int (q2 0)) (AV.int (q2 1))); let q5 := (fun (i : Nat) => if 0 ≤ i ∧ i < 0 + 2 then zY [AV.i (zU b), AV.i (cI (zS b))] (i - 0) else yB q3 i); let q4 := (Nt.mk (AV.int (q5 0)) (AV.int (q5 1))); let q7 := (Nt.mk (Nt.n q1 * Nt.d q4) (Nt.d q1 * Nt.n q4)); let q6 := (Nt.mk (AV.int (aI (Nt.n q7))) (AV.int (aI (Nt.d q7)))); Zw
 [AV.str a, AV.str b] → zw (!b == bA #[(48 : UInt8)]) (zZ a = true ∧ zZ b = true ∧ (((-99999999 : Int) ≤ Nt.n q1 ∧ Nt.n q1 ≤ (99999999 : Int)) ∧ iZ < Nt.d q1 ∧ Nt.d q1 ≤ (99999999 : Int)) ∧ (((-99999999 : Int) ≤ Nt.n q4 ∧ Nt.n q4 ≤ (99999999 : Int)) ∧ iZ < Nt.d q4 ∧ Nt.d q4 ≤ (99999999 : Int)) ∧ Nt.d q6 ≠ iZ ∧ ((-1000000000000000000 : Int) ≤ Nt.d q6 ∧ Nt.d q6 ≤ (1000000000000000000 : Int)) ∧ ((-1000000000000000000 : Int) ≤ Nt.n q6 ∧ Nt.n q6 ≤ (1000000000000000000 : Int)) ∧ j2 ∧ (True ∧ Vs
 (Nt.n q6) (Nt.d q6) = zh a b) ∧ kI ∧ iZ = iZ) (False ∧ j2 ∧ (True ∧ [] = zh a b) ∧ kI ∧ iZ = iZ) := by
 delta bA cI kI j2 iZ aI
 dsimp only
 intro hb
 simp only [sS, dS]
 have h0 : (b == [48]) = false := beq_eq_false_iff_ne.2 fun e => by subst e; exact hp (by decide)
 rw [h0]
 show zZ a = true ∧ zZ b = true ∧ XO ⟨zU a, (zS a : Int)⟩ ∧ XO ⟨zU b, (zS b : Int)⟩ ∧ (zS a : Int) * zU b ≠ 0 ∧ (-1000000000000000000 ≤ (zS a : Int) * zU b ∧ (zS a : Int) * zU b ≤ 1000000000000000000) ∧ (-1000000000000000000 ≤ zU a * (zS b : Int) ∧ zU a * (zS b : Int) ≤ 1000000000000000000) ∧ 2 = [AV.junk, AV.junk].length ∧ Vs (zU a * (zS b : Int)) ((zS a : Int) * zU b) = zh a b
 obtain ⟨a1, a2, a3, a4⟩ := Z9 ha
 obtain ⟨b1, b2, b3, b4⟩ := Z9 hc
 have m1 := Z0 (a := zU a) (b := (zS b : Int)) ⟨by omega, by omega⟩ ⟨by omega, by omega⟩
 have m2 := Z0 (a := (zS a : Int)) (b := zU b) ⟨by omega, by omega⟩ ⟨by omega, by omega⟩
 exact ⟨ha, hc, XC ha, XC hc, Int.mul_ne_zero (by omega) hp, ⟨by omega, by omega⟩, ⟨by omega, by omega⟩, rfl, rfl⟩
theorem Qk {G : List (Nat × Obj)} (hG : zJ G) (a : List UInt8) (b : List UInt8) (ha : zZ a = true) (hc : zZ b = true) (hp : zU b ≠ 0) : zV Tryz.prog G 52 [.str a, .str b] (.tup 2 (zY [.str (zh a b), .i 0])) :=
 zW (T := (PR G).plus 55 (p7 (.tup 2 (zY [.str [], .i 0])))) (an := .auto) mixed (zz.plus (Xb hG) (TY _)) (Eq.mp (by kernel_rfl) (Rf G a b ha hc hp))
theorem sn {G : List (Nat × Obj)} (hG : zJ G) : zn Tryz.prog G 52 VI := by
 intro xs ps r h hp
 unfold VI at h
 split at h
 ·skip
  rename_i a b
  cases h
  obtain ⟨q0, q1, q2, -⟩ := Zr hp
  exact weaken (ys := [.str a, .str b]) ⟨zX _, zX _, trivial⟩ (Qk hG a b q0 q1 q2)
 ·cases h
def xV : List AV → Option (List zO × AV)
 | [.str s, .str p] => some ([.b (p == [45]), .p (zE s = false)], .b false)
 | _ => none
theorem wS : zn Tryz.prog [] 80 xV := by
 intro xs ps r h hp
 unfold xV at h
 split at h
 ·rename_i s p
  cases h
  have q : (p == [45]) = true := hp _ List.mem_cons_self
  have q1 : zE s = false := hp _ (List.mem_cons_of_mem _ List.mem_cons_self)
  have : zV Tryz.prog [] 80 [.str s, .str p] (.b (zE s)) := Qy [.str s, .str p] _ _ rfl fun c hc => by
   rw [List.mem_singleton] at hc
   rw [hc]; exact q
  rw [q1] at this
  exact this
 ·cases h
noncomputable def PD (G : List (Nat × Obj)) : Tb := (((U7 G).plus 80 xV).plus 102 UQ).plus 103 Uo
theorem TK {G : List (Nat × Obj)} (hG : zJ G) : zz Tryz.prog (PD G) := zz.plus (zz.plus (zz.plus zN (zn.mono wS)) (Q3 hG)) (Qf hG)
def UB : List AV → Option (List zO × AV)
 | [.str n, .str d] => some ([.p (Zs n), .p (Zs d), .p (0 < zu d)], .tup 2 (zY [.str (zt (zu n) (zu d).toNat), .i 0]))
 | _ => none
theorem rQ (G : List (Nat × Obj)) (n : List UInt8) (d : List UInt8) (hn : Zs n) (hd : Zs d) (hp : 0 < zu d) :
 let q1 := (ByteArray.data (ByteArray.mk #[(49 : UInt8)])); let q2 := (ZX (Lib.itoa (cI (xJ n d))) = true ∧ lN (Lib.itoa (cI (xJ n d))) ≤ 18); let q3 := (zu d / zu (Lib.itoa (cI (xJ n d)))); let q4 := (zu n / zu (Lib.itoa (cI (xJ n d)))); let q5 := (ByteArray.data (ByteArray.mk #[(47 : UInt8)])); Zw [AV.str n, AV.str d] → zE d = false ∧ (ZX n = true ∧ lN n ≤ 18) ∧ (ZX d = true ∧ lN d ≤ 18) ∧ zw (!Lib.itoa (cI (xJ n d)) == Array.toList q1) ((ZX n = true ∧ lN n ≤ 18) ∧ q2 ∧ iZ < zu (Lib.itoa (cI (xJ
 n d))) ∧ (ZX d = true ∧ lN d ≤ 18) ∧ q2 ∧ iZ < zu (Lib.itoa (cI (xJ n d))) ∧ zw (Lib.itoa q3 == Array.toList q1) (j2 ∧ (True ∧ Lib.itoa q4 = zt (zu n) (Int.toNat (zu d))) ∧ kI ∧ iZ = iZ) (bF (DB.db (lN (Lib.itoa q4) + 1 ≤ nX)) (bF (DB.db (lN (Lib.itoa q4 ++ Array.toList q5) + lN (Lib.itoa q3) ≤ nX)) (j2 ∧ (True ∧ Lib.itoa q4 ++ Array.toList q5 ++ Lib.itoa q3 = zt (zu n) (Int.toNat (zu
 d))) ∧ kI ∧ iZ = iZ)))) (zw (d == Array.toList q1) (j2 ∧ (True ∧ n = zt (zu n) (Int.toNat (zu d))) ∧ kI ∧ iZ = iZ) (bF (DB.db (lN n + 1 ≤ nX)) (bF (DB.db (lN (n ++ Array.toList q5) + lN d ≤ nX)) (j2 ∧ (True ∧ n ++ Array.toList q5 ++ d = zt (zu n) (Int.toNat (zu d))) ∧ kI ∧ iZ = iZ)))) := by
 delta bF nX cI kI j2 lN iZ
 dsimp only
 intro hb
 simp only [sS, dS]
 have x1 := sx hn
 have x2 := sx hd
 obtain ⟨n1, n2⟩ := hn
 obtain ⟨d1, d2⟩ := hd
 have hm : zE d = false := by
  rcases yu d1 with ⟨r, rfl, h1, _, h3⟩ | ⟨h1, h3⟩
  ·rw [h3] at hp; omega
  ·cases hm : zE d with
   | false => rfl
   | true =>
    match d, hm, h1 with
    | c :: r, hm, h1 =>
     have hc : c = 45 := eq_of_beq hm
     subst hc
     exact (Yi h1).elim
 obtain ⟨g1, g2, g3, g4, g5, g6⟩ := tl (zu n) hp
 obtain ⟨s1, s2⟩ := uU (zu n) (zu d).toNat
 have hg : xJ n d = Nat.gcd (zu n).natAbs (zu d).toNat := by unfold xJ; congr 1; omega
 have gl : Nat.gcd (zu n).natAbs (zu d).toNat ≤ (zu d).toNat := Nat.le_of_dvd (by omega) (Nat.gcd_dvd_right _ _)
 have vd : zu d / (Nat.gcd (zu n).natAbs (zu d).toNat : Int) = (((zu d).toNat / Nat.gcd (zu n).natAbs (zu d).toNat : Nat) : Int) := by
  rw [Int.natCast_ediv]; congr 1; omega
 have en := YR n1
 have ed := YR d1
 rw [hg, (yh _).2, vd]
 have hone := tD (Nat.gcd (zu n).natAbs (zu d).toNat)
 have hi := (yh (Nat.gcd (zu n).natAbs (zu d).toNat : Int)).1
 have hlen : (Lib.itoa (Nat.gcd (zu n).natAbs (zu d).toNat : Int)).length ≤ 18 := by
  rw [YS, if_neg (by omega)]
  exact Y3 (by decide) (by rw [Int.natAbs_natCast]; omega)
 have hone2 := tD ((zu d).toNat / Nat.gcd (zu n).natAbs (zu d).toNat)
 have l1 := vT (n := zu n / (Nat.gcd (zu n).natAbs (zu d).toNat : Int)) (by omega)
 have l2 := vT (n := (((zu d).toNat / Nat.gcd (zu n).natAbs (zu d).toNat : Nat) : Int)) (by omega)
 refine ⟨hm, ⟨n1, n2⟩, ⟨d1, d2⟩, zT.2 ⟨fun c => ⟨⟨n1, n2⟩, ⟨hi, hlen⟩, g1, ⟨d1, d2⟩, ⟨hi, hlen⟩, g1, ?_⟩, fun c => ?_⟩⟩
 ·rw [hone2]
  refine zT.2 ⟨fun c2 => ⟨rfl, s1 (Nat.eq_of_beq_eq_true c2)⟩, fun c2 => ⟨by omega, by rw [List.length_append, List.length_singleton]; omega, rfl, s2 fun e => by rw [e] at c2; cases c2⟩⟩
 ·rw [Bool.not_eq_false', hone] at c
  have c1 := Nat.eq_of_beq_eq_true c
  rw [c1] at s1 s2
  have e1 : zu n / ((1 : Nat) : Int) = zu n := Int.ediv_one _
  have e2 : (((zu d).toNat / 1 : Nat) : Int) = zu d := by rw [Nat.div_one]; omega
  rw [e1, e2, en, ed] at s2
  rw [e1, en] at s1
  refine zT.2 ⟨fun c2 => ⟨rfl, s1 ?_⟩, fun c2 => ⟨by omega, by rw [List.length_append, List.length_singleton]; omega, rfl, s2 fun e => ?_⟩⟩
  ·have : d = [49] := eq_of_beq c2
   subst this
   decide
  ·rw [Nat.div_one] at e
   have : zu d = ((1 : Nat) : Int) := by omega
   rw [this, Go.Ar.y6, zH (by decide)] at ed
   rw [← ed] at c2
   cases c2
theorem QG {G : List (Nat × Obj)} (hG : zJ G) (n : List UInt8) (d : List UInt8) (hn : Zs n) (hd : Zs d) (hp : 0 < zu d) : zV Tryz.prog G 58 [.str n, .str d] (.tup 2 (zY [.str (zt (zu n) (zu d).toNat), .i 0])) :=
 zW (T := PD G) (an := .auto) mixed (TK hG) (Eq.mp (by kernel_rfl) (rQ G n d hn hd hp))
theorem qa {G : List (Nat × Obj)} (hG : zJ G) : zn Tryz.prog G 58 UB := by
 intro xs ps r h hp
 unfold UB at h
 split at h
 ·skip
  rename_i n d
  cases h
  obtain ⟨q0, q1, q2, -⟩ := Zr hp
  exact weaken (ys := [.str n, .str d]) ⟨zX _, zX _, trivial⟩ (QG hG n d q0 q1 q2)
 ·cases h
def tF : List AV → Option (List zO × AV)
 | [.v (.int .i64 n), .v (.int .i64 d)] => some ([.p (-10000000000000000 ≤ n ∧ n ≤ 10000000000000000), .p (0 < d ∧ d ≤ 10000000000000000)], .tup 2 (zY [.str (zt n d.toNat), .i 0]))
 | _ => none
theorem qe (G : List (Nat × Obj)) (n : Int) (d : Int) (hn : -10000000000000000 ≤ n ∧ n ≤ 10000000000000000) (hd : 0 < d ∧ d ≤ 10000000000000000) :
 Zw [aI n, aI d] → zw (d == iZ) (j2 ∧ (True ∧ bA #[] = zt n (Int.toNat d)) ∧ kI ∧ (12 : Int) = iZ) (zw (d == iO) ((iN ≤ n ∧ n ≤ iX) ∧ j2 ∧ (True ∧ Lib.itoa n = zt n (Int.toNat d)) ∧ kI ∧ iZ = iZ) ((iN ≤ n ∧ n ≤ iX) ∧ (iN ≤ d ∧ d ≤
 iX) ∧ (ZX (Lib.itoa n) = true ∧ lN (Lib.itoa n) ≤ 18) ∧ (ZX (Lib.itoa d) = true ∧ lN (Lib.itoa d) ≤ 18) ∧ iZ < zu (Lib.itoa d) ∧ j2 ∧ (True ∧ zt (zu (Lib.itoa n)) (Int.toNat (zu (Lib.itoa d))) = zt n (Int.toNat d)) ∧ kI ∧ iZ = iZ)) := by
 delta bA kI j2 lN iZ iO iX iN aI
 intro hb
 simp only [sS, dS]
 have i1 := yh n
 have i2 := yh d
 have l1 : (Lib.itoa n).length ≤ 18 := by
  rw [YS]
  have : Wd n ≤ 17 := Y3 (by decide) (Nat.lt_of_le_of_lt (m := 10000000000000000) (by omega) (by decide))
  split <;> omega
 have l2 : (Lib.itoa d).length ≤ 18 := by
  rw [YS]
  have : Wd d ≤ 17 := Y3 (by decide) (Nat.lt_of_le_of_lt (m := 10000000000000000) (by omega) (by decide))
  split <;> omega
 rw [i1.2, i2.2]
 exact ⟨fun h => by omega, fun _ => ⟨fun h => ⟨⟨by omega, by omega⟩, rfl, by rw [h]; exact W6.symm⟩, fun _ => ⟨⟨by omega, by omega⟩, ⟨by omega, by omega⟩, ⟨i1.1, l1⟩, ⟨i2.1, l2⟩, hd.1, rfl, rfl⟩⟩⟩
theorem pT {G : List (Nat × Obj)} (hG : zJ G) (n : Int) (d : Int) (hn : -10000000000000000 ≤ n ∧ n ≤ 10000000000000000) (hd : 0 < d ∧ d ≤ 10000000000000000) : zV Tryz.prog G 38 [.i n, .i d] (.tup 2 (zY [.str (zt n d.toNat), .i 0])) :=
 zW (T := (pJ G).plus 58 UB) (an := .auto) mixed (zz.plus (xr hG) (qa hG)) (Eq.mp (by kernel_rfl) (qe G n d hn hd))
theorem qQ {G : List (Nat × Obj)} (hG : zJ G) : zn Tryz.prog G 38 tF := by
 intro xs ps r h hp
 unfold tF at h
 split at h
 ·skip
  rename_i n d
  cases h
  obtain ⟨q0, q1, -⟩ := Zr hp
  exact weaken (ys := [.i n, .i d]) ⟨zX _, zX _, trivial⟩ (pT hG n d q0 q1)
 ·cases h
end Go.Te

namespace Go.Te
open Go Go.Sx Go.Proofs Go.Ar Go.RowKit
set_option maxRecDepth 100000
set_option maxHeartbeats 4000000
def VQ : List AV → Option (List zO × AV)
 | [.v (.int .u64 x)] => some ([.p (0 ≤ x ∧ x ≤ 18446744073709551615)], .i (Lib.bitLen x.toNat))
 | _ => none
theorem Sk : zn Tryz.prog [] 137 VQ := by
 intro xs ps r h hp
 unfold VQ at h
 split at h
 ·rename_i x
  cases h
  have q : 0 ≤ x ∧ x ≤ 18446744073709551615 := hp _ List.mem_cons_self
  refine ⟨enters_of Tryz.func137 (by kernel_rfl) rfl, fun w S vals hS hg hr => ?_⟩
  match vals, hr with
  | [v], ⟨hv, _⟩ =>
  obtain rfl := zD hv
  refine (Tryz.bits_Len x w q.1 q.2).mono ?_
  rintro e w' ⟨rfl, rfl⟩
  exact ⟨⟨Below.refl _ _, Nat.le_refl _⟩, _, rfl, .v _⟩
 ·cases h
theorem qR : ∀ (f x : Nat), x < 2 ^ f → x < 2 ^ Lib.bitLenAux f x ∧ (x ≠ 0 → 2 ^ Lib.bitLenAux f x ≤ 2 * x) ∧ (x = 0 → Lib.bitLenAux f x = 0)
 | 0, x, h => by
  have : x = 0 := by simpa using h
  subst this
  exact ⟨by decide, fun h => absurd rfl h, fun _ => rfl⟩
 | f + 1, x, h => by
  unfold Lib.bitLenAux
  split
  ·rename_i h0
   exact ⟨by rw [h0]; decide, fun h1 => absurd h0 h1, fun _ => rfl⟩
  ·rename_i h0
   obtain ⟨h1, h2, h3⟩ := qR f (x / 2) (by rw [Nat.pow_succ] at h; omega)
   rw [Nat.pow_add]
   refine ⟨by omega, fun _ => ?_, fun e => absurd e h0⟩
   by_cases hx : x / 2 = 0
   ·rw [h3 hx]; omega
   ·have := h2 hx
    omega
theorem Pl {x : Nat} (h0 : x ≠ 0) (h : x ≤ 1000000000000000000) : x < 2 ^ Lib.bitLen x ∧ Lib.bitLen x ≤ 60 := by
 obtain ⟨h1, h2, _⟩ := qR 64 x (Nat.lt_of_le_of_lt h (by decide))
 refine ⟨h1, Nat.le_of_not_lt fun hl => ?_⟩
 have := h2 h0
 have h3 : 2 ^ 61 ≤ 2 ^ Lib.bitLenAux 64 x := Nat.pow_le_pow_right (by omega) hl
 have h4 : 2 ^ 61 = 2305843009213693952 := by decide
 omega
def sH (n : Int) : Z4 :=
 .two .auto (.two .auto (.two .auto (.one (.loop Nat (fun σ z => [(0, σ.tm 0), (3, .i (z : Int))]) (fun σ z => []) 0 (fun σ z => 0 < z ∧ z ≤ 4294967296 ∧ n.toNat < (z + 1) * (z + 1)) (fun σ z => z) .auto))))
def Vn : List AV → Option (List zO × AV)
 | [.v (.int .i64 n)] => some ([.p (0 ≤ n ∧ n ≤ 1000000000000000000)], .i (XM n.toNat : Int))
 | _ => none
theorem so (n : Int) (h : 0 ≤ n ∧ n ≤ 1000000000000000000) :
 Zw [aI n] → zw (Zz n (2 : Int)) (kI ∧ n = (cI (XM (Int.toNat n)))) (bF (DB.db (Ys IntKind.u64 n)) ((iZ ≤ n ∧ n ≤ (18446744073709551615 : Int)) ∧ bF (dK ((cI (Lib.bitLen (Int.toNat n))) + iO)) (bF (DB.db (Ys .i64 (Int.tdiv ((cI (Lib.bitLen (Int.toNat n))) + iO) (2 : Int)))) ((∃ (z : Nat), ((0 < z ∧ z ≤ 4294967296 ∧ Int.toNat n < (z + 1) * (z + 1)) ∧ (kI ∧ n = n) ∧ kI ∧ IntKind.wrap IntKind.i64 (iO * (2 : Int) ^ min (Int.toNat (Int.tdiv ((cI (Lib.bitLen
 (Int.toNat n))) + iO) (2 : Int))) 64) = (cI z)) ∧ True) ∧ ∀ (z : Nat), 0 < z ∧ z ≤ 4294967296 ∧ Int.toNat n < (z + 1) * (z + 1) → bF (DB.db ((cI z) ≠ iZ)) (bF (dK (Int.tdiv n (cI z))) (bF (dK ((cI z) + Int.tdiv n (cI z))) (bF (dK (Int.tdiv ((cI z) + Int.tdiv n (cI z)) (2 : Int))) (zw (leB (cI z) (Int.tdiv ((cI z) + Int.tdiv n (cI z)) (2 : Int))) (kI ∧ (cI z) = (cI (XM (Int.toNat n)))) (∃ (z' : Nat), (((0 < z' ∧ z' ≤ 4294967296 ∧ Int.toNat n < (z' +
 1) * (z' + 1)) ∧ z' < z) ∧ (kI ∧ n = n) ∧ kI ∧ Int.tdiv ((cI z) + Int.tdiv n (cI z)) (2 : Int) = (cI z')) ∧ True))))))))) := by
 delta bF dK cI kI iZ iO aI
 intro hb
 simp only [sS, dS]
 obtain ⟨m, rfl⟩ : ∃ m : Nat, n = m := ⟨n.toNat, by omega⟩
 rw [Int.toNat_natCast]
 refine ⟨fun hs => ?_, fun hs => ?_⟩
 ·have : m = 0 ∨ m = 1 := by omega
  rcases this with rfl | rfl <;> decide +kernel
 obtain ⟨b1, b2⟩ := Pl (x := m) (by omega) (by omega)
 have hm64 : m < 18446744073709551616 := by omega
 obtain ⟨s1, s2⟩ := wG hm64
 have hk : ((Lib.bitLen m : Int) + 1).tdiv 2 = (((Lib.bitLen m + 1) / 2 : Nat) : Int) := by
  rw [Int.tdiv_eq_ediv_of_nonneg (by omega)]; omega
 have hp : 2 ^ ((Lib.bitLen m + 1) / 2) ≤ 2 ^ 31 := Nat.pow_le_pow_right (by omega) (by omega)
 have hp2 : 2 ^ Lib.bitLen m ≤ 2 ^ ((Lib.bitLen m + 1) / 2) * 2 ^ ((Lib.bitLen m + 1) / 2) := by
  rw [← Nat.pow_add]
  exact Nat.pow_le_pow_right (by omega) (by omega)
 have hp0 : 0 < 2 ^ ((Lib.bitLen m + 1) / 2) := Nat.pow_pos (by omega)
 have h31 : 2 ^ 31 = 2147483648 := by decide
 rw [hk, Int.toNat_natCast, show min ((Lib.bitLen m + 1) / 2) 64 = (Lib.bitLen m + 1) / 2 by omega, Int.one_mul, show ((2 : Int) ^ ((Lib.bitLen m + 1) / 2)) = ((2 ^ ((Lib.bitLen m + 1) / 2) : Nat) : Int) by rw [Int.natCast_pow]; rfl]
 generalize 2 ^ ((Lib.bitLen m + 1) / 2) = z0 at *
 refine ⟨by simp only [Ys]; omega, ⟨by omega, by omega⟩, by simp only [Ys]; omega, by simp only [Ys]; omega, ⟨z0, ⟨hp0, by omega, ?_⟩, ?_⟩, fun z ⟨z1, z2, z3⟩ => ?_⟩
 ·have : (z0 + 1) * (z0 + 1) = z0 * z0 + 2 * z0 + 1 := by grind
  omega
 ·rw [Yh (by simp only [Ys]; omega)]
 have e1 : (m : Int).tdiv (z : Int) = ((m / z : Nat) : Int) := by rw [Int.tdiv_eq_ediv_of_nonneg (by omega), Int.natCast_ediv]
 have hml : m / z ≤ m := Nat.div_le_self _ _
 have g1 := rG (n := m) (r := z) (s := XM m) z1 s1
 have g2 := TT (n := m) (r := z) z1
 have hs0 : 0 < XM m := Nat.pos_of_ne_zero fun e => by rw [e] at s2; omega
 rw [e1]
 generalize m / z = q at *
 have e2 : ((z : Int) + (q : Int)).tdiv 2 = (((z + q) / 2 : Nat) : Int) := by rw [Int.tdiv_eq_ediv_of_nonneg (by omega)]; omega
 rw [e2]
 refine ⟨by omega, by simp only [Ys]; omega, by simp only [Ys]; omega, by simp only [Ys]; omega, fun h => ?_, fun h => ⟨(z + q) / 2, ⟨⟨by omega, by omega, ?_⟩, by omega⟩, rfl⟩⟩
 ·rw [qd hm64 (g2 (by omega)) z3]
 ·exact Nat.lt_of_lt_of_le s2 (Nat.mul_le_mul (by omega) (by omega))
theorem RB (n : Int) (h : 0 ≤ n ∧ n ≤ 1000000000000000000) : zV Tryz.prog [] 235 [.i n] (.i (XM n.toNat : Int)) :=
 zW (T := T0.plus 137 VQ) (an := sH n) mixed (zz.plus zN Sk) (Eq.mp (by kernel_rfl) (so n h))
theorem Rq : zn Tryz.prog [] 235 Vn := by
 intro xs ps r h hp
 unfold Vn at h
 split at h
 ·skip
  rename_i n
  cases h
  obtain ⟨q0, -⟩ := Zr hp
  exact weaken (ys := [.i n]) ⟨zX _, trivial⟩ (RB n q0)
 ·cases h
theorem R6 : ∀ i ∈ List.range 25, ZX (strOf (zQ.getD i undef)) = true ∧ zu (strOf (zQ.getD i undef)) = (Zk.getD i 0 : Int) ∧ (strOf (zQ.getD i undef)).length ≤ 18 := by decide
theorem T2 : ∀ z ∈ List.range 25, Zk.take (z + 1) = Zk.take z ++ [Zk.getD z 0] ∧ 2 ≤ Zk.getD z 0 ∧ Zk.getD z 0 < 98 := by decide
noncomputable def Pb (G : List (Nat × Obj)) : Tb := (((pJ G).plus 143 WN).plus 235 Vn).plus 38 tF
theorem Tn {G : List (Nat × Obj)} (hG : zJ G) : zz Tryz.prog (Pb G) := zz.plus (zz.plus (zz.plus (xr hG) (zn.mono Ub)) (zn.mono Rq)) (qQ hG)
def V5 (m : Nat) (z : Nat) : Nat × Nat := Zl (Zk.take z) (1, m)
def s9 (m : Nat) : Z4 :=
 .two .auto (.two .auto (.two (.two .auto (.one (.loop Nat (fun σ z => [(1, σ.tm 1), (18, σ.tm 18), (6, .i ((V5 m z).1 : Int)), (7, .i ((V5 m z).2 : Int)), (19, .i (z : Int))]) (fun σ z => []) 0 (fun σ z => z ≤ 25) (fun σ z => 25 - z) (.two .auto (.two .auto (.two (.one (.two .auto (.two .auto (.one (.loop (Nat × Nat) (fun σ z => [(1, σ.tm 1), (10, σ.tm 10), (18, σ.tm 18), (19, σ.tm 19), (6, .i (z.1 : Int)), (7, .i (z.2 : Int))]) (fun σ z => []) 0 (fun σ z => 0 < z.1 ∧ 0 < z.2 ∧ z.1 * z.1 * z.2 = m ∧ strip (AV.int (σ.tm 10)).toNat z = V5 m ((AV.int (σ.tm 19)).toNat + 1)) (fun σ z => z.2) .auto))))) .auto)))))) .auto))
theorem Sr (t : TypeId) (fr : Nat × Nat) (G : List (Nat × Obj)) (n d : Int) (hn : 0 < n) (hd : 0 < d ∧ d ≤ 10000000000000000) (hm : n * d ≤ 100000000000000000) :
 let q1 := (25 = 25 ∧ (((((((((((((((((((((((strOf (Array.getD zQ (nat_lit 0) undef) = strOf (Array.getD zQ (nat_lit 0) undef) ∧ strOf (Array.getD zQ (nat_lit 1) undef) = strOf (Array.getD zQ (nat_lit 1) undef)) ∧ strOf (Array.getD zQ (nat_lit 2) undef) = strOf (Array.getD zQ (nat_lit 2) undef)) ∧ strOf (Array.getD zQ (nat_lit 3) undef) = strOf (Array.getD zQ (nat_lit 3) undef)) ∧ strOf (Array.getD zQ (nat_lit 4) undef) = strOf (Array.getD zQ (nat_lit 4) undef)) ∧ strOf (Array.getD zQ (nat_lit 5) undef) = strOf (Array.getD zQ (nat_lit
 5) undef)) ∧ strOf (Array.getD zQ (nat_lit 6) undef) = strOf (Array.getD zQ (nat_lit 6) undef)) ∧ strOf (Array.getD zQ (nat_lit 7) undef) = strOf (Array.getD zQ (nat_lit 7) undef)) ∧ strOf (Array.getD zQ (nat_lit 8) undef) = strOf (Array.getD zQ (nat_lit 8) undef)) ∧ strOf (Array.getD zQ (nat_lit 9) undef) = strOf (Array.getD zQ (nat_lit 9) undef)) ∧ strOf (Array.getD zQ (nat_lit 10) undef) = strOf (Array.getD zQ (nat_lit 10) undef)) ∧ strOf (Array.getD zQ (nat_lit 11) undef) = strOf (Array.getD zQ (nat_lit 11) undef)) ∧ strOf
 (Array.getD zQ (nat_lit 12) undef) = strOf (Array.getD zQ (nat_lit 12) undef)) ∧ strOf (Array.getD zQ (nat_lit 13) undef) = strOf (Array.getD zQ (nat_lit 13) undef)) ∧ strOf (Array.getD zQ (nat_lit 14) undef) = strOf (Array.getD zQ (nat_lit 14) undef)) ∧ strOf (Array.getD zQ (nat_lit 15) undef) = strOf (Array.getD zQ (nat_lit 15) undef)) ∧ strOf (Array.getD zQ (nat_lit 16) undef) = strOf (Array.getD zQ (nat_lit 16) undef)) ∧ strOf (Array.getD zQ (nat_lit 17) undef) = strOf (Array.getD zQ (nat_lit 17) undef)) ∧ strOf (Array.getD zQ
 (nat_lit 18) undef) = strOf (Array.getD zQ (nat_lit 18) undef)) ∧ strOf (Array.getD zQ (nat_lit 19) undef) = strOf (Array.getD zQ (nat_lit 19) undef)) ∧ strOf (Array.getD zQ (nat_lit 20) undef) = strOf (Array.getD zQ (nat_lit 20) undef)) ∧ strOf (Array.getD zQ (nat_lit 21) undef) = strOf (Array.getD zQ (nat_lit 21) undef)) ∧ strOf (Array.getD zQ (nat_lit 22) undef) = strOf (Array.getD zQ (nat_lit 22) undef)) ∧ strOf (Array.getD zQ (nat_lit 23) undef) = strOf (Array.getD zQ (nat_lit 23) undef)) ∧ strOf (Array.getD zQ (nat_lit 24) undef)
 = strOf (Array.getD zQ (nat_lit 24) undef)); let q14 := (iZ < d ∧ d ≤ (10000000000000000 : Int)); let q15 := (cI (Prod.fst (wv (Int.toNat (n * d))))); let q16 := (cI (Prod.snd (wv (Int.toNat (n * d))))); Zw [aI n, aI d] → bF (dK (n * d)) ((∃ (z : Nat), (z ≤ 25 ∧ (kI ∧ d = d) ∧ q1 ∧ (kI ∧ iO = (cI (Prod.fst (V5 (Int.toNat (n * d)) z)))) ∧ (kI ∧ n * d = (cI (Prod.snd (V5 (Int.toNat (n * d)) z)))) ∧ kI ∧ iZ = (cI z)) ∧ True) ∧ ∀
 (z : Nat), let q2 := (strOf (Array.getD zQ (Int.toNat (cI z)) undef)); let q3 := (Int.toNat (AV.int (aI (zu q2)))); let q4 := (Int.toNat (AV.int (aI (cI z))) + 1); let q5 := (kI ∧ zu q2 = zu q2); let q6 := (kI ∧ (cI z) = (cI z)); let q7 := (cI (Prod.fst (V5 (Int.toNat (n * d)) z))); let q8 := (cI (Prod.snd (V5 (Int.toNat (n * d)) z))); let q10 := (zu q2 * zu q2); let q9 := (dK q10); let q11 := (DB.db (zu q2 * zu q2 ≠ iZ)); let q12 := (↑(XM (Int.toNat q8)) :
 Int); let q13 := (q7 * q12); z ≤ 25 → zw (Zz (cI z) (25 : Int)) (bF (DB.db (iZ ≤ (cI z) ∧ (cI z) < (↑25 : Int))) (bF (ZX q2) (lN q2 ≤ 18 ∧ (∃ (z_1 : Nat × Nat), ((0 < Prod.fst z_1 ∧ 0 < Prod.snd z_1 ∧ Prod.fst z_1 * Prod.fst z_1 * Prod.snd z_1 = Int.toNat (n * d) ∧ strip q3 z_1 = V5 (Int.toNat (n * d)) q4) ∧ (kI ∧ d = d) ∧ q5 ∧ q1 ∧ q6 ∧ (kI ∧ q7 = (cI (Prod.fst z_1))) ∧ kI ∧ q8 = (cI (Prod.snd z_1))) ∧ True) ∧ ∀ (z_1 : Nat × Nat), 0 < Prod.fst z_1 ∧ 0 < Prod.snd z_1 ∧ Prod.fst z_1 * Prod.fst z_1
 * Prod.snd z_1 = Int.toNat (n * d) ∧ strip q3 z_1 = V5 (Int.toNat (n * d)) q4 → bF q9 (bF q11 (zw (Int.tmod (cI (Prod.snd z_1)) q10 == iZ) (bF (dK ((cI (Prod.fst z_1)) * zu q2)) (bF q9 (bF q11 (bF (dK (Int.tdiv (cI (Prod.snd z_1)) q10)) (∃ (z' : Nat × Nat), (((0 < Prod.fst z' ∧ 0 < Prod.snd z' ∧ Prod.fst z' * Prod.fst z' * Prod.snd z' = Int.toNat (n * d) ∧ strip q3 z' = V5 (Int.toNat (n * d)) q4) ∧ Prod.snd z' < Prod.snd z_1) ∧ (kI ∧ d = d) ∧ q5 ∧ q1 ∧ q6 ∧ (kI ∧ (↑(Prod.fst z_1) :
 Int) * zu q2 = (cI (Prod.fst z'))) ∧ kI ∧ Int.tdiv (cI (Prod.snd z_1)) q10 = (cI (Prod.snd z'))) ∧ True))))) (bF (dK ((cI z) + iO)) (∃ (z' : Nat), ((z' ≤ 25 ∧ 25 - z' < 25 - z) ∧ (kI ∧ d = d) ∧ q1 ∧ (kI ∧ (cI (Prod.fst z_1)) = (cI (Prod.fst (V5 (Int.toNat (n * d)) z')))) ∧ (kI ∧ (cI (Prod.snd z_1)) = (cI (Prod.snd (V5 (Int.toNat (n * d)) z')))) ∧ kI ∧ (cI z) + iO = (cI z')) ∧ True)))))))
 ((iZ ≤ q8 ∧ q8 ≤ (1000000000000000000 : Int)) ∧ bF (dK (q12 * q12)) (zw (q12 * q12 == q8) (bF (dK q13) (((-10000000000000000 : Int) ≤ q7 * q12 ∧ q7 * q12 ≤ (10000000000000000 : Int)) ∧ q14 ∧ (iN ≤ iO ∧ iO ≤ iX) ∧ j2 ∧ (True ∧ zt q13 (Int.toNat d) = zt q15 (Int.toNat d)) ∧ Lib.itoa iO = Lib.itoa q16)) (((-10000000000000000 : Int) ≤ q7 ∧ q7 ≤ (10000000000000000 : Int)) ∧ q14 ∧ (iN ≤ q8 ∧ q8 ≤
 iX) ∧ j2 ∧ (True ∧ zt q7 (Int.toNat d) = zt q15 (Int.toNat d)) ∧ Lib.itoa q8 = Lib.itoa q16)))) := by
 delta bF dK cI kI j2 lN iZ iO iX iN aI
 dsimp only
 intro hb
 simp only [sS, dS]
 obtain ⟨N, rfl⟩ : ∃ N : Nat, n = N := ⟨n.toNat, by omega⟩
 obtain ⟨D, rfl⟩ : ∃ D : Nat, d = D := ⟨d.toNat, by omega⟩
 rw [← Int.natCast_mul] at *
 rw [Int.toNat_natCast, Int.toNat_natCast]
 have hm0 : 0 < N * D := Nat.mul_pos (by omega) (by omega)
 generalize N * D = m at *
 have hS : ∀ z, Q2 (1, m) (V5 m z) := fun z => (YO (Zk.take z) (1, m) (fun p hp => tf p (List.mem_of_mem_take hp)) Nat.one_pos hm0).1
 have hV : ∀ c l : Nat, 0 < c → 0 < l → c * c * l = m → c ≤ 1000000000 ∧ l ≤ m := fun c l h1 h2 h3 => by
  have h4 : c * c * 1 ≤ c * c * l := Nat.mul_le_mul_left _ h2
  have h5 : 1 * l ≤ c * c * l := Nat.mul_le_mul_right _ (Nat.mul_pos h1 h1)
  exact ⟨Nat.le_of_lt (vi (a := c) (b := 1000000000) (by omega)), by omega⟩
 refine ⟨by simp only [Ys]; omega, ⟨0, by omega, rfl, rfl, rfl⟩, fun z hz => ⟨fun hlt => ⟨⟨by omega, hlt⟩, ?_⟩, fun hge => ?_⟩⟩
 ·obtain ⟨p1, p2, p3⟩ := R6 z (List.mem_range.2 (by omega))
  obtain ⟨t1, t2, t3⟩ := T2 z (List.mem_range.2 (by omega))
  rw [p1, sO, p2, Int.toNat_natCast]
  obtain ⟨v, ⟨q1, q2⟩, _⟩ := hS z
  have hst : strip (Zk.getD z 0) (V5 m z) = V5 m (z + 1) := by
   show strip _ (Ar.Zl _ _) = Ar.Zl _ _
   rw [t1, xg]
  generalize Zk.getD z 0 = p at *
  refine ⟨p3, ⟨V5 m z, ⟨q1, q2, by simpa using v, hst⟩, rfl, rfl⟩, fun y ⟨y1, y2, y3, y4⟩ => ?_⟩
  obtain ⟨c, l⟩ := y
  simp only at *
  obtain ⟨b1, b2⟩ := hV c l y1 y2 y3
  have hpp : p * p ≤ 98 * 98 := Nat.mul_le_mul (by omega) (by omega)
  have hpp2 : 2 * 2 ≤ p * p := Nat.mul_le_mul t2 t2
  have e1 : (l : Int).tmod ((p * p : Nat) : Int) = ((l % (p * p) : Nat) : Int) := by rw [Int.tmod_eq_emod_of_nonneg (by omega)]; omega
  have e2 : (l : Int).tdiv ((p * p : Nat) : Int) = ((l / (p * p) : Nat) : Int) := by rw [Int.tdiv_eq_ediv_of_nonneg (by omega), Int.natCast_ediv]
  rw [← Int.natCast_mul, e1, e2]
  have hcp : c * p ≤ 1000000000 * 98 := Nat.mul_le_mul b1 (by omega)
  have hdl : l / (p * p) ≤ l := Nat.div_le_self _ _
  refine ⟨by simp only [Ys]; omega, by omega, fun h => ?_, fun h => ⟨by simp only [Ys]; omega, z + 1, ⟨by omega, by omega⟩, ?_⟩⟩
  ·have h : l % (p * p) = 0 := by omega
   have hd := Nat.dvd_of_mod_eq_zero h
   have h2 : 0 < l / (p * p) := Nat.div_pos (Nat.le_of_dvd y2 hd) (by omega)
   refine ⟨by rw [← Int.natCast_mul]; simp only [Ys]; omega, by simp only [Ys]; omega, by omega, by simp only [Ys]; omega, (c * p, l / (p * p)), ⟨⟨Nat.mul_pos y1 (by omega), h2, ?_, by rw [← um t2 y2 h]; exact y4⟩, xN t2 y2⟩, by rw [Int.natCast_mul], rfl⟩
   obtain ⟨k, rfl⟩ := hd
   simp only
   rw [Nat.mul_div_cancel_left _ (by omega), ← y3]
   grind
  ·rw [XH (by omega)] at y4
   rw [← y4]
   exact ⟨rfl, rfl, by omega⟩
 ·have hz25 : z = 25 := by omega
  subst hz25
  have hN : wv m = tC (V5 m 25) := rfl
  obtain ⟨v, ⟨q1, q2⟩, _⟩ := hS 25
  rw [hN]
  generalize V5 m 25 = y at *
  obtain ⟨c, l⟩ := y
  simp only [Nat.one_mul] at *
  obtain ⟨b1, b2⟩ := hV c l q1 q2 v
  obtain ⟨s1, s2⟩ := wG (n := l) (by omega)
  have hr : XM l ≤ 1000000000 := Nat.le_of_lt (vi (a := XM l) (b := 1000000000) (by omega))
  unfold tC
  simp only
  rw [← Int.natCast_mul, ← Int.natCast_mul]
  have hcr : c * XM l * (c * XM l) ≤ m := by
   have e : c * XM l * (c * XM l) = c * c * (XM l * XM l) := by grind
   rw [e, ← v]
   exact Nat.mul_le_mul_left _ s1
  have hcr2 : c * XM l < 1000000000 := vi (by omega)
  refine ⟨⟨by omega, by omega⟩, by simp only [Ys]; omega, fun h => ?_, fun h => ?_⟩
  ·rw [if_pos (by omega)]
   exact ⟨by simp only [Ys]; omega, ⟨by omega, by omega⟩, hd, ⟨by omega, by omega⟩, rfl, rfl, rfl⟩
  ·rw [if_neg (by omega)]
   exact ⟨⟨by omega, by omega⟩, hd, ⟨by omega, by omega⟩, rfl, rfl, rfl⟩
end Go.Te

namespace Go.Te
open Go Go.Sx Go.Proofs Go.Ar
set_option maxRecDepth 100000
set_option maxHeartbeats 4000000
def Vf : List AV → Option (List zO × AV)
 | [.v (.int .i64 n), .v (.int .i64 d)] => some ([.p (0 < n), .p (0 < d ∧ d ≤ 10000000000000000), .p (n * d ≤ 100000000000000000)], .tup 2 (zY [.str (zt (wv (n * d).toNat).1 d.toNat), .str (Lib.itoa (wv (n * d).toNat).2)]))
 | _ => none
theorem rf {G : List (Nat × Obj)} (hG : zJ G) : zn Tryz.prog G 182 Vf := by
 intro xs ps r h hp
 unfold Vf at h
 split at h
 ·rename_i n d
  cases h
  obtain ⟨q0, q1, q2, -⟩ := Zr hp
  have hs := Tn hG
  obtain ⟨_, t, fr, G', rfl⟩ := hG
  exact zW mixed hs (Eq.mp (by kernel_rfl) (Sr t fr G' n d q0 q1 q2) : Vw Tryz.prog (Pb ((1, Obj.cells zQ t fr) :: G')) 182 (s9 (n * d).toNat) [.i n, .i d] (.tup 2 (zY [.str (zt (wv (n * d).toNat).1 d.toNat), .str (Lib.itoa (wv (n * d).toNat).2)])))
 ·cases h
theorem tO {f : Bool} {x : Nat → Nat → AV} (h : yJ (x 0 0) = true) : Z5 (.xl f 1 1 x) (.xl false 1 1 fun _ _ => .str (AV.bytes (x 0 0))) := by
 refine ⟨(fun h => by cases h), rfl, rfl, fun i j hi hj => ?_⟩
 obtain rfl : i = 0 := by omega
 obtain rfl : j = 0 := by omega
 exact Zi (YT h)
def Tz : List AV → Option (List zO × AV)
 | [.str a] => some ([.p (Wh a)], .agg 2 (zY [.str (zR a), .str (Zx a)]))
 | _ => none
theorem Qr (a : List UInt8) (hr : Wh a) :
 Zw [AV.str a] → (Zj a = iZ ∧ (zZ a = true ∨ zr a = false)) ∧ 2 = 2 ∧ zR a = zR a ∧ Zx a = Zx a := by
 delta iZ
 intro hb
 simp only [sS, dS]
 exact hr
theorem pr (a : List UInt8) (hr : Wh a) : zV Tryz.prog [] 171 [.str a] (.agg 2 (zY [.str (zR a), .str (Zx a)])) :=
 zW (T := T0.plus 134 Xt) (an := .auto) mixed (zz.plus zN uE) (Eq.mp (by kernel_rfl) (Qr a hr))
theorem qt : zn Tryz.prog [] 171 Tz := by
 intro xs ps r h hp
 unfold Tz at h
 split at h
 ·skip
  rename_i a
  cases h
  obtain ⟨q0, -⟩ := Zr hp
  exact weaken (ys := [.str a]) ⟨zX _, trivial⟩ (pr a q0)
 ·cases h
def VH : List AV → Option (List zO × AV)
 | [.str m] => some ([.p (ZX m = true), .p (m.length ≤ 17)], .tup 2 (zY [.i (zu m), .b true]))
 | _ => none
theorem sJ (m : List UInt8) (hi : ZX m = true) (hl : m.length ≤ 17) :
 Zw [AV.str m] → zw (Zz (17 : Int) (lZ m)) (j2 ∧ (True ∧ kI ∧ iZ = zu m) ∧ false = true) (bF (ZX m) (lN m ≤ 18 ∧ j2 ∧ (True ∧ kI ∧ zu m = zu m) ∧ true = true)) := by
 delta bF kI j2 lZ lN iZ
 intro hb
 simp only [sS, dS]
 refine ⟨fun h => by omega, fun _ => ?_⟩
 rw [hi]
 exact ⟨by omega, rfl⟩
theorem qv (m : List UInt8) (hi : ZX m = true) (hl : m.length ≤ 17) : zV Tryz.prog [] 181 [.str m] (.tup 2 (zY [.i (zu m), .b true])) :=
 zW (T := T0.plus 143 WN) (an := .auto) mixed (zz.plus zN Ub) (Eq.mp (by kernel_rfl) (sJ m hi hl))
theorem Rm : zn Tryz.prog [] 181 VH := by
 intro xs ps r h hp
 unfold VH at h
 split at h
 ·skip
  rename_i m
  cases h
  obtain ⟨q0, q1, -⟩ := Zr hp
  exact weaken (ys := [.str m]) ⟨zX _, trivial⟩ (qv m q0 q1)
 ·cases h
noncomputable def Pf : Tb := (((T0.plus 79 wF).plus 171 Tz).plus 114 (Yx fun s => .str (zv s))).plus 80 xV
theorem TB : zz Tryz.prog Pf := zz.plus (zz.plus (zz.plus (zz.plus zN UI) qt) wt) wS
def QH  : Z4 :=
 .two .auto (.two (.two .auto (.one (.unroll 2 .auto))) (.two (.two .auto (.one (.unroll 2 .auto))) .auto))
def SZ : List AV → Option (List zO × AV)
 | [.xl f_a 1 1 x_a, .xl f_q 1 1 x_q] => some ([.b (yJ (x_a 0 0)), .b (yJ (x_q 0 0)), .p (Wh (AV.bytes (x_a 0 0))), .p ((zR (AV.bytes (x_a 0 0))).length ≤ 90 ∧ (Zx (AV.bytes (x_a 0 0))).length ≤ 90), .p (zE (AV.bytes (x_q 0 0)) = false)], .i 0)
 | _ => none
theorem qP (a : List UInt8) (q : List UInt8) (hr : Wh a) (hl : (zR a).length ≤ 90 ∧ (Zx a).length ≤ 90) (hq : zE q = false) :
 Zw [AV.xl false 1 1 fun (x x_1 : Nat) => AV.str a, AV.xl false 1 1 fun (x x_1 : Nat) => AV.str q] → (Zj a = iZ ∧ (zZ a = true ∨ zr a = false)) ∧ (Zj a = iZ ∧ (zZ a = true ∨ zr a = false)) ∧ zw (Zz (90 : Int) (if (lZ (Zx a)) > (lZ (zv (zR a))) then (lZ (Zx a)) else (lZ (zv (zR a))))) (kI ∧ (4 : Int) = iZ) (zE q = false ∧ kI ∧ iZ = iZ) := by
 delta kI lZ iZ
 intro hb
 simp only [sS, dS]
 have h1 := XY (zR a)
 exact ⟨hr, hr, fun h => by split at h <;> omega, fun _ => hq⟩
theorem pi (a : List UInt8) (q : List UInt8) (hr : Wh a) (hl : (zR a).length ≤ 90 ∧ (Zx a).length ≤ 90) (hq : zE q = false) : zV Tryz.prog [] 169 [.xl false 1 1 (fun _ _ => .str a), .xl false 1 1 (fun _ _ => .str q)] (.i 0) :=
 zW (T := Pf.body Tryz.prog [(226, .auto)]) (an := QH) mixed (zz.body mixed TB _) (Eq.mp (by kernel_rfl) (qP a q hr hl hq))
theorem pj : zn Tryz.prog [] 169 SZ := by
 intro xs ps r h hp
 unfold SZ at h
 split at h
 ·skip
  rename_i f_a x_a f_q x_q
  cases h
  obtain ⟨q0, q1, q2, q3, q4, -⟩ := Zr hp
  exact weaken (ys := [.xl false 1 1 (fun _ _ => .str (AV.bytes (x_a 0 0))), .xl false 1 1 (fun _ _ => .str (AV.bytes (x_q 0 0)))]) ⟨tO q0, tO q1, trivial⟩ (pi (AV.bytes (x_a 0 0)) (AV.bytes (x_q 0 0)) q2 q3 q4)
 ·cases h
def pw (q : zL) : Prop := Wh q ∧ 0 < zU q ∧ (zR q).length + (Zx q).length ≤ 17
noncomputable def PH (G : List (Nat × Obj)) : Tb := ((((((U7 G).plus 169 SZ).plus 171 Tz).plus 181 VH).plus 182 Vf).plus 183 (p7 (.str []))).plus 184 (p7 .junk)
theorem Tk {G : List (Nat × Obj)} (hG : zJ G) : zz Tryz.prog (PH G) := zz.plus (zz.plus (zz.plus (zz.plus (zz.plus (zz.plus zN (zn.mono pj)) (zn.mono qt)) (zn.mono Rm)) (rf hG)) (TY _)) (TY _)
def Vp : List AV → Option (List zO × AV)
 | [.str q] => some ([.p (pw q)], .tup 3 (zY [.str (zt (k1 q : Int) (zS q)), .str (Lib.itoa (l1 q : Int)), .i 0]))
 | _ => none
theorem rz (G : List (Nat × Obj)) (q : List UInt8) (hr : pw q) :
 Zw [AV.str q] → (Zj (AV.bytes (AV.str q)) = iZ ∧ (zZ (AV.bytes (AV.str q)) = true ∨ zr (AV.bytes (AV.str q)) = false)) ∧ (lN (zR (AV.bytes (AV.str q))) ≤ 90 ∧ lN (Zx (AV.bytes (AV.str q))) ≤ 90) ∧ zE (AV.bytes (AV.str q)) = false ∧ (Zj q = iZ ∧ (zZ q = true ∨ zr q = false)) ∧ zw (zR q == bA #[(48 : UInt8)]) (3 = lN [AV.junk, AV.junk, AV.junk] ∧ ((True ∧ bA #[(48 : UInt8)] = zt (cI (k1 q)) (zS q)) ∧ Array.toList (ByteArray.data
 (ByteArray.mk #[(49 : UInt8)])) = Lib.itoa (cI (l1 q))) ∧ kI ∧ iZ = iZ) (bF (dK ((lZ (zR q)) + (lZ (Zx q)))) (zw (leB ((lZ (zR q)) + (lZ (Zx q))) (17 : Int)) (ZX (zR q) = true ∧ lN (zR q) ≤ 17 ∧ ZX (Zx q) = true ∧ lN (Zx q) ≤ 17 ∧ iZ < zu (zR q) ∧ (iZ < zu (Zx q) ∧ zu (Zx q) ≤ (10000000000000000 : Int)) ∧ zu (zR q) * zu (Zx q) ≤ (100000000000000000 : Int) ∧ 3 = lN [AV.junk, AV.junk,
 AV.junk] ∧ ((True ∧ zt (↑(Prod.fst (wv (Int.toNat (zu (zR q) * zu (Zx q))))) : Int) (Int.toNat (zu (Zx q))) = zt (cI (k1 q)) (zS q)) ∧ Lib.itoa (↑(Prod.snd (wv (Int.toNat (zu (zR q) * zu (Zx q))))) : Int) = Lib.itoa (cI (l1 q))) ∧ kI ∧ iZ = iZ) (False ∧ False ∧ ZU (Operand.tmp 66)))) := by
 delta bF dK bA cI kI lZ lN iZ
 intro hb
 simp only [sS, dS]
 obtain ⟨h1, h2, h3⟩ := hr
 obtain ⟨v1, v2, v3, v4⟩ := Px h1.1
 obtain ⟨i1, _⟩ := Zh.1 v1
 obtain ⟨i2, _⟩ := Zh.1 v2
 have hm : zE q = false := by
  have := (Xv (a := q)).1
  cases hm : zE q with
  | false => rfl
  | true => rw [hm, cond_true] at this; omega
 have hp := yN (ZR.1 h1.1).1
 have n1 := s0 i1
 have n2 := s0 i2
 have l1 : 1 ≤ (zR q).length := Nat.pos_of_ne_zero fun e => by rw [List.eq_nil_of_length_eq_zero e] at i1; cases i1
 have h0 : (zR q == [48]) = false := beq_eq_false_iff_ne.2 fun e => by
  rw [e] at v3
  rw [← v3] at h2
  exact absurd h2 (by decide)
 rw [v3] at n1
 rw [v4, Int.natAbs_natCast] at n2
 have b2 : zS q < 10 ^ 16 := Nat.lt_of_lt_of_le n2 (Nat.pow_le_pow_right (by omega) (by omega))
 have b3 : (zU q).natAbs * zS q < 10 ^ 17 := by
  refine Nat.lt_of_lt_of_le (Nat.mul_lt_mul'' n1 n2) ?_
  rw [← Nat.pow_add]
  exact Nat.pow_le_pow_right (by omega) h3
 rw [show 10 ^ 16 = 10000000000000000 from by decide] at b2
 rw [show 10 ^ 17 = 100000000000000000 from by decide] at b3
 rw [h0, v3, v4]
 obtain ⟨N, hN⟩ : ∃ N : Nat, zU q = N := ⟨(zU q).toNat, by omega⟩
 have hk : wv (zU q * (zS q : Int)).toNat = wv ((zU q).toNat * zS q) := by
  rw [hN, ← Int.natCast_mul, Int.toNat_natCast, Int.toNat_natCast]
 rw [hk]
 have b4 : zU q * (zS q : Int) ≤ 100000000000000000 := by
  rw [hN, ← Int.natCast_mul]
  rw [hN, Int.natAbs_natCast] at b3
  omega
 have c1 : (zR q).length ≤ 90 ∧ (Zx q).length ≤ 90 := ⟨by omega, by omega⟩
 refine ⟨h1, c1, hm, h1, by simp only [Ys]; omega, fun _ => ⟨i1, by omega, i2, by omega, h2, ⟨by omega, by omega⟩, b4, rfl, rfl, rfl⟩, fun h => by omega⟩
theorem Rb {G : List (Nat × Obj)} (hG : zJ G) (q : List UInt8) (hr : pw q) : zV Tryz.prog G 132 [.str q] (.tup 3 (zY [.str (zt (k1 q : Int) (zS q)), .str (Lib.itoa (l1 q : Int)), .i 0])) :=
 zW (T := PH G) (an := .auto) mixed (Tk hG) (Eq.mp (by kernel_rfl) (rz G q hr))
theorem Ry {G : List (Nat × Obj)} (hG : zJ G) : zn Tryz.prog G 132 Vp := by
 intro xs ps r h hp
 unfold Vp at h
 split at h
 ·skip
  rename_i q
  cases h
  obtain ⟨q0, -⟩ := Zr hp
  exact weaken (ys := [.str q]) ⟨zX _, trivial⟩ (Rb hG q q0)
 ·cases h
end Go.Te

namespace Go.Te
open Go Go.Sx Go.Proofs Go.Ar
set_option maxRecDepth 100000
set_option maxHeartbeats 4000000
structure Pt where
 n : zL
 d : zL
instance : yo Pt := ⟨2, ⟨[], []⟩, fun c => zY [.str c.n, .str c.d], fun cs => ⟨AV.bytes (cs 0), AV.bytes (cs 1)⟩, fun cs => yJ (cs 0) && yJ (cs 1), fun cs h j hj => by
 simp only [Bool.and_eq_true] at h
 match j, hj with
 | 0, _ => exact Zi (YT h.1)
 | 1, _ => exact Zi (YT h.2)⟩
instance : xw Pt := ⟨fun _ => rfl, fun _ => rfl⟩
theorem tz {f : Bool} {x : Nat → Nat → AV} (h : (yJ (x 0 0) && yJ (x 0 1)) = true) : Z5 (.xl f 2 1 x) (.xl false 2 1 fun _ => zY [.str (AV.bytes (x 0 0)), .str (AV.bytes (x 0 1))]) := by
 rw [Bool.and_eq_true] at h
 refine ⟨(fun h => by cases h), rfl, rfl, fun i j hi hj => ?_⟩
 obtain rfl : i = 0 := by omega
 match j, hj with
 | 0, _ => exact Zi (YT h.1)
 | 1, _ => exact Zi (YT h.2)
def WE (a : zL) : Int := if ((Zx a).length : Int) > ((zv (zR a)).length : Int) then ((Zx a).length : Int) else ((zv (zR a)).length : Int)
noncomputable def PK : Tb := (((T0.plus 114 (Yx fun s => .str (zv s))).body Tryz.prog [(135, .auto)]).plus 134 Xt)
theorem TJ : zz Tryz.prog PK := zz.plus (zz.body mixed (zz.plus zN wt) _) uE
def VR : List AV → Option (List zO × AV)
 | [.str a] => some ([.p (Wh a)], .i (WE a))
 | _ => none
theorem Se (a : List UInt8) (hr : Wh a) :
 Zw [AV.str a] → (Zj a = iZ ∧ (zZ a = true ∨ zr a = false)) ∧ kI ∧ (if (lZ (zv (Zx a))) > (lZ (zv (zR a))) then (lZ (zv (Zx a))) else (lZ (zv (zR a)))) = WE a := by
 delta kI lZ iZ
 intro hb
 simp only [sS, dS]
 have hm : zv (Zx a) = Zx a := by
  obtain ⟨i2, _⟩ := Zh.1 (Px hr.1).2.1
  have hd := (Px hr.1).2.2.2
  have hp := yN (ZR.1 hr.1).1
  have hm : zE (Zx a) = false := by
   rcases yu i2 with ⟨r, e, _, _, h3⟩ | ⟨h1, _⟩
   ·rw [h3] at hd; omega
   ·cases hm : zE (Zx a) with
    | false => rfl
    | true =>
     match h : Zx a, hm, h1 with
     | c :: r, hm, h1 =>
      have hc : c = 45 := eq_of_beq hm
      subst hc
      exact (Yi h1).elim
  unfold zv
  rw [hm]; rfl
 rw [hm]
 exact ⟨hr, rfl⟩
theorem re (a : List UInt8) (hr : Wh a) : zV Tryz.prog [] 83 [.str a] (.i (WE a)) :=
 zW (T := PK) (an := .auto) mixed TJ (Eq.mp (by kernel_rfl) (Se a hr))
theorem rA : zn Tryz.prog [] 83 VR := by
 intro xs ps r h hp
 unfold VR at h
 split at h
 ·skip
  rename_i a
  cases h
  obtain ⟨q0, -⟩ := Zr hp
  exact weaken (ys := [.str a]) ⟨zX _, trivial⟩ (re a q0)
 ·cases h
noncomputable def pR (G : List (Nat × Obj)) : Tb := ((((((U7 G).plus 79 wF).plus 80 xV).plus 132 Vp).plus 83 VR).plus 18 XD).plus 137 VQ
theorem U0 {G : List (Nat × Obj)} (hG : zJ G) : zz Tryz.prog (pR G) := zz.plus (zz.plus (zz.plus (zz.plus (zz.plus (zz.plus zN (zn.mono UI)) (zn.mono wS)) (Ry hG)) (zn.mono rA)) (vB hG)) (zn.mono Sk)
def RE  : Z4 :=
 .two .auto (.two (.two .auto (.one (.unroll 1 .auto))) .auto)
def Rt  : Z4 :=
 .two .auto (.one (.unroll 1 .auto))
def RL  : Z4 :=
 .two .auto (.two .auto (.one (.unroll 1 .auto)))
def RU  : Z4 :=
 .two .auto (.two (.two .auto (.one (.unroll 2 .auto))) .auto)
def QC  : Z4 :=
 .two .auto (.two .auto (.two (.two .auto (.one (.unroll 2 .auto))) (.two .auto (.two .auto (.two .auto (.two (.two .auto (.one (.unroll 2 .auto))) .auto))))))
noncomputable def Ph (G : List (Nat × Obj)) : Tb := (((pR G).body Tryz.prog [(82, RE), (187, Rt)]).body Tryz.prog [(81, RU), (136, RL)]).body Tryz.prog [(84, .auto)]
theorem T4 {G : List (Nat × Obj)} (hG : zJ G) : zz Tryz.prog (Ph G) := zz.body mixed (zz.body mixed (zz.body mixed (U0 hG) _) _) _
def Pr (t : Pt) : Prop := zZ t.n = true ∧ zU t.n ≠ 0 ∧ pw t.d ∧ zZ (zt (k1 t.d : Int) (zS t.d)) = true ∧ zZ (Yf t.n t.d) = true
theorem t8 {a b c d : zL} (h1 : a = c) (h2 : b = d) : Z5 (.xl false 2 1 fun i j => Sx.rowAt [zY [.str a, .str b]] i j) (.xl false 2 1 fun _ => zY [.str c, .str d]) := by
 subst h1 h2
 refine ⟨fun h => h, rfl, rfl, fun i j hi hj => ?_⟩
 obtain rfl : i = 0 := by omega
 exact zX _
theorem RJ {q : zL} (h : pw q) : zE q = false := by
 have h2 := h.2.1
 have := (Xv (a := q)).1
 cases hm : zE q with
 | false => rfl
 | true => rw [hm, cond_true] at this; omega
theorem qx {q : zL} (h : zU q ≠ 0) : (q == [48]) = false := beq_eq_false_iff_ne.2 fun e => h (by rw [e]; decide)
theorem pH {q : zL} (h : pw q) : 0 < k1 q ∧ 0 < l1 q ∧ k1 q * k1 q * l1 q = (zU q).toNat * zS q ∧ wv (l1 q) = (1, l1 q) ∧ l1 q < 100000000000000000 := by
 obtain ⟨h1, h2, h3⟩ := h
 have hp := yN (ZR.1 h1.1).1
 obtain ⟨a1, a2, a3, a4⟩ := tB h2 hp
 obtain ⟨v1, v2, v3, v4⟩ := Px h1.1
 have n1 := s0 (Zh.1 v1).1
 have n2 := s0 (Zh.1 v2).1
 rw [v3] at n1
 rw [v4, Int.natAbs_natCast] at n2
 have b3 : (zU q).natAbs * zS q < 10 ^ 17 := by
  refine Nat.lt_of_lt_of_le (Nat.mul_lt_mul'' n1 n2) ?_
  rw [← Nat.pow_add]
  exact Nat.pow_le_pow_right (by omega) h3
 rw [show 10 ^ 17 = 100000000000000000 from by decide] at b3
 rw [show (zU q).natAbs = (zU q).toNat by omega] at b3
 have : 1 * l1 q ≤ k1 q * k1 q * l1 q := Nat.mul_le_mul_right _ (Nat.mul_pos a1 a1)
 exact ⟨a1, a2, a3, a4, by omega⟩
theorem QF {l : Nat} (h : l < 100000000000000000) : Wh (Lib.itoa (l : Int)) ∧ (zR (Lib.itoa (l : Int))).length ≤ 17 ∧ (Zx (Lib.itoa (l : Int))).length = 1 := by
 obtain ⟨h1, h2, h3, h4⟩ := SP (l : Int)
 have hn : Wd (l : Int) ≤ 17 := Y3 (by decide) (by rw [Int.natAbs_natCast]; exact Nat.lt_of_lt_of_le h (by decide))
 rw [show Nat.blt 300 (Wd (l : Int)) = false from Bool.eq_false_iff.2 fun e => by have := (zf _ _).1 e; omega] at h4
 refine ⟨⟨h4, .inr h3⟩, ?_, by unfold Zx; rw [h3]; rfl⟩
 rw [(Z6 h3).1, YS, if_neg (by omega)]
 exact hn
theorem UG {a : zL} {k : Nat} (h1 : (zR a).length ≤ k) (h2 : (Zx a).length ≤ k) (m : Int) (hk : (k : Int) ≤ m) : Zz m (WE a) = false := Bool.eq_false_iff.2 fun e => by
 have e := (zm _ _).1 e
 have := XY (zR a)
 unfold WE at e
 split at e <;> omega
theorem rM {a b : zL} (ha : zU a ≠ 0) (hb : zU b ≠ 0) (ha2 : 0 < zS a) (hb2 : 0 < zS b) : zU (z7 a b) ≠ 0 := fun e => by
 have h := ZJ (zU a * zU b) (Nat.mul_pos ha2 hb2)
 have hp := Z1 (zU a * zU b) (Nat.mul_pos ha2 hb2)
 have e' : zU (zt (zU a * zU b) (zS a * zS b)) = 0 := e
 rw [e', Int.zero_mul] at h
 exact Int.mul_ne_zero (Int.mul_ne_zero ha hb) (by omega) h.symm
theorem Sl : zt (k1 [49] : Int) (zS [49]) = [49] ∧ Lib.itoa (l1 [49] : Int) = [49] := by decide +kernel
def SR : List AV → Option (List zO × AV)
 | [.xl f_t 2 1 x_t] => some ([.b (yJ (x_t 0 0) && yJ (x_t 0 1)), .p (Pr (⟨AV.bytes (x_t 0 0), AV.bytes (x_t 0 1)⟩ : Pt))], .tup 2 (zY [.xl false 2 1 (fun _ => zY [.str (Yf (⟨AV.bytes (x_t 0 0), AV.bytes (x_t 0 1)⟩ : Pt).n (⟨AV.bytes (x_t 0 0), AV.bytes (x_t 0 1)⟩ : Pt).d), .str (Lib.itoa (l1 (⟨AV.bytes (x_t 0 0), AV.bytes (x_t 0 1)⟩ : Pt).d : Int))]), .i 0]))
 | _ => none
theorem Qu (G : List (Nat × Obj)) (t : Pt) (ht : Pr t) :
 let q2 := (zZ (Pt.d t) = true ∨ zr (Pt.d t) = false); let q1 := (Zj (Pt.d t) = iZ ∧ q2); let q5 := (ByteArray.data (ByteArray.mk #[(48 : UInt8)])); let q4 := (Pt.n t == Array.toList q5); let q3 := (!zq false q4 || zq false q4); let q7 := (True ∧ Value.slice (Pg Addr) 0 0 = Value.slice (Pg Addr) 0 0 ∧ 1 = 0); let q6 := ((iZ ≤ (↑0 : Int) ∧ (↑0 : Int) ≤ (18446744073709551615 : Int)) ∧ j2 ∧ q7 ∧ kI ∧ iZ = iZ); let q8 := (ByteArray.data (ByteArray.mk #[(49 : UInt8)])); let q9 := (zZ (Lib.itoa (↑(l1 (Pt.d t))
 : Int)) = true ∨ zr (Lib.itoa (cI (l1 (Pt.d t)))) = false); let q10 := (WE (Lib.itoa (cI (l1 (Pt.d t))))); let q11 := (j2 ∧ q7 ∧ kI ∧ (4 : Int) = iZ); let q12 := (zt (cI (k1 (Pt.d t))) (zS (Pt.d t))); let q13 := (z7 (Pt.n t) q12 == Array.toList q5); let q15 := (z7 (Pt.n t) q12); let q18 := (WE q15); let q17 := (Zz (60 : Int) q18); let q16 := (!zq false q17 || zq false q17); let q19 := (iZ ≤ (↑1 : Int) ∧ (↑1 : Int) ≤ (18446744073709551615 : Int)); let q20 := (AV.xl false 2 1 fun (x i : Nat) =>
 Option.getD [AV.str (Yf (Pt.n t) (Pt.d t)), AV.str (Lib.itoa (cI (l1 (Pt.d t))))][i]? AV.junk); let q14 := ((Zj q15 = iZ ∧ (zZ q15 = true ∨ zr q15 = false)) ∧ bF q16 (bF q16 ((zq false q17 = true → Zj (Lib.itoa (cI (l1 (Pt.d t)))) = iZ ∧ q9) ∧ bF q16 (bF (!!Zz (60 : Int) q18 || zq false q17) (zw (bif Zz (60 : Int) q18 then true else Zz (40 : Int) q10) q11 (q19 ∧ j2 ∧ (True ∧ Z5 (AV.xl false 2 1 fun i j => Sx.rowAt [zY [AV.str q15, AV.str (Lib.itoa (cI (l1 (Pt.d t))))]] (0 + i) j) q20) ∧
 kI ∧ iZ = iZ)))))); let q21 := (Array.toList q8); let q22 := (z7 (Pt.n t) q21 == Array.toList q5); let q24 := (z7 (Pt.n t) q21); let q27 := (WE q24); let q26 := (Zz (60 : Int) q27); let q25 := (!zq false q26 || zq false q26); let q23 := ((Zj q24 = iZ ∧ (zZ q24 = true ∨ zr q24 = false)) ∧ bF q25 (bF q25 ((zq false q26 = true → Zj (Pt.d t) = iZ ∧ q2) ∧ bF q25 (bF (!!Zz (60 : Int) q27 || zq false q26) (zw (bif Zz (60 : Int) q27 then true else Zz (40 : Int) (WE (Pt.d t))) q11 (q19 ∧
 j2 ∧ (True ∧ Z5 (AV.xl false 2 1 fun i j => Sx.rowAt [zY [AV.str q24, AV.str (Pt.d t)]] (0 + i) j) q20) ∧ kI ∧ iZ = iZ)))))); Zw [AV.xl false 2 1 fun (x i : Nat) => Option.getD [AV.str (Pt.n t), AV.str (Pt.d t)][i]? AV.junk] → (Zj (Pt.n t) = iZ ∧ (zZ (Pt.n t) = true ∨ zr (Pt.n t) = false)) ∧ q1 ∧ zE (Pt.d t) = false ∧ bF q3 (bF q3 (bF (!!Pt.n t == Array.toList q5 || zq false q4) (zw (bif Pt.n t == Array.toList q5 then true else Pt.d t == Array.toList q5) q6 (zw
 (!Pt.d t == Array.toList q8) ((q1 ∧ iZ < zU (Pt.d t) ∧ lN (zR (Pt.d t)) + lN (Zx (Pt.d t)) ≤ 17) ∧ (zq false (iZ != iZ) = true → Zj (Lib.itoa (cI (l1 (Pt.d t)))) = iZ ∧ q9) ∧ zw (bif iZ != iZ then true else Zz (90 : Int) q10) q11 (zZ (Pt.n t) = true ∧ zZ q12 = true ∧ zw q13 q6 q14 ∧ zw q13 q6 q14)) ((zq false (iZ != iZ) = true → Zj (Pt.d t) = iZ ∧ q2) ∧ zw (bif iZ != iZ then true else Zz (90 : Int) (WE (Pt.d t))) q11 (zZ (Pt.n t) = true ∧ zZ q21 = true ∧
 zw q22 q6 q23 ∧ zw q22 q6 q23)))))) := by
 delta bF cI kI j2 lN iZ
 dsimp only
 intro hb
 simp only [sS, dS]
 simp only [and_self]
 obtain ⟨c1, c2, c3, c4, c5⟩ := ht
 have r1 := ws c1
 have hm := RJ c3
 obtain ⟨b1, b2, b3, b4, b5⟩ := pH c3
 have hp := yN (ZR.1 c3.1.1).1
 have n1 := qx c2
 have n2 : (t.d == [48]) = false := qx (by have := c3.2.1; omega)
 have X0 : (Yf t.n t.d == [48]) = false := qx (rM c2 (by have := xe b1 hp; omega) (Z9 c1).2.2.2 (Z1 _ hp))
 obtain ⟨rl, i1, i2⟩ := QF b5
 have r5 := ws c5
 obtain ⟨x1, x2, x3⟩ := WV c5
 have Lx := UG (a := Yf t.n t.d) (k := 20) (by omega) (by omega) 60 (by omega)
 have L40 := UG (a := Lib.itoa (l1 t.d : Int)) (k := 20) (by omega) (by omega) 40 (by omega)
 have L90 := UG (a := Lib.itoa (l1 t.d : Int)) (k := 20) (by omega) (by omega) 90 (by omega)
 rw [n1, n2]
 refine ⟨r1, c3.1, hm, ?_⟩
 show zw (!t.d == [49]) _ _
 refine zT.2 ⟨fun c => ?_, fun c => ?_⟩
 ·rw [show z7 t.n (zt (k1 t.d : Int) (zS t.d)) = Yf t.n t.d from rfl, X0, Lx, L40, L90]
  exact ⟨c3, fun _ => rl, c1, c4, r5, fun _ => rl, ⟨by omega, by omega⟩, rfl, t8 rfl rfl⟩
 ·obtain ⟨tn, td⟩ := t
  simp only at *
  have e : td = [49] := by simpa using c
  subst e
  have e1 : z7 tn [49] = Yf tn [49] := by unfold Yf; rw [Sl.1]
  rw [Sl.2] at L40 L90
  rw [e1, X0, Lx, L40, L90]
  exact ⟨fun _ => c3.1, c1, by decide, r5, fun _ => c3.1, ⟨by omega, by omega⟩, rfl, t8 rfl Sl.2.symm⟩
theorem PY {G : List (Nat × Obj)} (hG : zJ G) (t : Pt) (ht : Pr t) : zV Tryz.prog G 39 [.xl false 2 1 (fun _ => zY [.str t.n, .str t.d])] (.tup 2 (zY [.xl false 2 1 (fun _ => zY [.str (Yf t.n t.d), .str (Lib.itoa (l1 t.d : Int))]), .i 0])) :=
 zW (T := Ph G) (an := QC) mixed (T4 hG) (Eq.mp (by kernel_rfl) (Qu G t ht))
theorem PV {G : List (Nat × Obj)} (hG : zJ G) : zn Tryz.prog G 39 SR := by
 intro xs ps r h hp
 unfold SR at h
 split at h
 ·skip
  rename_i f_t x_t
  cases h
  obtain ⟨q0, q1, -⟩ := Zr hp
  exact weaken (ys := [.xl false 2 1 (fun _ => zY [.str (⟨AV.bytes (x_t 0 0), AV.bytes (x_t 0 1)⟩ : Pt).n, .str (⟨AV.bytes (x_t 0 0), AV.bytes (x_t 0 1)⟩ : Pt).d])]) ⟨tz q0, trivial⟩ (PY hG (⟨AV.bytes (x_t 0 0), AV.bytes (x_t 0 1)⟩ : Pt) q1)
 ·cases h
end Go.Te
