/- rational: sums, products, quotients and comparing of numbers with short parts; numbers made of ints. -/
import Derived.Test.YtinnclmkhedgeaaGreatDoorTfF
import Derived.Test.YtinnclmkhedgeaaGreatDoorArW
import Derived.Lib.BitFns
set_option linter.unusedSimpArgs false
set_option linter.unusedVariables false
namespace Go.Te
open Go Go.Sx Go.Proofs Go.Ar
set_option maxRecDepth 100000
set_option maxHeartbeats 4000000
structure Nt where
 n : Int
 d : Int
instance : yo Nt := ⟨2, ⟨0, 0⟩, fun c => zY [.i c.n, .i c.d], fun cs => ⟨AV.int (cs 0), AV.int (cs 1)⟩, fun cs => yu (cs 0) && yu (cs 1), fun cs h j hj => by
 simp only [Bool.and_eq_true] at h
 match j, hj with
 | 0, _ => exact ZH (Wr h.1)
 | 1, _ => exact ZH (Wr h.2)⟩
instance : xX Nt := ⟨fun _ => rfl, fun _ => rfl⟩
theorem Sj (n : Int) {d : Int} (hd : 0 < d) : Y1 (if -n > n then -n else n) d = (Nat.gcd n.natAbs d.toNat : Int) := by
 have e : (if -n > n then -n else n) = (n.natAbs : Int) := by split <;> omega
 unfold Y1
 rw [e, (Zy _ _).2 (show (0 : Int) ≤ (n.natAbs : Int) by omega), (Zy _ _).2 (show 0 ≤ d by omega), Int.toNat_natCast]
 rfl
theorem TR (n : Int) {d : Int} (hd : 0 < d) : (0 : Int) < (Nat.gcd n.natAbs d.toNat : Int) ∧ n.tdiv (Nat.gcd n.natAbs d.toNat : Int) = n / (Nat.gcd n.natAbs d.toNat : Int) ∧ d.tdiv (Nat.gcd n.natAbs d.toNat : Int) = ((d.toNat / Nat.gcd n.natAbs d.toNat : Nat) : Int) ∧ (n / (Nat.gcd n.natAbs d.toNat : Int)).natAbs ≤ n.natAbs ∧ 0 < d.toNat / Nat.gcd n.natAbs d.toNat ∧ d.toNat / Nat.gcd n.natAbs d.toNat ≤ d.toNat := by
 have hg : 0 < Nat.gcd n.natAbs d.toNat := Nat.gcd_pos_of_pos_right _ (by omega)
 have hdv := Nat.gcd_dvd_right n.natAbs d.toNat
 have hnv : ((Nat.gcd n.natAbs d.toNat : Nat) : Int) ∣ n := Int.ofNat_dvd_left.2 (Nat.gcd_dvd_left _ _)
 generalize Nat.gcd n.natAbs d.toNat = g at *
 have e1 : n.tdiv (g : Int) = n / (g : Int) := Int.tdiv_eq_ediv_of_dvd hnv
 refine ⟨by omega, e1, ?_, ?_, Nat.div_pos (Nat.le_of_dvd (by omega) hdv) hg, Nat.div_le_self _ _⟩
 ·rw [Int.tdiv_eq_ediv_of_nonneg (by omega), Int.natCast_ediv]
  congr 1
  omega
 ·rw [← e1]; exact Int.natAbs_tdiv_le_natAbs n g
theorem uB (n : Int) (d : Nat) : (d / Nat.gcd n.natAbs d = 1 → Lib.itoa (n / (Nat.gcd n.natAbs d : Int)) = zX n d) ∧ (d / Nat.gcd n.natAbs d ≠ 1 → Lib.itoa (n / (Nat.gcd n.natAbs d : Int)) ++ [47] ++ Lib.itoa ((d / Nat.gcd n.natAbs d : Nat) : Int) = zX n d) := by
 unfold zX yL
 refine ⟨fun h => ?_, fun h => ?_⟩
 ·rw [h]
  exact (List.append_nil _).symm
 ·rw [show Nat.beq (d / Nat.gcd n.natAbs d) 1 = false from Bool.eq_false_iff.2 fun e => h (Nat.eq_of_beq_eq_true e), Go.Ar.y8]
  simp
theorem vr {n : Int} (h : n.natAbs < 10 ^ 20) : (Lib.itoa n).length ≤ 21 := by
 rw [YZ]
 have : Wa n ≤ 20 := Yg (by omega) h
 split <;> omega
def tY : List AV → Option (List zN × AV)
 | [.agg 2 p_x] => some ([.b (yu (p_x 0) && yu (p_x 1)), .p ((⟨AV.int (p_x 0), AV.int (p_x 1)⟩ : Nt).d ≠ 0), .p (-1000000000000000000 ≤ (⟨AV.int (p_x 0), AV.int (p_x 1)⟩ : Nt).d ∧ (⟨AV.int (p_x 0), AV.int (p_x 1)⟩ : Nt).d ≤ 1000000000000000000), .p (-1000000000000000000 ≤ (⟨AV.int (p_x 0), AV.int (p_x 1)⟩ : Nt).n ∧ (⟨AV.int (p_x 0), AV.int (p_x 1)⟩ : Nt).n ≤ 1000000000000000000)], .str (W0 (⟨AV.int (p_x 0), AV.int (p_x 1)⟩ : Nt).n (⟨AV.int (p_x 0), AV.int (p_x 1)⟩ : Nt).d))
 | _ => none
theorem RF (G : List (Nat × Obj)) (x : Nt) (h0 : x.d ≠ 0) (h1 : -1000000000000000000 ≤ x.d ∧ x.d ≤ 1000000000000000000) (h2 : -1000000000000000000 ≤ x.n ∧ x.n ≤ 1000000000000000000) :
 let q1 := (if - -Nt.n x > -Nt.n x then - -Nt.n x else -Nt.n x); let q2 := (DB.db (Y1 q1 (-Nt.d x) ≠ iZ)); let q4 := (Y1 q1 (-Nt.d x)); let q3 := (Int.tdiv (-Nt.n x) q4); let q5 := (Int.tdiv (-Nt.d x) q4); let q6 := (iN ≤ Int.tdiv (-Nt.n x) q4 ∧ Int.tdiv (-Nt.n x) q4 ≤ iX); let q7 := (ByteArray.data (ByteArray.mk #[(47 : UInt8)])); let q8 := (if -Nt.n x > Nt.n x then -Nt.n x else Nt.n x); let q9 := (DB.db (Y1 q8 (Nt.d x) ≠ iZ)); let q11 := (Y1 q8 (Nt.d x)); let q10 := (Int.tdiv (Nt.n x) q11); let q12 := (Int.tdiv (Nt.d x)
 q11); let q13 := (iN ≤ Int.tdiv (Nt.n x) q11 ∧ Int.tdiv (Nt.n x) q11 ≤ iX); ZY [AV.agg 2 (yo.enc x)] → zv (z7 (Nt.d x) iZ) (bF (dK (-Nt.n x)) (bF (dK (-Nt.d x)) (bF (dK (- -Nt.n x)) (((iZ ≤ if - -Nt.n x > -Nt.n x then - -Nt.n x else -Nt.n x) ∧ q1 ≤ iX) ∧ (iZ ≤ -Nt.d x ∧ -Nt.d x ≤ iX) ∧ bF q2 (bF (dK q3) (bF q2 (bF (dK q5) (zv (Int.tdiv (-Nt.d x) q4 == iO) (q6
 ∧ Lib.itoa q3 = W0 (Nt.n x) (Nt.d x)) (q6 ∧ bF (DB.db (lN (Lib.itoa q3) + 1 ≤ nX)) ((iN ≤ Int.tdiv (-Nt.d x) q4 ∧ Int.tdiv (-Nt.d x) q4 ≤ iX) ∧ bF (DB.db (lN (Lib.itoa q3 ++ Array.toList q7) + lN (Lib.itoa q5) ≤ nX)) (Lib.itoa q3 ++ Array.toList q7 ++ Lib.itoa q5 = W0 (Nt.n x) (Nt.d x)))))))))))) (bF (dK (-Nt.n x)) (((iZ ≤ if -Nt.n x > Nt.n x then -Nt.n x else Nt.n x) ∧ q8 ≤ (9223372036854775807 :
 Int)) ∧ (iZ ≤ Nt.d x ∧ Nt.d x ≤ iX) ∧ bF q9 (bF (dK q10) (bF q9 (bF (dK q12) (zv (Int.tdiv (Nt.d x) q11 == iO) (q13 ∧ Lib.itoa q10 = W0 (Nt.n x) (Nt.d x)) (q13 ∧ bF (DB.db (lN (Lib.itoa q10) + 1 ≤ nX)) ((iN ≤ Int.tdiv (Nt.d x) q11 ∧ Int.tdiv (Nt.d x) q11 ≤ iX) ∧ bF (DB.db (lN (Lib.itoa q10 ++ Array.toList q7) + lN (Lib.itoa q12) ≤ nX)) (Lib.itoa q10 ++ Array.toList q7 ++ Lib.itoa q12 = W0
 (Nt.n x) (Nt.d x)))))))))) := by
 delta bF dK nX lN iZ iO iX iN
 dsimp only
 intro hb
 simp only [sS, dS]
 have key : ∀ n d : Int, 0 < d → d ≤ 1000000000000000000 → -1000000000000000000 ≤ n ∧ n ≤ 1000000000000000000 → _ := fun n d hd hd1 hn => And.intro (Sj n hd) (And.intro (TR n hd) (uB n d.toNat))
 refine ⟨fun hd => ?_, fun hd => ?_⟩
 ·obtain ⟨k1, ⟨k2, k3, k4, k5, k6, k7⟩, k8, k9⟩ := key (-x.n) (-x.d) (by omega) (by omega) ⟨by omega, by omega⟩
  have hs : W0 x.n x.d = zX (-x.n) (-x.d).toNat := by unfold W0; rw [(zm _ _).2 hd]; rfl
  rw [k1, k3, k4, hs]
  generalize zX (-x.n) (-x.d).toNat = R at *
  generalize Nat.gcd (-x.n).natAbs (-x.d).toNat = g at *
  generalize (-x.n) / (g : Int) = q at *
  generalize (-x.d).toNat / g = e at *
  have l1 := vr (n := q) (by omega)
  have l2 := vr (n := (e : Int)) (by omega)
  refine ⟨⟨by omega, by omega⟩, ⟨by omega, by omega⟩, ⟨by omega, by omega⟩, ⟨by split <;> omega, by split <;> omega⟩, ⟨by omega, by omega⟩, by omega, ⟨by omega, by omega⟩, by omega, ⟨by omega, by omega⟩, fun h => ⟨⟨by omega, by omega⟩, k8 (by omega)⟩, fun h => ⟨⟨by omega, by omega⟩, by omega, ⟨by omega, by omega⟩, by rw [List.length_append, List.length_singleton]; omega, k9 (by omega)⟩⟩
 ·obtain ⟨k1, ⟨k2, k3, k4, k5, k6, k7⟩, k8, k9⟩ := key x.n x.d (by omega) (by omega) h2
  have hs : W0 x.n x.d = zX x.n x.d.toNat := by unfold W0; rw [show z7 x.d 0 = false from Bool.eq_false_iff.2 fun e => by have := (zm _ _).1 e; omega]; rfl
  rw [k1, k3, k4, hs]
  generalize zX x.n x.d.toNat = R at *
  generalize Nat.gcd x.n.natAbs x.d.toNat = g at *
  generalize x.n / (g : Int) = q at *
  generalize hD : x.d.toNat / g = e at *
  have l1 := vr (n := q) (by omega)
  have l2 := vr (n := (e : Int)) (by omega)
  refine ⟨⟨by omega, by omega⟩, ⟨by split <;> omega, by split <;> omega⟩, ⟨by omega, by omega⟩, by omega, ⟨by omega, by omega⟩, by omega, ⟨by omega, by omega⟩, fun h => ⟨⟨by omega, by omega⟩, k8 (by omega)⟩, fun h => ⟨⟨by omega, by omega⟩, by omega, ⟨by omega, by omega⟩, by rw [List.length_append, List.length_singleton]; omega, k9 (by omega)⟩⟩
theorem pP {G : List (Nat × Obj)} (hG : zL G) (x : Nt) (h0 : x.d ≠ 0) (h1 : -1000000000000000000 ≤ x.d ∧ x.d ≤ 1000000000000000000) (h2 : -1000000000000000000 ≤ x.n ∧ x.n ≤ 1000000000000000000) : zu Tryz.prog G 95 [we x] (.str (W0 x.n x.d)) :=
 zW (T := (PM G).plus 111 v6) (an := .auto) mixed (zz.plus (xi hG) (zP.mono Sv)) (Eq.mp (by kernel_rfl) (RF G x h0 h1 h2))
theorem Qn {G : List (Nat × Obj)} (hG : zL G) : zP Tryz.prog G 95 tY := by
 intro xs ps r h hp
 unfold tY at h
 split at h
 ·skip
  rename_i p_x
  cases h
  obtain ⟨q0, q1, q2, q3, -⟩ := Zs hp
  exact weaken (ys := [we (⟨AV.int (p_x 0), AV.int (p_x 1)⟩ : Nt)]) ⟨yz (x := .agg 2 p_x) (α := Nt) q0, trivial⟩ (pP hG (⟨AV.int (p_x 0), AV.int (p_x 1)⟩ : Nt) q1 q2 q3)
 ·cases h
theorem Z5 {a b : Int} (ha : -99999999 ≤ a ∧ a ≤ 99999999) (hb : -99999999 ≤ b ∧ b ≤ 99999999) : -10000000000000000 ≤ a * b ∧ a * b ≤ 10000000000000000 := by
 have h : (a * b).natAbs ≤ 99999999 * 99999999 := by rw [Int.natAbs_mul]; exact Nat.mul_le_mul (by omega) (by omega)
 omega
def Xk (x : Nt) : Prop := (-99999999 ≤ x.n ∧ x.n ≤ 99999999) ∧ (0 < x.d ∧ x.d ≤ 99999999)
def SH : List AV → Option (List zN × AV)
 | [.agg 2 p_x, .agg 2 p_y] => some ([.b (yu (p_x 0) && yu (p_x 1)), .b (yu (p_y 0) && yu (p_y 1)), .p (Xk (⟨AV.int (p_x 0), AV.int (p_x 1)⟩ : Nt)), .p (Xk (⟨AV.int (p_y 0), AV.int (p_y 1)⟩ : Nt))], we (⟨(⟨AV.int (p_x 0), AV.int (p_x 1)⟩ : Nt).n * (⟨AV.int (p_y 0), AV.int (p_y 1)⟩ : Nt).d + (⟨AV.int (p_y 0), AV.int (p_y 1)⟩ : Nt).n * (⟨AV.int (p_x 0), AV.int (p_x 1)⟩ : Nt).d, (⟨AV.int (p_x 0), AV.int (p_x 1)⟩ : Nt).d * (⟨AV.int (p_y 0), AV.int (p_y 1)⟩ : Nt).d⟩ : Nt))
 | _ => none
theorem Qu (x : Nt) (y : Nt) (h1 : Xk x) (h2 : Xk y) :
 ZY [AV.agg 2 (yo.enc x), AV.agg 2 (yo.enc y)] → bF (dK (Nt.n x * Nt.d y)) (bF (dK (Nt.n y * Nt.d x)) (bF (dK (Nt.n x * Nt.d y + Nt.n y * Nt.d x)) (bF (dK (Nt.d x * Nt.d y)) (2 = 2 ∧ (kI ∧ Nt.n x * Nt.d y + Nt.n y * Nt.d x = Nt.n (Nt.mk (Nt.n x * Nt.d y + Nt.n y * Nt.d x) (Nt.d x * Nt.d y))) ∧ kI ∧ Nt.d x * Nt.d y = Nt.d (Nt.mk (Nt.n x * Nt.d y + Nt.n y * Nt.d x) (Nt.d x * Nt.d y)))))) := by
 delta bF dK kI
 intro hb
 simp only [sS, dS]
 unfold Xk at h1 h2
 have m1 := Z5 (a := x.n) (b := y.d) h1.1 ⟨by omega, h2.2.2⟩
 have m2 := Z5 (a := y.n) (b := x.d) h2.1 ⟨by omega, h1.2.2⟩
 have m3 := Z5 (a := x.d) (b := y.d) ⟨by omega, h1.2.2⟩ ⟨by omega, h2.2.2⟩
 exact ⟨⟨by omega, by omega⟩, ⟨by omega, by omega⟩, ⟨by omega, by omega⟩, ⟨by omega, by omega⟩⟩
theorem pb (x : Nt) (y : Nt) (h1 : Xk x) (h2 : Xk y) : zu Tryz.prog [] 87 [we x, we y] (we (⟨x.n * y.d + y.n * x.d, x.d * y.d⟩ : Nt)) :=
 zW (T := T0) (an := .auto) mixed zO (Eq.mp (by kernel_rfl) (Qu x y h1 h2))
theorem PE : zP Tryz.prog [] 87 SH := by
 intro xs ps r h hp
 unfold SH at h
 split at h
 ·skip
  rename_i p_x p_y
  cases h
  obtain ⟨q0, q1, q2, q3, -⟩ := Zs hp
  exact weaken (ys := [we (⟨AV.int (p_x 0), AV.int (p_x 1)⟩ : Nt), we (⟨AV.int (p_y 0), AV.int (p_y 1)⟩ : Nt)]) ⟨yz (x := .agg 2 p_x) (α := Nt) q0, yz (x := .agg 2 p_y) (α := Nt) q1, trivial⟩ (pb (⟨AV.int (p_x 0), AV.int (p_x 1)⟩ : Nt) (⟨AV.int (p_y 0), AV.int (p_y 1)⟩ : Nt) q2 q3)
 ·cases h
def Sm : List AV → Option (List zN × AV)
 | [.agg 2 p_x, .agg 2 p_y] => some ([.b (yu (p_x 0) && yu (p_x 1)), .b (yu (p_y 0) && yu (p_y 1)), .p (Xk (⟨AV.int (p_x 0), AV.int (p_x 1)⟩ : Nt)), .p (Xk (⟨AV.int (p_y 0), AV.int (p_y 1)⟩ : Nt))], we (⟨(⟨AV.int (p_x 0), AV.int (p_x 1)⟩ : Nt).n * (⟨AV.int (p_y 0), AV.int (p_y 1)⟩ : Nt).n, (⟨AV.int (p_x 0), AV.int (p_x 1)⟩ : Nt).d * (⟨AV.int (p_y 0), AV.int (p_y 1)⟩ : Nt).d⟩ : Nt))
 | _ => none
theorem QA (x : Nt) (y : Nt) (h1 : Xk x) (h2 : Xk y) :
 ZY [AV.agg 2 (yo.enc x), AV.agg 2 (yo.enc y)] → bF (dK (Nt.n x * Nt.n y)) (bF (dK (Nt.d x * Nt.d y)) (2 = 2 ∧ (kI ∧ Nt.n x * Nt.n y = Nt.n (Nt.mk (Nt.n x * Nt.n y) (Nt.d x * Nt.d y))) ∧ kI ∧ Nt.d x * Nt.d y = Nt.d (Nt.mk (Nt.n x * Nt.n y) (Nt.d x * Nt.d y)))) := by
 delta bF dK kI
 intro hb
 simp only [sS, dS]
 unfold Xk at h1 h2
 have m1 := Z5 (a := x.n) (b := y.n) h1.1 ⟨by omega, h2.1.2⟩
 have m2 := Z5 (a := y.n) (b := x.d) h2.1 ⟨by omega, h1.2.2⟩
 have m3 := Z5 (a := x.d) (b := y.d) ⟨by omega, h1.2.2⟩ ⟨by omega, h2.2.2⟩
 exact ⟨⟨by omega, by omega⟩, ⟨by omega, by omega⟩⟩
theorem PF (x : Nt) (y : Nt) (h1 : Xk x) (h2 : Xk y) : zu Tryz.prog [] 54 [we x, we y] (we (⟨x.n * y.n, x.d * y.d⟩ : Nt)) :=
 zW (T := T0) (an := .auto) mixed zO (Eq.mp (by kernel_rfl) (QA x y h1 h2))
theorem pC : zP Tryz.prog [] 54 Sm := by
 intro xs ps r h hp
 unfold Sm at h
 split at h
 ·skip
  rename_i p_x p_y
  cases h
  obtain ⟨q0, q1, q2, q3, -⟩ := Zs hp
  exact weaken (ys := [we (⟨AV.int (p_x 0), AV.int (p_x 1)⟩ : Nt), we (⟨AV.int (p_y 0), AV.int (p_y 1)⟩ : Nt)]) ⟨yz (x := .agg 2 p_x) (α := Nt) q0, yz (x := .agg 2 p_y) (α := Nt) q1, trivial⟩ (PF (⟨AV.int (p_x 0), AV.int (p_x 1)⟩ : Nt) (⟨AV.int (p_y 0), AV.int (p_y 1)⟩ : Nt) q2 q3)
 ·cases h
def sD : List AV → Option (List zN × AV)
 | [.agg 2 p_x, .agg 2 p_y] => some ([.b (yu (p_x 0) && yu (p_x 1)), .b (yu (p_y 0) && yu (p_y 1)), .p (Xk (⟨AV.int (p_x 0), AV.int (p_x 1)⟩ : Nt)), .p (Xk (⟨AV.int (p_y 0), AV.int (p_y 1)⟩ : Nt))], we (⟨(⟨AV.int (p_x 0), AV.int (p_x 1)⟩ : Nt).n * (⟨AV.int (p_y 0), AV.int (p_y 1)⟩ : Nt).d, (⟨AV.int (p_x 0), AV.int (p_x 1)⟩ : Nt).d * (⟨AV.int (p_y 0), AV.int (p_y 1)⟩ : Nt).n⟩ : Nt))
 | _ => none
theorem pQ (x : Nt) (y : Nt) (h1 : Xk x) (h2 : Xk y) :
 ZY [AV.agg 2 (yo.enc x), AV.agg 2 (yo.enc y)] → bF (dK (Nt.n x * Nt.d y)) (bF (dK (Nt.d x * Nt.n y)) (2 = 2 ∧ (kI ∧ Nt.n x * Nt.d y = Nt.n (Nt.mk (Nt.n x * Nt.d y) (Nt.d x * Nt.n y))) ∧ kI ∧ Nt.d x * Nt.n y = Nt.d (Nt.mk (Nt.n x * Nt.d y) (Nt.d x * Nt.n y)))) := by
 delta bF dK kI
 intro hb
 simp only [sS, dS]
 unfold Xk at h1 h2
 have m1 := Z5 (a := x.n) (b := y.d) h1.1 ⟨by omega, h2.2.2⟩
 have m3 := Z5 (a := x.d) (b := y.n) ⟨by omega, h1.2.2⟩ h2.1
 exact ⟨⟨by omega, by omega⟩, ⟨by omega, by omega⟩⟩
theorem p9 (x : Nt) (y : Nt) (h1 : Xk x) (h2 : Xk y) : zu Tryz.prog [] 93 [we x, we y] (we (⟨x.n * y.d, x.d * y.n⟩ : Nt)) :=
 zW (T := T0) (an := .auto) mixed zO (Eq.mp (by kernel_rfl) (pQ x y h1 h2))
theorem Ph : zP Tryz.prog [] 93 sD := by
 intro xs ps r h hp
 unfold sD at h
 split at h
 ·skip
  rename_i p_x p_y
  cases h
  obtain ⟨q0, q1, q2, q3, -⟩ := Zs hp
  exact weaken (ys := [we (⟨AV.int (p_x 0), AV.int (p_x 1)⟩ : Nt), we (⟨AV.int (p_y 0), AV.int (p_y 1)⟩ : Nt)]) ⟨yz (x := .agg 2 p_x) (α := Nt) q0, yz (x := .agg 2 p_y) (α := Nt) q1, trivial⟩ (p9 (⟨AV.int (p_x 0), AV.int (p_x 1)⟩ : Nt) (⟨AV.int (p_y 0), AV.int (p_y 1)⟩ : Nt) q2 q3)
 ·cases h
noncomputable def oS (G : List (Nat × Obj)) : Tb := (((((uY G).plus 65 Ve).plus 95 tY).plus 87 SH).plus 54 Sm).plus 93 sD
theorem sV {G : List (Nat × Obj)} (hG : zL G) : zz Tryz.prog (oS G) := zz.plus (zz.plus (zz.plus (zz.plus (zz.plus zO (zP.mono rA)) (Qn hG)) (zP.mono PE)) (zP.mono pC)) (zP.mono Ph)
def OY : List (FuncId × Z6) := [(53, .auto)]
noncomputable def P5 (G : List (Nat × Obj)) : Tb := (oS G).body Tryz.prog OY
theorem Xa {G : List (Nat × Obj)} (hG : zL G) : zz Tryz.prog (P5 G) := zz.body mixed (sV hG) _
theorem XF {a : zK} (h : zZ a = true) : Xk ⟨zV a, (zS a : Int)⟩ := by
 obtain ⟨_, h2, h3, h4⟩ := yV h
 exact ⟨⟨by simp only; omega, by simp only; omega⟩, by simp only; omega, by simp only; omega⟩
def UA : List AV → Option (List zN × AV)
 | [.str a, .str b] => some ([.p (zZ a = true), .p (zZ b = true)], .tup 2 (zY [.str (z8 a b), .i 0]))
 | _ => none
theorem Rj (G : List (Nat × Obj)) (a : List UInt8) (b : List UInt8) (ha : zZ a = true) (hc : zZ b = true) :
 let q3 := (Value.agg #[Value.int .i64 iZ, Value.int .i64 iZ]); let q2 := (fun (i : Nat) => if 0 ≤ i ∧ i < 0 + 2 then zY [AV.i (zV a), AV.i (cI (zS a))] (i - 0) else yH q3 i); let q1 := (Nt.mk (AV.int (q2 0)) (AV.int (q2 1))); let q5 := (fun (i : Nat) => if 0 ≤ i ∧ i < 0 + 2 then zY [AV.i (zV b), AV.i (cI (zS b))] (i - 0) else yH q3 i); let q4 := (Nt.mk (AV.int (q5 0)) (AV.int (q5 1))); let q7 := (Nt.mk (Nt.n q1 * Nt.d q4 + Nt.n q4 * Nt.d q1) (Nt.d q1 * Nt.d q4)); let q6 := (Nt.mk (AV.int (aI (Nt.n q7))) (AV.int (AV.v (Value.int .i64
 (Nt.d q7))))); ZY [AV.str a, AV.str b] → zZ a = true ∧ zZ b = true ∧ (((-99999999 : Int) ≤ Nt.n q1 ∧ Nt.n q1 ≤ (99999999 : Int)) ∧ iZ < Nt.d q1 ∧ Nt.d q1 ≤ (99999999 : Int)) ∧ (((-99999999 : Int) ≤ Nt.n q4 ∧ Nt.n q4 ≤ (99999999 : Int)) ∧ iZ < Nt.d q4 ∧ Nt.d q4 ≤ (99999999 : Int)) ∧ Nt.d q6 ≠ iZ ∧ ((-1000000000000000000 : Int) ≤ Nt.d q6 ∧ Nt.d q6 ≤ (1000000000000000000 : Int)) ∧ ((-1000000000000000000 : Int) ≤ Nt.n q6 ∧ Nt.n q6 ≤ (1000000000000000000 : Int)) ∧ j2 ∧ (True ∧ W0 (Nt.n q6) (Nt.d q6) = z8 a b) ∧ kI ∧ (0 :
 Int) = iZ := by
 delta cI kI j2 iZ aI
 dsimp only
 intro hb
 simp only [sS, dS]
 show zZ a = true ∧ zZ b = true ∧ Xk ⟨zV a, (zS a : Int)⟩ ∧ Xk ⟨zV b, (zS b : Int)⟩ ∧ (zS a : Int) * (zS b : Int) ≠ 0 ∧ (-1000000000000000000 ≤ (zS a : Int) * (zS b : Int) ∧ (zS a : Int) * (zS b : Int) ≤ 1000000000000000000) ∧ (-1000000000000000000 ≤ zV a * (zS b : Int) + zV b * (zS a : Int) ∧ zV a * (zS b : Int) + zV b * (zS a : Int) ≤ 1000000000000000000) ∧ 2 = [AV.junk, AV.junk].length ∧ W0 (zV a * (zS b : Int) + zV b * (zS a : Int)) ((zS a : Int) * (zS b : Int)) = z8 a b
 obtain ⟨a1, a2, a3, a4⟩ := yV ha
 obtain ⟨b1, b2, b3, b4⟩ := yV hc
 have m1 := Z5 (a := zV a) (b := (zS b : Int)) ⟨by omega, by omega⟩ ⟨by omega, by omega⟩
 have m2 := Z5 (a := zV b) (b := (zS a : Int)) ⟨by omega, by omega⟩ ⟨by omega, by omega⟩
 have m3 := Z5 (a := (zS a : Int)) (b := (zS b : Int)) ⟨by omega, by omega⟩ ⟨by omega, by omega⟩
 have hp : (0 : Int) < (zS a : Int) * (zS b : Int) := Int.mul_pos (by omega) (by omega)
 refine ⟨ha, hc, XF ha, XF hc, by omega, ⟨by omega, by omega⟩, ⟨by omega, by omega⟩, rfl, ?_⟩
 rw [← Int.natCast_mul]
 exact wn _ (Nat.mul_pos a4 b4)
theorem QN {G : List (Nat × Obj)} (hG : zL G) (a : List UInt8) (b : List UInt8) (ha : zZ a = true) (hc : zZ b = true) : zu Tryz.prog G 41 [.str a, .str b] (.tup 2 (zY [.str (z8 a b), .i 0])) :=
 zW (T := P5 G) (an := .auto) mixed (Xa hG) (Eq.mp (by kernel_rfl) (Rj G a b ha hc))
theorem Qg {G : List (Nat × Obj)} (hG : zL G) : zP Tryz.prog G 41 UA := by
 intro xs ps r h hp
 unfold UA at h
 split at h
 ·skip
  rename_i a b
  cases h
  obtain ⟨q0, q1, -⟩ := Zs hp
  exact weaken (ys := [.str a, .str b]) ⟨zw _, zw _, trivial⟩ (QN hG a b q0 q1)
 ·cases h
def wC : List AV → Option (List zN × AV)
 | [.str a, .str b] => some ([.p (zZ a = true), .p (zZ b = true)], .tup 2 (zY [.str (zH a b), .i 0]))
 | _ => none
theorem RO (G : List (Nat × Obj)) (a : List UInt8) (b : List UInt8) (ha : zZ a = true) (hc : zZ b = true) :
 let q3 := (Value.agg #[Value.int .i64 iZ, Value.int .i64 iZ]); let q2 := (fun (i : Nat) => if 0 ≤ i ∧ i < 0 + 2 then zY [AV.i (zV a), AV.i (cI (zS a))] (i - 0) else yH q3 i); let q1 := (Nt.mk (AV.int (q2 0)) (AV.int (q2 1))); let q5 := (fun (i : Nat) => if 0 ≤ i ∧ i < 0 + 2 then zY [AV.i (zV b), AV.i (cI (zS b))] (i - 0) else yH q3 i); let q4 := (Nt.mk (AV.int (q5 0)) (AV.int (q5 1))); let q7 := (Nt.mk (Nt.n q1 * Nt.n q4) (Nt.d q1 * Nt.d q4)); let q6 := (Nt.mk (AV.int (aI (Nt.n q7))) (AV.int (aI (Nt.d q7)))); ZY
 [AV.str a, AV.str b] → zZ a = true ∧ zZ b = true ∧ (((-99999999 : Int) ≤ Nt.n q1 ∧ Nt.n q1 ≤ (99999999 : Int)) ∧ iZ < Nt.d q1 ∧ Nt.d q1 ≤ (99999999 : Int)) ∧ (((-99999999 : Int) ≤ Nt.n q4 ∧ Nt.n q4 ≤ (99999999 : Int)) ∧ iZ < Nt.d q4 ∧ Nt.d q4 ≤ (99999999 : Int)) ∧ Nt.d q6 ≠ iZ ∧ ((-1000000000000000000 : Int) ≤ Nt.d q6 ∧ Nt.d q6 ≤ (1000000000000000000 : Int)) ∧ ((-1000000000000000000 : Int) ≤ Nt.n q6 ∧ Nt.n q6 ≤ (1000000000000000000 : Int)) ∧ j2 ∧ (True ∧ W0 (Nt.n q6) (Nt.d q6) = zH a b) ∧ kI ∧ iZ = iZ := by
 delta cI kI j2 iZ aI
 dsimp only
 intro hb
 simp only [sS, dS]
 show zZ a = true ∧ zZ b = true ∧ Xk ⟨zV a, (zS a : Int)⟩ ∧ Xk ⟨zV b, (zS b : Int)⟩ ∧ (zS a : Int) * (zS b : Int) ≠ 0 ∧ (-1000000000000000000 ≤ (zS a : Int) * (zS b : Int) ∧ (zS a : Int) * (zS b : Int) ≤ 1000000000000000000) ∧ (-1000000000000000000 ≤ zV a * zV b ∧ zV a * zV b ≤ 1000000000000000000) ∧ 2 = [AV.junk, AV.junk].length ∧ W0 (zV a * zV b) ((zS a : Int) * (zS b : Int)) = zH a b
 obtain ⟨a1, a2, a3, a4⟩ := yV ha
 obtain ⟨b1, b2, b3, b4⟩ := yV hc
 have m1 := Z5 (a := zV a) (b := zV b) ⟨by omega, by omega⟩ ⟨by omega, by omega⟩
 have m3 := Z5 (a := (zS a : Int)) (b := (zS b : Int)) ⟨by omega, by omega⟩ ⟨by omega, by omega⟩
 have hp : (0 : Int) < (zS a : Int) * (zS b : Int) := Int.mul_pos (by omega) (by omega)
 refine ⟨ha, hc, XF ha, XF hc, by omega, ⟨by omega, by omega⟩, ⟨by omega, by omega⟩, rfl, ?_⟩
 rw [← Int.natCast_mul]
 exact wn _ (Nat.mul_pos a4 b4)
theorem Qe {G : List (Nat × Obj)} (hG : zL G) (a : List UInt8) (b : List UInt8) (ha : zZ a = true) (hc : zZ b = true) : zu Tryz.prog G 18 [.str a, .str b] (.tup 2 (zY [.str (zH a b), .i 0])) :=
 zW (T := P5 G) (an := .auto) mixed (Xa hG) (Eq.mp (by kernel_rfl) (RO G a b ha hc))
theorem tQ {G : List (Nat × Obj)} (hG : zL G) : zP Tryz.prog G 18 wC := by
 intro xs ps r h hp
 unfold wC at h
 split at h
 ·skip
  rename_i a b
  cases h
  obtain ⟨q0, q1, -⟩ := Zs hp
  exact weaken (ys := [.str a, .str b]) ⟨zw _, zw _, trivial⟩ (Qe hG a b q0 q1)
 ·cases h
def wc : List AV → Option (List zN × AV)
 | [.str a, .str b] => some ([.p (zZ a = true), .p (zZ b = true), .p (zV b ≠ 0)], .tup 2 (zY [.str (zh a b), .i 0]))
 | _ => none
theorem qs (G : List (Nat × Obj)) (a : List UInt8) (b : List UInt8) (ha : zZ a = true) (hc : zZ b = true) (hp : zV b ≠ 0) :
 let q3 := (Value.agg #[Value.int .i64 iZ, Value.int .i64 iZ]); let q2 := (fun (i : Nat) => if 0 ≤ i ∧ i < 0 + 2 then zY [AV.i (zV a), AV.i (cI (zS a))] (i - 0) else yH q3 i); let q1 := (Nt.mk (AV.int (q2 0)) (AV.int (q2 1))); let q5 := (fun (i : Nat) => if 0 ≤ i ∧ i < 0 + 2 then zY [AV.i (zV b), AV.i (cI (zS b))] (i - 0) else yH q3 i); let q4 := (Nt.mk (AV.int (q5 0)) (AV.int (q5 1))); let q7 := (Nt.mk (Nt.n q1 * Nt.d q4) (Nt.d q1 * Nt.n q4)); let q6 := (Nt.mk (AV.int (aI (Nt.n q7))) (AV.int (aI (Nt.d q7)))); ZY
 [AV.str a, AV.str b] → zv (!b == bA #[(48 : UInt8)]) (zZ a = true ∧ zZ b = true ∧ (((-99999999 : Int) ≤ Nt.n q1 ∧ Nt.n q1 ≤ (99999999 : Int)) ∧ iZ < Nt.d q1 ∧ Nt.d q1 ≤ (99999999 : Int)) ∧ (((-99999999 : Int) ≤ Nt.n q4 ∧ Nt.n q4 ≤ (99999999 : Int)) ∧ iZ < Nt.d q4 ∧ Nt.d q4 ≤ (99999999 : Int)) ∧ Nt.d q6 ≠ iZ ∧ ((-1000000000000000000 : Int) ≤ Nt.d q6 ∧ Nt.d q6 ≤ (1000000000000000000 : Int)) ∧ ((-1000000000000000000 : Int) ≤ Nt.n q6 ∧ Nt.n q6 ≤ (1000000000000000000 : Int)) ∧ j2 ∧ (True ∧ W0
 (Nt.n q6) (Nt.d q6) = zh a b) ∧ kI ∧ iZ = iZ) (False ∧ j2 ∧ (True ∧ [] = zh a b) ∧ kI ∧ iZ = iZ) := by
 delta bA cI kI j2 iZ aI
 dsimp only
 intro hb
 simp only [sS, dS]
 have h0 : (b == [48]) = false := beq_eq_false_iff_ne.2 fun e => by subst e; exact hp (by decide)
 rw [h0]
 show zZ a = true ∧ zZ b = true ∧ Xk ⟨zV a, (zS a : Int)⟩ ∧ Xk ⟨zV b, (zS b : Int)⟩ ∧ (zS a : Int) * zV b ≠ 0 ∧ (-1000000000000000000 ≤ (zS a : Int) * zV b ∧ (zS a : Int) * zV b ≤ 1000000000000000000) ∧ (-1000000000000000000 ≤ zV a * (zS b : Int) ∧ zV a * (zS b : Int) ≤ 1000000000000000000) ∧ 2 = [AV.junk, AV.junk].length ∧ W0 (zV a * (zS b : Int)) ((zS a : Int) * zV b) = zh a b
 obtain ⟨a1, a2, a3, a4⟩ := yV ha
 obtain ⟨b1, b2, b3, b4⟩ := yV hc
 have m1 := Z5 (a := zV a) (b := (zS b : Int)) ⟨by omega, by omega⟩ ⟨by omega, by omega⟩
 have m2 := Z5 (a := (zS a : Int)) (b := zV b) ⟨by omega, by omega⟩ ⟨by omega, by omega⟩
 exact ⟨ha, hc, XF ha, XF hc, Int.mul_ne_zero (by omega) hp, ⟨by omega, by omega⟩, ⟨by omega, by omega⟩, rfl, rfl⟩
theorem pF {G : List (Nat × Obj)} (hG : zL G) (a : List UInt8) (b : List UInt8) (ha : zZ a = true) (hc : zZ b = true) (hp : zV b ≠ 0) : zu Tryz.prog G 52 [.str a, .str b] (.tup 2 (zY [.str (zh a b), .i 0])) :=
 zW (T := (P5 G).plus 55 (PH (.tup 2 (zY [.str [], .i 0])))) (an := .auto) mixed (zz.plus (Xa hG) (Ty _)) (Eq.mp (by kernel_rfl) (qs G a b ha hc hp))
theorem UH {G : List (Nat × Obj)} (hG : zL G) : zP Tryz.prog G 52 wc := by
 intro xs ps r h hp
 unfold wc at h
 split at h
 ·skip
  rename_i a b
  cases h
  obtain ⟨q0, q1, q2, -⟩ := Zs hp
  exact weaken (ys := [.str a, .str b]) ⟨zw _, zw _, trivial⟩ (pF hG a b q0 q1 q2)
 ·cases h
def YG : List AV → Option (List zN × AV)
 | [.str s, .str p] => some ([.b (p == [45]), .p (zE s = false)], .b false)
 | _ => none
theorem XX : zP Tryz.prog [] 80 YG := by
 intro xs ps r h hp
 unfold YG at h
 split at h
 ·rename_i s p
  cases h
  have q : (p == [45]) = true := hp _ List.mem_cons_self
  have q1 : zE s = false := hp _ (List.mem_cons_of_mem _ List.mem_cons_self)
  have : zu Tryz.prog [] 80 [.str s, .str p] (.b (zE s)) := QE [.str s, .str p] _ _ rfl fun c hc => by
   rw [List.mem_singleton] at hc
   rw [hc]; exact q
  rw [q1] at this
  exact this
 ·cases h
noncomputable def oP (G : List (Nat × Obj)) : Tb := (((uY G).plus 80 YG).plus 102 tS).plus 103 Uj
theorem sL {G : List (Nat × Obj)} (hG : zL G) : zz Tryz.prog (oP G) := zz.plus (zz.plus (zz.plus zO (zP.mono XX)) (QX hG)) (QO hG)
def U6 : List AV → Option (List zN × AV)
 | [.str n, .str d] => some ([.p (ZS n), .p (ZS d), .p (0 < zt d)], .tup 2 (zY [.str (zX (zt n) (zt d).toNat), .i 0]))
 | _ => none
theorem RI (G : List (Nat × Obj)) (n : List UInt8) (d : List UInt8) (hn : ZS n) (hd : ZS d) (hp : 0 < zt d) :
 let q1 := (ByteArray.data (ByteArray.mk #[(49 : UInt8)])); let q2 := (Zw (Lib.itoa (cI (xh n d))) = true ∧ lN (Lib.itoa (cI (xh n d))) ≤ 18); let q3 := (zt d / zt (Lib.itoa (cI (xh n d)))); let q4 := (zt n / zt (Lib.itoa (cI (xh n d)))); let q5 := (ByteArray.data (ByteArray.mk #[(47 : UInt8)])); ZY [AV.str n, AV.str d] → zE d = false ∧ (Zw n = true ∧ lN n ≤ 18) ∧ (Zw d = true ∧ lN d ≤ 18) ∧ zv (!Lib.itoa (cI (xh n d)) == Array.toList q1) ((Zw n = true ∧ lN n ≤ 18) ∧ q2 ∧ iZ < zt (Lib.itoa (cI (xh
 n d))) ∧ (Zw d = true ∧ lN d ≤ 18) ∧ q2 ∧ iZ < zt (Lib.itoa (cI (xh n d))) ∧ zv (Lib.itoa q3 == Array.toList q1) (j2 ∧ (True ∧ Lib.itoa q4 = zX (zt n) (Int.toNat (zt d))) ∧ kI ∧ iZ = iZ) (bF (DB.db (lN (Lib.itoa q4) + 1 ≤ nX)) (bF (DB.db (lN (Lib.itoa q4 ++ Array.toList q5) + lN (Lib.itoa q3) ≤ nX)) (j2 ∧ (True ∧ Lib.itoa q4 ++ Array.toList q5 ++ Lib.itoa q3 = zX (zt n) (Int.toNat (zt
 d))) ∧ kI ∧ iZ = iZ)))) (zv (d == Array.toList q1) (j2 ∧ (True ∧ n = zX (zt n) (Int.toNat (zt d))) ∧ kI ∧ iZ = iZ) (bF (DB.db (lN n + 1 ≤ nX)) (bF (DB.db (lN (n ++ Array.toList q5) + lN d ≤ nX)) (j2 ∧ (True ∧ n ++ Array.toList q5 ++ d = zX (zt n) (Int.toNat (zt d))) ∧ kI ∧ iZ = iZ)))) := by
 delta bF nX cI kI j2 lN iZ
 dsimp only
 intro hb
 simp only [sS, dS]
 have x1 := sN hn
 have x2 := sN hd
 obtain ⟨n1, n2⟩ := hn
 obtain ⟨d1, d2⟩ := hd
 have hm : zE d = false := by
  rcases yr d1 with ⟨r, rfl, h1, _, h3⟩ | ⟨h1, h3⟩
  ·rw [h3] at hp; omega
  ·cases hm : zE d with
   | false => rfl
   | true =>
    match d, hm, h1 with
    | c :: r, hm, h1 =>
     have hc : c = 45 := eq_of_beq hm
     subst hc
     exact (YL h1).elim
 obtain ⟨g1, g2, g3, g4, g5, g6⟩ := TR (zt n) hp
 obtain ⟨s1, s2⟩ := uB (zt n) (zt d).toNat
 have hg : xh n d = Nat.gcd (zt n).natAbs (zt d).toNat := by unfold xh; congr 1; omega
 have gl : Nat.gcd (zt n).natAbs (zt d).toNat ≤ (zt d).toNat := Nat.le_of_dvd (by omega) (Nat.gcd_dvd_right _ _)
 have vd : zt d / (Nat.gcd (zt n).natAbs (zt d).toNat : Int) = (((zt d).toNat / Nat.gcd (zt n).natAbs (zt d).toNat : Nat) : Int) := by
  rw [Int.natCast_ediv]; congr 1; omega
 have en := Ym n1
 have ed := Ym d1
 rw [hg, (ye _).2, vd]
 have hone := tB (Nat.gcd (zt n).natAbs (zt d).toNat)
 have hi := (ye (Nat.gcd (zt n).natAbs (zt d).toNat : Int)).1
 have hlen : (Lib.itoa (Nat.gcd (zt n).natAbs (zt d).toNat : Int)).length ≤ 18 := by
  rw [YZ, if_neg (by omega)]
  exact Yg (by decide) (by rw [Int.natAbs_natCast]; omega)
 have hone2 := tB ((zt d).toNat / Nat.gcd (zt n).natAbs (zt d).toNat)
 have l1 := vr (n := zt n / (Nat.gcd (zt n).natAbs (zt d).toNat : Int)) (by omega)
 have l2 := vr (n := (((zt d).toNat / Nat.gcd (zt n).natAbs (zt d).toNat : Nat) : Int)) (by omega)
 refine ⟨hm, ⟨n1, n2⟩, ⟨d1, d2⟩, zr.2 ⟨fun c => ⟨⟨n1, n2⟩, ⟨hi, hlen⟩, g1, ⟨d1, d2⟩, ⟨hi, hlen⟩, g1, ?_⟩, fun c => ?_⟩⟩
 ·rw [hone2]
  refine zr.2 ⟨fun c2 => ⟨rfl, s1 (Nat.eq_of_beq_eq_true c2)⟩, fun c2 => ⟨by omega, by rw [List.length_append, List.length_singleton]; omega, rfl, s2 fun e => by rw [e] at c2; cases c2⟩⟩
 ·rw [Bool.not_eq_false', hone] at c
  have c1 := Nat.eq_of_beq_eq_true c
  rw [c1] at s1 s2
  have e1 : zt n / ((1 : Nat) : Int) = zt n := Int.ediv_one _
  have e2 : (((zt d).toNat / 1 : Nat) : Int) = zt d := by rw [Nat.div_one]; omega
  rw [e1, e2, en, ed] at s2
  rw [e1, en] at s1
  refine zr.2 ⟨fun c2 => ⟨rfl, s1 ?_⟩, fun c2 => ⟨by omega, by rw [List.length_append, List.length_singleton]; omega, rfl, s2 fun e => ?_⟩⟩
  ·have : d = [49] := eq_of_beq c2
   subst this
   decide
  ·rw [Nat.div_one] at e
   have : zt d = ((1 : Nat) : Int) := by omega
   rw [this, Go.Ar.y8, zg (by decide)] at ed
   rw [← ed] at c2
   cases c2
theorem Qv {G : List (Nat × Obj)} (hG : zL G) (n : List UInt8) (d : List UInt8) (hn : ZS n) (hd : ZS d) (hp : 0 < zt d) : zu Tryz.prog G 58 [.str n, .str d] (.tup 2 (zY [.str (zX (zt n) (zt d).toNat), .i 0])) :=
 zW (T := oP G) (an := .auto) mixed (sL hG) (Eq.mp (by kernel_rfl) (RI G n d hn hd hp))
theorem Qs {G : List (Nat × Obj)} (hG : zL G) : zP Tryz.prog G 58 U6 := by
 intro xs ps r h hp
 unfold U6 at h
 split at h
 ·skip
  rename_i n d
  cases h
  obtain ⟨q0, q1, q2, -⟩ := Zs hp
  exact weaken (ys := [.str n, .str d]) ⟨zw _, zw _, trivial⟩ (Qv hG n d q0 q1 q2)
 ·cases h
def t8 : List AV → Option (List zN × AV)
 | [.v (.int .i64 n), .v (.int .i64 d)] => some ([.p (-10000000000000000 ≤ n ∧ n ≤ 10000000000000000), .p (0 < d ∧ d ≤ 10000000000000000)], .tup 2 (zY [.str (zX n d.toNat), .i 0]))
 | _ => none
theorem Ql (G : List (Nat × Obj)) (n : Int) (d : Int) (hn : -10000000000000000 ≤ n ∧ n ≤ 10000000000000000) (hd : 0 < d ∧ d ≤ 10000000000000000) :
 ZY [aI n, aI d] → zv (d == iZ) (j2 ∧ (True ∧ bA #[] = zX n (Int.toNat d)) ∧ kI ∧ (12 : Int) = iZ) (zv (d == iO) ((iN ≤ n ∧ n ≤ iX) ∧ j2 ∧ (True ∧ Lib.itoa n = zX n (Int.toNat d)) ∧ kI ∧ iZ = iZ) ((iN ≤ n ∧ n ≤ iX) ∧ (iN ≤ d ∧ d ≤
 iX) ∧ (Zw (Lib.itoa n) = true ∧ lN (Lib.itoa n) ≤ 18) ∧ (Zw (Lib.itoa d) = true ∧ lN (Lib.itoa d) ≤ 18) ∧ iZ < zt (Lib.itoa d) ∧ j2 ∧ (True ∧ zX (zt (Lib.itoa n)) (Int.toNat (zt (Lib.itoa d))) = zX n (Int.toNat d)) ∧ kI ∧ iZ = iZ)) := by
 delta bA kI j2 lN iZ iO iX iN aI
 intro hb
 simp only [sS, dS]
 have i1 := ye n
 have i2 := ye d
 have l1 : (Lib.itoa n).length ≤ 18 := by
  rw [YZ]
  have : Wa n ≤ 17 := Yg (by decide) (Nat.lt_of_le_of_lt (m := 10000000000000000) (by omega) (by decide))
  split <;> omega
 have l2 : (Lib.itoa d).length ≤ 18 := by
  rw [YZ]
  have : Wa d ≤ 17 := Yg (by decide) (Nat.lt_of_le_of_lt (m := 10000000000000000) (by omega) (by decide))
  split <;> omega
 rw [i1.2, i2.2]
 exact ⟨fun h => by omega, fun _ => ⟨fun h => ⟨⟨by omega, by omega⟩, rfl, by rw [h]; exact Z7.symm⟩, fun _ => ⟨⟨by omega, by omega⟩, ⟨by omega, by omega⟩, ⟨i1.1, l1⟩, ⟨i2.1, l2⟩, hd.1, rfl, rfl⟩⟩⟩
theorem Pk {G : List (Nat × Obj)} (hG : zL G) (n : Int) (d : Int) (hn : -10000000000000000 ≤ n ∧ n ≤ 10000000000000000) (hd : 0 < d ∧ d ≤ 10000000000000000) : zu Tryz.prog G 38 [.i n, .i d] (.tup 2 (zY [.str (zX n d.toNat), .i 0])) :=
 zW (T := (PM G).plus 58 U6) (an := .auto) mixed (zz.plus (xi hG) (Qs hG)) (Eq.mp (by kernel_rfl) (Ql G n d hn hd))
theorem qA {G : List (Nat × Obj)} (hG : zL G) : zP Tryz.prog G 38 t8 := by
 intro xs ps r h hp
 unfold t8 at h
 split at h
 ·skip
  rename_i n d
  cases h
  obtain ⟨q0, q1, -⟩ := Zs hp
  exact weaken (ys := [.i n, .i d]) ⟨zw _, zw _, trivial⟩ (Pk hG n d q0 q1)
 ·cases h
end Go.Te

namespace Go.Te
open Go Go.Sx Go.Proofs Go.Ar Go.RowKit
set_option maxRecDepth 100000
set_option maxHeartbeats 4000000
def VI : List AV → Option (List zN × AV)
 | [.v (.int .u64 x)] => some ([.p (0 ≤ x ∧ x ≤ 18446744073709551615)], .i (Lib.bitLen x.toNat))
 | _ => none
theorem rI : zP Tryz.prog [] 137 VI := by
 intro xs ps r h hp
 unfold VI at h
 split at h
 ·rename_i x
  cases h
  have q : 0 ≤ x ∧ x ≤ 18446744073709551615 := hp _ List.mem_cons_self
  refine ⟨enters_of Tryz.func137 (by kernel_rfl) rfl, fun w S vals hS hg hr => ?_⟩
  match vals, hr with
  | [v], ⟨hv, _⟩ =>
  obtain rfl := zc hv
  refine (Tryz.bits_Len x w q.1 q.2).mono ?_
  rintro e w' ⟨rfl, rfl⟩
  exact ⟨⟨Below.refl _ _, Nat.le_refl _⟩, _, rfl, .v _⟩
 ·cases h
theorem QZ : ∀ (f x : Nat), x < 2 ^ f → x < 2 ^ Lib.bitLenAux f x ∧ (x ≠ 0 → 2 ^ Lib.bitLenAux f x ≤ 2 * x) ∧ (x = 0 → Lib.bitLenAux f x = 0)
 | 0, x, h => by
  have : x = 0 := by simpa using h
  subst this
  exact ⟨by decide, fun h => absurd rfl h, fun _ => rfl⟩
 | f + 1, x, h => by
  unfold Lib.bitLenAux
  split
  ·rename_i h0
   exact ⟨by rw [h0]; decide, fun h1 => absurd h0 h1, fun _ => rfl⟩
  ·rename_i h0
   obtain ⟨h1, h2, h3⟩ := QZ f (x / 2) (by rw [Nat.pow_succ] at h; omega)
   rw [Nat.pow_add]
   refine ⟨by omega, fun _ => ?_, fun e => absurd e h0⟩
   by_cases hx : x / 2 = 0
   ·rw [h3 hx]; omega
   ·have := h2 hx
    omega
theorem oV {x : Nat} (h0 : x ≠ 0) (h : x ≤ 1000000000000000000) : x < 2 ^ Lib.bitLen x ∧ Lib.bitLen x ≤ 60 := by
 obtain ⟨h1, h2, _⟩ := QZ 64 x (Nat.lt_of_le_of_lt h (by decide))
 refine ⟨h1, Nat.le_of_not_lt fun hl => ?_⟩
 have := h2 h0
 have h3 : 2 ^ 61 ≤ 2 ^ Lib.bitLenAux 64 x := Nat.pow_le_pow_right (by omega) hl
 have h4 : 2 ^ 61 = 2305843009213693952 := by decide
 omega
def Se (n : Int) : Z6 :=
 .two .auto (.two .auto (.two .auto (.one (.loop Nat (fun σ z => [(0, σ.tm 0), (3, .i (z : Int))]) (fun σ z => []) 0 (fun σ z => 0 < z ∧ z ≤ 4294967296 ∧ n.toNat < (z + 1) * (z + 1)) (fun σ z => z) .auto))))
def VB : List AV → Option (List zN × AV)
 | [.v (.int .i64 n)] => some ([.p (0 ≤ n ∧ n ≤ 1000000000000000000)], .i (Xx n.toNat : Int))
 | _ => none
theorem rX (n : Int) (h : 0 ≤ n ∧ n ≤ 1000000000000000000) :
 ZY [aI n] → zv (z7 n (2 : Int)) (kI ∧ n = (cI (Xx (Int.toNat n)))) (bF (DB.db (YT IntKind.u64 n)) ((iZ ≤ n ∧ n ≤ (18446744073709551615 : Int)) ∧ bF (dK ((cI (Lib.bitLen (Int.toNat n))) + iO)) (bF (DB.db (YT .i64 (Int.tdiv ((cI (Lib.bitLen (Int.toNat n))) + iO) (2 : Int)))) ((∃ (z : Nat), ((0 < z ∧ z ≤ 4294967296 ∧ Int.toNat n < (z + 1) * (z + 1)) ∧ (kI ∧ n = n) ∧ kI ∧ IntKind.wrap IntKind.i64 (iO * (2 : Int) ^ min (Int.toNat (Int.tdiv ((cI (Lib.bitLen
 (Int.toNat n))) + iO) (2 : Int))) 64) = (cI z)) ∧ True) ∧ ∀ (z : Nat), 0 < z ∧ z ≤ 4294967296 ∧ Int.toNat n < (z + 1) * (z + 1) → bF (DB.db ((cI z) ≠ iZ)) (bF (dK (Int.tdiv n (cI z))) (bF (dK ((cI z) + Int.tdiv n (cI z))) (bF (dK (Int.tdiv ((cI z) + Int.tdiv n (cI z)) (2 : Int))) (zv (leB (cI z) (Int.tdiv ((cI z) + Int.tdiv n (cI z)) (2 : Int))) (kI ∧ (cI z) = (cI (Xx (Int.toNat n)))) (∃ (z' : Nat), (((0 < z' ∧ z' ≤ 4294967296 ∧ Int.toNat n < (z' +
 1) * (z' + 1)) ∧ z' < z) ∧ (kI ∧ n = n) ∧ kI ∧ Int.tdiv ((cI z) + Int.tdiv n (cI z)) (2 : Int) = (cI z')) ∧ True))))))))) := by
 delta bF dK cI kI iZ iO aI
 intro hb
 simp only [sS, dS]
 obtain ⟨m, rfl⟩ : ∃ m : Nat, n = m := ⟨n.toNat, by omega⟩
 rw [Int.toNat_natCast]
 refine ⟨fun hs => ?_, fun hs => ?_⟩
 ·have : m = 0 ∨ m = 1 := by omega
  rcases this with rfl | rfl <;> decide +kernel
 obtain ⟨b1, b2⟩ := oV (x := m) (by omega) (by omega)
 have hm64 : m < 18446744073709551616 := by omega
 obtain ⟨s1, s2⟩ := WO hm64
 have hk : ((Lib.bitLen m : Int) + 1).tdiv 2 = (((Lib.bitLen m + 1) / 2 : Nat) : Int) := by
  rw [Int.tdiv_eq_ediv_of_nonneg (by omega)]; omega
 have hp : 2 ^ ((Lib.bitLen m + 1) / 2) ≤ 2 ^ 31 := Nat.pow_le_pow_right (by omega) (by omega)
 have hp2 : 2 ^ Lib.bitLen m ≤ 2 ^ ((Lib.bitLen m + 1) / 2) * 2 ^ ((Lib.bitLen m + 1) / 2) := by
  rw [← Nat.pow_add]
  exact Nat.pow_le_pow_right (by omega) (by omega)
 have hp0 : 0 < 2 ^ ((Lib.bitLen m + 1) / 2) := Nat.pow_pos (by omega)
 have h31 : 2 ^ 31 = 2147483648 := by decide
 rw [hk, Int.toNat_natCast, show min ((Lib.bitLen m + 1) / 2) 64 = (Lib.bitLen m + 1) / 2 by omega, Int.one_mul, show ((2 : Int) ^ ((Lib.bitLen m + 1) / 2)) = ((2 ^ ((Lib.bitLen m + 1) / 2) : Nat) : Int) by rw [Int.natCast_pow]; rfl]
 generalize 2 ^ ((Lib.bitLen m + 1) / 2) = z0 at *
 refine ⟨by simp only [YT]; omega, ⟨by omega, by omega⟩, by simp only [YT]; omega, by simp only [YT]; omega, ⟨z0, ⟨hp0, by omega, ?_⟩, ?_⟩, fun z ⟨z1, z2, z3⟩ => ?_⟩
 ·have : (z0 + 1) * (z0 + 1) = z0 * z0 + 2 * z0 + 1 := by grind
  omega
 ·rw [YH (by simp only [YT]; omega)]
 have e1 : (m : Int).tdiv (z : Int) = ((m / z : Nat) : Int) := by rw [Int.tdiv_eq_ediv_of_nonneg (by omega), Int.natCast_ediv]
 have hml : m / z ≤ m := Nat.div_le_self _ _
 have g1 := qv (n := m) (r := z) (s := Xx m) z1 s1
 have g2 := sR (n := m) (r := z) z1
 have hs0 : 0 < Xx m := Nat.pos_of_ne_zero fun e => by rw [e] at s2; omega
 rw [e1]
 generalize m / z = q at *
 have e2 : ((z : Int) + (q : Int)).tdiv 2 = (((z + q) / 2 : Nat) : Int) := by rw [Int.tdiv_eq_ediv_of_nonneg (by omega)]; omega
 rw [e2]
 refine ⟨by omega, by simp only [YT]; omega, by simp only [YT]; omega, by simp only [YT]; omega, fun h => ?_, fun h => ⟨(z + q) / 2, ⟨⟨by omega, by omega, ?_⟩, by omega⟩, rfl⟩⟩
 ·rw [Sd hm64 (g2 (by omega)) z3]
 ·exact Nat.lt_of_lt_of_le s2 (Nat.mul_le_mul (by omega) (by omega))
theorem qq (n : Int) (h : 0 ≤ n ∧ n ≤ 1000000000000000000) : zu Tryz.prog [] 235 [.i n] (.i (Xx n.toNat : Int)) :=
 zW (T := T0.plus 137 VI) (an := Se n) mixed (zz.plus zO rI) (Eq.mp (by kernel_rfl) (rX n h))
theorem qo : zP Tryz.prog [] 235 VB := by
 intro xs ps r h hp
 unfold VB at h
 split at h
 ·skip
  rename_i n
  cases h
  obtain ⟨q0, -⟩ := Zs hp
  exact weaken (ys := [.i n]) ⟨zw _, trivial⟩ (qq n q0)
 ·cases h
theorem RS : ∀ i ∈ List.range 25, Zw (strOf (zQ.getD i undef)) = true ∧ zt (strOf (zQ.getD i undef)) = (Zo.getD i 0 : Int) ∧ (strOf (zQ.getD i undef)).length ≤ 18 := by decide
theorem Ta : ∀ z ∈ List.range 25, Zo.take (z + 1) = Zo.take z ++ [Zo.getD z 0] ∧ 2 ≤ Zo.getD z 0 ∧ Zo.getD z 0 < 98 := by decide
noncomputable def og (G : List (Nat × Obj)) : Tb := (((PM G).plus 143 wM).plus 235 VB).plus 38 t8
theorem sO {G : List (Nat × Obj)} (hG : zL G) : zz Tryz.prog (og G) := zz.plus (zz.plus (zz.plus (xi hG) (zP.mono UM)) (zP.mono qo)) (qA hG)
def uy (m : Nat) (z : Nat) : Nat × Nat := ZO (Zo.take z) (1, m)
def Sn (m : Nat) : Z6 :=
 .two .auto (.two .auto (.two (.two .auto (.one (.loop Nat (fun σ z => [(1, σ.tm 1), (18, σ.tm 18), (6, .i ((uy m z).1 : Int)), (7, .i ((uy m z).2 : Int)), (19, .i (z : Int))]) (fun σ z => []) 0 (fun σ z => z ≤ 25) (fun σ z => 25 - z) (.two .auto (.two .auto (.two (.one (.two .auto (.two .auto (.one (.loop (Nat × Nat) (fun σ z => [(1, σ.tm 1), (10, σ.tm 10), (18, σ.tm 18), (19, σ.tm 19), (6, .i (z.1 : Int)), (7, .i (z.2 : Int))]) (fun σ z => []) 0 (fun σ z => 0 < z.1 ∧ 0 < z.2 ∧ z.1 * z.1 * z.2 = m ∧ strip (AV.int (σ.tm 10)).toNat z = uy m ((AV.int (σ.tm 19)).toNat + 1)) (fun σ z => z.2) .auto))))) .auto)))))) .auto))
theorem rp (t : TypeId) (fr : Nat × Nat) (G : List (Nat × Obj)) (n d : Int) (hn : 0 < n) (hd : 0 < d ∧ d ≤ 10000000000000000) (hm : n * d ≤ 100000000000000000) :
 let q1 := (25 = 25 ∧ (((((((((((((((((((((((strOf (Array.getD zQ (nat_lit 0) undef) = strOf (Array.getD zQ (nat_lit 0) undef) ∧ strOf (Array.getD zQ (nat_lit 1) undef) = strOf (Array.getD zQ (nat_lit 1) undef)) ∧ strOf (Array.getD zQ (nat_lit 2) undef) = strOf (Array.getD zQ (nat_lit 2) undef)) ∧ strOf (Array.getD zQ (nat_lit 3) undef) = strOf (Array.getD zQ (nat_lit 3) undef)) ∧ strOf (Array.getD zQ (nat_lit 4) undef) = strOf (Array.getD zQ (nat_lit 4) undef)) ∧ strOf (Array.getD zQ (nat_lit 5) undef) = strOf (Array.getD zQ (nat_lit
 5) undef)) ∧ strOf (Array.getD zQ (nat_lit 6) undef) = strOf (Array.getD zQ (nat_lit 6) undef)) ∧ strOf (Array.getD zQ (nat_lit 7) undef) = strOf (Array.getD zQ (nat_lit 7) undef)) ∧ strOf (Array.getD zQ (nat_lit 8) undef) = strOf (Array.getD zQ (nat_lit 8) undef)) ∧ strOf (Array.getD zQ (nat_lit 9) undef) = strOf (Array.getD zQ (nat_lit 9) undef)) ∧ strOf (Array.getD zQ (nat_lit 10) undef) = strOf (Array.getD zQ (nat_lit 10) undef)) ∧ strOf (Array.getD zQ (nat_lit 11) undef) = strOf (Array.getD zQ (nat_lit 11) undef)) ∧ strOf
 (Array.getD zQ (nat_lit 12) undef) = strOf (Array.getD zQ (nat_lit 12) undef)) ∧ strOf (Array.getD zQ (nat_lit 13) undef) = strOf (Array.getD zQ (nat_lit 13) undef)) ∧ strOf (Array.getD zQ (nat_lit 14) undef) = strOf (Array.getD zQ (nat_lit 14) undef)) ∧ strOf (Array.getD zQ (nat_lit 15) undef) = strOf (Array.getD zQ (nat_lit 15) undef)) ∧ strOf (Array.getD zQ (nat_lit 16) undef) = strOf (Array.getD zQ (nat_lit 16) undef)) ∧ strOf (Array.getD zQ (nat_lit 17) undef) = strOf (Array.getD zQ (nat_lit 17) undef)) ∧ strOf (Array.getD zQ
 (nat_lit 18) undef) = strOf (Array.getD zQ (nat_lit 18) undef)) ∧ strOf (Array.getD zQ (nat_lit 19) undef) = strOf (Array.getD zQ (nat_lit 19) undef)) ∧ strOf (Array.getD zQ (nat_lit 20) undef) = strOf (Array.getD zQ (nat_lit 20) undef)) ∧ strOf (Array.getD zQ (nat_lit 21) undef) = strOf (Array.getD zQ (nat_lit 21) undef)) ∧ strOf (Array.getD zQ (nat_lit 22) undef) = strOf (Array.getD zQ (nat_lit 22) undef)) ∧ strOf (Array.getD zQ (nat_lit 23) undef) = strOf (Array.getD zQ (nat_lit 23) undef)) ∧ strOf (Array.getD zQ (nat_lit 24) undef)
 = strOf (Array.getD zQ (nat_lit 24) undef)); let q14 := (iZ < d ∧ d ≤ (10000000000000000 : Int)); let q15 := (cI (Prod.fst (Yj (Int.toNat (n * d))))); let q16 := (cI (Prod.snd (Yj (Int.toNat (n * d))))); ZY [aI n, aI d] → bF (dK (n * d)) ((∃ (z : Nat), (z ≤ 25 ∧ (kI ∧ d = d) ∧ q1 ∧ (kI ∧ iO = (cI (Prod.fst (uy (Int.toNat (n * d)) z)))) ∧ (kI ∧ n * d = (cI (Prod.snd (uy (Int.toNat (n * d)) z)))) ∧ kI ∧ iZ = (cI z)) ∧ True) ∧ ∀
 (z : Nat), let q2 := (strOf (Array.getD zQ (Int.toNat (cI z)) undef)); let q3 := (Int.toNat (AV.int (aI (zt q2)))); let q4 := (Int.toNat (AV.int (aI (cI z))) + 1); let q5 := (kI ∧ zt q2 = zt q2); let q6 := (kI ∧ (cI z) = (cI z)); let q7 := (cI (Prod.fst (uy (Int.toNat (n * d)) z))); let q8 := (cI (Prod.snd (uy (Int.toNat (n * d)) z))); let q10 := (zt q2 * zt q2); let q9 := (dK q10); let q11 := (DB.db (zt q2 * zt q2 ≠ iZ)); let q12 := (↑(Xx (Int.toNat q8)) :
 Int); let q13 := (q7 * q12); z ≤ 25 → zv (z7 (cI z) (25 : Int)) (bF (DB.db (iZ ≤ (cI z) ∧ (cI z) < (↑25 : Int))) (bF (Zw q2) (lN q2 ≤ 18 ∧ (∃ (z_1 : Nat × Nat), ((0 < Prod.fst z_1 ∧ 0 < Prod.snd z_1 ∧ Prod.fst z_1 * Prod.fst z_1 * Prod.snd z_1 = Int.toNat (n * d) ∧ strip q3 z_1 = uy (Int.toNat (n * d)) q4) ∧ (kI ∧ d = d) ∧ q5 ∧ q1 ∧ q6 ∧ (kI ∧ q7 = (cI (Prod.fst z_1))) ∧ kI ∧ q8 = (cI (Prod.snd z_1))) ∧ True) ∧ ∀ (z_1 : Nat × Nat), 0 < Prod.fst z_1 ∧ 0 < Prod.snd z_1 ∧ Prod.fst z_1 * Prod.fst z_1
 * Prod.snd z_1 = Int.toNat (n * d) ∧ strip q3 z_1 = uy (Int.toNat (n * d)) q4 → bF q9 (bF q11 (zv (Int.tmod (cI (Prod.snd z_1)) q10 == iZ) (bF (dK ((cI (Prod.fst z_1)) * zt q2)) (bF q9 (bF q11 (bF (dK (Int.tdiv (cI (Prod.snd z_1)) q10)) (∃ (z' : Nat × Nat), (((0 < Prod.fst z' ∧ 0 < Prod.snd z' ∧ Prod.fst z' * Prod.fst z' * Prod.snd z' = Int.toNat (n * d) ∧ strip q3 z' = uy (Int.toNat (n * d)) q4) ∧ Prod.snd z' < Prod.snd z_1) ∧ (kI ∧ d = d) ∧ q5 ∧ q1 ∧ q6 ∧ (kI ∧ (↑(Prod.fst z_1) :
 Int) * zt q2 = (cI (Prod.fst z'))) ∧ kI ∧ Int.tdiv (cI (Prod.snd z_1)) q10 = (cI (Prod.snd z'))) ∧ True))))) (bF (dK ((cI z) + iO)) (∃ (z' : Nat), ((z' ≤ 25 ∧ 25 - z' < 25 - z) ∧ (kI ∧ d = d) ∧ q1 ∧ (kI ∧ (cI (Prod.fst z_1)) = (cI (Prod.fst (uy (Int.toNat (n * d)) z')))) ∧ (kI ∧ (cI (Prod.snd z_1)) = (cI (Prod.snd (uy (Int.toNat (n * d)) z')))) ∧ kI ∧ (cI z) + iO = (cI z')) ∧ True)))))))
 ((iZ ≤ q8 ∧ q8 ≤ (1000000000000000000 : Int)) ∧ bF (dK (q12 * q12)) (zv (q12 * q12 == q8) (bF (dK q13) (((-10000000000000000 : Int) ≤ q7 * q12 ∧ q7 * q12 ≤ (10000000000000000 : Int)) ∧ q14 ∧ (iN ≤ iO ∧ iO ≤ iX) ∧ j2 ∧ (True ∧ zX q13 (Int.toNat d) = zX q15 (Int.toNat d)) ∧ Lib.itoa iO = Lib.itoa q16)) (((-10000000000000000 : Int) ≤ q7 ∧ q7 ≤ (10000000000000000 : Int)) ∧ q14 ∧ (iN ≤ q8 ∧ q8 ≤
 iX) ∧ j2 ∧ (True ∧ zX q7 (Int.toNat d) = zX q15 (Int.toNat d)) ∧ Lib.itoa q8 = Lib.itoa q16)))) := by
 delta bF dK cI kI j2 lN iZ iO iX iN aI
 dsimp only
 intro hb
 simp only [sS, dS]
 obtain ⟨N, rfl⟩ : ∃ N : Nat, n = N := ⟨n.toNat, by omega⟩
 obtain ⟨D, rfl⟩ : ∃ D : Nat, d = D := ⟨d.toNat, by omega⟩
 rw [← Int.natCast_mul] at *
 rw [Int.toNat_natCast, Int.toNat_natCast]
 have hm0 : 0 < N * D := Nat.mul_pos (by omega) (by omega)
 generalize N * D = m at *
 have hS : ∀ z, pE (1, m) (uy m z) := fun z => (yf (Zo.take z) (1, m) (fun p hp => V8 p (List.mem_of_mem_take hp)) Nat.one_pos hm0).1
 have hV : ∀ c l : Nat, 0 < c → 0 < l → c * c * l = m → c ≤ 1000000000 ∧ l ≤ m := fun c l h1 h2 h3 => by
  have h4 : c * c * 1 ≤ c * c * l := Nat.mul_le_mul_left _ h2
  have h5 : 1 * l ≤ c * c * l := Nat.mul_le_mul_right _ (Nat.mul_pos h1 h1)
  exact ⟨Nat.le_of_lt (vu (a := c) (b := 1000000000) (by omega)), by omega⟩
 refine ⟨by simp only [YT]; omega, ⟨0, by omega, rfl, rfl, rfl⟩, fun z hz => ⟨fun hlt => ⟨⟨by omega, hlt⟩, ?_⟩, fun hge => ?_⟩⟩
 ·obtain ⟨p1, p2, p3⟩ := RS z (List.mem_range.2 (by omega))
  obtain ⟨t1, t2, t3⟩ := Ta z (List.mem_range.2 (by omega))
  rw [p1, rO, p2, Int.toNat_natCast]
  obtain ⟨v, ⟨q1, q2⟩, _⟩ := hS z
  have hst : strip (Zo.getD z 0) (uy m z) = uy m (z + 1) := by
   show strip _ (Ar.ZO _ _) = Ar.ZO _ _
   rw [t1, xg]
  generalize Zo.getD z 0 = p at *
  refine ⟨p3, ⟨uy m z, ⟨q1, q2, by simpa using v, hst⟩, rfl, rfl⟩, fun y ⟨y1, y2, y3, y4⟩ => ?_⟩
  obtain ⟨c, l⟩ := y
  simp only at *
  obtain ⟨b1, b2⟩ := hV c l y1 y2 y3
  have hpp : p * p ≤ 98 * 98 := Nat.mul_le_mul (by omega) (by omega)
  have hpp2 : 2 * 2 ≤ p * p := Nat.mul_le_mul t2 t2
  have e1 : (l : Int).tmod ((p * p : Nat) : Int) = ((l % (p * p) : Nat) : Int) := by rw [Int.tmod_eq_emod_of_nonneg (by omega)]; omega
  have e2 : (l : Int).tdiv ((p * p : Nat) : Int) = ((l / (p * p) : Nat) : Int) := by rw [Int.tdiv_eq_ediv_of_nonneg (by omega), Int.natCast_ediv]
  rw [← Int.natCast_mul, e1, e2]
  have hcp : c * p ≤ 1000000000 * 98 := Nat.mul_le_mul b1 (by omega)
  have hdl : l / (p * p) ≤ l := Nat.div_le_self _ _
  refine ⟨by simp only [YT]; omega, by omega, fun h => ?_, fun h => ⟨by simp only [YT]; omega, z + 1, ⟨by omega, by omega⟩, ?_⟩⟩
  ·have h : l % (p * p) = 0 := by omega
   have hd := Nat.dvd_of_mod_eq_zero h
   have h2 : 0 < l / (p * p) := Nat.div_pos (Nat.le_of_dvd y2 hd) (by omega)
   refine ⟨by rw [← Int.natCast_mul]; simp only [YT]; omega, by simp only [YT]; omega, by omega, by simp only [YT]; omega, (c * p, l / (p * p)), ⟨⟨Nat.mul_pos y1 (by omega), h2, ?_, by rw [← UZ t2 y2 h]; exact y4⟩, xK t2 y2⟩, by rw [Int.natCast_mul], rfl⟩
   obtain ⟨k, rfl⟩ := hd
   simp only
   rw [Nat.mul_div_cancel_left _ (by omega), ← y3]
   grind
  ·rw [tJ (by omega)] at y4
   rw [← y4]
   exact ⟨rfl, rfl, by omega⟩
 ·have hz25 : z = 25 := by omega
  subst hz25
  have hN : Yj m = uX (uy m 25) := rfl
  obtain ⟨v, ⟨q1, q2⟩, _⟩ := hS 25
  rw [hN]
  generalize uy m 25 = y at *
  obtain ⟨c, l⟩ := y
  simp only [Nat.one_mul] at *
  obtain ⟨b1, b2⟩ := hV c l q1 q2 v
  obtain ⟨s1, s2⟩ := WO (n := l) (by omega)
  have hr : Xx l ≤ 1000000000 := Nat.le_of_lt (vu (a := Xx l) (b := 1000000000) (by omega))
  unfold uX
  simp only
  rw [← Int.natCast_mul, ← Int.natCast_mul]
  have hcr : c * Xx l * (c * Xx l) ≤ m := by
   have e : c * Xx l * (c * Xx l) = c * c * (Xx l * Xx l) := by grind
   rw [e, ← v]
   exact Nat.mul_le_mul_left _ s1
  have hcr2 : c * Xx l < 1000000000 := vu (by omega)
  refine ⟨⟨by omega, by omega⟩, by simp only [YT]; omega, fun h => ?_, fun h => ?_⟩
  ·rw [if_pos (by omega)]
   exact ⟨by simp only [YT]; omega, ⟨by omega, by omega⟩, hd, ⟨by omega, by omega⟩, rfl, rfl, rfl⟩
  ·rw [if_neg (by omega)]
   exact ⟨⟨by omega, by omega⟩, hd, ⟨by omega, by omega⟩, rfl, rfl, rfl⟩
end Go.Te

namespace Go.Te
open Go Go.Sx Go.Proofs Go.Ar
set_option maxRecDepth 100000
set_option maxHeartbeats 4000000
def V3 : List AV → Option (List zN × AV)
 | [.v (.int .i64 n), .v (.int .i64 d)] => some ([.p (0 < n), .p (0 < d ∧ d ≤ 10000000000000000), .p (n * d ≤ 100000000000000000)], .tup 2 (zY [.str (zX (Yj (n * d).toNat).1 d.toNat), .str (Lib.itoa (Yj (n * d).toNat).2)]))
 | _ => none
theorem qK {G : List (Nat × Obj)} (hG : zL G) : zP Tryz.prog G 182 V3 := by
 intro xs ps r h hp
 unfold V3 at h
 split at h
 ·rename_i n d
  cases h
  obtain ⟨q0, q1, q2, -⟩ := Zs hp
  have hs := sO hG
  obtain ⟨_, t, fr, G', rfl⟩ := hG
  exact zW mixed hs (Eq.mp (by kernel_rfl) (rp t fr G' n d q0 q1 q2) : W3 Tryz.prog (og ((1, Obj.cells zQ t fr) :: G')) 182 (Sn (n * d).toNat) [.i n, .i d] (.tup 2 (zY [.str (zX (Yj (n * d).toNat).1 d.toNat), .str (Lib.itoa (Yj (n * d).toNat).2)])))
 ·cases h
theorem TS {f : Bool} {x : Nat → Nat → AV} (h : ZR (x 0 0) = true) : yy (.xl f 1 1 x) (.xl false 1 1 fun _ _ => .str (AV.bytes (x 0 0))) := by
 refine ⟨(fun h => by cases h), rfl, rfl, fun i j hi hj => ?_⟩
 obtain rfl : i = 0 := by omega
 obtain rfl : j = 0 := by omega
 exact ZH (Yr h)
def ti : List AV → Option (List zN × AV)
 | [.str a] => some ([.p (WA a)], .agg 2 (zY [.str (zR a), .str (z6 a)]))
 | _ => none
theorem QY (a : List UInt8) (hr : WA a) :
 ZY [AV.str a] → (Zq a = iZ ∧ (zZ a = true ∨ zT a = false)) ∧ 2 = 2 ∧ zR a = zR a ∧ z6 a = z6 a := by
 delta iZ
 intro hb
 simp only [sS, dS]
 exact hr
theorem PU (a : List UInt8) (hr : WA a) : zu Tryz.prog [] 171 [.str a] (.agg 2 (zY [.str (zR a), .str (z6 a)])) :=
 zW (T := T0.plus 134 Xs) (an := .auto) mixed (zz.plus zO uU) (Eq.mp (by kernel_rfl) (QY a hr))
theorem qa : zP Tryz.prog [] 171 ti := by
 intro xs ps r h hp
 unfold ti at h
 split at h
 ·skip
  rename_i a
  cases h
  obtain ⟨q0, -⟩ := Zs hp
  exact weaken (ys := [.str a]) ⟨zw _, trivial⟩ (PU a q0)
 ·cases h
def Vg : List AV → Option (List zN × AV)
 | [.str m] => some ([.p (Zw m = true), .p (m.length ≤ 17)], .tup 2 (zY [.i (zt m), .b true]))
 | _ => none
theorem S5 (m : List UInt8) (hi : Zw m = true) (hl : m.length ≤ 17) :
 ZY [AV.str m] → zv (z7 (17 : Int) (lZ m)) (j2 ∧ (True ∧ kI ∧ iZ = zt m) ∧ false = true) (bF (Zw m) (lN m ≤ 18 ∧ j2 ∧ (True ∧ kI ∧ zt m = zt m) ∧ true = true)) := by
 delta bF kI j2 lZ lN iZ
 intro hb
 simp only [sS, dS]
 refine ⟨fun h => by omega, fun _ => ?_⟩
 rw [hi]
 exact ⟨by omega, rfl⟩
theorem qQ (m : List UInt8) (hi : Zw m = true) (hl : m.length ≤ 17) : zu Tryz.prog [] 181 [.str m] (.tup 2 (zY [.i (zt m), .b true])) :=
 zW (T := T0.plus 143 wM) (an := .auto) mixed (zz.plus zO UM) (Eq.mp (by kernel_rfl) (S5 m hi hl))
theorem qP : zP Tryz.prog [] 181 Vg := by
 intro xs ps r h hp
 unfold Vg at h
 split at h
 ·skip
  rename_i m
  cases h
  obtain ⟨q0, q1, -⟩ := Zs hp
  exact weaken (ys := [.str m]) ⟨zw _, trivial⟩ (qQ m q0 q1)
 ·cases h
noncomputable def oR : Tb := (((T0.plus 79 Xj).plus 171 ti).plus 114 (YV fun s => .str (zU s))).plus 80 YG
theorem TC : zz Tryz.prog oR := zz.plus (zz.plus (zz.plus (zz.plus zO VX) qa) wS) XX
def Q6  : Z6 :=
 .two .auto (.two (.two .auto (.one (.unroll 2 .auto))) (.two (.two .auto (.one (.unroll 2 .auto))) .auto))
def SV : List AV → Option (List zN × AV)
 | [.xl f_a 1 1 x_a, .xl f_q 1 1 x_q] => some ([.b (ZR (x_a 0 0)), .b (ZR (x_q 0 0)), .p (WA (AV.bytes (x_a 0 0))), .p ((zR (AV.bytes (x_a 0 0))).length ≤ 90 ∧ (z6 (AV.bytes (x_a 0 0))).length ≤ 90), .p (zE (AV.bytes (x_q 0 0)) = false)], .i 0)
 | _ => none
theorem pJ (a : List UInt8) (q : List UInt8) (hr : WA a) (hl : (zR a).length ≤ 90 ∧ (z6 a).length ≤ 90) (hq : zE q = false) :
 ZY [AV.xl false 1 1 fun (x x_1 : Nat) => AV.str a, AV.xl false 1 1 fun (x x_1 : Nat) => AV.str q] → (Zq a = iZ ∧ (zZ a = true ∨ zT a = false)) ∧ (Zq a = iZ ∧ (zZ a = true ∨ zT a = false)) ∧ zv (z7 (90 : Int) (if (lZ (z6 a)) > (lZ (zU (zR a))) then (lZ (z6 a)) else (lZ (zU (zR a))))) (kI ∧ (4 : Int) = iZ) (zE q = false ∧ kI ∧ iZ = iZ) := by
 delta kI lZ iZ
 intro hb
 simp only [sS, dS]
 have h1 := XV (zR a)
 exact ⟨hr, hr, fun h => by split at h <;> omega, fun _ => hq⟩
theorem Pw (a : List UInt8) (q : List UInt8) (hr : WA a) (hl : (zR a).length ≤ 90 ∧ (z6 a).length ≤ 90) (hq : zE q = false) : zu Tryz.prog [] 169 [.xl false 1 1 (fun _ _ => .str a), .xl false 1 1 (fun _ _ => .str q)] (.i 0) :=
 zW (T := oR.body Tryz.prog [(226, .auto)]) (an := Q6) mixed (zz.body mixed TC _) (Eq.mp (by kernel_rfl) (pJ a q hr hl hq))
theorem PG : zP Tryz.prog [] 169 SV := by
 intro xs ps r h hp
 unfold SV at h
 split at h
 ·skip
  rename_i f_a x_a f_q x_q
  cases h
  obtain ⟨q0, q1, q2, q3, q4, -⟩ := Zs hp
  exact weaken (ys := [.xl false 1 1 (fun _ _ => .str (AV.bytes (x_a 0 0))), .xl false 1 1 (fun _ _ => .str (AV.bytes (x_q 0 0)))]) ⟨TS q0, TS q1, trivial⟩ (Pw (AV.bytes (x_a 0 0)) (AV.bytes (x_q 0 0)) q2 q3 q4)
 ·cases h
def qD (q : zK) : Prop := WA q ∧ 0 < zV q ∧ (zR q).length + (z6 q).length ≤ 17
noncomputable def oL (G : List (Nat × Obj)) : Tb := ((((((uY G).plus 169 SV).plus 171 ti).plus 181 Vg).plus 182 V3).plus 183 (PH (.str []))).plus 184 (PH .junk)
theorem sw {G : List (Nat × Obj)} (hG : zL G) : zz Tryz.prog (oL G) := zz.plus (zz.plus (zz.plus (zz.plus (zz.plus (zz.plus zO (zP.mono PG)) (zP.mono qa)) (zP.mono qP)) (qK hG)) (Ty _)) (Ty _)
def wR : List AV → Option (List zN × AV)
 | [.str q] => some ([.p (qD q)], .tup 3 (zY [.str (zX (k1 q : Int) (zS q)), .str (Lib.itoa (l1 q : Int)), .i 0]))
 | _ => none
theorem rR (G : List (Nat × Obj)) (q : List UInt8) (hr : qD q) :
 ZY [AV.str q] → (Zq (AV.bytes (AV.str q)) = iZ ∧ (zZ (AV.bytes (AV.str q)) = true ∨ zT (AV.bytes (AV.str q)) = false)) ∧ (lN (zR (AV.bytes (AV.str q))) ≤ 90 ∧ lN (z6 (AV.bytes (AV.str q))) ≤ 90) ∧ zE (AV.bytes (AV.str q)) = false ∧ (Zq q = iZ ∧ (zZ q = true ∨ zT q = false)) ∧ zv (zR q == bA #[(48 : UInt8)]) (3 = lN [AV.junk, AV.junk, AV.junk] ∧ ((True ∧ bA #[(48 : UInt8)] = zX (cI (k1 q)) (zS q)) ∧ Array.toList (ByteArray.data
 (ByteArray.mk #[(49 : UInt8)])) = Lib.itoa (cI (l1 q))) ∧ kI ∧ iZ = iZ) (bF (dK ((lZ (zR q)) + (lZ (z6 q)))) (zv (leB ((lZ (zR q)) + (lZ (z6 q))) (17 : Int)) (Zw (zR q) = true ∧ lN (zR q) ≤ 17 ∧ Zw (z6 q) = true ∧ lN (z6 q) ≤ 17 ∧ iZ < zt (zR q) ∧ (iZ < zt (z6 q) ∧ zt (z6 q) ≤ (10000000000000000 : Int)) ∧ zt (zR q) * zt (z6 q) ≤ (100000000000000000 : Int) ∧ 3 = lN [AV.junk, AV.junk,
 AV.junk] ∧ ((True ∧ zX (↑(Prod.fst (Yj (Int.toNat (zt (zR q) * zt (z6 q))))) : Int) (Int.toNat (zt (z6 q))) = zX (cI (k1 q)) (zS q)) ∧ Lib.itoa (↑(Prod.snd (Yj (Int.toNat (zt (zR q) * zt (z6 q))))) : Int) = Lib.itoa (cI (l1 q))) ∧ kI ∧ iZ = iZ) (False ∧ False ∧ ZU (Operand.tmp 66)))) := by
 delta bF dK bA cI kI lZ lN iZ
 intro hb
 simp only [sS, dS]
 obtain ⟨h1, h2, h3⟩ := hr
 obtain ⟨v1, v2, v3, v4⟩ := Pr h1.1
 obtain ⟨i1, _⟩ := Zg.1 v1
 obtain ⟨i2, _⟩ := Zg.1 v2
 have hm : zE q = false := by
  have := (XN (a := q)).1
  cases hm : zE q with
  | false => rfl
  | true => rw [hm, cond_true] at this; omega
 have hp := yK (ZP.1 h1.1).1
 have n1 := SQ i1
 have n2 := SQ i2
 have l1 : 1 ≤ (zR q).length := Nat.pos_of_ne_zero fun e => by rw [List.eq_nil_of_length_eq_zero e] at i1; cases i1
 have h0 : (zR q == [48]) = false := beq_eq_false_iff_ne.2 fun e => by
  rw [e] at v3
  rw [← v3] at h2
  exact absurd h2 (by decide)
 rw [v3] at n1
 rw [v4, Int.natAbs_natCast] at n2
 have b2 : zS q < 10 ^ 16 := Nat.lt_of_lt_of_le n2 (Nat.pow_le_pow_right (by omega) (by omega))
 have b3 : (zV q).natAbs * zS q < 10 ^ 17 := by
  refine Nat.lt_of_lt_of_le (Nat.mul_lt_mul'' n1 n2) ?_
  rw [← Nat.pow_add]
  exact Nat.pow_le_pow_right (by omega) h3
 rw [show 10 ^ 16 = 10000000000000000 from by decide] at b2
 rw [show 10 ^ 17 = 100000000000000000 from by decide] at b3
 rw [h0, v3, v4]
 obtain ⟨N, hN⟩ : ∃ N : Nat, zV q = N := ⟨(zV q).toNat, by omega⟩
 have hk : Yj (zV q * (zS q : Int)).toNat = Yj ((zV q).toNat * zS q) := by
  rw [hN, ← Int.natCast_mul, Int.toNat_natCast, Int.toNat_natCast]
 rw [hk]
 have b4 : zV q * (zS q : Int) ≤ 100000000000000000 := by
  rw [hN, ← Int.natCast_mul]
  rw [hN, Int.natAbs_natCast] at b3
  omega
 have c1 : (zR q).length ≤ 90 ∧ (z6 q).length ≤ 90 := ⟨by omega, by omega⟩
 refine ⟨h1, c1, hm, h1, by simp only [YT]; omega, fun _ => ⟨i1, by omega, i2, by omega, h2, ⟨by omega, by omega⟩, b4, rfl, rfl, rfl⟩, fun h => by omega⟩
theorem qY {G : List (Nat × Obj)} (hG : zL G) (q : List UInt8) (hr : qD q) : zu Tryz.prog G 132 [.str q] (.tup 3 (zY [.str (zX (k1 q : Int) (zS q)), .str (Lib.itoa (l1 q : Int)), .i 0])) :=
 zW (T := oL G) (an := .auto) mixed (sw hG) (Eq.mp (by kernel_rfl) (rR G q hr))
theorem tF {G : List (Nat × Obj)} (hG : zL G) : zP Tryz.prog G 132 wR := by
 intro xs ps r h hp
 unfold wR at h
 split at h
 ·skip
  rename_i q
  cases h
  obtain ⟨q0, -⟩ := Zs hp
  exact weaken (ys := [.str q]) ⟨zw _, trivial⟩ (qY hG q q0)
 ·cases h
end Go.Te

namespace Go.Te
open Go Go.Sx Go.Proofs Go.Ar
set_option maxRecDepth 100000
set_option maxHeartbeats 4000000
structure Pt where
 n : zK
 d : zK
instance : yo Pt := ⟨2, ⟨[], []⟩, fun c => zY [.str c.n, .str c.d], fun cs => ⟨AV.bytes (cs 0), AV.bytes (cs 1)⟩, fun cs => ZR (cs 0) && ZR (cs 1), fun cs h j hj => by
 simp only [Bool.and_eq_true] at h
 match j, hj with
 | 0, _ => exact ZH (Yr h.1)
 | 1, _ => exact ZH (Yr h.2)⟩
instance : xX Pt := ⟨fun _ => rfl, fun _ => rfl⟩
theorem xD {f : Bool} {x : Nat → Nat → AV} (h : (ZR (x 0 0) && ZR (x 0 1)) = true) : yy (.xl f 2 1 x) (.xl false 2 1 fun _ => zY [.str (AV.bytes (x 0 0)), .str (AV.bytes (x 0 1))]) := by
 rw [Bool.and_eq_true] at h
 refine ⟨(fun h => by cases h), rfl, rfl, fun i j hi hj => ?_⟩
 obtain rfl : i = 0 := by omega
 match j, hj with
 | 0, _ => exact ZH (Yr h.1)
 | 1, _ => exact ZH (Yr h.2)
def xz (a : zK) : Int := if ((z6 a).length : Int) > ((zU (zR a)).length : Int) then ((z6 a).length : Int) else ((zU (zR a)).length : Int)
noncomputable def oT : Tb := (((T0.plus 114 (YV fun s => .str (zU s))).body Tryz.prog [(135, .auto)]).plus 134 Xs)
theorem sU : zz Tryz.prog oT := zz.plus (zz.body mixed (zz.plus zO wS) _) uU
def wQ : List AV → Option (List zN × AV)
 | [.str a] => some ([.p (WA a)], .i (xz a))
 | _ => none
theorem Sf (a : List UInt8) (hr : WA a) :
 ZY [AV.str a] → (Zq a = iZ ∧ (zZ a = true ∨ zT a = false)) ∧ kI ∧ (if (lZ (zU (z6 a))) > (lZ (zU (zR a))) then (lZ (zU (z6 a))) else (lZ (zU (zR a)))) = xz a := by
 delta kI lZ iZ
 intro hb
 simp only [sS, dS]
 have hm : zU (z6 a) = z6 a := by
  obtain ⟨i2, _⟩ := Zg.1 (Pr hr.1).2.1
  have hd := (Pr hr.1).2.2.2
  have hp := yK (ZP.1 hr.1).1
  have hm : zE (z6 a) = false := by
   rcases yr i2 with ⟨r, e, _, _, h3⟩ | ⟨h1, _⟩
   ·rw [h3] at hd; omega
   ·cases hm : zE (z6 a) with
    | false => rfl
    | true =>
     match h : z6 a, hm, h1 with
     | c :: r, hm, h1 =>
      have hc : c = 45 := eq_of_beq hm
      subst hc
      exact (YL h1).elim
  unfold zU
  rw [hm]; rfl
 rw [hm]
 exact ⟨hr, rfl⟩
theorem Ro (a : List UInt8) (hr : WA a) : zu Tryz.prog [] 83 [.str a] (.i (xz a)) :=
 zW (T := oT) (an := .auto) mixed sU (Eq.mp (by kernel_rfl) (Sf a hr))
theorem TX : zP Tryz.prog [] 83 wQ := by
 intro xs ps r h hp
 unfold wQ at h
 split at h
 ·skip
  rename_i a
  cases h
  obtain ⟨q0, -⟩ := Zs hp
  exact weaken (ys := [.str a]) ⟨zw _, trivial⟩ (Ro a q0)
 ·cases h
noncomputable def Px (G : List (Nat × Obj)) : Tb := ((((((uY G).plus 79 Xj).plus 80 YG).plus 132 wR).plus 83 wQ).plus 18 wC).plus 137 VI
theorem Uq {G : List (Nat × Obj)} (hG : zL G) : zz Tryz.prog (Px G) := zz.plus (zz.plus (zz.plus (zz.plus (zz.plus (zz.plus zO (zP.mono VX)) (zP.mono XX)) (tF hG)) (zP.mono TX)) (tQ hG)) (zP.mono rI)
def qg  : Z6 :=
 .two .auto (.two (.two .auto (.one (.unroll 1 .auto))) .auto)
def qG  : Z6 :=
 .two .auto (.one (.unroll 1 .auto))
def qw  : Z6 :=
 .two .auto (.two .auto (.one (.unroll 1 .auto)))
def Rr  : Z6 :=
 .two .auto (.two (.two .auto (.one (.unroll 2 .auto))) .auto)
def pT  : Z6 :=
 .two .auto (.two .auto (.two (.two .auto (.one (.unroll 2 .auto))) (.two .auto (.two .auto (.two .auto (.two (.two .auto (.one (.unroll 2 .auto))) .auto))))))
noncomputable def oJ (G : List (Nat × Obj)) : Tb := (((Px G).body Tryz.prog [(82, qg), (187, qG)]).body Tryz.prog [(81, Rr), (136, qw)]).body Tryz.prog [(84, .auto)]
theorem TD {G : List (Nat × Obj)} (hG : zL G) : zz Tryz.prog (oJ G) := zz.body mixed (zz.body mixed (zz.body mixed (Uq hG) _) _) _
def tH (t : Pt) : Prop := zZ t.n = true ∧ zV t.n ≠ 0 ∧ qD t.d ∧ zZ (zX (k1 t.d : Int) (zS t.d)) = true ∧ zZ (yM t.n t.d) = true
theorem Tz {a b c d : zK} (h1 : a = c) (h2 : b = d) : yy (.xl false 2 1 fun i j => Sx.rowAt [zY [.str a, .str b]] i j) (.xl false 2 1 fun _ => zY [.str c, .str d]) := by
 subst h1 h2
 refine ⟨fun h => h, rfl, rfl, fun i j hi hj => ?_⟩
 obtain rfl : i = 0 := by omega
 exact zw _
theorem tI {q : zK} (h : qD q) : zE q = false := by
 have h2 := h.2.1
 have := (XN (a := q)).1
 cases hm : zE q with
 | false => rfl
 | true => rw [hm, cond_true] at this; omega
theorem sQ {q : zK} (h : zV q ≠ 0) : (q == [48]) = false := beq_eq_false_iff_ne.2 fun e => h (by rw [e]; decide)
theorem Pl {q : zK} (h : qD q) : 0 < k1 q ∧ 0 < l1 q ∧ k1 q * k1 q * l1 q = (zV q).toNat * zS q ∧ Yj (l1 q) = (1, l1 q) ∧ l1 q < 100000000000000000 := by
 obtain ⟨h1, h2, h3⟩ := h
 have hp := yK (ZP.1 h1.1).1
 obtain ⟨a1, a2, a3, a4⟩ := tC h2 hp
 obtain ⟨v1, v2, v3, v4⟩ := Pr h1.1
 have n1 := SQ (Zg.1 v1).1
 have n2 := SQ (Zg.1 v2).1
 rw [v3] at n1
 rw [v4, Int.natAbs_natCast] at n2
 have b3 : (zV q).natAbs * zS q < 10 ^ 17 := by
  refine Nat.lt_of_lt_of_le (Nat.mul_lt_mul'' n1 n2) ?_
  rw [← Nat.pow_add]
  exact Nat.pow_le_pow_right (by omega) h3
 rw [show 10 ^ 17 = 100000000000000000 from by decide] at b3
 rw [show (zV q).natAbs = (zV q).toNat by omega] at b3
 have : 1 * l1 q ≤ k1 q * k1 q * l1 q := Nat.mul_le_mul_right _ (Nat.mul_pos a1 a1)
 exact ⟨a1, a2, a3, a4, by omega⟩
theorem tW {l : Nat} (h : l < 100000000000000000) : WA (Lib.itoa (l : Int)) ∧ (zR (Lib.itoa (l : Int))).length ≤ 17 ∧ (z6 (Lib.itoa (l : Int))).length = 1 := by
 obtain ⟨h1, h2, h3, h4⟩ := xW (l : Int)
 have hn : Wa (l : Int) ≤ 17 := Yg (by decide) (by rw [Int.natAbs_natCast]; exact Nat.lt_of_lt_of_le h (by decide))
 rw [show Nat.blt 300 (Wa (l : Int)) = false from Bool.eq_false_iff.2 fun e => by have := (zF _ _).1 e; omega] at h4
 refine ⟨⟨h4, .inr h3⟩, ?_, by unfold z6; rw [h3]; rfl⟩
 rw [(Z3 h3).1, YZ, if_neg (by omega)]
 exact hn
theorem WU {a : zK} {k : Nat} (h1 : (zR a).length ≤ k) (h2 : (z6 a).length ≤ k) (m : Int) (hk : (k : Int) ≤ m) : z7 m (xz a) = false := Bool.eq_false_iff.2 fun e => by
 have e := (zm _ _).1 e
 have := XV (zR a)
 unfold xz at e
 split at e <;> omega
theorem qZ {a b : zK} (ha : zV a ≠ 0) (hb : zV b ≠ 0) (ha2 : 0 < zS a) (hb2 : 0 < zS b) : zV (zH a b) ≠ 0 := fun e => by
 have h := Zr (zV a * zV b) (Nat.mul_pos ha2 hb2)
 have hp := Zp (zV a * zV b) (Nat.mul_pos ha2 hb2)
 have e' : zV (zX (zV a * zV b) (zS a * zS b)) = 0 := e
 rw [e', Int.zero_mul] at h
 exact Int.mul_ne_zero (Int.mul_ne_zero ha hb) (by omega) h.symm
theorem s7 : zX (k1 [49] : Int) (zS [49]) = [49] ∧ Lib.itoa (l1 [49] : Int) = [49] := by decide +kernel
def ux : List AV → Option (List zN × AV)
 | [.xl f_t 2 1 x_t] => some ([.b (ZR (x_t 0 0) && ZR (x_t 0 1)), .p (tH (⟨AV.bytes (x_t 0 0), AV.bytes (x_t 0 1)⟩ : Pt))], .tup 2 (zY [.xl false 2 1 (fun _ => zY [.str (yM (⟨AV.bytes (x_t 0 0), AV.bytes (x_t 0 1)⟩ : Pt).n (⟨AV.bytes (x_t 0 0), AV.bytes (x_t 0 1)⟩ : Pt).d), .str (Lib.itoa (l1 (⟨AV.bytes (x_t 0 0), AV.bytes (x_t 0 1)⟩ : Pt).d : Int))]), .i 0]))
 | _ => none
theorem pZ (G : List (Nat × Obj)) (t : Pt) (ht : tH t) :
 let q2 := (zZ (Pt.d t) = true ∨ zT (Pt.d t) = false); let q1 := (Zq (Pt.d t) = iZ ∧ q2); let q5 := (ByteArray.data (ByteArray.mk #[(48 : UInt8)])); let q4 := (Pt.n t == Array.toList q5); let q3 := (!zq false q4 || zq false q4); let q7 := (True ∧ Value.slice (oo Addr) 0 0 = Value.slice (oo Addr) 0 0 ∧ 1 = 0); let q6 := ((iZ ≤ (↑0 : Int) ∧ (↑0 : Int) ≤ (18446744073709551615 : Int)) ∧ j2 ∧ q7 ∧ kI ∧ iZ = iZ); let q8 := (ByteArray.data (ByteArray.mk #[(49 : UInt8)])); let q9 := (zZ (Lib.itoa (↑(l1 (Pt.d t))
 : Int)) = true ∨ zT (Lib.itoa (cI (l1 (Pt.d t)))) = false); let q10 := (xz (Lib.itoa (cI (l1 (Pt.d t))))); let q11 := (j2 ∧ q7 ∧ kI ∧ (4 : Int) = iZ); let q12 := (zX (cI (k1 (Pt.d t))) (zS (Pt.d t))); let q13 := (zH (Pt.n t) q12 == Array.toList q5); let q15 := (zH (Pt.n t) q12); let q18 := (xz q15); let q17 := (z7 (60 : Int) q18); let q16 := (!zq false q17 || zq false q17); let q19 := (iZ ≤ (↑1 : Int) ∧ (↑1 : Int) ≤ (18446744073709551615 : Int)); let q20 := (AV.xl false 2 1 fun (x i : Nat) =>
 Option.getD [AV.str (yM (Pt.n t) (Pt.d t)), AV.str (Lib.itoa (cI (l1 (Pt.d t))))][i]? AV.junk); let q14 := ((Zq q15 = iZ ∧ (zZ q15 = true ∨ zT q15 = false)) ∧ bF q16 (bF q16 ((zq false q17 = true → Zq (Lib.itoa (cI (l1 (Pt.d t)))) = iZ ∧ q9) ∧ bF q16 (bF (!!z7 (60 : Int) q18 || zq false q17) (zv (bif z7 (60 : Int) q18 then true else z7 (40 : Int) q10) q11 (q19 ∧ j2 ∧ (True ∧ yy (AV.xl false 2 1 fun i j => Sx.rowAt [zY [AV.str q15, AV.str (Lib.itoa (cI (l1 (Pt.d t))))]] (0 + i) j) q20) ∧
 kI ∧ iZ = iZ)))))); let q21 := (Array.toList q8); let q22 := (zH (Pt.n t) q21 == Array.toList q5); let q24 := (zH (Pt.n t) q21); let q27 := (xz q24); let q26 := (z7 (60 : Int) q27); let q25 := (!zq false q26 || zq false q26); let q23 := ((Zq q24 = iZ ∧ (zZ q24 = true ∨ zT q24 = false)) ∧ bF q25 (bF q25 ((zq false q26 = true → Zq (Pt.d t) = iZ ∧ q2) ∧ bF q25 (bF (!!z7 (60 : Int) q27 || zq false q26) (zv (bif z7 (60 : Int) q27 then true else z7 (40 : Int) (xz (Pt.d t))) q11 (q19 ∧
 j2 ∧ (True ∧ yy (AV.xl false 2 1 fun i j => Sx.rowAt [zY [AV.str q24, AV.str (Pt.d t)]] (0 + i) j) q20) ∧ kI ∧ iZ = iZ)))))); ZY [AV.xl false 2 1 fun (x i : Nat) => Option.getD [AV.str (Pt.n t), AV.str (Pt.d t)][i]? AV.junk] → (Zq (Pt.n t) = iZ ∧ (zZ (Pt.n t) = true ∨ zT (Pt.n t) = false)) ∧ q1 ∧ zE (Pt.d t) = false ∧ bF q3 (bF q3 (bF (!!Pt.n t == Array.toList q5 || zq false q4) (zv (bif Pt.n t == Array.toList q5 then true else Pt.d t == Array.toList q5) q6 (zv
 (!Pt.d t == Array.toList q8) ((q1 ∧ iZ < zV (Pt.d t) ∧ lN (zR (Pt.d t)) + lN (z6 (Pt.d t)) ≤ 17) ∧ (zq false (iZ != iZ) = true → Zq (Lib.itoa (cI (l1 (Pt.d t)))) = iZ ∧ q9) ∧ zv (bif iZ != iZ then true else z7 (90 : Int) q10) q11 (zZ (Pt.n t) = true ∧ zZ q12 = true ∧ zv q13 q6 q14 ∧ zv q13 q6 q14)) ((zq false (iZ != iZ) = true → Zq (Pt.d t) = iZ ∧ q2) ∧ zv (bif iZ != iZ then true else z7 (90 : Int) (xz (Pt.d t))) q11 (zZ (Pt.n t) = true ∧ zZ q21 = true ∧
 zv q22 q6 q23 ∧ zv q22 q6 q23)))))) := by
 delta bF cI kI j2 lN iZ
 dsimp only
 intro hb
 simp only [sS, dS]
 simp only [and_self]
 obtain ⟨c1, c2, c3, c4, c5⟩ := ht
 have r1 := xt c1
 have hm := tI c3
 obtain ⟨b1, b2, b3, b4, b5⟩ := Pl c3
 have hp := yK (ZP.1 c3.1.1).1
 have n1 := sQ c2
 have n2 : (t.d == [48]) = false := sQ (by have := c3.2.1; omega)
 have X0 : (yM t.n t.d == [48]) = false := sQ (qZ c2 (by have := YE b1 hp; omega) (yV c1).2.2.2 (Zp _ hp))
 obtain ⟨rl, i1, i2⟩ := tW b5
 have r5 := xt c5
 obtain ⟨x1, x2, x3⟩ := Xn c5
 have Lx := WU (a := yM t.n t.d) (k := 20) (by omega) (by omega) 60 (by omega)
 have L40 := WU (a := Lib.itoa (l1 t.d : Int)) (k := 20) (by omega) (by omega) 40 (by omega)
 have L90 := WU (a := Lib.itoa (l1 t.d : Int)) (k := 20) (by omega) (by omega) 90 (by omega)
 rw [n1, n2]
 refine ⟨r1, c3.1, hm, ?_⟩
 show zv (!t.d == [49]) _ _
 refine zr.2 ⟨fun c => ?_, fun c => ?_⟩
 ·rw [show zH t.n (zX (k1 t.d : Int) (zS t.d)) = yM t.n t.d from rfl, X0, Lx, L40, L90]
  exact ⟨c3, fun _ => rl, c1, c4, r5, fun _ => rl, ⟨by omega, by omega⟩, rfl, Tz rfl rfl⟩
 ·obtain ⟨tn, td⟩ := t
  simp only at *
  have e : td = [49] := by simpa using c
  subst e
  have e1 : zH tn [49] = yM tn [49] := by unfold yM; rw [s7.1]
  rw [s7.2] at L40 L90
  rw [e1, X0, Lx, L40, L90]
  exact ⟨fun _ => c3.1, c1, by decide, r5, fun _ => c3.1, ⟨by omega, by omega⟩, rfl, Tz rfl s7.2.symm⟩
theorem PZ {G : List (Nat × Obj)} (hG : zL G) (t : Pt) (ht : tH t) : zu Tryz.prog G 39 [.xl false 2 1 (fun _ => zY [.str t.n, .str t.d])] (.tup 2 (zY [.xl false 2 1 (fun _ => zY [.str (yM t.n t.d), .str (Lib.itoa (l1 t.d : Int))]), .i 0])) :=
 zW (T := oJ G) (an := pT) mixed (TD hG) (Eq.mp (by kernel_rfl) (pZ G t ht))
theorem rK {G : List (Nat × Obj)} (hG : zL G) : zP Tryz.prog G 39 ux := by
 intro xs ps r h hp
 unfold ux at h
 split at h
 ·skip
  rename_i f_t x_t
  cases h
  obtain ⟨q0, q1, -⟩ := Zs hp
  exact weaken (ys := [.xl false 2 1 (fun _ => zY [.str (⟨AV.bytes (x_t 0 0), AV.bytes (x_t 0 1)⟩ : Pt).n, .str (⟨AV.bytes (x_t 0 0), AV.bytes (x_t 0 1)⟩ : Pt).d])]) ⟨xD q0, trivial⟩ (PZ hG (⟨AV.bytes (x_t 0 0), AV.bytes (x_t 0 1)⟩ : Pt) q1)
 ·cases h
end Go.Te
