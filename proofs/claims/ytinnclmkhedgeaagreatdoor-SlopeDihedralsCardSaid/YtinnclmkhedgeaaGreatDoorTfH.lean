/- rational: sums, products, quotients and comparing of numbers with short parts; numbers made of ints. -/
import Derived.Test.YtinnclmkhedgeaaGreatDoorTfF
import Derived.Test.YtinnclmkhedgeaaGreatDoorArW
import Derived.Lib.BitFns
set_option linter.unusedSimpArgs false
set_option linter.unusedVariables false
namespace Go.Te
open Go Go.Sx Go.Proofs Go.Ar
set_option maxRecDepth 100000
set_option maxHeartbeats 4000000
structure Nt where
 n : Int
 d : Int
instance : yI Nt := ⟨2, ⟨0, 0⟩, fun c => zX [.i c.n, .i c.d], fun cs => ⟨AV.int (cs 0), AV.int (cs 1)⟩, fun cs => yp (cs 0) && yp (cs 1), fun cs h j hj => by
 simp only [Bool.and_eq_true] at h
 match j, hj with
 | 0, _ => exact Zd (Wt h.1)
 | 1, _ => exact Zd (Wt h.2)⟩
instance : xm Nt := ⟨fun _ => rfl, fun _ => rfl⟩
theorem rq (n : Int) {d : Int} (hd : 0 < d) : xn (if -n > n then -n else n) d = (Nat.gcd n.natAbs d.toNat : Int) := by
 have e : (if -n > n then -n else n) = (n.natAbs : Int) := by split <;> omega
 unfold xn
 rw [e, (ZY _ _).2 (show (0 : Int) ≤ (n.natAbs : Int) by omega), (ZY _ _).2 (show 0 ≤ d by omega), Int.toNat_natCast]
 rfl
theorem T6 (n : Int) {d : Int} (hd : 0 < d) : (0 : Int) < (Nat.gcd n.natAbs d.toNat : Int) ∧ n.tdiv (Nat.gcd n.natAbs d.toNat : Int) = n / (Nat.gcd n.natAbs d.toNat : Int) ∧ d.tdiv (Nat.gcd n.natAbs d.toNat : Int) = ((d.toNat / Nat.gcd n.natAbs d.toNat : Nat) : Int) ∧ (n / (Nat.gcd n.natAbs d.toNat : Int)).natAbs ≤ n.natAbs ∧ 0 < d.toNat / Nat.gcd n.natAbs d.toNat ∧ d.toNat / Nat.gcd n.natAbs d.toNat ≤ d.toNat := by
 have hg : 0 < Nat.gcd n.natAbs d.toNat := Nat.gcd_pos_of_pos_right _ (by omega)
 have hdv := Nat.gcd_dvd_right n.natAbs d.toNat
 have hnv : ((Nat.gcd n.natAbs d.toNat : Nat) : Int) ∣ n := Int.ofNat_dvd_left.2 (Nat.gcd_dvd_left _ _)
 generalize Nat.gcd n.natAbs d.toNat = g at *
 have e1 : n.tdiv (g : Int) = n / (g : Int) := Int.tdiv_eq_ediv_of_dvd hnv
 refine ⟨by omega, e1, ?_, ?_, Nat.div_pos (Nat.le_of_dvd (by omega) hdv) hg, Nat.div_le_self _ _⟩
 ·rw [Int.tdiv_eq_ediv_of_nonneg (by omega), Int.natCast_ediv]
  congr 1
  omega
 ·rw [← e1]; exact Int.natAbs_tdiv_le_natAbs n g
theorem UT (n : Int) (d : Nat) : (d / Nat.gcd n.natAbs d = 1 → Lib.itoa (n / (Nat.gcd n.natAbs d : Int)) = zY n d) ∧ (d / Nat.gcd n.natAbs d ≠ 1 → Lib.itoa (n / (Nat.gcd n.natAbs d : Int)) ++ [47] ++ Lib.itoa ((d / Nat.gcd n.natAbs d : Nat) : Int) = zY n d) := by
 unfold zY ye
 refine ⟨fun h => ?_, fun h => ?_⟩
 ·rw [h]
  exact (List.append_nil _).symm
 ·rw [show Nat.beq (d / Nat.gcd n.natAbs d) 1 = false from Bool.eq_false_iff.2 fun e => h (Nat.eq_of_beq_eq_true e), Go.Ar.YQ]
  simp
theorem Vp {n : Int} (h : n.natAbs < 10 ^ 20) : (Lib.itoa n).length ≤ 21 := by
 rw [YZ]
 have : vk n ≤ 20 := Y7 (by omega) h
 split <;> omega
def TL : List AV → Option (List zO × AV)
 | [.agg 2 p_x] => some ([.b (yp (p_x 0) && yp (p_x 1)), .p ((⟨AV.int (p_x 0), AV.int (p_x 1)⟩ : Nt).d ≠ 0), .p (-1000000000000000000 ≤ (⟨AV.int (p_x 0), AV.int (p_x 1)⟩ : Nt).d ∧ (⟨AV.int (p_x 0), AV.int (p_x 1)⟩ : Nt).d ≤ 1000000000000000000), .p (-1000000000000000000 ≤ (⟨AV.int (p_x 0), AV.int (p_x 1)⟩ : Nt).n ∧ (⟨AV.int (p_x 0), AV.int (p_x 1)⟩ : Nt).n ≤ 1000000000000000000)], .str (vJ (⟨AV.int (p_x 0), AV.int (p_x 1)⟩ : Nt).n (⟨AV.int (p_x 0), AV.int (p_x 1)⟩ : Nt).d))
 | _ => none
theorem Q4 (G : List (Nat × Obj)) (x : Nt) (h0 : x.d ≠ 0) (h1 : -1000000000000000000 ≤ x.d ∧ x.d ≤ 1000000000000000000) (h2 : -1000000000000000000 ≤ x.n ∧ x.n ≤ 1000000000000000000) :
 let q1 := (if - -Nt.n x > -Nt.n x then - -Nt.n x else -Nt.n x); let q2 := (DB.db (xn q1 (-Nt.d x) ≠ iZ)); let q4 := (xn q1 (-Nt.d x)); let q3 := (Int.tdiv (-Nt.n x) q4); let q5 := (Int.tdiv (-Nt.d x) q4); let q6 := (iN ≤ Int.tdiv (-Nt.n x) q4 ∧ Int.tdiv (-Nt.n x) q4 ≤ iX); let q7 := (ByteArray.data (ByteArray.mk #[(47 : UInt8)])); let q8 := (if -Nt.n x > Nt.n x then -Nt.n x else Nt.n x); let q9 := (DB.db (xn q8 (Nt.d x) ≠ iZ)); let q11 := (xn q8 (Nt.d x)); let q10 := (Int.tdiv (Nt.n x) q11); let q12 := (Int.tdiv (Nt.d x)
 q11); let q13 := (iN ≤ Int.tdiv (Nt.n x) q11 ∧ Int.tdiv (Nt.n x) q11 ≤ iX); zb [AV.agg 2 (yI.enc x)] → zV (zA (Nt.d x) iZ) (bF (dK (-Nt.n x)) (bF (dK (-Nt.d x)) (bF (dK (- -Nt.n x)) (((iZ ≤ if - -Nt.n x > -Nt.n x then - -Nt.n x else -Nt.n x) ∧ q1 ≤ iX) ∧ (iZ ≤ -Nt.d x ∧ -Nt.d x ≤ iX) ∧ bF q2 (bF (dK q3) (bF q2 (bF (dK q5) (zV (Int.tdiv (-Nt.d x) q4 == iO) (q6
 ∧ Lib.itoa q3 = vJ (Nt.n x) (Nt.d x)) (q6 ∧ bF (DB.db (lN (Lib.itoa q3) + 1 ≤ nX)) ((iN ≤ Int.tdiv (-Nt.d x) q4 ∧ Int.tdiv (-Nt.d x) q4 ≤ iX) ∧ bF (DB.db (lN (Lib.itoa q3 ++ Array.toList q7) + lN (Lib.itoa q5) ≤ nX)) (Lib.itoa q3 ++ Array.toList q7 ++ Lib.itoa q5 = vJ (Nt.n x) (Nt.d x)))))))))))) (bF (dK (-Nt.n x)) (((iZ ≤ if -Nt.n x > Nt.n x then -Nt.n x else Nt.n x) ∧ q8 ≤ (9223372036854775807 :
 Int)) ∧ (iZ ≤ Nt.d x ∧ Nt.d x ≤ iX) ∧ bF q9 (bF (dK q10) (bF q9 (bF (dK q12) (zV (Int.tdiv (Nt.d x) q11 == iO) (q13 ∧ Lib.itoa q10 = vJ (Nt.n x) (Nt.d x)) (q13 ∧ bF (DB.db (lN (Lib.itoa q10) + 1 ≤ nX)) ((iN ≤ Int.tdiv (Nt.d x) q11 ∧ Int.tdiv (Nt.d x) q11 ≤ iX) ∧ bF (DB.db (lN (Lib.itoa q10 ++ Array.toList q7) + lN (Lib.itoa q12) ≤ nX)) (Lib.itoa q10 ++ Array.toList q7 ++ Lib.itoa q12 = vJ
 (Nt.n x) (Nt.d x)))))))))) := by
 delta bF dK nX lN iZ iO iX iN
 dsimp only
 intro hb
 simp only [sS, dS]
 have key : ∀ n d : Int, 0 < d → d ≤ 1000000000000000000 → -1000000000000000000 ≤ n ∧ n ≤ 1000000000000000000 → _ := fun n d hd hd1 hn => And.intro (rq n hd) (And.intro (T6 n hd) (UT n d.toNat))
 refine ⟨fun hd => ?_, fun hd => ?_⟩
 ·obtain ⟨k1, ⟨k2, k3, k4, k5, k6, k7⟩, k8, k9⟩ := key (-x.n) (-x.d) (by omega) (by omega) ⟨by omega, by omega⟩
  have hs : vJ x.n x.d = zY (-x.n) (-x.d).toNat := by unfold vJ; rw [(zl _ _).2 hd]; rfl
  rw [k1, k3, k4, hs]
  generalize zY (-x.n) (-x.d).toNat = R at *
  generalize Nat.gcd (-x.n).natAbs (-x.d).toNat = g at *
  generalize (-x.n) / (g : Int) = q at *
  generalize (-x.d).toNat / g = e at *
  have l1 := Vp (n := q) (by omega)
  have l2 := Vp (n := (e : Int)) (by omega)
  refine ⟨⟨by omega, by omega⟩, ⟨by omega, by omega⟩, ⟨by omega, by omega⟩, ⟨by split <;> omega, by split <;> omega⟩, ⟨by omega, by omega⟩, by omega, ⟨by omega, by omega⟩, by omega, ⟨by omega, by omega⟩, fun h => ⟨⟨by omega, by omega⟩, k8 (by omega)⟩, fun h => ⟨⟨by omega, by omega⟩, by omega, ⟨by omega, by omega⟩, by rw [List.length_append, List.length_singleton]; omega, k9 (by omega)⟩⟩
 ·obtain ⟨k1, ⟨k2, k3, k4, k5, k6, k7⟩, k8, k9⟩ := key x.n x.d (by omega) (by omega) h2
  have hs : vJ x.n x.d = zY x.n x.d.toNat := by unfold vJ; rw [show zA x.d 0 = false from Bool.eq_false_iff.2 fun e => by have := (zl _ _).1 e; omega]; rfl
  rw [k1, k3, k4, hs]
  generalize zY x.n x.d.toNat = R at *
  generalize Nat.gcd x.n.natAbs x.d.toNat = g at *
  generalize x.n / (g : Int) = q at *
  generalize hD : x.d.toNat / g = e at *
  have l1 := Vp (n := q) (by omega)
  have l2 := Vp (n := (e : Int)) (by omega)
  refine ⟨⟨by omega, by omega⟩, ⟨by split <;> omega, by split <;> omega⟩, ⟨by omega, by omega⟩, by omega, ⟨by omega, by omega⟩, by omega, ⟨by omega, by omega⟩, fun h => ⟨⟨by omega, by omega⟩, k8 (by omega)⟩, fun h => ⟨⟨by omega, by omega⟩, by omega, ⟨by omega, by omega⟩, by rw [List.length_append, List.length_singleton]; omega, k9 (by omega)⟩⟩
theorem oY {G : List (Nat × Obj)} (hG : zN G) (x : Nt) (h0 : x.d ≠ 0) (h1 : -1000000000000000000 ≤ x.d ∧ x.d ≤ 1000000000000000000) (h2 : -1000000000000000000 ≤ x.n ∧ x.n ≤ 1000000000000000000) : zu Tryz.prog G 95 [vz x] (.str (vJ x.n x.d)) :=
 zW (T := (oG G).plus 111 um) (an := .auto) mixed (zz.plus (xD hG) (zP.mono RO)) (Eq.mp (by kernel_rfl) (Q4 G x h0 h1 h2))
theorem Pf {G : List (Nat × Obj)} (hG : zN G) : zP Tryz.prog G 95 TL := by
 intro xs ps r h hp
 unfold TL at h
 split at h
 ·skip
  rename_i p_x
  cases h
  obtain ⟨q0, q1, q2, q3, -⟩ := Zv hp
  exact weaken (ys := [vz (⟨AV.int (p_x 0), AV.int (p_x 1)⟩ : Nt)]) ⟨yU (x := .agg 2 p_x) (α := Nt) q0, trivial⟩ (oY hG (⟨AV.int (p_x 0), AV.int (p_x 1)⟩ : Nt) q1 q2 q3)
 ·cases h
theorem Z0 {a b : Int} (ha : -99999999 ≤ a ∧ a ≤ 99999999) (hb : -99999999 ≤ b ∧ b ≤ 99999999) : -10000000000000000 ≤ a * b ∧ a * b ≤ 10000000000000000 := by
 have h : (a * b).natAbs ≤ 99999999 * 99999999 := by rw [Int.natAbs_mul]; exact Nat.mul_le_mul (by omega) (by omega)
 omega
def wY (x : Nt) : Prop := (-99999999 ≤ x.n ∧ x.n ≤ 99999999) ∧ (0 < x.d ∧ x.d ≤ 99999999)
def Rz : List AV → Option (List zO × AV)
 | [.agg 2 p_x, .agg 2 p_y] => some ([.b (yp (p_x 0) && yp (p_x 1)), .b (yp (p_y 0) && yp (p_y 1)), .p (wY (⟨AV.int (p_x 0), AV.int (p_x 1)⟩ : Nt)), .p (wY (⟨AV.int (p_y 0), AV.int (p_y 1)⟩ : Nt))], vz (⟨(⟨AV.int (p_x 0), AV.int (p_x 1)⟩ : Nt).n * (⟨AV.int (p_y 0), AV.int (p_y 1)⟩ : Nt).d + (⟨AV.int (p_y 0), AV.int (p_y 1)⟩ : Nt).n * (⟨AV.int (p_x 0), AV.int (p_x 1)⟩ : Nt).d, (⟨AV.int (p_x 0), AV.int (p_x 1)⟩ : Nt).d * (⟨AV.int (p_y 0), AV.int (p_y 1)⟩ : Nt).d⟩ : Nt))
 | _ => none
theorem PZ (x : Nt) (y : Nt) (h1 : wY x) (h2 : wY y) :
 zb [AV.agg 2 (yI.enc x), AV.agg 2 (yI.enc y)] → bF (dK (Nt.n x * Nt.d y)) (bF (dK (Nt.n y * Nt.d x)) (bF (dK (Nt.n x * Nt.d y + Nt.n y * Nt.d x)) (bF (dK (Nt.d x * Nt.d y)) (2 = 2 ∧ (kI ∧ Nt.n x * Nt.d y + Nt.n y * Nt.d x = Nt.n (Nt.mk (Nt.n x * Nt.d y + Nt.n y * Nt.d x) (Nt.d x * Nt.d y))) ∧ kI ∧ Nt.d x * Nt.d y = Nt.d (Nt.mk (Nt.n x * Nt.d y + Nt.n y * Nt.d x) (Nt.d x * Nt.d y)))))) := by
 delta bF dK kI
 intro hb
 simp only [sS, dS]
 unfold wY at h1 h2
 have m1 := Z0 (a := x.n) (b := y.d) h1.1 ⟨by omega, h2.2.2⟩
 have m2 := Z0 (a := y.n) (b := x.d) h2.1 ⟨by omega, h1.2.2⟩
 have m3 := Z0 (a := x.d) (b := y.d) ⟨by omega, h1.2.2⟩ ⟨by omega, h2.2.2⟩
 exact ⟨⟨by omega, by omega⟩, ⟨by omega, by omega⟩, ⟨by omega, by omega⟩, ⟨by omega, by omega⟩⟩
theorem OU (x : Nt) (y : Nt) (h1 : wY x) (h2 : wY y) : zu Tryz.prog [] 87 [vz x, vz y] (vz (⟨x.n * y.d + y.n * x.d, x.d * y.d⟩ : Nt)) :=
 zW (T := T0) (an := .auto) mixed zq (Eq.mp (by kernel_rfl) (PZ x y h1 h2))
theorem Oj : zP Tryz.prog [] 87 Rz := by
 intro xs ps r h hp
 unfold Rz at h
 split at h
 ·skip
  rename_i p_x p_y
  cases h
  obtain ⟨q0, q1, q2, q3, -⟩ := Zv hp
  exact weaken (ys := [vz (⟨AV.int (p_x 0), AV.int (p_x 1)⟩ : Nt), vz (⟨AV.int (p_y 0), AV.int (p_y 1)⟩ : Nt)]) ⟨yU (x := .agg 2 p_x) (α := Nt) q0, yU (x := .agg 2 p_y) (α := Nt) q1, trivial⟩ (OU (⟨AV.int (p_x 0), AV.int (p_x 1)⟩ : Nt) (⟨AV.int (p_y 0), AV.int (p_y 1)⟩ : Nt) q2 q3)
 ·cases h
def qv : List AV → Option (List zO × AV)
 | [.agg 2 p_x, .agg 2 p_y] => some ([.b (yp (p_x 0) && yp (p_x 1)), .b (yp (p_y 0) && yp (p_y 1)), .p (wY (⟨AV.int (p_x 0), AV.int (p_x 1)⟩ : Nt)), .p (wY (⟨AV.int (p_y 0), AV.int (p_y 1)⟩ : Nt))], vz (⟨(⟨AV.int (p_x 0), AV.int (p_x 1)⟩ : Nt).n * (⟨AV.int (p_y 0), AV.int (p_y 1)⟩ : Nt).n, (⟨AV.int (p_x 0), AV.int (p_x 1)⟩ : Nt).d * (⟨AV.int (p_y 0), AV.int (p_y 1)⟩ : Nt).d⟩ : Nt))
 | _ => none
theorem PO (x : Nt) (y : Nt) (h1 : wY x) (h2 : wY y) :
 zb [AV.agg 2 (yI.enc x), AV.agg 2 (yI.enc y)] → bF (dK (Nt.n x * Nt.n y)) (bF (dK (Nt.d x * Nt.d y)) (2 = 2 ∧ (kI ∧ Nt.n x * Nt.n y = Nt.n (Nt.mk (Nt.n x * Nt.n y) (Nt.d x * Nt.d y))) ∧ kI ∧ Nt.d x * Nt.d y = Nt.d (Nt.mk (Nt.n x * Nt.n y) (Nt.d x * Nt.d y)))) := by
 delta bF dK kI
 intro hb
 simp only [sS, dS]
 unfold wY at h1 h2
 have m1 := Z0 (a := x.n) (b := y.n) h1.1 ⟨by omega, h2.1.2⟩
 have m2 := Z0 (a := y.n) (b := x.d) h2.1 ⟨by omega, h1.2.2⟩
 have m3 := Z0 (a := x.d) (b := y.d) ⟨by omega, h1.2.2⟩ ⟨by omega, h2.2.2⟩
 exact ⟨⟨by omega, by omega⟩, ⟨by omega, by omega⟩⟩
theorem Oq (x : Nt) (y : Nt) (h1 : wY x) (h2 : wY y) : zu Tryz.prog [] 54 [vz x, vz y] (vz (⟨x.n * y.n, x.d * y.d⟩ : Nt)) :=
 zW (T := T0) (an := .auto) mixed zq (Eq.mp (by kernel_rfl) (PO x y h1 h2))
theorem Of : zP Tryz.prog [] 54 qv := by
 intro xs ps r h hp
 unfold qv at h
 split at h
 ·skip
  rename_i p_x p_y
  cases h
  obtain ⟨q0, q1, q2, q3, -⟩ := Zv hp
  exact weaken (ys := [vz (⟨AV.int (p_x 0), AV.int (p_x 1)⟩ : Nt), vz (⟨AV.int (p_y 0), AV.int (p_y 1)⟩ : Nt)]) ⟨yU (x := .agg 2 p_x) (α := Nt) q0, yU (x := .agg 2 p_y) (α := Nt) q1, trivial⟩ (Oq (⟨AV.int (p_x 0), AV.int (p_x 1)⟩ : Nt) (⟨AV.int (p_y 0), AV.int (p_y 1)⟩ : Nt) q2 q3)
 ·cases h
def ru : List AV → Option (List zO × AV)
 | [.agg 2 p_x, .agg 2 p_y] => some ([.b (yp (p_x 0) && yp (p_x 1)), .b (yp (p_y 0) && yp (p_y 1)), .p (wY (⟨AV.int (p_x 0), AV.int (p_x 1)⟩ : Nt)), .p (wY (⟨AV.int (p_y 0), AV.int (p_y 1)⟩ : Nt))], vz (⟨(⟨AV.int (p_x 0), AV.int (p_x 1)⟩ : Nt).n * (⟨AV.int (p_y 0), AV.int (p_y 1)⟩ : Nt).d, (⟨AV.int (p_x 0), AV.int (p_x 1)⟩ : Nt).d * (⟨AV.int (p_y 0), AV.int (p_y 1)⟩ : Nt).n⟩ : Nt))
 | _ => none
theorem pC (x : Nt) (y : Nt) (h1 : wY x) (h2 : wY y) :
 zb [AV.agg 2 (yI.enc x), AV.agg 2 (yI.enc y)] → bF (dK (Nt.n x * Nt.d y)) (bF (dK (Nt.d x * Nt.n y)) (2 = 2 ∧ (kI ∧ Nt.n x * Nt.d y = Nt.n (Nt.mk (Nt.n x * Nt.d y) (Nt.d x * Nt.n y))) ∧ kI ∧ Nt.d x * Nt.n y = Nt.d (Nt.mk (Nt.n x * Nt.d y) (Nt.d x * Nt.n y)))) := by
 delta bF dK kI
 intro hb
 simp only [sS, dS]
 unfold wY at h1 h2
 have m1 := Z0 (a := x.n) (b := y.d) h1.1 ⟨by omega, h2.2.2⟩
 have m3 := Z0 (a := x.d) (b := y.n) ⟨by omega, h1.2.2⟩ h2.1
 exact ⟨⟨by omega, by omega⟩, ⟨by omega, by omega⟩⟩
theorem od (x : Nt) (y : Nt) (h1 : wY x) (h2 : wY y) : zu Tryz.prog [] 93 [vz x, vz y] (vz (⟨x.n * y.d, x.d * y.n⟩ : Nt)) :=
 zW (T := T0) (an := .auto) mixed zq (Eq.mp (by kernel_rfl) (pC x y h1 h2))
theorem OI : zP Tryz.prog [] 93 ru := by
 intro xs ps r h hp
 unfold ru at h
 split at h
 ·skip
  rename_i p_x p_y
  cases h
  obtain ⟨q0, q1, q2, q3, -⟩ := Zv hp
  exact weaken (ys := [vz (⟨AV.int (p_x 0), AV.int (p_x 1)⟩ : Nt), vz (⟨AV.int (p_y 0), AV.int (p_y 1)⟩ : Nt)]) ⟨yU (x := .agg 2 p_x) (α := Nt) q0, yU (x := .agg 2 p_y) (α := Nt) q1, trivial⟩ (od (⟨AV.int (p_x 0), AV.int (p_x 1)⟩ : Nt) (⟨AV.int (p_y 0), AV.int (p_y 1)⟩ : Nt) q2 q3)
 ·cases h
noncomputable def nR (G : List (Nat × Obj)) : Tb := (((((wB G).plus 65 w7).plus 95 TL).plus 87 Rz).plus 54 qv).plus 93 ru
theorem SD {G : List (Nat × Obj)} (hG : zN G) : zz Tryz.prog (nR G) := zz.plus (zz.plus (zz.plus (zz.plus (zz.plus zq (zP.mono sX)) (Pf hG)) (zP.mono Oj)) (zP.mono Of)) (zP.mono OI)
def nJ : List (FuncId × yw) := [(53, .auto)]
noncomputable def OE (G : List (Nat × Obj)) : Tb := (nR G).body Tryz.prog nJ
theorem wU {G : List (Nat × Obj)} (hG : zN G) : zz Tryz.prog (OE G) := zz.body mixed (SD hG) _
theorem wt {a : zK} (h : zZ a = true) : wY ⟨zv a, (zU a : Int)⟩ := by
 obtain ⟨_, h2, h3, h4⟩ := Z8 h
 exact ⟨⟨by simp only; omega, by simp only; omega⟩, by simp only; omega, by simp only; omega⟩
def uD : List AV → Option (List zO × AV)
 | [.str a, .str b] => some ([.p (zZ a = true), .p (zZ b = true)], .tup 2 (zX [.str (z7 a b), .i 0]))
 | _ => none
theorem QI (G : List (Nat × Obj)) (a : List UInt8) (b : List UInt8) (ha : zZ a = true) (hc : zZ b = true) :
 let q3 := (Value.agg #[Value.int .i64 iZ, Value.int .i64 iZ]); let q2 := (fun (i : Nat) => if 0 ≤ i ∧ i < 0 + 2 then zX [AV.i (zv a), AV.i (cI (zU a))] (i - 0) else yB q3 i); let q1 := (Nt.mk (AV.int (q2 0)) (AV.int (q2 1))); let q5 := (fun (i : Nat) => if 0 ≤ i ∧ i < 0 + 2 then zX [AV.i (zv b), AV.i (cI (zU b))] (i - 0) else yB q3 i); let q4 := (Nt.mk (AV.int (q5 0)) (AV.int (q5 1))); let q7 := (Nt.mk (Nt.n q1 * Nt.d q4 + Nt.n q4 * Nt.d q1) (Nt.d q1 * Nt.d q4)); let q6 := (Nt.mk (AV.int (aI (Nt.n q7))) (AV.int (AV.v (Value.int .i64
 (Nt.d q7))))); zb [AV.str a, AV.str b] → zZ a = true ∧ zZ b = true ∧ (((-99999999 : Int) ≤ Nt.n q1 ∧ Nt.n q1 ≤ (99999999 : Int)) ∧ iZ < Nt.d q1 ∧ Nt.d q1 ≤ (99999999 : Int)) ∧ (((-99999999 : Int) ≤ Nt.n q4 ∧ Nt.n q4 ≤ (99999999 : Int)) ∧ iZ < Nt.d q4 ∧ Nt.d q4 ≤ (99999999 : Int)) ∧ Nt.d q6 ≠ iZ ∧ ((-1000000000000000000 : Int) ≤ Nt.d q6 ∧ Nt.d q6 ≤ (1000000000000000000 : Int)) ∧ ((-1000000000000000000 : Int) ≤ Nt.n q6 ∧ Nt.n q6 ≤ (1000000000000000000 : Int)) ∧ j2 ∧ (True ∧ vJ (Nt.n q6) (Nt.d q6) = z7 a b) ∧ kI ∧ (0 :
 Int) = iZ := by
 delta cI kI j2 iZ aI
 dsimp only
 intro hb
 simp only [sS, dS]
 show zZ a = true ∧ zZ b = true ∧ wY ⟨zv a, (zU a : Int)⟩ ∧ wY ⟨zv b, (zU b : Int)⟩ ∧ (zU a : Int) * (zU b : Int) ≠ 0 ∧ (-1000000000000000000 ≤ (zU a : Int) * (zU b : Int) ∧ (zU a : Int) * (zU b : Int) ≤ 1000000000000000000) ∧ (-1000000000000000000 ≤ zv a * (zU b : Int) + zv b * (zU a : Int) ∧ zv a * (zU b : Int) + zv b * (zU a : Int) ≤ 1000000000000000000) ∧ 2 = [AV.junk, AV.junk].length ∧ vJ (zv a * (zU b : Int) + zv b * (zU a : Int)) ((zU a : Int) * (zU b : Int)) = z7 a b
 obtain ⟨a1, a2, a3, a4⟩ := Z8 ha
 obtain ⟨b1, b2, b3, b4⟩ := Z8 hc
 have m1 := Z0 (a := zv a) (b := (zU b : Int)) ⟨by omega, by omega⟩ ⟨by omega, by omega⟩
 have m2 := Z0 (a := zv b) (b := (zU a : Int)) ⟨by omega, by omega⟩ ⟨by omega, by omega⟩
 have m3 := Z0 (a := (zU a : Int)) (b := (zU b : Int)) ⟨by omega, by omega⟩ ⟨by omega, by omega⟩
 have hp : (0 : Int) < (zU a : Int) * (zU b : Int) := Int.mul_pos (by omega) (by omega)
 refine ⟨ha, hc, wt ha, wt hc, by omega, ⟨by omega, by omega⟩, ⟨by omega, by omega⟩, rfl, ?_⟩
 rw [← Int.natCast_mul]
 exact WV _ (Nat.mul_pos a4 b4)
theorem p5 {G : List (Nat × Obj)} (hG : zN G) (a : List UInt8) (b : List UInt8) (ha : zZ a = true) (hc : zZ b = true) : zu Tryz.prog G 41 [.str a, .str b] (.tup 2 (zX [.str (z7 a b), .i 0])) :=
 zW (T := OE G) (an := .auto) mixed (wU hG) (Eq.mp (by kernel_rfl) (QI G a b ha hc))
theorem RR {G : List (Nat × Obj)} (hG : zN G) : zP Tryz.prog G 41 uD := by
 intro xs ps r h hp
 unfold uD at h
 split at h
 ·skip
  rename_i a b
  cases h
  obtain ⟨q0, q1, -⟩ := Zv hp
  exact weaken (ys := [.str a, .str b]) ⟨zw _, zw _, trivial⟩ (p5 hG a b q0 q1)
 ·cases h
def wu : List AV → Option (List zO × AV)
 | [.str a, .str b] => some ([.p (zZ a = true), .p (zZ b = true)], .tup 2 (zX [.str (zM a b), .i 0]))
 | _ => none
theorem pZ (G : List (Nat × Obj)) (a : List UInt8) (b : List UInt8) (ha : zZ a = true) (hc : zZ b = true) :
 let q3 := (Value.agg #[Value.int .i64 iZ, Value.int .i64 iZ]); let q2 := (fun (i : Nat) => if 0 ≤ i ∧ i < 0 + 2 then zX [AV.i (zv a), AV.i (cI (zU a))] (i - 0) else yB q3 i); let q1 := (Nt.mk (AV.int (q2 0)) (AV.int (q2 1))); let q5 := (fun (i : Nat) => if 0 ≤ i ∧ i < 0 + 2 then zX [AV.i (zv b), AV.i (cI (zU b))] (i - 0) else yB q3 i); let q4 := (Nt.mk (AV.int (q5 0)) (AV.int (q5 1))); let q7 := (Nt.mk (Nt.n q1 * Nt.n q4) (Nt.d q1 * Nt.d q4)); let q6 := (Nt.mk (AV.int (aI (Nt.n q7))) (AV.int (aI (Nt.d q7)))); zb
 [AV.str a, AV.str b] → zZ a = true ∧ zZ b = true ∧ (((-99999999 : Int) ≤ Nt.n q1 ∧ Nt.n q1 ≤ (99999999 : Int)) ∧ iZ < Nt.d q1 ∧ Nt.d q1 ≤ (99999999 : Int)) ∧ (((-99999999 : Int) ≤ Nt.n q4 ∧ Nt.n q4 ≤ (99999999 : Int)) ∧ iZ < Nt.d q4 ∧ Nt.d q4 ≤ (99999999 : Int)) ∧ Nt.d q6 ≠ iZ ∧ ((-1000000000000000000 : Int) ≤ Nt.d q6 ∧ Nt.d q6 ≤ (1000000000000000000 : Int)) ∧ ((-1000000000000000000 : Int) ≤ Nt.n q6 ∧ Nt.n q6 ≤ (1000000000000000000 : Int)) ∧ j2 ∧ (True ∧ vJ (Nt.n q6) (Nt.d q6) = zM a b) ∧ kI ∧ iZ = iZ := by
 delta cI kI j2 iZ aI
 dsimp only
 intro hb
 simp only [sS, dS]
 show zZ a = true ∧ zZ b = true ∧ wY ⟨zv a, (zU a : Int)⟩ ∧ wY ⟨zv b, (zU b : Int)⟩ ∧ (zU a : Int) * (zU b : Int) ≠ 0 ∧ (-1000000000000000000 ≤ (zU a : Int) * (zU b : Int) ∧ (zU a : Int) * (zU b : Int) ≤ 1000000000000000000) ∧ (-1000000000000000000 ≤ zv a * zv b ∧ zv a * zv b ≤ 1000000000000000000) ∧ 2 = [AV.junk, AV.junk].length ∧ vJ (zv a * zv b) ((zU a : Int) * (zU b : Int)) = zM a b
 obtain ⟨a1, a2, a3, a4⟩ := Z8 ha
 obtain ⟨b1, b2, b3, b4⟩ := Z8 hc
 have m1 := Z0 (a := zv a) (b := zv b) ⟨by omega, by omega⟩ ⟨by omega, by omega⟩
 have m3 := Z0 (a := (zU a : Int)) (b := (zU b : Int)) ⟨by omega, by omega⟩ ⟨by omega, by omega⟩
 have hp : (0 : Int) < (zU a : Int) * (zU b : Int) := Int.mul_pos (by omega) (by omega)
 refine ⟨ha, hc, wt ha, wt hc, by omega, ⟨by omega, by omega⟩, ⟨by omega, by omega⟩, rfl, ?_⟩
 rw [← Int.natCast_mul]
 exact WV _ (Nat.mul_pos a4 b4)
theorem oq {G : List (Nat × Obj)} (hG : zN G) (a : List UInt8) (b : List UInt8) (ha : zZ a = true) (hc : zZ b = true) : zu Tryz.prog G 18 [.str a, .str b] (.tup 2 (zX [.str (zM a b), .i 0])) :=
 zW (T := OE G) (an := .auto) mixed (wU hG) (Eq.mp (by kernel_rfl) (pZ G a b ha hc))
theorem Vf {G : List (Nat × Obj)} (hG : zN G) : zP Tryz.prog G 18 wu := by
 intro xs ps r h hp
 unfold wu at h
 split at h
 ·skip
  rename_i a b
  cases h
  obtain ⟨q0, q1, -⟩ := Zv hp
  exact weaken (ys := [.str a, .str b]) ⟨zw _, zw _, trivial⟩ (oq hG a b q0 q1)
 ·cases h
def WU : List AV → Option (List zO × AV)
 | [.str a, .str b] => some ([.p (zZ a = true), .p (zZ b = true), .p (zv b ≠ 0)], .tup 2 (zX [.str (zI a b), .i 0]))
 | _ => none
theorem Qi (G : List (Nat × Obj)) (a : List UInt8) (b : List UInt8) (ha : zZ a = true) (hc : zZ b = true) (hp : zv b ≠ 0) :
 let q3 := (Value.agg #[Value.int .i64 iZ, Value.int .i64 iZ]); let q2 := (fun (i : Nat) => if 0 ≤ i ∧ i < 0 + 2 then zX [AV.i (zv a), AV.i (cI (zU a))] (i - 0) else yB q3 i); let q1 := (Nt.mk (AV.int (q2 0)) (AV.int (q2 1))); let q5 := (fun (i : Nat) => if 0 ≤ i ∧ i < 0 + 2 then zX [AV.i (zv b), AV.i (cI (zU b))] (i - 0) else yB q3 i); let q4 := (Nt.mk (AV.int (q5 0)) (AV.int (q5 1))); let q7 := (Nt.mk (Nt.n q1 * Nt.d q4) (Nt.d q1 * Nt.n q4)); let q6 := (Nt.mk (AV.int (aI (Nt.n q7))) (AV.int (aI (Nt.d q7)))); zb
 [AV.str a, AV.str b] → zV (!b == bA #[(48 : UInt8)]) (zZ a = true ∧ zZ b = true ∧ (((-99999999 : Int) ≤ Nt.n q1 ∧ Nt.n q1 ≤ (99999999 : Int)) ∧ iZ < Nt.d q1 ∧ Nt.d q1 ≤ (99999999 : Int)) ∧ (((-99999999 : Int) ≤ Nt.n q4 ∧ Nt.n q4 ≤ (99999999 : Int)) ∧ iZ < Nt.d q4 ∧ Nt.d q4 ≤ (99999999 : Int)) ∧ Nt.d q6 ≠ iZ ∧ ((-1000000000000000000 : Int) ≤ Nt.d q6 ∧ Nt.d q6 ≤ (1000000000000000000 : Int)) ∧ ((-1000000000000000000 : Int) ≤ Nt.n q6 ∧ Nt.n q6 ≤ (1000000000000000000 : Int)) ∧ j2 ∧ (True ∧ vJ
 (Nt.n q6) (Nt.d q6) = zI a b) ∧ kI ∧ iZ = iZ) (False ∧ j2 ∧ (True ∧ [] = zI a b) ∧ kI ∧ iZ = iZ) := by
 delta bA cI kI j2 iZ aI
 dsimp only
 intro hb
 simp only [sS, dS]
 have h0 : (b == [48]) = false := beq_eq_false_iff_ne.2 fun e => by subst e; exact hp (by decide)
 rw [h0]
 show zZ a = true ∧ zZ b = true ∧ wY ⟨zv a, (zU a : Int)⟩ ∧ wY ⟨zv b, (zU b : Int)⟩ ∧ (zU a : Int) * zv b ≠ 0 ∧ (-1000000000000000000 ≤ (zU a : Int) * zv b ∧ (zU a : Int) * zv b ≤ 1000000000000000000) ∧ (-1000000000000000000 ≤ zv a * (zU b : Int) ∧ zv a * (zU b : Int) ≤ 1000000000000000000) ∧ 2 = [AV.junk, AV.junk].length ∧ vJ (zv a * (zU b : Int)) ((zU a : Int) * zv b) = zI a b
 obtain ⟨a1, a2, a3, a4⟩ := Z8 ha
 obtain ⟨b1, b2, b3, b4⟩ := Z8 hc
 have m1 := Z0 (a := zv a) (b := (zU b : Int)) ⟨by omega, by omega⟩ ⟨by omega, by omega⟩
 have m2 := Z0 (a := (zU a : Int)) (b := zv b) ⟨by omega, by omega⟩ ⟨by omega, by omega⟩
 exact ⟨ha, hc, wt ha, wt hc, Int.mul_ne_zero (by omega) hp, ⟨by omega, by omega⟩, ⟨by omega, by omega⟩, rfl, rfl⟩
theorem PH {G : List (Nat × Obj)} (hG : zN G) (a : List UInt8) (b : List UInt8) (ha : zZ a = true) (hc : zZ b = true) (hp : zv b ≠ 0) : zu Tryz.prog G 52 [.str a, .str b] (.tup 2 (zX [.str (zI a b), .i 0])) :=
 zW (T := (OE G).plus 55 (OM (.tup 2 (zX [.str [], .i 0])))) (an := .auto) mixed (zz.plus (wU hG) (sU _)) (Eq.mp (by kernel_rfl) (Qi G a b ha hc hp))
theorem tV {G : List (Nat × Obj)} (hG : zN G) : zP Tryz.prog G 52 WU := by
 intro xs ps r h hp
 unfold WU at h
 split at h
 ·skip
  rename_i a b
  cases h
  obtain ⟨q0, q1, q2, -⟩ := Zv hp
  exact weaken (ys := [.str a, .str b]) ⟨zw _, zw _, trivial⟩ (PH hG a b q0 q1 q2)
 ·cases h
def V7 : List AV → Option (List zO × AV)
 | [.str a, .str b] => some ([.p (zZ a = true), .p (zZ b = true)], .tup 2 (zX [.i (YK (zv a * (zU b : Int)) (zv b * (zU a : Int))), .i 0]))
 | _ => none
theorem QA (a : List UInt8) (b : List UInt8) (ha : zZ a = true) (hc : zZ b = true) :
 zb [AV.str a, AV.str b] → zZ a = true ∧ zZ b = true ∧ bF (dK (zv a * (cI (zU b)))) (bF (dK (zv b * (cI (zU a)))) (j2 ∧ (True ∧ kI ∧ YK (zv a * (cI (zU b))) (zv b * (cI (zU a))) = YK (zv a * (cI (zU b))) (zv b * (cI (zU a)))) ∧ kI ∧ iZ = iZ)) := by
 delta bF dK cI kI j2 iZ
 intro hb
 simp only [sS, dS]
 obtain ⟨a1, a2, a3, a4⟩ := Z8 ha
 obtain ⟨b1, b2, b3, b4⟩ := Z8 hc
 have m1 := Z0 (a := zv a) (b := (zU b : Int)) ⟨by omega, by omega⟩ ⟨by omega, by omega⟩
 have m2 := Z0 (a := zv b) (b := (zU a : Int)) ⟨by omega, by omega⟩ ⟨by omega, by omega⟩
 exact ⟨ha, hc, ⟨by omega, by omega⟩, ⟨by omega, by omega⟩, rfl⟩
theorem Pw (a : List UInt8) (b : List UInt8) (ha : zZ a = true) (hc : zZ b = true) : zu Tryz.prog [] 28 [.str a, .str b] (.tup 2 (zX [.i (YK (zv a * (zU b : Int)) (zv b * (zU a : Int))), .i 0])) :=
 zW (T := (T0.plus 65 w7).plus 66 tC) (an := .auto) mixed (zz.plus (zz.plus zq sX) pi) (Eq.mp (by kernel_rfl) (QA a b ha hc))
theorem Rv : zP Tryz.prog [] 28 V7 := by
 intro xs ps r h hp
 unfold V7 at h
 split at h
 ·skip
  rename_i a b
  cases h
  obtain ⟨q0, q1, -⟩ := Zv hp
  exact weaken (ys := [.str a, .str b]) ⟨zw _, zw _, trivial⟩ (Pw a b q0 q1)
 ·cases h
def YB : List AV → Option (List zO × AV)
 | [.str s, .str p] => some ([.b (p == [45]), .p (zE s = false)], .b false)
 | _ => none
theorem X9 : zP Tryz.prog [] 80 YB := by
 intro xs ps r h hp
 unfold YB at h
 split at h
 ·rename_i s p
  cases h
  have q : (p == [45]) = true := hp _ List.mem_cons_self
  have q1 : zE s = false := hp _ (List.mem_cons_of_mem _ List.mem_cons_self)
  have : zu Tryz.prog [] 80 [.str s, .str p] (.b (zE s)) := ot [.str s, .str p] _ _ rfl fun c hc => by
   rw [List.mem_singleton] at hc
   rw [hc]; exact q
  rw [q1] at this
  exact this
 ·cases h
noncomputable def nq (G : List (Nat × Obj)) : Tb := (((wB G).plus 80 YB).plus 102 To).plus 103 t6
theorem Sw {G : List (Nat × Obj)} (hG : zN G) : zz Tryz.prog (nq G) := zz.plus (zz.plus (zz.plus zq (zP.mono X9)) (Pz hG)) (Px hG)
def Tz : List AV → Option (List zO × AV)
 | [.str n, .str d] => some ([.p (Zp n), .p (Zp d), .p (0 < zS d)], .tup 2 (zX [.str (zY (zS n) (zS d).toNat), .i 0]))
 | _ => none
theorem QE (G : List (Nat × Obj)) (n : List UInt8) (d : List UInt8) (hn : Zp n) (hd : Zp d) (hp : 0 < zS d) :
 let q1 := (ByteArray.data (ByteArray.mk #[(49 : UInt8)])); let q2 := (ZV (Lib.itoa (cI (XZ n d))) = true ∧ lN (Lib.itoa (cI (XZ n d))) ≤ 18); let q3 := (zS d / zS (Lib.itoa (cI (XZ n d)))); let q4 := (zS n / zS (Lib.itoa (cI (XZ n d)))); let q5 := (ByteArray.data (ByteArray.mk #[(47 : UInt8)])); zb [AV.str n, AV.str d] → zE d = false ∧ (ZV n = true ∧ lN n ≤ 18) ∧ (ZV d = true ∧ lN d ≤ 18) ∧ zV (!Lib.itoa (cI (XZ n d)) == Array.toList q1) ((ZV n = true ∧ lN n ≤ 18) ∧ q2 ∧ iZ < zS (Lib.itoa (cI (XZ
 n d))) ∧ (ZV d = true ∧ lN d ≤ 18) ∧ q2 ∧ iZ < zS (Lib.itoa (cI (XZ n d))) ∧ zV (Lib.itoa q3 == Array.toList q1) (j2 ∧ (True ∧ Lib.itoa q4 = zY (zS n) (Int.toNat (zS d))) ∧ kI ∧ iZ = iZ) (bF (DB.db (lN (Lib.itoa q4) + 1 ≤ nX)) (bF (DB.db (lN (Lib.itoa q4 ++ Array.toList q5) + lN (Lib.itoa q3) ≤ nX)) (j2 ∧ (True ∧ Lib.itoa q4 ++ Array.toList q5 ++ Lib.itoa q3 = zY (zS n) (Int.toNat (zS
 d))) ∧ kI ∧ iZ = iZ)))) (zV (d == Array.toList q1) (j2 ∧ (True ∧ n = zY (zS n) (Int.toNat (zS d))) ∧ kI ∧ iZ = iZ) (bF (DB.db (lN n + 1 ≤ nX)) (bF (DB.db (lN (n ++ Array.toList q5) + lN d ≤ nX)) (j2 ∧ (True ∧ n ++ Array.toList q5 ++ d = zY (zS n) (Int.toNat (zS d))) ∧ kI ∧ iZ = iZ)))) := by
 delta bF nX cI kI j2 lN iZ
 dsimp only
 intro hb
 simp only [sS, dS]
 have x1 := Ss hn
 have x2 := Ss hd
 obtain ⟨n1, n2⟩ := hn
 obtain ⟨d1, d2⟩ := hd
 have hm : zE d = false := by
  rcases ym d1 with ⟨r, rfl, h1, _, h3⟩ | ⟨h1, h3⟩
  ·rw [h3] at hp; omega
  ·cases hm : zE d with
   | false => rfl
   | true =>
    match d, hm, h1 with
    | c :: r, hm, h1 =>
     have hc : c = 45 := eq_of_beq hm
     subst hc
     exact (xZ h1).elim
 obtain ⟨g1, g2, g3, g4, g5, g6⟩ := T6 (zS n) hp
 obtain ⟨s1, s2⟩ := UT (zS n) (zS d).toNat
 have hg : XZ n d = Nat.gcd (zS n).natAbs (zS d).toNat := by unfold XZ; congr 1; omega
 have gl : Nat.gcd (zS n).natAbs (zS d).toNat ≤ (zS d).toNat := Nat.le_of_dvd (by omega) (Nat.gcd_dvd_right _ _)
 have vd : zS d / (Nat.gcd (zS n).natAbs (zS d).toNat : Int) = (((zS d).toNat / Nat.gcd (zS n).natAbs (zS d).toNat : Nat) : Int) := by
  rw [Int.natCast_ediv]; congr 1; omega
 have en := YD n1
 have ed := YD d1
 rw [hg, (y7 _).2, vd]
 have hone := su (Nat.gcd (zS n).natAbs (zS d).toNat)
 have hi := (y7 (Nat.gcd (zS n).natAbs (zS d).toNat : Int)).1
 have hlen : (Lib.itoa (Nat.gcd (zS n).natAbs (zS d).toNat : Int)).length ≤ 18 := by
  rw [YZ, if_neg (by omega)]
  exact Y7 (by decide) (by rw [Int.natAbs_natCast]; omega)
 have hone2 := su ((zS d).toNat / Nat.gcd (zS n).natAbs (zS d).toNat)
 have l1 := Vp (n := zS n / (Nat.gcd (zS n).natAbs (zS d).toNat : Int)) (by omega)
 have l2 := Vp (n := (((zS d).toNat / Nat.gcd (zS n).natAbs (zS d).toNat : Nat) : Int)) (by omega)
 refine ⟨hm, ⟨n1, n2⟩, ⟨d1, d2⟩, zR.2 ⟨fun c => ⟨⟨n1, n2⟩, ⟨hi, hlen⟩, g1, ⟨d1, d2⟩, ⟨hi, hlen⟩, g1, ?_⟩, fun c => ?_⟩⟩
 ·rw [hone2]
  refine zR.2 ⟨fun c2 => ⟨rfl, s1 (Nat.eq_of_beq_eq_true c2)⟩, fun c2 => ⟨by omega, by rw [List.length_append, List.length_singleton]; omega, rfl, s2 fun e => by rw [e] at c2; cases c2⟩⟩
 ·rw [Bool.not_eq_false', hone] at c
  have c1 := Nat.eq_of_beq_eq_true c
  rw [c1] at s1 s2
  have e1 : zS n / ((1 : Nat) : Int) = zS n := Int.ediv_one _
  have e2 : (((zS d).toNat / 1 : Nat) : Int) = zS d := by rw [Nat.div_one]; omega
  rw [e1, e2, en, ed] at s2
  rw [e1, en] at s1
  refine zR.2 ⟨fun c2 => ⟨rfl, s1 ?_⟩, fun c2 => ⟨by omega, by rw [List.length_append, List.length_singleton]; omega, rfl, s2 fun e => ?_⟩⟩
  ·have : d = [49] := eq_of_beq c2
   subst this
   decide
  ·rw [Nat.div_one] at e
   have : zS d = ((1 : Nat) : Int) := by omega
   rw [this, Go.Ar.YQ, zg (by decide)] at ed
   rw [← ed] at c2
   cases c2
theorem pL {G : List (Nat × Obj)} (hG : zN G) (n : List UInt8) (d : List UInt8) (hn : Zp n) (hd : Zp d) (hp : 0 < zS d) : zu Tryz.prog G 58 [.str n, .str d] (.tup 2 (zX [.str (zY (zS n) (zS d).toNat), .i 0])) :=
 zW (T := nq G) (an := .auto) mixed (Sw hG) (Eq.mp (by kernel_rfl) (QE G n d hn hd hp))
theorem oz {G : List (Nat × Obj)} (hG : zN G) : zP Tryz.prog G 58 Tz := by
 intro xs ps r h hp
 unfold Tz at h
 split at h
 ·skip
  rename_i n d
  cases h
  obtain ⟨q0, q1, q2, -⟩ := Zv hp
  exact weaken (ys := [.str n, .str d]) ⟨zw _, zw _, trivial⟩ (pL hG n d q0 q1 q2)
 ·cases h
def Vt : List AV → Option (List zO × AV)
 | [.v (.int .i64 n), .v (.int .i64 d)] => some ([.p (-10000000000000000 ≤ n ∧ n ≤ 10000000000000000), .p (0 < d ∧ d ≤ 10000000000000000)], .tup 2 (zX [.str (zY n d.toNat), .i 0]))
 | _ => none
theorem P3 (G : List (Nat × Obj)) (n : Int) (d : Int) (hn : -10000000000000000 ≤ n ∧ n ≤ 10000000000000000) (hd : 0 < d ∧ d ≤ 10000000000000000) :
 zb [aI n, aI d] → zV (d == iZ) (j2 ∧ (True ∧ bA #[] = zY n (Int.toNat d)) ∧ kI ∧ (12 : Int) = iZ) (zV (d == iO) ((iN ≤ n ∧ n ≤ iX) ∧ j2 ∧ (True ∧ Lib.itoa n = zY n (Int.toNat d)) ∧ kI ∧ iZ = iZ) ((iN ≤ n ∧ n ≤ iX) ∧ (iN ≤ d ∧ d ≤
 iX) ∧ (ZV (Lib.itoa n) = true ∧ lN (Lib.itoa n) ≤ 18) ∧ (ZV (Lib.itoa d) = true ∧ lN (Lib.itoa d) ≤ 18) ∧ iZ < zS (Lib.itoa d) ∧ j2 ∧ (True ∧ zY (zS (Lib.itoa n)) (Int.toNat (zS (Lib.itoa d))) = zY n (Int.toNat d)) ∧ kI ∧ iZ = iZ)) := by
 delta bA kI j2 lN iZ iO iX iN aI
 intro hb
 simp only [sS, dS]
 have i1 := y7 n
 have i2 := y7 d
 have l1 : (Lib.itoa n).length ≤ 18 := by
  rw [YZ]
  have : vk n ≤ 17 := Y7 (by decide) (Nat.lt_of_le_of_lt (m := 10000000000000000) (by omega) (by decide))
  split <;> omega
 have l2 : (Lib.itoa d).length ≤ 18 := by
  rw [YZ]
  have : vk d ≤ 17 := Y7 (by decide) (Nat.lt_of_le_of_lt (m := 10000000000000000) (by omega) (by decide))
  split <;> omega
 rw [i1.2, i2.2]
 exact ⟨fun h => by omega, fun _ => ⟨fun h => ⟨⟨by omega, by omega⟩, rfl, by rw [h]; exact Ze.symm⟩, fun _ => ⟨⟨by omega, by omega⟩, ⟨by omega, by omega⟩, ⟨i1.1, l1⟩, ⟨i2.1, l2⟩, hd.1, rfl, rfl⟩⟩⟩
theorem oD {G : List (Nat × Obj)} (hG : zN G) (n : Int) (d : Int) (hn : -10000000000000000 ≤ n ∧ n ≤ 10000000000000000) (hd : 0 < d ∧ d ≤ 10000000000000000) : zu Tryz.prog G 38 [.i n, .i d] (.tup 2 (zX [.str (zY n d.toNat), .i 0])) :=
 zW (T := (oG G).plus 58 Tz) (an := .auto) mixed (zz.plus (xD hG) (oz hG)) (Eq.mp (by kernel_rfl) (P3 G n d hn hd))
theorem sL {G : List (Nat × Obj)} (hG : zN G) : zP Tryz.prog G 38 Vt := by
 intro xs ps r h hp
 unfold Vt at h
 split at h
 ·skip
  rename_i n d
  cases h
  obtain ⟨q0, q1, -⟩ := Zv hp
  exact weaken (ys := [.i n, .i d]) ⟨zw _, zw _, trivial⟩ (oD hG n d q0 q1)
 ·cases h
end Go.Te

namespace Go.Te
open Go Go.Sx Go.Proofs Go.Ar Go.RowKit
set_option maxRecDepth 100000
set_option maxHeartbeats 4000000
def V5 : List AV → Option (List zO × AV)
 | [.v (.int .u64 x)] => some ([.p (0 ≤ x ∧ x ≤ 18446744073709551615)], .i (Lib.bitLen x.toNat))
 | _ => none
theorem R8 : zP Tryz.prog [] 137 V5 := by
 intro xs ps r h hp
 unfold V5 at h
 split at h
 ·rename_i x
  cases h
  have q : 0 ≤ x ∧ x ≤ 18446744073709551615 := hp _ List.mem_cons_self
  refine ⟨enters_of Tryz.func137 (by kernel_rfl) rfl, fun w S vals hS hg hr => ?_⟩
  match vals, hr with
  | [v], ⟨hv, _⟩ =>
  obtain rfl := zD hv
  refine (Tryz.bits_Len x w q.1 q.2).mono ?_
  rintro e w' ⟨rfl, rfl⟩
  exact ⟨⟨Below.refl _ _, Nat.le_refl _⟩, _, rfl, .v _⟩
 ·cases h
theorem pp : ∀ (f x : Nat), x < 2 ^ f → x < 2 ^ Lib.bitLenAux f x ∧ (x ≠ 0 → 2 ^ Lib.bitLenAux f x ≤ 2 * x) ∧ (x = 0 → Lib.bitLenAux f x = 0)
 | 0, x, h => by
  have : x = 0 := by simpa using h
  subst this
  exact ⟨by decide, fun h => absurd rfl h, fun _ => rfl⟩
 | f + 1, x, h => by
  unfold Lib.bitLenAux
  split
  ·rename_i h0
   exact ⟨by rw [h0]; decide, fun h1 => absurd h0 h1, fun _ => rfl⟩
  ·rename_i h0
   obtain ⟨h1, h2, h3⟩ := pp f (x / 2) (by rw [Nat.pow_succ] at h; omega)
   rw [Nat.pow_add]
   refine ⟨by omega, fun _ => ?_, fun e => absurd e h0⟩
   by_cases hx : x / 2 = 0
   ·rw [h3 hx]; omega
   ·have := h2 hx
    omega
theorem OA {x : Nat} (h0 : x ≠ 0) (h : x ≤ 1000000000000000000) : x < 2 ^ Lib.bitLen x ∧ Lib.bitLen x ≤ 60 := by
 obtain ⟨h1, h2, _⟩ := pp 64 x (Nat.lt_of_le_of_lt h (by decide))
 refine ⟨h1, Nat.le_of_not_lt fun hl => ?_⟩
 have := h2 h0
 have h3 : 2 ^ 61 ≤ 2 ^ Lib.bitLenAux 64 x := Nat.pow_le_pow_right (by omega) hl
 have h4 : 2 ^ 61 = 2305843009213693952 := by decide
 omega
def R9 (n : Int) : yw :=
 .two .auto (.two .auto (.two .auto (.one (.loop Nat (fun σ z => [(0, σ.tm 0), (3, .i (z : Int))]) (fun σ z => []) 0 (fun σ z => 0 < z ∧ z ≤ 4294967296 ∧ n.toNat < (z + 1) * (z + 1)) (fun σ z => z) .auto))))
def un : List AV → Option (List zO × AV)
 | [.v (.int .i64 n)] => some ([.p (0 ≤ n ∧ n ≤ 1000000000000000000)], .i (Xg n.toNat : Int))
 | _ => none
theorem rY (n : Int) (h : 0 ≤ n ∧ n ≤ 1000000000000000000) :
 zb [aI n] → zV (zA n (2 : Int)) (kI ∧ n = (cI (Xg (Int.toNat n)))) (bF (DB.db (yE IntKind.u64 n)) ((iZ ≤ n ∧ n ≤ (18446744073709551615 : Int)) ∧ bF (dK ((cI (Lib.bitLen (Int.toNat n))) + iO)) (bF (DB.db (yE .i64 (Int.tdiv ((cI (Lib.bitLen (Int.toNat n))) + iO) (2 : Int)))) ((∃ (z : Nat), ((0 < z ∧ z ≤ 4294967296 ∧ Int.toNat n < (z + 1) * (z + 1)) ∧ (kI ∧ n = n) ∧ kI ∧ IntKind.wrap IntKind.i64 (iO * (2 : Int) ^ min (Int.toNat (Int.tdiv ((cI (Lib.bitLen
 (Int.toNat n))) + iO) (2 : Int))) 64) = (cI z)) ∧ True) ∧ ∀ (z : Nat), 0 < z ∧ z ≤ 4294967296 ∧ Int.toNat n < (z + 1) * (z + 1) → bF (DB.db ((cI z) ≠ iZ)) (bF (dK (Int.tdiv n (cI z))) (bF (dK ((cI z) + Int.tdiv n (cI z))) (bF (dK (Int.tdiv ((cI z) + Int.tdiv n (cI z)) (2 : Int))) (zV (leB (cI z) (Int.tdiv ((cI z) + Int.tdiv n (cI z)) (2 : Int))) (kI ∧ (cI z) = (cI (Xg (Int.toNat n)))) (∃ (z' : Nat), (((0 < z' ∧ z' ≤ 4294967296 ∧ Int.toNat n < (z' +
 1) * (z' + 1)) ∧ z' < z) ∧ (kI ∧ n = n) ∧ kI ∧ Int.tdiv ((cI z) + Int.tdiv n (cI z)) (2 : Int) = (cI z')) ∧ True))))))))) := by
 delta bF dK cI kI iZ iO aI
 intro hb
 simp only [sS, dS]
 obtain ⟨m, rfl⟩ : ∃ m : Nat, n = m := ⟨n.toNat, by omega⟩
 rw [Int.toNat_natCast]
 refine ⟨fun hs => ?_, fun hs => ?_⟩
 ·have : m = 0 ∨ m = 1 := by omega
  rcases this with rfl | rfl <;> decide +kernel
 obtain ⟨b1, b2⟩ := OA (x := m) (by omega) (by omega)
 have hm64 : m < 18446744073709551616 := by omega
 obtain ⟨s1, s2⟩ := Wu hm64
 have hk : ((Lib.bitLen m : Int) + 1).tdiv 2 = (((Lib.bitLen m + 1) / 2 : Nat) : Int) := by
  rw [Int.tdiv_eq_ediv_of_nonneg (by omega)]; omega
 have hp : 2 ^ ((Lib.bitLen m + 1) / 2) ≤ 2 ^ 31 := Nat.pow_le_pow_right (by omega) (by omega)
 have hp2 : 2 ^ Lib.bitLen m ≤ 2 ^ ((Lib.bitLen m + 1) / 2) * 2 ^ ((Lib.bitLen m + 1) / 2) := by
  rw [← Nat.pow_add]
  exact Nat.pow_le_pow_right (by omega) (by omega)
 have hp0 : 0 < 2 ^ ((Lib.bitLen m + 1) / 2) := Nat.pow_pos (by omega)
 have h31 : 2 ^ 31 = 2147483648 := by decide
 rw [hk, Int.toNat_natCast, show min ((Lib.bitLen m + 1) / 2) 64 = (Lib.bitLen m + 1) / 2 by omega, Int.one_mul, show ((2 : Int) ^ ((Lib.bitLen m + 1) / 2)) = ((2 ^ ((Lib.bitLen m + 1) / 2) : Nat) : Int) by rw [Int.natCast_pow]; rfl]
 generalize 2 ^ ((Lib.bitLen m + 1) / 2) = z0 at *
 refine ⟨by simp only [yE]; omega, ⟨by omega, by omega⟩, by simp only [yE]; omega, by simp only [yE]; omega, ⟨z0, ⟨hp0, by omega, ?_⟩, ?_⟩, fun z ⟨z1, z2, z3⟩ => ?_⟩
 ·have : (z0 + 1) * (z0 + 1) = z0 * z0 + 2 * z0 + 1 := by grind
  omega
 ·rw [Y9 (by simp only [yE]; omega)]
 have e1 : (m : Int).tdiv (z : Int) = ((m / z : Nat) : Int) := by rw [Int.tdiv_eq_ediv_of_nonneg (by omega), Int.natCast_ediv]
 have hml : m / z ≤ m := Nat.div_le_self _ _
 have g1 := qg (n := m) (r := z) (s := Xg m) z1 s1
 have g2 := s0 (n := m) (r := z) z1
 have hs0 : 0 < Xg m := Nat.pos_of_ne_zero fun e => by rw [e] at s2; omega
 rw [e1]
 generalize m / z = q at *
 have e2 : ((z : Int) + (q : Int)).tdiv 2 = (((z + q) / 2 : Nat) : Int) := by rw [Int.tdiv_eq_ediv_of_nonneg (by omega)]; omega
 rw [e2]
 refine ⟨by omega, by simp only [yE]; omega, by simp only [yE]; omega, by simp only [yE]; omega, fun h => ?_, fun h => ⟨(z + q) / 2, ⟨⟨by omega, by omega, ?_⟩, by omega⟩, rfl⟩⟩
 ·rw [Rc hm64 (g2 (by omega)) z3]
 ·exact Nat.lt_of_lt_of_le s2 (Nat.mul_le_mul (by omega) (by omega))
theorem Qp (n : Int) (h : 0 ≤ n ∧ n ≤ 1000000000000000000) : zu Tryz.prog [] 235 [.i n] (.i (Xg n.toNat : Int)) :=
 zW (T := T0.plus 137 V5) (an := R9 n) mixed (zz.plus zq R8) (Eq.mp (by kernel_rfl) (rY n h))
theorem QN : zP Tryz.prog [] 235 un := by
 intro xs ps r h hp
 unfold un at h
 split at h
 ·skip
  rename_i n
  cases h
  obtain ⟨q0, -⟩ := Zv hp
  exact weaken (ys := [.i n]) ⟨zw _, trivial⟩ (Qp n q0)
 ·cases h
theorem qO : ∀ i ∈ List.range 25, ZV (strOf (zr.getD i undef)) = true ∧ zS (strOf (zr.getD i undef)) = (zB.getD i 0 : Int) ∧ (strOf (zr.getD i undef)).length ≤ 18 := by decide
theorem s9 : ∀ z ∈ List.range 25, zB.take (z + 1) = zB.take z ++ [zB.getD z 0] ∧ 2 ≤ zB.getD z 0 ∧ zB.getD z 0 < 98 := by decide
noncomputable def nv (G : List (Nat × Obj)) : Tb := (((oG G).plus 143 WS).plus 235 un).plus 38 Vt
theorem SK {G : List (Nat × Obj)} (hG : zN G) : zz Tryz.prog (nv G) := zz.plus (zz.plus (zz.plus (xD hG) (zP.mono tP)) (zP.mono QN)) (sL hG)
def UZ (m : Nat) (z : Nat) : Nat × Nat := ZO (zB.take z) (1, m)
def R2 (m : Nat) : yw :=
 .two .auto (.two .auto (.two (.two .auto (.one (.loop Nat (fun σ z => [(1, σ.tm 1), (18, σ.tm 18), (6, .i ((UZ m z).1 : Int)), (7, .i ((UZ m z).2 : Int)), (19, .i (z : Int))]) (fun σ z => []) 0 (fun σ z => z ≤ 25) (fun σ z => 25 - z) (.two .auto (.two .auto (.two (.one (.two .auto (.two .auto (.one (.loop (Nat × Nat) (fun σ z => [(1, σ.tm 1), (10, σ.tm 10), (18, σ.tm 18), (19, σ.tm 19), (6, .i (z.1 : Int)), (7, .i (z.2 : Int))]) (fun σ z => []) 0 (fun σ z => 0 < z.1 ∧ 0 < z.2 ∧ z.1 * z.1 * z.2 = m ∧ strip (AV.int (σ.tm 10)).toNat z = UZ m ((AV.int (σ.tm 19)).toNat + 1)) (fun σ z => z.2) .auto))))) .auto)))))) .auto))
theorem Ra (t : TypeId) (fr : Nat × Nat) (G : List (Nat × Obj)) (n d : Int) (hn : 0 < n) (hd : 0 < d ∧ d ≤ 10000000000000000) (hm : n * d ≤ 100000000000000000) :
 let q1 := (25 = 25 ∧ (((((((((((((((((((((((strOf (Array.getD zr (nat_lit 0) undef) = strOf (Array.getD zr (nat_lit 0) undef) ∧ strOf (Array.getD zr (nat_lit 1) undef) = strOf (Array.getD zr (nat_lit 1) undef)) ∧ strOf (Array.getD zr (nat_lit 2) undef) = strOf (Array.getD zr (nat_lit 2) undef)) ∧ strOf (Array.getD zr (nat_lit 3) undef) = strOf (Array.getD zr (nat_lit 3) undef)) ∧ strOf (Array.getD zr (nat_lit 4) undef) = strOf (Array.getD zr (nat_lit 4) undef)) ∧ strOf (Array.getD zr (nat_lit 5) undef) = strOf (Array.getD zr (nat_lit
 5) undef)) ∧ strOf (Array.getD zr (nat_lit 6) undef) = strOf (Array.getD zr (nat_lit 6) undef)) ∧ strOf (Array.getD zr (nat_lit 7) undef) = strOf (Array.getD zr (nat_lit 7) undef)) ∧ strOf (Array.getD zr (nat_lit 8) undef) = strOf (Array.getD zr (nat_lit 8) undef)) ∧ strOf (Array.getD zr (nat_lit 9) undef) = strOf (Array.getD zr (nat_lit 9) undef)) ∧ strOf (Array.getD zr (nat_lit 10) undef) = strOf (Array.getD zr (nat_lit 10) undef)) ∧ strOf (Array.getD zr (nat_lit 11) undef) = strOf (Array.getD zr (nat_lit 11) undef)) ∧ strOf
 (Array.getD zr (nat_lit 12) undef) = strOf (Array.getD zr (nat_lit 12) undef)) ∧ strOf (Array.getD zr (nat_lit 13) undef) = strOf (Array.getD zr (nat_lit 13) undef)) ∧ strOf (Array.getD zr (nat_lit 14) undef) = strOf (Array.getD zr (nat_lit 14) undef)) ∧ strOf (Array.getD zr (nat_lit 15) undef) = strOf (Array.getD zr (nat_lit 15) undef)) ∧ strOf (Array.getD zr (nat_lit 16) undef) = strOf (Array.getD zr (nat_lit 16) undef)) ∧ strOf (Array.getD zr (nat_lit 17) undef) = strOf (Array.getD zr (nat_lit 17) undef)) ∧ strOf (Array.getD zr
 (nat_lit 18) undef) = strOf (Array.getD zr (nat_lit 18) undef)) ∧ strOf (Array.getD zr (nat_lit 19) undef) = strOf (Array.getD zr (nat_lit 19) undef)) ∧ strOf (Array.getD zr (nat_lit 20) undef) = strOf (Array.getD zr (nat_lit 20) undef)) ∧ strOf (Array.getD zr (nat_lit 21) undef) = strOf (Array.getD zr (nat_lit 21) undef)) ∧ strOf (Array.getD zr (nat_lit 22) undef) = strOf (Array.getD zr (nat_lit 22) undef)) ∧ strOf (Array.getD zr (nat_lit 23) undef) = strOf (Array.getD zr (nat_lit 23) undef)) ∧ strOf (Array.getD zr (nat_lit 24) undef)
 = strOf (Array.getD zr (nat_lit 24) undef)); let q14 := (iZ < d ∧ d ≤ (10000000000000000 : Int)); let q15 := (cI (Prod.fst (yt (Int.toNat (n * d))))); let q16 := (cI (Prod.snd (yt (Int.toNat (n * d))))); zb [aI n, aI d] → bF (dK (n * d)) ((∃ (z : Nat), (z ≤ 25 ∧ (kI ∧ d = d) ∧ q1 ∧ (kI ∧ iO = (cI (Prod.fst (UZ (Int.toNat (n * d)) z)))) ∧ (kI ∧ n * d = (cI (Prod.snd (UZ (Int.toNat (n * d)) z)))) ∧ kI ∧ iZ = (cI z)) ∧ True) ∧ ∀
 (z : Nat), let q2 := (strOf (Array.getD zr (Int.toNat (cI z)) undef)); let q3 := (Int.toNat (AV.int (aI (zS q2)))); let q4 := (Int.toNat (AV.int (aI (cI z))) + 1); let q5 := (kI ∧ zS q2 = zS q2); let q6 := (kI ∧ (cI z) = (cI z)); let q7 := (cI (Prod.fst (UZ (Int.toNat (n * d)) z))); let q8 := (cI (Prod.snd (UZ (Int.toNat (n * d)) z))); let q10 := (zS q2 * zS q2); let q9 := (dK q10); let q11 := (DB.db (zS q2 * zS q2 ≠ iZ)); let q12 := (↑(Xg (Int.toNat q8)) :
 Int); let q13 := (q7 * q12); z ≤ 25 → zV (zA (cI z) (25 : Int)) (bF (DB.db (iZ ≤ (cI z) ∧ (cI z) < (↑25 : Int))) (bF (ZV q2) (lN q2 ≤ 18 ∧ (∃ (z_1 : Nat × Nat), ((0 < Prod.fst z_1 ∧ 0 < Prod.snd z_1 ∧ Prod.fst z_1 * Prod.fst z_1 * Prod.snd z_1 = Int.toNat (n * d) ∧ strip q3 z_1 = UZ (Int.toNat (n * d)) q4) ∧ (kI ∧ d = d) ∧ q5 ∧ q1 ∧ q6 ∧ (kI ∧ q7 = (cI (Prod.fst z_1))) ∧ kI ∧ q8 = (cI (Prod.snd z_1))) ∧ True) ∧ ∀ (z_1 : Nat × Nat), 0 < Prod.fst z_1 ∧ 0 < Prod.snd z_1 ∧ Prod.fst z_1 * Prod.fst z_1
 * Prod.snd z_1 = Int.toNat (n * d) ∧ strip q3 z_1 = UZ (Int.toNat (n * d)) q4 → bF q9 (bF q11 (zV (Int.tmod (cI (Prod.snd z_1)) q10 == iZ) (bF (dK ((cI (Prod.fst z_1)) * zS q2)) (bF q9 (bF q11 (bF (dK (Int.tdiv (cI (Prod.snd z_1)) q10)) (∃ (z' : Nat × Nat), (((0 < Prod.fst z' ∧ 0 < Prod.snd z' ∧ Prod.fst z' * Prod.fst z' * Prod.snd z' = Int.toNat (n * d) ∧ strip q3 z' = UZ (Int.toNat (n * d)) q4) ∧ Prod.snd z' < Prod.snd z_1) ∧ (kI ∧ d = d) ∧ q5 ∧ q1 ∧ q6 ∧ (kI ∧ (↑(Prod.fst z_1) :
 Int) * zS q2 = (cI (Prod.fst z'))) ∧ kI ∧ Int.tdiv (cI (Prod.snd z_1)) q10 = (cI (Prod.snd z'))) ∧ True))))) (bF (dK ((cI z) + iO)) (∃ (z' : Nat), ((z' ≤ 25 ∧ 25 - z' < 25 - z) ∧ (kI ∧ d = d) ∧ q1 ∧ (kI ∧ (cI (Prod.fst z_1)) = (cI (Prod.fst (UZ (Int.toNat (n * d)) z')))) ∧ (kI ∧ (cI (Prod.snd z_1)) = (cI (Prod.snd (UZ (Int.toNat (n * d)) z')))) ∧ kI ∧ (cI z) + iO = (cI z')) ∧ True)))))))
 ((iZ ≤ q8 ∧ q8 ≤ (1000000000000000000 : Int)) ∧ bF (dK (q12 * q12)) (zV (q12 * q12 == q8) (bF (dK q13) (((-10000000000000000 : Int) ≤ q7 * q12 ∧ q7 * q12 ≤ (10000000000000000 : Int)) ∧ q14 ∧ (iN ≤ iO ∧ iO ≤ iX) ∧ j2 ∧ (True ∧ zY q13 (Int.toNat d) = zY q15 (Int.toNat d)) ∧ Lib.itoa iO = Lib.itoa q16)) (((-10000000000000000 : Int) ≤ q7 ∧ q7 ≤ (10000000000000000 : Int)) ∧ q14 ∧ (iN ≤ q8 ∧ q8 ≤
 iX) ∧ j2 ∧ (True ∧ zY q7 (Int.toNat d) = zY q15 (Int.toNat d)) ∧ Lib.itoa q8 = Lib.itoa q16)))) := by
 delta bF dK cI kI j2 lN iZ iO iX iN aI
 dsimp only
 intro hb
 simp only [sS, dS]
 obtain ⟨N, rfl⟩ : ∃ N : Nat, n = N := ⟨n.toNat, by omega⟩
 obtain ⟨D, rfl⟩ : ∃ D : Nat, d = D := ⟨d.toNat, by omega⟩
 rw [← Int.natCast_mul] at *
 rw [Int.toNat_natCast, Int.toNat_natCast]
 have hm0 : 0 < N * D := Nat.mul_pos (by omega) (by omega)
 generalize N * D = m at *
 have hS : ∀ z, Pr (1, m) (UZ m z) := fun z => (yq (zB.take z) (1, m) (fun p hp => YP p (List.mem_of_mem_take hp)) Nat.one_pos hm0).1
 have hV : ∀ c l : Nat, 0 < c → 0 < l → c * c * l = m → c ≤ 1000000000 ∧ l ≤ m := fun c l h1 h2 h3 => by
  have h4 : c * c * 1 ≤ c * c * l := Nat.mul_le_mul_left _ h2
  have h5 : 1 * l ≤ c * c * l := Nat.mul_le_mul_right _ (Nat.mul_pos h1 h1)
  exact ⟨Nat.le_of_lt (v7 (a := c) (b := 1000000000) (by omega)), by omega⟩
 refine ⟨by simp only [yE]; omega, ⟨0, by omega, rfl, rfl, rfl⟩, fun z hz => ⟨fun hlt => ⟨⟨by omega, hlt⟩, ?_⟩, fun hge => ?_⟩⟩
 ·obtain ⟨p1, p2, p3⟩ := qO z (List.mem_range.2 (by omega))
  obtain ⟨t1, t2, t3⟩ := s9 z (List.mem_range.2 (by omega))
  rw [p1, rn, p2, Int.toNat_natCast]
  obtain ⟨v, ⟨q1, q2⟩, _⟩ := hS z
  have hst : strip (zB.getD z 0) (UZ m z) = UZ m (z + 1) := by
   show strip _ (Ar.ZO _ _) = Ar.ZO _ _
   rw [t1, Xx]
  generalize zB.getD z 0 = p at *
  refine ⟨p3, ⟨UZ m z, ⟨q1, q2, by simpa using v, hst⟩, rfl, rfl⟩, fun y ⟨y1, y2, y3, y4⟩ => ?_⟩
  obtain ⟨c, l⟩ := y
  simp only at *
  obtain ⟨b1, b2⟩ := hV c l y1 y2 y3
  have hpp : p * p ≤ 98 * 98 := Nat.mul_le_mul (by omega) (by omega)
  have hpp2 : 2 * 2 ≤ p * p := Nat.mul_le_mul t2 t2
  have e1 : (l : Int).tmod ((p * p : Nat) : Int) = ((l % (p * p) : Nat) : Int) := by rw [Int.tmod_eq_emod_of_nonneg (by omega)]; omega
  have e2 : (l : Int).tdiv ((p * p : Nat) : Int) = ((l / (p * p) : Nat) : Int) := by rw [Int.tdiv_eq_ediv_of_nonneg (by omega), Int.natCast_ediv]
  rw [← Int.natCast_mul, e1, e2]
  have hcp : c * p ≤ 1000000000 * 98 := Nat.mul_le_mul b1 (by omega)
  have hdl : l / (p * p) ≤ l := Nat.div_le_self _ _
  refine ⟨by simp only [yE]; omega, by omega, fun h => ?_, fun h => ⟨by simp only [yE]; omega, z + 1, ⟨by omega, by omega⟩, ?_⟩⟩
  ·have h : l % (p * p) = 0 := by omega
   have hd := Nat.dvd_of_mod_eq_zero h
   have h2 : 0 < l / (p * p) := Nat.div_pos (Nat.le_of_dvd y2 hd) (by omega)
   refine ⟨by rw [← Int.natCast_mul]; simp only [yE]; omega, by simp only [yE]; omega, by omega, by simp only [yE]; omega, (c * p, l / (p * p)), ⟨⟨Nat.mul_pos y1 (by omega), h2, ?_, by rw [← U0 t2 y2 h]; exact y4⟩, xI t2 y2⟩, by rw [Int.natCast_mul], rfl⟩
   obtain ⟨k, rfl⟩ := hd
   simp only
   rw [Nat.mul_div_cancel_left _ (by omega), ← y3]
   grind
  ·rw [wq (by omega)] at y4
   rw [← y4]
   exact ⟨rfl, rfl, by omega⟩
 ·have hz25 : z = 25 := by omega
  subst hz25
  have hN : yt m = Vw (UZ m 25) := rfl
  obtain ⟨v, ⟨q1, q2⟩, _⟩ := hS 25
  rw [hN]
  generalize UZ m 25 = y at *
  obtain ⟨c, l⟩ := y
  simp only [Nat.one_mul] at *
  obtain ⟨b1, b2⟩ := hV c l q1 q2 v
  obtain ⟨s1, s2⟩ := Wu (n := l) (by omega)
  have hr : Xg l ≤ 1000000000 := Nat.le_of_lt (v7 (a := Xg l) (b := 1000000000) (by omega))
  unfold Vw
  simp only
  rw [← Int.natCast_mul, ← Int.natCast_mul]
  have hcr : c * Xg l * (c * Xg l) ≤ m := by
   have e : c * Xg l * (c * Xg l) = c * c * (Xg l * Xg l) := by grind
   rw [e, ← v]
   exact Nat.mul_le_mul_left _ s1
  have hcr2 : c * Xg l < 1000000000 := v7 (by omega)
  refine ⟨⟨by omega, by omega⟩, by simp only [yE]; omega, fun h => ?_, fun h => ?_⟩
  ·rw [if_pos (by omega)]
   exact ⟨by simp only [yE]; omega, ⟨by omega, by omega⟩, hd, ⟨by omega, by omega⟩, rfl, rfl, rfl⟩
  ·rw [if_neg (by omega)]
   exact ⟨⟨by omega, by omega⟩, hd, ⟨by omega, by omega⟩, rfl, rfl, rfl⟩
end Go.Te

namespace Go.Te
open Go Go.Sx Go.Proofs Go.Ar
set_option maxRecDepth 100000
set_option maxHeartbeats 4000000
def uX : List AV → Option (List zO × AV)
 | [.v (.int .i64 n), .v (.int .i64 d)] => some ([.p (0 < n), .p (0 < d ∧ d ≤ 10000000000000000), .p (n * d ≤ 100000000000000000)], .tup 2 (zX [.str (zY (yt (n * d).toNat).1 d.toNat), .str (Lib.itoa (yt (n * d).toNat).2)]))
 | _ => none
theorem QT {G : List (Nat × Obj)} (hG : zN G) : zP Tryz.prog G 182 uX := by
 intro xs ps r h hp
 unfold uX at h
 split at h
 ·rename_i n d
  cases h
  obtain ⟨q0, q1, q2, -⟩ := Zv hp
  have hs := SK hG
  obtain ⟨_, t, fr, G', rfl⟩ := hG
  exact zW mixed hs (Eq.mp (by kernel_rfl) (Ra t fr G' n d q0 q1 q2) : vG Tryz.prog (nv ((1, Obj.cells zr t fr) :: G')) 182 (R2 (n * d).toNat) [.i n, .i d] (.tup 2 (zX [.str (zY (yt (n * d).toNat).1 d.toNat), .str (Lib.itoa (yt (n * d).toNat).2)])))
 ·cases h
theorem TC {f : Bool} {x : Nat → Nat → AV} (h : ZT (x 0 0) = true) : yu (.xl f 1 1 x) (.xl false 1 1 fun _ _ => .str (AV.bytes (x 0 0))) := by
 refine ⟨(fun h => by cases h), rfl, rfl, fun i j hi hj => ?_⟩
 obtain rfl : i = 0 := by omega
 obtain rfl : j = 0 := by omega
 exact Zd (Yf h)
def Td : List AV → Option (List zO × AV)
 | [.str a] => some ([.p (vL a)], .agg 2 (zX [.str (zp a), .str (za a)]))
 | _ => none
theorem PS (a : List UInt8) (hr : vL a) :
 zb [AV.str a] → (Zr a = iZ ∧ (zZ a = true ∨ zT a = false)) ∧ 2 = 2 ∧ zp a = zp a ∧ za a = za a := by
 delta iZ
 intro hb
 simp only [sS, dS]
 exact hr
theorem Ot (a : List UInt8) (hr : vL a) : zu Tryz.prog [] 171 [.str a] (.agg 2 (zX [.str (zp a), .str (za a)])) :=
 zW (T := T0.plus 134 X4) (an := .auto) mixed (zz.plus zq Ug) (Eq.mp (by kernel_rfl) (PS a hr))
theorem pQ : zP Tryz.prog [] 171 Td := by
 intro xs ps r h hp
 unfold Td at h
 split at h
 ·skip
  rename_i a
  cases h
  obtain ⟨q0, -⟩ := Zv hp
  exact weaken (ys := [.str a]) ⟨zw _, trivial⟩ (Ot a q0)
 ·cases h
def ua : List AV → Option (List zO × AV)
 | [.str m] => some ([.p (ZV m = true), .p (m.length ≤ 17)], .tup 2 (zX [.i (zS m), .b true]))
 | _ => none
theorem Rw (m : List UInt8) (hi : ZV m = true) (hl : m.length ≤ 17) :
 zb [AV.str m] → zV (zA (17 : Int) (lZ m)) (j2 ∧ (True ∧ kI ∧ iZ = zS m) ∧ false = true) (bF (ZV m) (lN m ≤ 18 ∧ j2 ∧ (True ∧ kI ∧ zS m = zS m) ∧ true = true)) := by
 delta bF kI j2 lZ lN iZ
 intro hb
 simp only [sS, dS]
 refine ⟨fun h => by omega, fun _ => ?_⟩
 rw [hi]
 exact ⟨by omega, rfl⟩
theorem Ql (m : List UInt8) (hi : ZV m = true) (hl : m.length ≤ 17) : zu Tryz.prog [] 181 [.str m] (.tup 2 (zX [.i (zS m), .b true])) :=
 zW (T := T0.plus 143 WS) (an := .auto) mixed (zz.plus zq tP) (Eq.mp (by kernel_rfl) (Rw m hi hl))
theorem Qb : zP Tryz.prog [] 181 ua := by
 intro xs ps r h hp
 unfold ua at h
 split at h
 ·skip
  rename_i m
  cases h
  obtain ⟨q0, q1, -⟩ := Zv hp
  exact weaken (ys := [.str m]) ⟨zw _, trivial⟩ (Ql m q0 q1)
 ·cases h
noncomputable def O9 : Tb := (((T0.plus 79 wo).plus 171 Td).plus 114 (YM fun s => .str (zt s))).plus 80 YB
theorem Sz : zz Tryz.prog O9 := zz.plus (zz.plus (zz.plus (zz.plus zq VB) pQ) WW) X9
def PY  : yw :=
 .two .auto (.two (.two .auto (.one (.unroll 2 .auto))) (.two (.two .auto (.one (.unroll 2 .auto))) .auto))
def qZ : List AV → Option (List zO × AV)
 | [.xl f_a 1 1 x_a, .xl f_q 1 1 x_q] => some ([.b (ZT (x_a 0 0)), .b (ZT (x_q 0 0)), .p (vL (AV.bytes (x_a 0 0))), .p ((zp (AV.bytes (x_a 0 0))).length ≤ 90 ∧ (za (AV.bytes (x_a 0 0))).length ≤ 90), .p (zE (AV.bytes (x_q 0 0)) = false)], .i 0)
 | _ => none
theorem p8 (a : List UInt8) (q : List UInt8) (hr : vL a) (hl : (zp a).length ≤ 90 ∧ (za a).length ≤ 90) (hq : zE q = false) :
 zb [AV.xl false 1 1 fun (x x_1 : Nat) => AV.str a, AV.xl false 1 1 fun (x x_1 : Nat) => AV.str q] → (Zr a = iZ ∧ (zZ a = true ∨ zT a = false)) ∧ (Zr a = iZ ∧ (zZ a = true ∨ zT a = false)) ∧ zV (zA (90 : Int) (if (lZ (za a)) > (lZ (zt (zp a))) then (lZ (za a)) else (lZ (zt (zp a))))) (kI ∧ (4 : Int) = iZ) (zE q = false ∧ kI ∧ iZ = iZ) := by
 delta kI lZ iZ
 intro hb
 simp only [sS, dS]
 have h1 := XH (zp a)
 exact ⟨hr, hr, fun h => by split at h <;> omega, fun _ => hq⟩
theorem Og (a : List UInt8) (q : List UInt8) (hr : vL a) (hl : (zp a).length ≤ 90 ∧ (za a).length ≤ 90) (hq : zE q = false) : zu Tryz.prog [] 169 [.xl false 1 1 (fun _ _ => .str a), .xl false 1 1 (fun _ _ => .str q)] (.i 0) :=
 zW (T := O9.body Tryz.prog [(226, .auto)]) (an := PY) mixed (zz.body mixed Sz _) (Eq.mp (by kernel_rfl) (p8 a q hr hl hq))
theorem OO : zP Tryz.prog [] 169 qZ := by
 intro xs ps r h hp
 unfold qZ at h
 split at h
 ·skip
  rename_i f_a x_a f_q x_q
  cases h
  obtain ⟨q0, q1, q2, q3, q4, -⟩ := Zv hp
  exact weaken (ys := [.xl false 1 1 (fun _ _ => .str (AV.bytes (x_a 0 0))), .xl false 1 1 (fun _ _ => .str (AV.bytes (x_q 0 0)))]) ⟨TC q0, TC q1, trivial⟩ (Og (AV.bytes (x_a 0 0)) (AV.bytes (x_q 0 0)) q2 q3 q4)
 ·cases h
def po (q : zK) : Prop := vL q ∧ 0 < zv q ∧ (zp q).length + (za q).length ≤ 17
noncomputable def nZ (G : List (Nat × Obj)) : Tb := ((((((wB G).plus 169 qZ).plus 171 Td).plus 181 ua).plus 182 uX).plus 183 (OM (.str []))).plus 184 (OM .junk)
theorem SN {G : List (Nat × Obj)} (hG : zN G) : zz Tryz.prog (nZ G) := zz.plus (zz.plus (zz.plus (zz.plus (zz.plus (zz.plus zq (zP.mono OO)) (zP.mono pQ)) (zP.mono Qb)) (QT hG)) (sU _)) (sU _)
def w6 : List AV → Option (List zO × AV)
 | [.str q] => some ([.p (po q)], .tup 3 (zX [.str (zY (k1 q : Int) (zU q)), .str (Lib.itoa (l1 q : Int)), .i 0]))
 | _ => none
theorem RX (G : List (Nat × Obj)) (q : List UInt8) (hr : po q) :
 zb [AV.str q] → (Zr (AV.bytes (AV.str q)) = iZ ∧ (zZ (AV.bytes (AV.str q)) = true ∨ zT (AV.bytes (AV.str q)) = false)) ∧ (lN (zp (AV.bytes (AV.str q))) ≤ 90 ∧ lN (za (AV.bytes (AV.str q))) ≤ 90) ∧ zE (AV.bytes (AV.str q)) = false ∧ (Zr q = iZ ∧ (zZ q = true ∨ zT q = false)) ∧ zV (zp q == bA #[(48 : UInt8)]) (3 = lN [AV.junk, AV.junk, AV.junk] ∧ ((True ∧ bA #[(48 : UInt8)] = zY (cI (k1 q)) (zU q)) ∧ Array.toList (ByteArray.data
 (ByteArray.mk #[(49 : UInt8)])) = Lib.itoa (cI (l1 q))) ∧ kI ∧ iZ = iZ) (bF (dK ((lZ (zp q)) + (lZ (za q)))) (zV (leB ((lZ (zp q)) + (lZ (za q))) (17 : Int)) (ZV (zp q) = true ∧ lN (zp q) ≤ 17 ∧ ZV (za q) = true ∧ lN (za q) ≤ 17 ∧ iZ < zS (zp q) ∧ (iZ < zS (za q) ∧ zS (za q) ≤ (10000000000000000 : Int)) ∧ zS (zp q) * zS (za q) ≤ (100000000000000000 : Int) ∧ 3 = lN [AV.junk, AV.junk,
 AV.junk] ∧ ((True ∧ zY (↑(Prod.fst (yt (Int.toNat (zS (zp q) * zS (za q))))) : Int) (Int.toNat (zS (za q))) = zY (cI (k1 q)) (zU q)) ∧ Lib.itoa (↑(Prod.snd (yt (Int.toNat (zS (zp q) * zS (za q))))) : Int) = Lib.itoa (cI (l1 q))) ∧ kI ∧ iZ = iZ) (False ∧ False ∧ ZR (Operand.tmp 66)))) := by
 delta bF dK bA cI kI lZ lN iZ
 intro hb
 simp only [sS, dS]
 obtain ⟨h1, h2, h3⟩ := hr
 obtain ⟨v1, v2, v3, v4⟩ := Oi h1.1
 obtain ⟨i1, _⟩ := ZE.1 v1
 obtain ⟨i2, _⟩ := ZE.1 v2
 have hm : zE q = false := by
  have := (Xc (a := q)).1
  cases hm : zE q with
  | false => rfl
  | true => rw [hm, cond_true] at this; omega
 have hp := yg (Zn.1 h1.1).1
 have n1 := Ri i1
 have n2 := Ri i2
 have l1 : 1 ≤ (zp q).length := Nat.pos_of_ne_zero fun e => by rw [List.eq_nil_of_length_eq_zero e] at i1; cases i1
 have h0 : (zp q == [48]) = false := beq_eq_false_iff_ne.2 fun e => by
  rw [e] at v3
  rw [← v3] at h2
  exact absurd h2 (by decide)
 rw [v3] at n1
 rw [v4, Int.natAbs_natCast] at n2
 have b2 : zU q < 10 ^ 16 := Nat.lt_of_lt_of_le n2 (Nat.pow_le_pow_right (by omega) (by omega))
 have b3 : (zv q).natAbs * zU q < 10 ^ 17 := by
  refine Nat.lt_of_lt_of_le (Nat.mul_lt_mul'' n1 n2) ?_
  rw [← Nat.pow_add]
  exact Nat.pow_le_pow_right (by omega) h3
 rw [show 10 ^ 16 = 10000000000000000 from by decide] at b2
 rw [show 10 ^ 17 = 100000000000000000 from by decide] at b3
 rw [h0, v3, v4]
 obtain ⟨N, hN⟩ : ∃ N : Nat, zv q = N := ⟨(zv q).toNat, by omega⟩
 have hk : yt (zv q * (zU q : Int)).toNat = yt ((zv q).toNat * zU q) := by
  rw [hN, ← Int.natCast_mul, Int.toNat_natCast, Int.toNat_natCast]
 rw [hk]
 have b4 : zv q * (zU q : Int) ≤ 100000000000000000 := by
  rw [hN, ← Int.natCast_mul]
  rw [hN, Int.natAbs_natCast] at b3
  omega
 have c1 : (zp q).length ≤ 90 ∧ (za q).length ≤ 90 := ⟨by omega, by omega⟩
 refine ⟨h1, c1, hm, h1, by simp only [yE]; omega, fun _ => ⟨i1, by omega, i2, by omega, h2, ⟨by omega, by omega⟩, b4, rfl, rfl, rfl⟩, fun h => by omega⟩
theorem QH {G : List (Nat × Obj)} (hG : zN G) (q : List UInt8) (hr : po q) : zu Tryz.prog G 132 [.str q] (.tup 3 (zX [.str (zY (k1 q : Int) (zU q)), .str (Lib.itoa (l1 q : Int)), .i 0])) :=
 zW (T := nZ G) (an := .auto) mixed (SN hG) (Eq.mp (by kernel_rfl) (RX G q hr))
theorem sY {G : List (Nat × Obj)} (hG : zN G) : zP Tryz.prog G 132 w6 := by
 intro xs ps r h hp
 unfold w6 at h
 split at h
 ·skip
  rename_i q
  cases h
  obtain ⟨q0, -⟩ := Zv hp
  exact weaken (ys := [.str q]) ⟨zw _, trivial⟩ (QH hG q q0)
 ·cases h
end Go.Te

namespace Go.Te
open Go Go.Sx Go.Proofs Go.Ar
set_option maxRecDepth 100000
set_option maxHeartbeats 4000000
structure Pt where
 n : zK
 d : zK
instance : yI Pt := ⟨2, ⟨[], []⟩, fun c => zX [.str c.n, .str c.d], fun cs => ⟨AV.bytes (cs 0), AV.bytes (cs 1)⟩, fun cs => ZT (cs 0) && ZT (cs 1), fun cs h j hj => by
 simp only [Bool.and_eq_true] at h
 match j, hj with
 | 0, _ => exact Zd (Yf h.1)
 | 1, _ => exact Zd (Yf h.2)⟩
instance : xm Pt := ⟨fun _ => rfl, fun _ => rfl⟩
theorem Y0 {f : Bool} {x : Nat → Nat → AV} (h : (ZT (x 0 0) && ZT (x 0 1)) = true) : yu (.xl f 2 1 x) (.xl false 2 1 fun _ => zX [.str (AV.bytes (x 0 0)), .str (AV.bytes (x 0 1))]) := by
 rw [Bool.and_eq_true] at h
 refine ⟨(fun h => by cases h), rfl, rfl, fun i j hi hj => ?_⟩
 obtain rfl : i = 0 := by omega
 match j, hj with
 | 0, _ => exact Zd (Yf h.1)
 | 1, _ => exact Zd (Yf h.2)
def xU (a : zK) : Int := if ((za a).length : Int) > ((zt (zp a)).length : Int) then ((za a).length : Int) else ((zt (zp a)).length : Int)
noncomputable def no : Tb := (((T0.plus 114 (YM fun s => .str (zt s))).body Tryz.prog [(135, .auto)]).plus 134 X4)
theorem SV : zz Tryz.prog no := zz.plus (zz.body mixed (zz.plus zq WW) _) Ug
def Wz : List AV → Option (List zO × AV)
 | [.str a] => some ([.p (vL a)], .i (xU a))
 | _ => none
theorem Re (a : List UInt8) (hr : vL a) :
 zb [AV.str a] → (Zr a = iZ ∧ (zZ a = true ∨ zT a = false)) ∧ kI ∧ (if (lZ (zt (za a))) > (lZ (zt (zp a))) then (lZ (zt (za a))) else (lZ (zt (zp a)))) = xU a := by
 delta kI lZ iZ
 intro hb
 simp only [sS, dS]
 have hm : zt (za a) = za a := by
  obtain ⟨i2, _⟩ := ZE.1 (Oi hr.1).2.1
  have hd := (Oi hr.1).2.2.2
  have hp := yg (Zn.1 hr.1).1
  have hm : zE (za a) = false := by
   rcases ym i2 with ⟨r, e, _, _, h3⟩ | ⟨h1, _⟩
   ·rw [h3] at hd; omega
   ·cases hm : zE (za a) with
    | false => rfl
    | true =>
     match h : za a, hm, h1 with
     | c :: r, hm, h1 =>
      have hc : c = 45 := eq_of_beq hm
      subst hc
      exact (xZ h1).elim
  unfold zt
  rw [hm]; rfl
 rw [hm]
 exact ⟨hr, rfl⟩
theorem Q5 (a : List UInt8) (hr : vL a) : zu Tryz.prog [] 83 [.str a] (.i (xU a)) :=
 zW (T := no) (an := .auto) mixed SV (Eq.mp (by kernel_rfl) (Re a hr))
theorem sK : zP Tryz.prog [] 83 Wz := by
 intro xs ps r h hp
 unfold Wz at h
 split at h
 ·skip
  rename_i a
  cases h
  obtain ⟨q0, -⟩ := Zv hp
  exact weaken (ys := [.str a]) ⟨zw _, trivial⟩ (Q5 a q0)
 ·cases h
noncomputable def Ox (G : List (Nat × Obj)) : Tb := ((((((wB G).plus 79 wo).plus 80 YB).plus 132 w6).plus 83 Wz).plus 18 wu).plus 137 V5
theorem Tu {G : List (Nat × Obj)} (hG : zN G) : zz Tryz.prog (Ox G) := zz.plus (zz.plus (zz.plus (zz.plus (zz.plus (zz.plus zq (zP.mono VB)) (zP.mono X9)) (sY hG)) (zP.mono sK)) (Vf hG)) (zP.mono R8)
def QY  : yw :=
 .two .auto (.two (.two .auto (.one (.unroll 1 .auto))) .auto)
def QZ  : yw :=
 .two .auto (.one (.unroll 1 .auto))
def Qa  : yw :=
 .two .auto (.two .auto (.one (.unroll 1 .auto)))
def px  : yw :=
 .two .auto (.two (.two .auto (.one (.unroll 2 .auto))) .auto)
def PV  : yw :=
 .two .auto (.two .auto (.two (.two .auto (.one (.unroll 2 .auto))) (.two .auto (.two .auto (.two .auto (.two (.two .auto (.one (.unroll 2 .auto))) .auto))))))
noncomputable def nU (G : List (Nat × Obj)) : Tb := (((Ox G).body Tryz.prog [(82, QY), (187, QZ)]).body Tryz.prog [(81, px), (136, Qa)]).body Tryz.prog [(84, .auto)]
theorem SL {G : List (Nat × Obj)} (hG : zN G) : zz Tryz.prog (nU G) := zz.body mixed (zz.body mixed (zz.body mixed (Tu hG) _) _) _
def Uz (t : Pt) : Prop := zZ t.n = true ∧ zv t.n ≠ 0 ∧ po t.d ∧ zZ (zY (k1 t.d : Int) (zU t.d)) = true ∧ zZ (ZG t.n t.d) = true
theorem TF {a b c d : zK} (h1 : a = c) (h2 : b = d) : yu (.xl false 2 1 fun i j => Sx.rowAt [zX [.str a, .str b]] i j) (.xl false 2 1 fun _ => zX [.str c, .str d]) := by
 subst h1 h2
 refine ⟨fun h => h, rfl, rfl, fun i j hi hj => ?_⟩
 obtain rfl : i = 0 := by omega
 exact zw _
theorem sr {q : zK} (h : po q) : zE q = false := by
 have h2 := h.2.1
 have := (Xc (a := q)).1
 cases hm : zE q with
 | false => rfl
 | true => rw [hm, cond_true] at this; omega
theorem si {q : zK} (h : zv q ≠ 0) : (q == [48]) = false := beq_eq_false_iff_ne.2 fun e => h (by rw [e]; decide)
theorem Ov {q : zK} (h : po q) : 0 < k1 q ∧ 0 < l1 q ∧ k1 q * k1 q * l1 q = (zv q).toNat * zU q ∧ yt (l1 q) = (1, l1 q) ∧ l1 q < 100000000000000000 := by
 obtain ⟨h1, h2, h3⟩ := h
 have hp := yg (Zn.1 h1.1).1
 obtain ⟨a1, a2, a3, a4⟩ := Wy h2 hp
 obtain ⟨v1, v2, v3, v4⟩ := Oi h1.1
 have n1 := Ri (ZE.1 v1).1
 have n2 := Ri (ZE.1 v2).1
 rw [v3] at n1
 rw [v4, Int.natAbs_natCast] at n2
 have b3 : (zv q).natAbs * zU q < 10 ^ 17 := by
  refine Nat.lt_of_lt_of_le (Nat.mul_lt_mul'' n1 n2) ?_
  rw [← Nat.pow_add]
  exact Nat.pow_le_pow_right (by omega) h3
 rw [show 10 ^ 17 = 100000000000000000 from by decide] at b3
 rw [show (zv q).natAbs = (zv q).toNat by omega] at b3
 have : 1 * l1 q ≤ k1 q * k1 q * l1 q := Nat.mul_le_mul_right _ (Nat.mul_pos a1 a1)
 exact ⟨a1, a2, a3, a4, by omega⟩
theorem tI {l : Nat} (h : l < 100000000000000000) : vL (Lib.itoa (l : Int)) ∧ (zp (Lib.itoa (l : Int))).length ≤ 17 ∧ (za (Lib.itoa (l : Int))).length = 1 := by
 obtain ⟨h1, h2, h3, h4⟩ := Yh (l : Int)
 have hn : vk (l : Int) ≤ 17 := Y7 (by decide) (by rw [Int.natAbs_natCast]; exact Nat.lt_of_lt_of_le h (by decide))
 rw [show Nat.blt 300 (vk (l : Int)) = false from Bool.eq_false_iff.2 fun e => by have := (zF _ _).1 e; omega] at h4
 refine ⟨⟨h4, .inr h3⟩, ?_, by unfold za; rw [h3]; rfl⟩
 rw [(yx h3).1, YZ, if_neg (by omega)]
 exact hn
theorem WQ {a : zK} {k : Nat} (h1 : (zp a).length ≤ k) (h2 : (za a).length ≤ k) (m : Int) (hk : (k : Int) ≤ m) : zA m (xU a) = false := Bool.eq_false_iff.2 fun e => by
 have e := (zl _ _).1 e
 have := XH (zp a)
 unfold xU at e
 split at e <;> omega
theorem Qo {a b : zK} (ha : zv a ≠ 0) (hb : zv b ≠ 0) (ha2 : 0 < zU a) (hb2 : 0 < zU b) : zv (zM a b) ≠ 0 := fun e => by
 have h := ZP (zv a * zv b) (Nat.mul_pos ha2 hb2)
 have hp := ZX (zv a * zv b) (Nat.mul_pos ha2 hb2)
 have e' : zv (zY (zv a * zv b) (zU a * zU b)) = 0 := e
 rw [e', Int.zero_mul] at h
 exact Int.mul_ne_zero (Int.mul_ne_zero ha hb) (by omega) h.symm
theorem R5 : zY (k1 [49] : Int) (zU [49]) = [49] ∧ Lib.itoa (l1 [49] : Int) = [49] := by decide +kernel
def UI : List AV → Option (List zO × AV)
 | [.xl f_t 2 1 x_t] => some ([.b (ZT (x_t 0 0) && ZT (x_t 0 1)), .p (Uz (⟨AV.bytes (x_t 0 0), AV.bytes (x_t 0 1)⟩ : Pt))], .tup 2 (zX [.xl false 2 1 (fun _ => zX [.str (ZG (⟨AV.bytes (x_t 0 0), AV.bytes (x_t 0 1)⟩ : Pt).n (⟨AV.bytes (x_t 0 0), AV.bytes (x_t 0 1)⟩ : Pt).d), .str (Lib.itoa (l1 (⟨AV.bytes (x_t 0 0), AV.bytes (x_t 0 1)⟩ : Pt).d : Int))]), .i 0]))
 | _ => none
theorem Pv (G : List (Nat × Obj)) (t : Pt) (ht : Uz t) :
 let q2 := (zZ (Pt.d t) = true ∨ zT (Pt.d t) = false); let q1 := (Zr (Pt.d t) = iZ ∧ q2); let q5 := (ByteArray.data (ByteArray.mk #[(48 : UInt8)])); let q4 := (Pt.n t == Array.toList q5); let q3 := (!zQ false q4 || zQ false q4); let q7 := (True ∧ Value.slice (nT Addr) 0 0 = Value.slice (nT Addr) 0 0 ∧ 1 = 0); let q6 := ((iZ ≤ (↑0 : Int) ∧ (↑0 : Int) ≤ (18446744073709551615 : Int)) ∧ j2 ∧ q7 ∧ kI ∧ iZ = iZ); let q8 := (ByteArray.data (ByteArray.mk #[(49 : UInt8)])); let q9 := (zZ (Lib.itoa (↑(l1 (Pt.d t))
 : Int)) = true ∨ zT (Lib.itoa (cI (l1 (Pt.d t)))) = false); let q10 := (xU (Lib.itoa (cI (l1 (Pt.d t))))); let q11 := (j2 ∧ q7 ∧ kI ∧ (4 : Int) = iZ); let q12 := (zY (cI (k1 (Pt.d t))) (zU (Pt.d t))); let q13 := (zM (Pt.n t) q12 == Array.toList q5); let q15 := (zM (Pt.n t) q12); let q18 := (xU q15); let q17 := (zA (60 : Int) q18); let q16 := (!zQ false q17 || zQ false q17); let q19 := (iZ ≤ (↑1 : Int) ∧ (↑1 : Int) ≤ (18446744073709551615 : Int)); let q20 := (AV.xl false 2 1 fun (x i : Nat) =>
 Option.getD [AV.str (ZG (Pt.n t) (Pt.d t)), AV.str (Lib.itoa (cI (l1 (Pt.d t))))][i]? AV.junk); let q14 := ((Zr q15 = iZ ∧ (zZ q15 = true ∨ zT q15 = false)) ∧ bF q16 (bF q16 ((zQ false q17 = true → Zr (Lib.itoa (cI (l1 (Pt.d t)))) = iZ ∧ q9) ∧ bF q16 (bF (!!zA (60 : Int) q18 || zQ false q17) (zV (bif zA (60 : Int) q18 then true else zA (40 : Int) q10) q11 (q19 ∧ j2 ∧ (True ∧ yu (AV.xl false 2 1 fun i j => Sx.rowAt [zX [AV.str q15, AV.str (Lib.itoa (cI (l1 (Pt.d t))))]] (0 + i) j) q20) ∧
 kI ∧ iZ = iZ)))))); let q21 := (Array.toList q8); let q22 := (zM (Pt.n t) q21 == Array.toList q5); let q24 := (zM (Pt.n t) q21); let q27 := (xU q24); let q26 := (zA (60 : Int) q27); let q25 := (!zQ false q26 || zQ false q26); let q23 := ((Zr q24 = iZ ∧ (zZ q24 = true ∨ zT q24 = false)) ∧ bF q25 (bF q25 ((zQ false q26 = true → Zr (Pt.d t) = iZ ∧ q2) ∧ bF q25 (bF (!!zA (60 : Int) q27 || zQ false q26) (zV (bif zA (60 : Int) q27 then true else zA (40 : Int) (xU (Pt.d t))) q11 (q19 ∧
 j2 ∧ (True ∧ yu (AV.xl false 2 1 fun i j => Sx.rowAt [zX [AV.str q24, AV.str (Pt.d t)]] (0 + i) j) q20) ∧ kI ∧ iZ = iZ)))))); zb [AV.xl false 2 1 fun (x i : Nat) => Option.getD [AV.str (Pt.n t), AV.str (Pt.d t)][i]? AV.junk] → (Zr (Pt.n t) = iZ ∧ (zZ (Pt.n t) = true ∨ zT (Pt.n t) = false)) ∧ q1 ∧ zE (Pt.d t) = false ∧ bF q3 (bF q3 (bF (!!Pt.n t == Array.toList q5 || zQ false q4) (zV (bif Pt.n t == Array.toList q5 then true else Pt.d t == Array.toList q5) q6 (zV
 (!Pt.d t == Array.toList q8) ((q1 ∧ iZ < zv (Pt.d t) ∧ lN (zp (Pt.d t)) + lN (za (Pt.d t)) ≤ 17) ∧ (zQ false (iZ != iZ) = true → Zr (Lib.itoa (cI (l1 (Pt.d t)))) = iZ ∧ q9) ∧ zV (bif iZ != iZ then true else zA (90 : Int) q10) q11 (zZ (Pt.n t) = true ∧ zZ q12 = true ∧ zV q13 q6 q14 ∧ zV q13 q6 q14)) ((zQ false (iZ != iZ) = true → Zr (Pt.d t) = iZ ∧ q2) ∧ zV (bif iZ != iZ then true else zA (90 : Int) (xU (Pt.d t))) q11 (zZ (Pt.n t) = true ∧ zZ q21 = true ∧
 zV q22 q6 q23 ∧ zV q22 q6 q23)))))) := by
 delta bF cI kI j2 lN iZ
 dsimp only
 intro hb
 simp only [sS, dS]
 simp only [and_self]
 obtain ⟨c1, c2, c3, c4, c5⟩ := ht
 have r1 := x9 c1
 have hm := sr c3
 obtain ⟨b1, b2, b3, b4, b5⟩ := Ov c3
 have hp := yg (Zn.1 c3.1.1).1
 have n1 := si c2
 have n2 : (t.d == [48]) = false := si (by have := c3.2.1; omega)
 have X0 : (ZG t.n t.d == [48]) = false := si (Qo c2 (by have := yK b1 hp; omega) (Z8 c1).2.2.2 (ZX _ hp))
 obtain ⟨rl, i1, i2⟩ := tI b5
 have r5 := x9 c5
 obtain ⟨x1, x2, x3⟩ := X7 c5
 have Lx := WQ (a := ZG t.n t.d) (k := 20) (by omega) (by omega) 60 (by omega)
 have L40 := WQ (a := Lib.itoa (l1 t.d : Int)) (k := 20) (by omega) (by omega) 40 (by omega)
 have L90 := WQ (a := Lib.itoa (l1 t.d : Int)) (k := 20) (by omega) (by omega) 90 (by omega)
 rw [n1, n2]
 refine ⟨r1, c3.1, hm, ?_⟩
 show zV (!t.d == [49]) _ _
 refine zR.2 ⟨fun c => ?_, fun c => ?_⟩
 ·rw [show zM t.n (zY (k1 t.d : Int) (zU t.d)) = ZG t.n t.d from rfl, X0, Lx, L40, L90]
  exact ⟨c3, fun _ => rl, c1, c4, r5, fun _ => rl, ⟨by omega, by omega⟩, rfl, TF rfl rfl⟩
 ·obtain ⟨tn, td⟩ := t
  simp only at *
  have e : td = [49] := by simpa using c
  subst e
  have e1 : zM tn [49] = ZG tn [49] := by unfold ZG; rw [R5.1]
  rw [R5.2] at L40 L90
  rw [e1, X0, Lx, L40, L90]
  exact ⟨fun _ => c3.1, c1, by decide, r5, fun _ => c3.1, ⟨by omega, by omega⟩, rfl, TF rfl R5.2.symm⟩
theorem OG {G : List (Nat × Obj)} (hG : zN G) (t : Pt) (ht : Uz t) : zu Tryz.prog G 39 [.xl false 2 1 (fun _ => zX [.str t.n, .str t.d])] (.tup 2 (zX [.xl false 2 1 (fun _ => zX [.str (ZG t.n t.d), .str (Lib.itoa (l1 t.d : Int))]), .i 0])) :=
 zW (T := nU G) (an := PV) mixed (SL hG) (Eq.mp (by kernel_rfl) (Pv G t ht))
theorem Rx {G : List (Nat × Obj)} (hG : zN G) : zP Tryz.prog G 39 UI := by
 intro xs ps r h hp
 unfold UI at h
 split at h
 ·skip
  rename_i f_t x_t
  cases h
  obtain ⟨q0, q1, -⟩ := Zv hp
  exact weaken (ys := [.xl false 2 1 (fun _ => zX [.str (⟨AV.bytes (x_t 0 0), AV.bytes (x_t 0 1)⟩ : Pt).n, .str (⟨AV.bytes (x_t 0 0), AV.bytes (x_t 0 1)⟩ : Pt).d])]) ⟨Y0 q0, trivial⟩ (OG hG (⟨AV.bytes (x_t 0 0), AV.bytes (x_t 0 1)⟩ : Pt) q1)
 ·cases h
end Go.Te
