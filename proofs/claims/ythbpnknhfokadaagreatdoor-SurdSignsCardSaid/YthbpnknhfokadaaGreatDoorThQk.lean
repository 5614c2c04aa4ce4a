/- kingpostlaw04: text, of. -/
import Derived.Test.YthbpnknhfokadaaGreatDoorThQi
import Derived.Test.YthbpnknhfokadaaGreatDoorArAB
set_option linter.unusedSimpArgs false
set_option linter.unusedVariables false
namespace Go.Te
open Go Go.Sx Go.Proofs Go.Ar
set_option maxRecDepth 100000
set_option maxHeartbeats 4000000
theorem kt {l : List Tm} {R L B : Nat} (hl : l.length ≤ 256) (ho : (Zg l).length ≤ 16) (hR : R < 10 ^ 15) (hn : ∀ t ∈ l, nat0 R t) (hi : inT RM l) (hc : ∀ t ∈ l, bq 60 t.c) (hL : 0 < L) (hp : pg L B l) (h1 : B * RM < 10 ^ 60) (h2 : L * RM < 10 ^ 60) : vU l := by
 refine ⟨hl, hc, fun t ht h0 => ?_, hi, QE (by decide) hi hL hp h1 h2, ho⟩
 obtain ⟨r, e, hr⟩ := hn t ht
 have hr0 : r ≠ 0 := fun e0 => h0 (by rw [e, e0]; rfl)
 have b1 : bq 15 t.q := by
  rw [e]
  exact ⟨by rw [Rat.num_natCast, Int.natAbs_natCast]; omega, by rw [Rat.den_natCast]; decide⟩
 refine ⟨(ZI (by decide) (by decide)).2 (b1.mono (by decide)), ?_, ?_⟩
 ·rw [zk, e]
  exact Rat.lt_of_le_of_ne Rat.natCast_nonneg fun e => hr0 (Rat.natCast_eq_zero_iff.1 e.symm)
 ·rw [zk]
  have a1 : Xx t.q.num ≤ 15 := xK (by decide) b1.num
  have a2 : Lib.nDigits t.q.den ≤ 1 := (ZX (by decide)).2 (by rw [e, Rat.den_natCast]; decide)
  omega
def rF (n d : Int) : Rat := mkRat n (d.toNat % 20 + 1)
structure ZN where
 a : Int
 b : Nat
 k : Nat
def GL (n : Int) (D : Nat) (z : ZN) : Prop := z.a * (D : Int) = n * (z.b : Int) ∧ 0 < z.b ∧ z.b ≤ D ∧ z.a.natAbs ≤ 128 ∧ 2 ≤ z.k ∧ z.k ≤ 22 ∧ ∀ j, 2 ≤ j → j < z.k → ¬((j : Int) ∣ z.a ∧ j ∣ z.b)
def Iv (n d : Int) : yS :=
 .two .auto (.two .auto (.two (.two .auto (.one (.loop ZN (fun σ z => [(5, .i z.a), (6, .i (z.b : Int)), (7, .i (z.k : Int))]) (fun σ z => []) 0 (fun σ z => GL n (d.toNat % 20 + 1) z) (fun σ z => 40 - z.k) (.two .auto (.two (.one (.one (.loop ZN (fun σ z => [(7, σ.tm 7), (5, .i z.a), (6, .i (z.b : Int))]) (fun σ z => []) 0 (fun σ z => GL n (d.toNat % 20 + 1) z ∧ (z.k : Int) = AV.int (σ.tm 7)) (fun σ z => z.b) .auto))) .auto))))) .auto))
def nv : List AV → Option (List zn × AV)
 | [.v (.int .i8 n), .v (.int .u8 d)] => some ([.p (-128 ≤ n ∧ n ≤ 127), .p (0 ≤ d ∧ d ≤ 255)], .str (zt (rF n d)))
 | _ => none
theorem jg (G : List (Nat × Obj)) (n : Int) (d : Int) (hn : -128 ≤ n ∧ n ≤ 127) (hd : 0 ≤ d ∧ d ≤ 255) :
 Zt [AV.v (Value.int IntKind.i8 n), AV.v (Value.int IntKind.u8 d)] → bF (dK n) (bF (dK d) (bF (dK (Int.tmod d (20 : Int) + iO)) ((∃ (z : ZN), ((ZN.a z * (cI (Int.toNat d % 20 + 1)) = n * (cI (ZN.b z)) ∧ 0 < ZN.b z ∧ ZN.b z ≤ Int.toNat d % 20 + 1 ∧ Int.natAbs (ZN.a z) ≤ 128 ∧ 2 ≤ ZN.k z ∧ ZN.k z ≤ 22 ∧ ∀ (j : Nat), 2 ≤ j → j < ZN.k z → ¬((cI j) ∣ ZN.a z ∧ j ∣ ZN.b z)) ∧ (kI ∧ n = ZN.a z) ∧ (kI ∧ Int.tmod d (20 : Int) + iO = (cI (ZN.b z))) ∧ kI ∧ (2 :
 Int) = (cI (ZN.k z))) ∧ True) ∧ ∀ (z : ZN), (ZN.a z * (cI (Int.toNat d % 20 + 1)) = n * (cI (ZN.b z)) ∧ 0 < ZN.b z ∧ ZN.b z ≤ Int.toNat d % 20 + 1 ∧ Int.natAbs (ZN.a z) ≤ 128 ∧ 2 ≤ ZN.k z ∧ ZN.k z ≤ 22 ∧ ∀ (j : Nat), 2 ≤ j → j < ZN.k z → ¬((cI j) ∣ ZN.a z ∧ j ∣ ZN.b z)) → zZ (leB (cI (ZN.k z)) (cI (ZN.b z))) ((∃ (z_1 : ZN), (((ZN.a z_1 * (cI (Int.toNat d % 20 + 1)) = n * (cI (ZN.b z_1)) ∧ 0 < ZN.b z_1 ∧ ZN.b z_1 ≤ Int.toNat d % 20 + 1 ∧ Int.natAbs (ZN.a z_1) ≤ 128 ∧ 2 ≤ ZN.k z_1 ∧ ZN.k z_1 ≤ 22 ∧ ∀ (j : Nat), 2 ≤ j → j < ZN.k z_1 →
 ¬((cI j) ∣ ZN.a z_1 ∧ j ∣ ZN.b z_1)) ∧ (cI (ZN.k z_1)) = AV.int (aI (cI (ZN.k z)))) ∧ (kI ∧ (cI (ZN.k z)) = (cI (ZN.k z))) ∧ (kI ∧ ZN.a z = ZN.a z_1) ∧ kI ∧ (cI (ZN.b z)) = (cI (ZN.b z_1))) ∧ True) ∧ ∀ (z_1 : ZN), (ZN.a z_1 * (cI (Int.toNat d % 20 + 1)) = n * (cI (ZN.b z_1)) ∧ 0 < ZN.b z_1 ∧ ZN.b z_1 ≤ Int.toNat d % 20 + 1 ∧ Int.natAbs (ZN.a z_1) ≤ 128 ∧ 2 ≤ ZN.k z_1 ∧ ZN.k z_1 ≤ 22 ∧ ∀ (j : Nat), 2 ≤ j → j < ZN.k z_1 → ¬((cI j) ∣ ZN.a z_1 ∧ j ∣ ZN.b z_1)) ∧ (cI (ZN.k
 z_1)) = AV.int (aI (cI (ZN.k z))) → bF (DB.db ((cI (ZN.k z)) ≠ iZ)) (bF (!zS true (Int.tmod (ZN.a z_1) (cI (ZN.k z)) == iZ) || zS true (Int.tmod (ZN.a z_1) (cI (ZN.k z)) == iZ)) (bF (!zS true (Int.tmod (ZN.a z_1) (cI (ZN.k z)) == iZ) || zS true (Int.tmod (ZN.a z_1) (cI (ZN.k z)) == iZ)) (bF (!zS true (Int.tmod (ZN.a z_1) (cI (ZN.k z)) == iZ) || DB.db ((cI (ZN.k z)) ≠ iZ)) (bF (!zS true (Int.tmod (ZN.a z_1) (cI (ZN.k z)) == iZ) ||
 zS true (Int.tmod (ZN.a z_1) (cI (ZN.k z)) == iZ)) (bF (!Int.tmod (ZN.a z_1) (cI (ZN.k z)) == iZ || zS true (Int.tmod (ZN.a z_1) (cI (ZN.k z)) == iZ)) (zZ (bif Int.tmod (ZN.a z_1) (cI (ZN.k z)) == iZ then Int.tmod (cI (ZN.b z_1)) (cI (ZN.k z)) == iZ else false) (bF (DB.db ((cI (ZN.k z)) ≠ iZ)) (bF (dK (Int.tdiv (ZN.a z_1) (cI (ZN.k z)))) (bF (DB.db ((cI (ZN.k z)) ≠ iZ)) (bF (dK (Int.tdiv (cI (ZN.b z_1)) (cI (ZN.k z)))) (∃ (z' :
 ZN), ((((ZN.a z' * (cI (Int.toNat d % 20 + 1)) = n * (cI (ZN.b z')) ∧ 0 < ZN.b z' ∧ ZN.b z' ≤ Int.toNat d % 20 + 1 ∧ Int.natAbs (ZN.a z') ≤ 128 ∧ 2 ≤ ZN.k z' ∧ ZN.k z' ≤ 22 ∧ ∀ (j : Nat), 2 ≤ j → j < ZN.k z' → ¬((cI j) ∣ ZN.a z' ∧ j ∣ ZN.b z')) ∧ (cI (ZN.k z')) = AV.int (aI (cI (ZN.k z)))) ∧ ZN.b z' < ZN.b z_1) ∧ (kI ∧ (cI (ZN.k z)) = (cI (ZN.k z))) ∧ (kI ∧ Int.tdiv (ZN.a z_1) (cI (ZN.k z)) = ZN.a z') ∧ kI ∧ Int.tdiv (cI (ZN.b z_1)) (cI (ZN.k z)) = (↑(ZN.b z') :
 Int)) ∧ True))))) (bF (dK ((cI (ZN.k z)) + iO)) (∃ (z' : ZN), (((ZN.a z' * (cI (Int.toNat d % 20 + 1)) = n * (cI (ZN.b z')) ∧ 0 < ZN.b z' ∧ ZN.b z' ≤ Int.toNat d % 20 + 1 ∧ Int.natAbs (ZN.a z') ≤ 128 ∧ 2 ≤ ZN.k z' ∧ ZN.k z' ≤ 22 ∧ ∀ (j : Nat), 2 ≤ j → j < ZN.k z' → ¬((cI j) ∣ ZN.a z' ∧ j ∣ ZN.b z')) ∧ 40 - ZN.k z' < 40 - ZN.k z) ∧ (kI ∧ ZN.a z_1 = ZN.a z') ∧ (kI ∧ (cI (ZN.b z_1)) = (cI (ZN.b z'))) ∧ kI ∧ (cI (ZN.k z)) + iO = (cI (ZN.k z')))
 ∧ True))))))))) ((iN ≤ ZN.a z ∧ ZN.a z ≤ iX) ∧ zZ ((cI (ZN.b z)) != iO) ((iN ≤ (cI (ZN.b z)) ∧ (cI (ZN.b z)) ≤ iX) ∧ bF (DB.db (1 + lN (Lib.itoa (cI (ZN.b z))) ≤ nX)) (bF (DB.db (lN (Lib.itoa (ZN.a z)) + lN (bA #[(47 : UInt8)] ++ Lib.itoa (cI (ZN.b z))) ≤ nX)) (Lib.itoa (ZN.a z) ++ (Array.toList
 (ByteArray.data (ByteArray.mk #[(47 : UInt8)])) ++ Lib.itoa (cI (ZN.b z))) = zt (rF n d)))) (Lib.itoa (ZN.a z) = zt (rF n d)))))) := by
 delta bF dK bA nX cI kI lN iZ iO iX iN aI
 intro hb
 simp only [↓yy, ↓Zi, row_one]
 simp only [sS, YK, yi, zk, yo, Yx, XQ, YC, wn, xJ, wE, XU, dS]
 have hD : d.tmod 20 + 1 = ((d.toNat % 20 + 1 : Nat) : Int) := by rw [Int.tmod_eq_emod_of_nonneg (by omega)]; omega
 have hD2 : d.toNat % 20 + 1 ≤ 20 := by omega
 have hD0 : 0 < d.toNat % 20 + 1 := by omega
 have eS : zt (rF n d) = ZW n (d.toNat % 20 + 1) := (Yg n hD0).symm
 rw [eS, hD]
 generalize d.toNat % 20 + 1 = D at *
 refine ⟨by simp only [yR]; omega, by simp only [yR]; omega, by simp only [yR]; omega, ⟨⟨n, D, 2⟩, ⟨rfl, hD0, Nat.le_refl _, by simp only; omega, Nat.le_refl _, by simp only; omega, fun j h1 h2 => absurd h2 (by simp only; omega)⟩, rfl, rfl, rfl⟩, fun z ⟨p1, p2, p3, p4, p5, p6, p7⟩ => ⟨fun hk => ⟨⟨z, ⟨⟨p1, p2, p3, p4, p5, p6, p7⟩, rfl⟩, rfl, rfl⟩, fun y ⟨⟨q1, q2, q3, q4, q5, q6, q7⟩, q8⟩ => ?_⟩, fun hk => ?_⟩⟩
 ·have q8 : y.k = z.k := by omega
  rw [← q8]
  have hk0 : (0 : Int) < (y.k : Int) := by omega
  refine ⟨by omega, fun _ => by omega, zX.2 ⟨fun c => ?_, fun c => ?_⟩⟩
  ·simp only [Bool.and_eq_true, beq_iff_eq] at c
   have d1 : (y.k : Int) ∣ y.a := Int.dvd_of_tmod_eq_zero c.1
   have d2 : (y.k : Int) ∣ (y.b : Int) := Int.dvd_of_tmod_eq_zero c.2
   have d3 : y.k ∣ y.b := Int.natCast_dvd_natCast.1 d2
   obtain ⟨a', ha⟩ := d1
   obtain ⟨b', hb'⟩ := d3
   have e1 : y.a.tdiv (y.k : Int) = a' := by rw [ha]; exact Int.mul_tdiv_cancel_left _ (by omega)
   have e2 : ((y.b : Nat) : Int).tdiv (y.k : Int) = (b' : Int) := by rw [hb', Int.natCast_mul]; exact Int.mul_tdiv_cancel_left _ (by omega)
   have hb0 : 0 < b' := Nat.pos_of_ne_zero fun e => by rw [e, Nat.mul_zero] at hb'; omega
   have hbl : b' < y.b := by
    rw [hb']
    have : 2 * b' ≤ y.k * b' := Nat.mul_le_mul_right _ (by omega)
    omega
   have hal : a'.natAbs ≤ y.a.natAbs := by
    rw [ha, Int.natAbs_mul]
    exact Nat.le_mul_of_pos_left _ (by omega)
   rw [e1, e2]
   refine ⟨by omega, by simp only [yR]; omega, by omega, by simp only [yR]; omega, ⟨a', b', y.k⟩, ⟨⟨⟨?_, hb0, by simp only; omega, by simp only; omega, q5, q6, fun j h1 h2 h3 => q7 j h1 h2 ⟨?_, ?_⟩⟩, rfl⟩, hbl⟩, rfl, rfl⟩
   ·have h : (y.k : Int) * (a' * (D : Int)) = (y.k : Int) * (n * (b' : Int)) := by
     have := q1
     rw [ha, hb', Int.natCast_mul] at this
     grind
    exact Int.eq_of_mul_eq_mul_left (by omega) h
   ·rw [ha]; exact Int.dvd_mul_of_dvd_right h3.1
   ·rw [hb']; exact Nat.dvd_mul_left_of_dvd h3.2 _
  ·refine ⟨by simp only [yR]; omega, ⟨y.a, y.b, y.k + 1⟩, ⟨⟨q1, q2, q3, q4, by simp only; omega, by simp only; omega, fun j h1 h2 h3 => ?_⟩, by simp only; omega⟩, rfl, rfl, by simp only; omega⟩
   by_cases ej : j = y.k
   ·subst ej
    rw [show (y.a.tmod (y.k : Int) == 0) = true from beq_iff_eq.2 (Int.tmod_eq_zero_of_dvd h3.1), show (((y.b : Nat) : Int).tmod (y.k : Int) == 0) = true from beq_iff_eq.2 (Int.tmod_eq_zero_of_dvd (Int.natCast_dvd_natCast.2 h3.2))] at c
    cases c
   ·exact q7 j h1 (by simp only at h2; omega) h3
 ·have hg : Nat.gcd z.a.natAbs z.b = 1 := by
   refine Decidable.byContradiction fun hne => ?_
   have hg0 : 0 < Nat.gcd z.a.natAbs z.b := Nat.gcd_pos_of_pos_right _ p2
   have hgl : Nat.gcd z.a.natAbs z.b ≤ z.b := Nat.le_of_dvd p2 (Nat.gcd_dvd_right _ _)
   exact p7 _ (by omega) (by omega) ⟨Int.ofNat_dvd_left.2 (Nat.gcd_dvd_left _ _), Nat.gcd_dvd_right _ _⟩
  have e : ZW n D = YM z.a z.b := by
   rw [← TA hg]
   exact (Nw hD0 p2).2 p1.symm
  rw [e]
  unfold YM
  have la := Za (n := z.a) (k := 9) (by decide) (by omega)
  have lb := Za (n := ((z.b : Nat) : Int)) (k := 9) (by decide) (by omega)
  refine ⟨by omega, fun hb1 => ⟨by omega, by omega, by simp only [List.length_append, List.length_cons, List.length_nil]; omega, ?_⟩, fun hb1 => ?_⟩
  ·rw [show (z.b.beq 1) = false from by rw [← Bool.not_eq_true]; intro h; exact hb1 (by rw [Nat.eq_of_beq_eq_true h]; rfl), cond_false, Z8]
   rfl
  ·rw [show z.b = 1 from by omega]
   exact (List.append_nil _).symm
theorem Hr {G : List (Nat × Obj)} (hG : zo G) (n : Int) (d : Int) (hn : -128 ≤ n ∧ n ≤ 127) (hd : 0 ≤ d ∧ d ≤ 255) : zU Tryz.prog G 34 [.v (.int .i8 n), .v (.int .u8 d)] (.str (zt (rF n d))) :=
 zW (T := NR G) (an := Iv n d) mixed (YZ hG) (Eq.mp (by kernel_rfl) (jg G n d hn hd))
theorem IO {G : List (Nat × Obj)} (hG : zo G) : zp Tryz.prog G 34 nv := by
 intro xs ps r h hp
 unfold nv at h
 split at h
 ·skip
  rename_i n d
  cases h
  obtain ⟨q0, q1, -⟩ := ZF hp
  exact weaken (ys := [.v (.int .i8 n), .v (.int .u8 d)]) ⟨zT _, zT _, trivial⟩ (Hr hG n d q0 q1)
 ·cases h
end Go.Te

namespace Go.Te
open Go Go.Sx Go.Proofs Go.Ar
set_option maxRecDepth 100000
set_option maxHeartbeats 4000000
structure Sm where
 A : Int
 C : Int
 E : Int
 B : Int
 D : Int
 F : Int
 N : Int
 M : Int
def mq : AV → Bool
 | .v (.int .i8 _) => true
 | _ => false
def QT : AV → Bool
 | .v (.int .u8 _) => true
 | _ => false
theorem so {x : AV} (h : mq x = true) : x = .v (.int .i8 (AV.int x)) := by
 unfold mq at h
 split at h
 ·rfl
 ·cases h
theorem VT {x : AV} (h : QT x = true) : x = .v (.int .u8 (AV.int x)) := by
 unfold QT at h
 split at h
 ·rfl
 ·cases h
instance : zr Sm := ⟨8, ⟨0, 0, 0, 0, 0, 0, 0, 0⟩,
 fun x => zw [.v (.int .i8 x.A), .v (.int .i8 x.C), .v (.int .i8 x.E), .v (.int .u8 x.B), .v (.int .u8 x.D), .v (.int .u8 x.F), .v (.int .u8 x.N), .v (.int .u8 x.M)],
 fun c => ⟨AV.int (c 0), AV.int (c 1), AV.int (c 2), AV.int (c 3), AV.int (c 4), AV.int (c 5), AV.int (c 6), AV.int (c 7)⟩,
 fun c => mq (c 0) && (mq (c 1) && (mq (c 2) && (QT (c 3) && (QT (c 4) && (QT (c 5) && (QT (c 6) && QT (c 7))))))), fun c h j hj => by
 simp only [Bool.and_eq_true] at h
 obtain ⟨h0, h1, h2, h3, h4, h5, h6, h7⟩ := h
 match j, hj with
 | 0, _ => exact ZS (so h0)
 | 1, _ => exact ZS (so h1)
 | 2, _ => exact ZS (so h2)
 | 3, _ => exact ZS (VT h3)
 | 4, _ => exact ZS (VT h4)
 | 5, _ => exact ZS (VT h5)
 | 6, _ => exact ZS (VT h6)
 | 7, _ => exact ZS (VT h7)⟩
instance : YY Sm := ⟨fun _ => rfl, fun _ => rfl⟩
theorem mZ (x : Sm) : Z4 (AV.agg 8 (zw [.v (.int .i8 x.A), .v (.int .i8 x.C), .v (.int .i8 x.E), .v (.int .u8 x.B), .v (.int .u8 x.D), .v (.int .u8 x.F), .v (.int .u8 x.N), .v (.int .u8 x.M)])) = x := Wr x
theorem Pe (x : Sm) : yt Sm (AV.agg 8 (zw [.v (.int .i8 x.A), .v (.int .i8 x.C), .v (.int .i8 x.E), .v (.int .u8 x.B), .v (.int .u8 x.D), .v (.int .u8 x.F), .v (.int .u8 x.N), .v (.int .u8 x.M)])) = true := XI x
theorem Po (x : Sm) : Z4 (AV.agg 8 (zr.enc x)) = x := Wr x
theorem Rw (x : Sm) : yt Sm (AV.agg 8 (zr.enc x)) = true := XI x
structure V4 (x : Sm) : Prop where
 A : -128 ≤ x.A ∧ x.A ≤ 127
 C : -128 ≤ x.C ∧ x.C ≤ 127
 E : -128 ≤ x.E ∧ x.E ≤ 127
 B : 0 ≤ x.B ∧ x.B ≤ 255
 D : 0 ≤ x.D ∧ x.D ≤ 255
 F : 0 ≤ x.F ∧ x.F ≤ 255
 N : 0 ≤ x.N ∧ x.N ≤ 255
 M : 0 ≤ x.M ∧ x.M ≤ 255
def yD (x : Sm) : List Tm := [⟨rF x.A x.B, 1⟩, ⟨rF x.C x.D, (x.N : Rat)⟩, ⟨rF x.E x.F, (x.M : Rat)⟩]
abbrev L0 : Nat := 232792560
abbrev B0 : Nat := 3 * (128 * L0 * 255)
theorem jk : ∀ D : Nat, 0 < D → D ≤ 20 → D ∣ L0 := by
 have h : ∀ D : Fin 21, 0 < D.val → D.val ∣ L0 := by decide
 exact fun D h0 h1 => h ⟨D, by omega⟩ h0
theorem ru {n d : Int} (hn : -128 ≤ n ∧ n ≤ 127) : ∃ z : Int, rF n d * (L0 : Rat) = (z : Rat) ∧ z.natAbs ≤ 128 * L0 := by
 have hD0 : 0 < d.toNat % 20 + 1 := by omega
 obtain ⟨e, he⟩ := jk (d.toNat % 20 + 1) hD0 (by omega)
 have hel : e ≤ L0 := by rw [he]; exact Nat.le_mul_of_pos_left _ hD0
 refine ⟨n * (e : Int), ?_, ?_⟩
 ·unfold rF
  rw [Rat.mkRat_eq_div, he, Rat.natCast_mul, Rat.intCast_mul, Rat.intCast_natCast]
  have hd : ((d.toNat % 20 + 1 : Nat) : Rat) ≠ 0 := fun e => by have := Rat.natCast_eq_zero_iff.1 e; omega
  generalize ((d.toNat % 20 + 1 : Nat) : Rat) = q at *
  grind
 ·rw [Int.natAbs_mul, Int.natAbs_natCast]
  exact Nat.mul_le_mul (by omega) hel
theorem Sa {x : Sm} (h : V4 x) : ∀ t ∈ yD x, ∃ z : Int, t.c * (L0 : Rat) = (z : Rat) ∧ z.natAbs ≤ 128 * L0 := fun t ht => by
 unfold yD at ht
 simp only [List.mem_cons, List.not_mem_nil, or_false] at ht
 rcases ht with rfl | rfl | rfl
 ·exact ru h.A
 ·exact ru h.C
 ·exact ru h.E
theorem Wo {x : Sm} (h : V4 x) : ∀ t ∈ yD x, nat0 255 t := fun t ht => by
 have key : ∀ n : Int, 0 ≤ n ∧ n ≤ 255 → nat0 255 ⟨0, (n : Rat)⟩ := fun n hn => ⟨n.toNat, by
  show (n : Rat) = _
  rw [← Rat.intCast_natCast, Int.toNat_of_nonneg hn.1], by omega⟩
 unfold yD at ht
 simp only [List.mem_cons, List.not_mem_nil, or_false] at ht
 rcases ht with rfl | rfl | rfl
 ·exact ⟨1, rfl, by omega⟩
 ·exact key _ h.N
 ·exact key _ h.M
theorem mr {x : Sm} (h : V4 x) : pg L0 B0 (yD x) := Mt (Wo h) (Sa h)
theorem QA {x : Sm} (h : V4 x) : inT 255 (yD x) := fun t ht => by
 obtain ⟨h0, h1⟩ := (Wo h t ht).in_
 exact ⟨h0, by omega⟩
theorem nH {R Q : Nat} {l : List Tm} (h : inT R l) (hq : R ≤ Q) : inT Q l := fun t ht => ⟨(h t ht).1, Nat.le_trans (h t ht).2 hq⟩
theorem nE {x : Sm} (h : V4 x) : vU (yD x) := by
 have hi := nH (QA h) (show 255 ≤ RM by decide)
 exact kt (R := 255) (L := L0) (B := B0) (show 3 ≤ 256 by decide) (Nat.le_trans (xm (by decide) hi).2.1 (show 3 ≤ 16 by decide)) (by decide) (Wo h) hi (fun t ht => mf (by decide) (Sa h t ht) (by decide) (by decide)) (by decide) (mr h) (by decide) (by decide)
structure fS (R n B : Nat) (s : List Tm) : Prop where
 g : gS R s
 len : s.length ≤ n
 pg : pg L0 B s
theorem v7 {x : Sm} (h : V4 x) : fS 255 3 B0 (Zg (yD x)) := by
 obtain ⟨h1, h2, h3⟩ := xm (by decide) (QA h)
 exact ⟨h1, h2, PW h1.nat h1.unr h3 (mr h)⟩
theorem Ht (p0 p1 p2 q0 q1 q2 : Rat) : yx (AV.xl true 2 3 (Sx.rowAt [zw [AV.str (zt p0), AV.str (zt q0)], zw [AV.str (zt p1), AV.str (zt q1)], zw [AV.str (zt p2), AV.str (zt q2)]])) = ([⟨p0, q0⟩, ⟨p1, q1⟩, ⟨p2, q2⟩] : List Tm) := by
 show ([⟨zF (zt p0), zF (zt q0)⟩, ⟨zF (zt p1), zF (zt q1)⟩, ⟨zF (zt p2), zF (zt q2)⟩] : List Tm) = _
 simp only [zk]
theorem Jr (p0 p1 p2 q0 q1 q2 : Rat) : zB Tm (AV.xl true 2 3 (Sx.rowAt [zw [AV.str (zt p0), AV.str (zt q0)], zw [AV.str (zt p1), AV.str (zt q1)], zw [AV.str (zt p2), AV.str (zt q2)]])) = true := by
 have h : ∀ p q : Rat, zr.ok (α := Tm) (zw [AV.str (zt p), AV.str (zt q)]) = true := fun p q => YY.ok (⟨p, q⟩ : Tm)
 unfold zB
 rw [Bool.and_eq_true]
 refine ⟨rfl, Sy fun i hi => ?_⟩
 match i, hi with
 | 0, _ => exact h p0 q0
 | 1, _ => exact h p1 q1
 | 2, _ => exact h p2 q2
theorem HO : zt 1 = [49] := by decide +kernel
noncomputable def Gw (G : List (Nat × Obj)) : Tb := (((NR G).plus 34 nv).plus 20 Rv).plus 35 sx
theorem OE {G : List (Nat × Obj)} (hG : zo G) : zz Tryz.prog (Gw G) := zz.plus (zz.plus (zz.plus (YZ hG) (IO hG)) (mP hG)) (pO hG)
def M4 : List AV → Option (List zn × AV)
 | [x_x] => some ([.b (yt Sm x_x), .p (V4 (Z4 (α := Sm) x_x))], .tup 2 (zw [ZD (Zg (yD (Z4 (α := Sm) x_x))), .b true]))
 | _ => none
theorem J7 (G : List (Nat × Obj)) (x : Sm) (h : V4 x) :
 let q1 := (AV.xl true 2 3 (Sx.rowAt [zw [AV.str (zt (rF (Sm.A x) (Sm.B x))), AV.str (bA #[(49 : UInt8)])], zw [AV.str (zt (rF (Sm.C x) (Sm.D x))), AV.str (Lib.itoa (Sm.N x))], zw [AV.str (zt (rF (Sm.E x) (Sm.F x))), AV.str (Lib.itoa (Sm.M x))]])); let q2 := (yx q1); let q4 := (Zg q2); let q3 := (AV.xl false 2 (lN q4) fun i j => zr.enc (gD q4 i zr.dflt) j); Zt [AV.agg 8 (zr.enc x)] → ((-128 : Int) ≤ Sm.A x ∧ Sm.A x ≤ (127 : Int)) ∧ (iZ ≤ Sm.B x ∧ Sm.B x ≤ (255 : Int)) ∧ ((-128 : Int) ≤ Sm.C x ∧ Sm.C x ≤
 (127 : Int)) ∧ (iZ ≤ Sm.D x ∧ Sm.D x ≤ (255 : Int)) ∧ bF (dK (Sm.N x)) ((iN ≤ Sm.N x ∧ Sm.N x ≤ iX) ∧ ((-128 : Int) ≤ Sm.E x ∧ Sm.E x ≤ (127 : Int)) ∧ (iZ ≤ Sm.F x ∧ Sm.F x ≤ (255 : Int)) ∧ bF (dK (Sm.M x)) ((iN ≤ Sm.M x ∧ Sm.M x ≤ iX) ∧ bF (zB Tm q1) (vU q2 ∧ bF (!zS true (iZ == iZ) || zB Tm q3) ((zS true (iZ == iZ) = true → xj (yx q3)) ∧ j2 ∧ (True ∧ zE q3 (AV.xl
 false 2 (lN (Zg (yD x))) fun i j => zr.enc (gD (Zg (yD x)) i zr.dflt) j)) ∧ (bif iZ == iZ then iZ == iZ else false) = true)))) := by
 delta bF dK bA j2 lN gD iZ iX iN
 dsimp only
 intro hb
 simp only [↓yy, ↓Zi, row_one]
 simp only [sS, YK, yi, zk, yo, Yx, XQ, YC, wn, xJ, wE, XU, dS]
 have := h.A
 have := h.C
 have := h.E
 have := h.N
 have := h.M
 rw [← UC x.N, ← UC x.M, ← HO, Ht, Jr]
 exact ⟨h.A, h.B, h.C, h.D, by simp only [yR]; omega, by omega, h.E, h.F, by simp only [yR]; omega, by omega, zX.2 ⟨fun _ => ⟨nE h, fun _ => rO (nE h), rfl, zT _, rfl⟩, fun c => by cases c⟩⟩
theorem Ie {G : List (Nat × Obj)} (hG : zo G) (x : Sm) (h : V4 x) : zU Tryz.prog G 11 [Yc x] (.tup 2 (zw [ZD (Zg (yD x)), .b true])) :=
 zW (T := Gw G) (an := .auto) mixed (OE hG) (Eq.mp (by kernel_rfl) (J7 G x h))
theorem Ib {G : List (Nat × Obj)} (hG : zo G) : zp Tryz.prog G 11 M4 := by
 intro xs ps r h hp
 unfold M4 at h
 split at h
 ·skip
  rename_i x_x
  cases h
  obtain ⟨q0, q1, -⟩ := ZF hp
  exact weaken (ys := [Yc (Z4 (α := Sm) x_x)]) ⟨ZT q0, trivial⟩ (Ie hG (Z4 (α := Sm) x_x) q1)
 ·cases h
end Go.Te

namespace Go.Te
open Go Go.Sx Go.Proofs Go.Ar
set_option maxRecDepth 100000
set_option maxHeartbeats 4000000
theorem Wh {R Q : Nat} {t : Tm} (h : Zw R t) (hq : R ≤ Q) : Zw Q t := by obtain ⟨r, e, h0, h1⟩ := h; exact ⟨r, e, h0, Nat.le_trans h1 hq⟩
theorem pC {R Q : Nat} {s : List Tm} (h : gS R s) (hq : R ≤ Q) : gS Q s := ⟨fun x hx => Wh (h.nat x hx) hq, h.ne, h.nrm, h.unr, h.le⟩
theorem Hz {R n B : Nat} {s : List Tm} (h : fS R n B s) (hR : R ≤ RM) (hB : B * RM < 10 ^ 60) : ∀ x ∈ s, bq 60 x.c :=
 Vu (by decide) h.g.nat h.g.unr (fun _ _ => rfl) h.pg (Nat.lt_of_le_of_lt (Nat.mul_le_mul_left _ hR) hB) (Nat.lt_of_le_of_lt (Nat.mul_le_mul_left _ hR) (by decide))
theorem I7 {R n B : Nat} {s : List Tm} (h : fS R n B s) (hR : R ≤ RM) (hn : n ≤ 16) (hB : B * RM < 10 ^ 60) : xj s := ⟨pC h.g hR, Nat.le_trans h.len hn, Hz h hR hB⟩
end Go.Te

namespace Go.Te
open Go Go.Sx Go.Proofs Go.Ar
set_option maxRecDepth 100000
set_option maxHeartbeats 4000000
def Wy (C : List Nat) (V : List Tm) : Prop := ∀ t ∈ V, 0 < mQ t.q → ∃ c ∈ C, 0 < c ∧ ∃ k, c * mQ t.q = k * k
theorem tp {f : Nat → Rat} : ∀ {V : List Tm}, ev f V ≠ 0 → ∃ t ∈ V, f (mQ t.q) ≠ 0
 | [], h => absurd rfl h
 | t :: V, h => by
  by_cases h0 : f (mQ t.q) = 0
  ·rw [Zk] at h
   have e : fQ f t.q = 0 := by unfold fQ; rw [h0, Rat.div_def, Rat.zero_mul]
   rw [e, Rat.mul_zero, Rat.zero_add] at h
   obtain ⟨u, hu, hf⟩ := tp h
   exact ⟨u, List.mem_cons_of_mem _ hu, hf⟩
  ·exact ⟨t, List.mem_cons_self, h0⟩
theorem Ky {R : Nat} {S V : List Tm} (hn : ∀ x ∈ S, Zw R x) (hu : S.Pairwise unr) (hne : ∀ x ∈ S, x.c ≠ 0) (he : ∀ f, hom f → ev f S = ev f V) : ∀ x ∈ S, ∃ t ∈ V, 0 < mQ t.q ∧ ∃ k, mQ t.q * mQ x.q = k * k := fun x hx => by
 have h1 := Vg hn hu hx
 rw [he _ (VP _)] at h1
 have p0 := (hn x hx).mQ.2.1
 obtain ⟨t, ht, hf⟩ := tp (f := fR (mQ x.q)) (V := V) (by
  rw [h1]
  intro e
  rcases Rat.mul_eq_zero.1 e with e | e
  ·exact hne x hx e
  ·have := Rat.natCast_eq_zero_iff.1 e
   omega)
 by_cases hs : ∃ k, mQ t.q * mQ x.q = k * k
 ·obtain ⟨k, hk⟩ := hs
  refine ⟨t, ht, Nat.pos_of_ne_zero fun e => ?_, k, hk⟩
  rw [e, Nat.zero_mul] at hk
  have hk0 : k = 0 := by
   rcases Nat.mul_eq_zero.1 hk.symm with h | h <;> exact h
  refine hf ?_
  rw [e, ux (r := mQ x.q) (n := 0) (k := 0) (by rw [Nat.zero_mul])]
  rfl
 ·exact absurd (vH fun k hk => hs ⟨k, hk⟩) hf
theorem Uy {C : List Nat} {R : Nat} {S V : List Tm} (hn : ∀ x ∈ S, Zw R x) (hu : S.Pairwise unr) (hne : ∀ x ∈ S, x.c ≠ 0) (he : ∀ f, hom f → ev f S = ev f V) (h : Wy C V) : Wy C S := fun x hx _ => by
 obtain ⟨t, ht, h0, k, hk⟩ := Ky hn hu hne he x hx
 obtain ⟨c, hc, c0, l, hl⟩ := h t ht h0
 obtain ⟨m, hm⟩ := XG (a := c * mQ x.q) (b := l * k) h0 (by
  have e : c * mQ x.q * (mQ t.q * mQ t.q) = (c * mQ t.q) * (mQ t.q * mQ x.q) := by grind
  rw [e, hl, hk]; grind)
 exact ⟨c, hc, c0, m, hm⟩
theorem QD {C D : List Nat} {V : List Tm} (h : Wy C V) (hs : ∀ c ∈ C, c ∈ D) : Wy D V := fun t ht h0 => by
 obtain ⟨c, hc, h1⟩ := h t ht h0
 exact ⟨c, hs c hc, h1⟩
def oR (C D : List Nat) : List Nat := C.flatMap fun c => D.map (c * ·)
theorem Ma (C D : List Nat) : (oR C D).length = C.length * D.length := by
 unfold oR
 induction C with
 | nil => simp
 | cons a s ih => rw [List.flatMap_cons, List.length_append, ih, List.length_map, List.length_cons]; grind
theorem oL {C D : List Nat} {R Q : Nat} {s t : List Tm} (hs : ∀ x ∈ s, Zw R x) (ht : ∀ x ∈ t, Zw Q x) (h : Wy C s) (g : Wy D t) : Wy (oR C D) (Z9 s t) := fun x hx _ => by
 obtain ⟨a, ha, hx⟩ := List.mem_flatMap.1 hx
 obtain ⟨b, hb, rfl⟩ := List.mem_map.1 hx
 obtain ⟨c, hc, c0, k, hk⟩ := h a ha (hs a ha).mQ.2.1
 obtain ⟨d, hd, d0, l, hl⟩ := g b hb (ht b hb).mQ.2.1
 refine ⟨c * d, List.mem_flatMap.2 ⟨c, hc, List.mem_map.2 ⟨d, hd, rfl⟩⟩, Nat.mul_pos c0 d0, k * l, ?_⟩
 rw [(sK (hs a ha) (ht b hb)).2]
 have e : c * d * (mQ a.q * mQ b.q) = (c * mQ a.q) * (d * mQ b.q) := by grind
 rw [e, hk, hl]; grind
theorem sE {R : Nat} : ∀ {S : List Tm} {C : List Nat}, (∀ x ∈ S, Zw R x) → S.Pairwise unr → Wy C S → S.length ≤ C.length
 | [], _, _, _, _ => Nat.zero_le _
 | x :: S, C, hn, hu, h => by
  obtain ⟨c, hc, c0, k, hk⟩ := h x List.mem_cons_self (hn x List.mem_cons_self).mQ.2.1
  obtain ⟨p1, p2⟩ := List.pairwise_cons.1 hu
  have ih := sE (S := S) (C := C.erase c) (fun y hy => hn y (List.mem_cons_of_mem _ hy)) p2 fun y hy h0 => by
   obtain ⟨d, hd, d0, l, hl⟩ := h y (List.mem_cons_of_mem _ hy) h0
   refine ⟨d, (List.mem_erase_of_ne fun e => ?_).2 hd, d0, l, hl⟩
   subst e
   obtain ⟨m, hm⟩ := XG (a := mQ x.q * mQ y.q) (b := k * l) d0 (by
    have e : mQ x.q * mQ y.q * (d * d) = (d * mQ x.q) * (d * mQ y.q) := by grind
    rw [e, hk, hl]; grind)
   exact p1 y hy m hm
  rw [List.length_erase_of_mem hc] at ih
  have : 0 < C.length := List.length_pos_of_mem hc
  rw [List.length_cons]
  omega
theorem SS {R Q L D r : Nat} : ∀ {V : List Tm}, (∀ t ∈ V, nat0 R t) → UI L D V → (∀ t ∈ V, ∃ m, m ≤ Q ∧ fR r (mQ t.q) = ((m * r : Nat) : Rat)) → ∃ z : Int, ev (fR r) V * (L : Rat) = (z : Rat) * (r : Rat) ∧ z.natAbs ≤ V.length * (D * Q)
 | [], _, _, _ => ⟨0, by rw [yz, Rat.zero_mul]; exact (Rat.zero_mul _).symm, Nat.zero_le _⟩
 | t :: V, h, g, d => by
  obtain ⟨z, h1, h2⟩ := SS (fun x hx => h x (List.mem_cons_of_mem _ hx)) (fun x hx => g x (List.mem_cons_of_mem _ hx)) fun x hx => d x (List.mem_cons_of_mem _ hx)
  obtain ⟨y, g1, g2⟩ := g t List.mem_cons_self
  obtain ⟨m, m2, m1⟩ := d t List.mem_cons_self
  obtain ⟨f1, _, _⟩ := (h t List.mem_cons_self).fQ (fR r)
  refine ⟨y * m + z, ?_, ?_⟩
  ·rw [Zk, f1, m1, Rat.intCast_add, Rat.intCast_mul, ← g1, Rat.intCast_natCast, Rat.natCast_mul, Rat.add_mul, h1]
   grind
  ·have a1 := Int.natAbs_add_le (y * m) z
   have a2 : (y * m).natAbs ≤ D * Q := by rw [Int.natAbs_mul, Int.natAbs_natCast]; exact Nat.mul_le_mul g2 m2
   rw [List.length_cons, Nat.add_mul, Nat.one_mul]
   omega
theorem oo {T R Q L D : Nat} {S V : List Tm} (hn : ∀ x ∈ S, Zw T x) (hu : S.Pairwise unr) (he : ∀ f, hom f → ev f S = ev f V) (h0 : ∀ t ∈ V, nat0 R t) (hm : UI L D V) (hd : ∀ x ∈ S, ∀ t ∈ V, ∃ m, m ≤ Q ∧ fR (mQ x.q) (mQ t.q) = ((m * mQ x.q : Nat) : Rat)) : UI L (V.length * (D * Q)) S := fun x hx => by
 obtain ⟨z, h1, h2⟩ := SS (r := mQ x.q) h0 hm (hd x hx)
 rw [← he _ (VP _), Vg hn hu hx] at h1
 have p0 := (hn x hx).mQ.2.1
 have hr : ((mQ x.q : Nat) : Rat) ≠ 0 := fun e => by have := Rat.natCast_eq_zero_iff.1 e; omega
 refine ⟨z, ?_, h2⟩
 generalize ((mQ x.q : Nat) : Rat) = r at *
 have : r * (x.c * (L : Rat)) = r * (z : Rat) := by grind
 grind
def GF (r : Nat) : Bool := (List.range r).all fun j => Nat.beq j 0 || !Nat.beq ((j * j) % r) 0
theorem kQ : ((List.range 256).all fun r => Nat.beq r 0 || (!decide (nrm r = (1, r)) || GF r)) = true := by decide +kernel
theorem mg {r j : Nat} (h0 : 0 < r) (h1 : r ≤ 255) (hn : nrm r = (1, r)) (hd : r ∣ j * j) : r ∣ j := by
 have h := List.all_eq_true.1 kQ r (List.mem_range.2 (by omega))
 rw [Bool.or_eq_true, Bool.or_eq_true] at h
 have h2 : GF r = true := by
  rcases h with h | h | h
  ·have := Nat.eq_of_beq_eq_true h; omega
  ·rw [decide_eq_true hn] at h; cases h
  ·exact h
 have h3 := List.all_eq_true.1 h2 (j % r) (List.mem_range.2 (Nat.mod_lt _ h0))
 rw [Bool.or_eq_true] at h3
 rcases h3 with h3 | h3
 ·exact Nat.dvd_of_mod_eq_zero (Nat.eq_of_beq_eq_true h3)
 ·rw [← Nat.mul_mod, Nat.mod_eq_zero_of_dvd hd] at h3
  cases h3
theorem Jg {r n : Nat} (h0 : 0 < r) (h1 : r ≤ 255) (hn : nrm r = (1, r)) (hb : n ≤ 255) : ∃ m, m ≤ 255 ∧ fR r n = ((m * r : Nat) : Rat) := by
 by_cases h : ∃ j, n * r = j * j
 ·obtain ⟨j, hj⟩ := h
  obtain ⟨m, rfl⟩ := mg h0 h1 hn (j := j) ⟨n, by rw [← hj, Nat.mul_comm]⟩
  refine ⟨m, ?_, by rw [ux hj, Nat.mul_comm]⟩
  have e : n * r = (m * m * r) * r := by rw [hj]; grind
  have e2 := Nat.eq_of_mul_eq_mul_right h0 e
  have : m ≤ m * m * r := by
   rcases Nat.eq_zero_or_pos m with rfl | hm
   ·omega
   ·rw [Nat.mul_assoc]; exact Nat.le_mul_of_pos_right _ (Nat.mul_pos hm h0)
  omega
 ·exact ⟨0, by omega, by rw [vH fun k hk => h ⟨k, hk⟩, Nat.zero_mul]; rfl⟩
structure f1 (D : Nat) (C : List Nat) (s : List Tm) : Prop where
 g : gS 255 s
 mul : UI L0 D s
 cls : Wy C s
theorem f1.len {D : Nat} {C : List Nat} {s : List Tm} (h : f1 D C s) : s.length ≤ C.length := sE h.g.nat h.g.unr h.cls
theorem f1.fS {D : Nat} {C : List Nat} {s : List Tm} (h : f1 D C s) : fS 255 C.length (C.length * (D * 255)) s := ⟨h.g, h.len, (PV h.g.nat h.mul).mono (Nat.mul_le_mul_right _ h.len)⟩
theorem LD {D : Nat} {C : List Nat} {n : Nat} {V : List Tm} (hl : V.length ≤ n) (h0 : ∀ t ∈ V, nat0 255 t) (hm : UI L0 D V) (hc : Wy C V) : f1 (n * (D * 255)) C (Zg V) := by
 have hi : inT 255 V := fun t ht => by
  obtain ⟨a, b⟩ := (h0 t ht).in_
  exact ⟨a, by omega⟩
 obtain ⟨h1, _, h3⟩ := xm (by decide) hi
 refine ⟨h1, fun x hx => ?_, Uy h1.nat h1.unr h1.ne h3 hc⟩
 obtain ⟨z, z1, z2⟩ := oo h1.nat h1.unr h3 h0 hm (fun x hx t ht => Jg (h1.nat x hx).mQ.2.1 (h1.nat x hx).mQ.2.2 (h1.nrm x hx) ((h0 t ht).fQ (fun _ => 0)).2.1) x hx
 exact ⟨z, z1, Nat.le_trans z2 (Nat.mul_le_mul_right _ hl)⟩
def He (x : Sm) : List Nat := [1, x.N.toNat, x.M.toNat]
abbrev D1 : Nat := 3 * (128 * L0 * 255)
theorem NE {n : Int} (h : 0 ≤ n) : mQ (n : Rat) = n.toNat := by
 have e : (n : Rat) = ((n.toNat : Nat) : Rat) := by rw [← Rat.intCast_natCast, Int.toNat_of_nonneg h]
 rw [e, WU]
theorem jQ {x : Sm} (h : V4 x) : f1 D1 (He x) (Zg (yD x)) := by
 refine LD (n := 3) (show 3 ≤ 3 by decide) (Wo h) (Sa h) fun t ht h0 => ?_
 refine ⟨mQ t.q, ?_, h0, _, rfl⟩
 unfold yD at ht
 simp only [List.mem_cons, List.not_mem_nil, or_false] at ht
 rcases ht with rfl | rfl | rfl
 ·exact List.mem_cons_self
 ·rw [show mQ (⟨rF x.C x.D, (x.N : Rat)⟩ : Tm).q = x.N.toNat from NE h.N.1]
  exact List.mem_cons_of_mem _ List.mem_cons_self
 ·rw [show mQ (⟨rF x.E x.F, (x.M : Rat)⟩ : Tm).q = x.M.toNat from NE h.M.1]
  exact List.mem_cons_of_mem _ (List.mem_cons_of_mem _ List.mem_cons_self)
end Go.Te

namespace Go.Te
open Go Go.Sx Go.Proofs Go.Ar
set_option maxRecDepth 100000
set_option maxHeartbeats 4000000
structure gL (L R n B : Nat) (s : List Tm) : Prop where
 g : gS R s
 len : s.length ≤ n
 pg : pg L B s
theorem Ho {L R n B : Nat} {s : List Tm} (h : gL L R n B s) (hR : R ≤ RM) (hL : 0 < L ∧ L * RM < 10 ^ 60) (hB : B * RM < 10 ^ 60) : ∀ x ∈ s, bq 60 x.c :=
 Vu hL.1 h.g.nat h.g.unr (fun _ _ => rfl) h.pg (Nat.lt_of_le_of_lt (Nat.mul_le_mul_left _ hR) hB) (Nat.lt_of_le_of_lt (Nat.mul_le_mul_left _ hR) hL.2)
theorem HZ {L R n B : Nat} {s : List Tm} (h : gL L R n B s) (hR : R ≤ RM) (hL : 0 < L ∧ L * RM < 10 ^ 60) (hn : n ≤ 16) (hB : B * RM < 10 ^ 60) : xj s := ⟨pC h.g hR, Nat.le_trans h.len hn, Ho h hR hL hB⟩
theorem JX {l : List Tm} {L B : Nat} (hL : 0 < L ∧ L * RM < 10 ^ 60) (hl : l.length ≤ 256) (ho : (Zg l).length ≤ 16) (hn : ∀ t ∈ l, Zw RM t) (hc : ∀ t ∈ l, bq 60 t.c) (hp : pg L B l) (h1 : B * RM < 10 ^ 60) : vU l := by
 have hi : inT RM l := fun t ht => uj (hn t ht)
 exact ⟨hl, hc, fun t ht _ => nO (hn t ht), hi, QE (by decide) hi hL.1 hp h1 hL.2, ho⟩
theorem Mk {A B : Nat} {s t : List Tm} (hs : UI L0 A s) (ht : UI L0 B t) : UI (L0 * L0) (A * B) (Z9 s t) := fun x hx => by
 obtain ⟨a, ha, hx⟩ := List.mem_flatMap.1 hx
 obtain ⟨b, hb, rfl⟩ := List.mem_map.1 hx
 obtain ⟨y, y1, y2⟩ := hs a ha
 obtain ⟨z, z1, z2⟩ := ht b hb
 refine ⟨y * z, ?_, by rw [Int.natAbs_mul]; exact Nat.mul_le_mul y2 z2⟩
 rw [Rat.intCast_mul, ← y1, ← z1, Rat.natCast_mul]
 show a.c * b.c * _ = _
 grind
abbrev RP : Nat := 255 * 255
abbrev LP : Nat := L0 * L0
theorem I5 : 0 < LP ∧ LP * RM < 10 ^ 60 := by decide
structure Ga (C : List Nat) (n B : Nat) (s t : List Tm) : Prop where
 made : vU (Z9 s t)
 f : gL LP RP C.length (n * B) (Zg (Z9 s t))
 cls : Wy C (Zg (Z9 s t))
 ev : ∀ f, hom f → ev f (Zg (Z9 s t)) = bi f s t
theorem JQ {A B : Nat} {C D E : List Nat} {s t : List Tm} (hs : f1 A C s) (ht : f1 B D t) (hE : ∀ c ∈ oR C D, c ∈ E) (hl : E.length ≤ 16) (hB : 256 * (A * B * RP) * RM < 10 ^ 60) (hn : s.length * t.length ≤ 256) : Ga E 256 (A * B * RP) s t := by
 obtain ⟨i1, i2⟩ := KG hs.g.nat ht.g.nat
 have hm := Mk hs.mul ht.mul
 obtain ⟨h1, _, h3⟩ := xm (show RP < _ by decide) i2
 have hp := PV i1 hm
 rw [Us] at hp
 have hp := hp.mono (Nat.mul_le_mul_right (A * B * RP) hn)
 have hc := Uy h1.nat h1.unr h1.ne h3 (QD (oL hs.g.nat ht.g.nat hs.cls ht.cls) hE)
 have hlen := sE h1.nat h1.unr hc
 have hAB : A * B < 10 ^ 60 := by
  refine Nat.lt_of_le_of_lt ?_ hB
  rw [Nat.mul_assoc, Nat.mul_assoc]
  exact Nat.le_trans (Nat.le_mul_of_pos_right _ (by decide : 0 < RP * RM)) (Nat.le_mul_of_pos_left _ (by decide))
 have hbc : ∀ x ∈ Z9 s t, bq 60 x.c := fun x hx => mf (L := LP) (by decide) (hm x hx) hAB (by decide)
 exact ⟨JX I5 (by rw [Us]; exact hn) (Nat.le_trans hlen hl) (fun x hx => Wh (i1 x hx) (by decide)) hbc hp hB, ⟨h1, hlen, PW h1.nat h1.unr h3 hp⟩, hc, fun f hf => by rw [h3 f hf, NT hs.g.nat ht.g.nat]⟩
end Go.Te

namespace Go.Te
open Go Go.Sx Go.Proofs Go.Ar
set_option maxRecDepth 100000
set_option maxHeartbeats 4000000
end Go.Te

namespace Go.Te
open Go Go.Sx Go.Proofs Go.Ar
set_option maxRecDepth 100000
set_option maxHeartbeats 4000000
abbrev DC : Nat := 2 * (32768 * 65535)
structure G7 (a b : Int) (n : Nat) (s : List Tm) : Prop where
 g : gS 65535 s
 len : s.length ≤ 2
 root : ∀ x ∈ s, mQ x.q = 1 ∨ mQ x.q = (nrm n).2
 mul : UI 1 DC s
 ev : ∀ f, hom f → ev f s = a * f 1 + b * f n
end Go.Te

namespace Go.Te
open Go Go.Sx Go.Proofs Go.Ar
set_option maxRecDepth 100000
set_option maxHeartbeats 4000000
end Go.Te

namespace Go.Te
open Go Go.Sx Go.Proofs Go.Ar
set_option maxRecDepth 100000
set_option maxHeartbeats 4000000
def lF (t : Tm) : Rat := t.c * t.c * t.q
theorem Ur {a b : Nat} (h : a ≤ b) : a * a ≤ b * b := Nat.mul_le_mul h h
theorem SJ {t : Tm} (hn : Zw RM t) (N : Nat) : lF t * ((10 ^ (2 * N) : Nat) : Rat) * ((t.c.den : Rat) * (t.c.den : Rat)) = ((X4 t N : Nat) : Rat) := by
 have hq := hn.mQ.1
 have hc : t.c * (t.c.den : Rat) = (t.c.num : Rat) := by
  have h2 := Rat.mkRat_self t.c
  have hd : (t.c.den : Rat) ≠ 0 := fun e => t.c.den_nz (Rat.natCast_eq_zero_iff.1 e)
  rw [Rat.mkRat_eq_div] at h2
  generalize (t.c.num : Rat) = x at *
  generalize (t.c.den : Rat) = d at *
  rw [← h2]
  grind
 have hs : ((t.c.num.natAbs * t.c.num.natAbs : Nat) : Rat) = (t.c.num : Rat) * (t.c.num : Rat) := by
  rw [← Rat.intCast_natCast, Int.natCast_mul, Int.natAbs_mul_self', Rat.intCast_mul]
 unfold X4 lF
 rw [Rat.natCast_mul, Rat.natCast_mul, hs, ← hc, ← hq]
 generalize ((10 ^ (2 * N) : Nat) : Rat) = K
 generalize (t.c.den : Rat) = d
 grind
theorem QF (c : Rat) : (0 : Rat) < (c.den : Rat) * (c.den : Rat) := Rat.mul_pos (Rat.natCast_pos.2 c.den_pos) (Rat.natCast_pos.2 c.den_pos)
theorem MY {t : Tm} (hn : Zw RM t) {N f : Nat} (h : (t.c.den * f) * (t.c.den * f) ≤ X4 t N) : (f : Rat) * (f : Rat) ≤ lF t * ((10 ^ (2 * N) : Nat) : Rat) := by
 refine Rat.le_of_mul_le_mul_right ?_ (QF t.c)
 rw [SJ hn]
 have := Rat.natCast_le_natCast.2 h
 rw [Rat.natCast_mul, Rat.natCast_mul] at this
 generalize (t.c.den : Rat) = d at *
 grind
theorem Hq {t : Tm} (hn : Zw RM t) {N f : Nat} (h : X4 t N < (t.c.den * f) * (t.c.den * f)) : lF t * ((10 ^ (2 * N) : Nat) : Rat) < (f : Rat) * (f : Rat) := by
 refine Rat.lt_of_mul_lt_mul_right ?_ (Rat.le_of_lt (QF t.c))
 rw [SJ hn]
 have := Rat.natCast_lt_natCast.2 h
 rw [Rat.natCast_mul, Rat.natCast_mul] at this
 generalize (t.c.den : Rat) = d at *
 grind
theorem jr {t : Tm} (hn : Zw RM t) {N f : Nat} (h : X4 t N ≤ (t.c.den * f) * (t.c.den * f)) : lF t * ((10 ^ (2 * N) : Nat) : Rat) ≤ (f : Rat) * (f : Rat) := by
 refine Rat.le_of_mul_le_mul_right ?_ (QF t.c)
 rw [SJ hn]
 have := Rat.natCast_le_natCast.2 h
 rw [Rat.natCast_mul, Rat.natCast_mul] at this
 generalize (t.c.den : Rat) = d at *
 grind
theorem Kg {t : Tm} (hn : Zw RM t) (hc : 0 < t.c) (N : Nat) : ∃ f : Nat, wi t N = (f : Int) ∧ (f : Rat) * (f : Rat) ≤ lF t * ((10 ^ (2 * N) : Nat) : Rat) ∧ lF t * ((10 ^ (2 * N) : Nat) : Rat) < ((f + 1 : Nat) : Rat) * ((f + 1 : Nat) : Rat) := by
 obtain ⟨s1, s2⟩ := yH (X4 t N)
 have d0 := t.c.den_pos
 have h1 : t.c.den * (ZJ (X4 t N) / t.c.den) ≤ ZJ (X4 t N) := Nat.mul_div_le _ _
 have h2 : ZJ (X4 t N) + 1 ≤ t.c.den * (ZJ (X4 t N) / t.c.den + 1) := Nat.lt_mul_div_succ _ d0
 refine ⟨ZJ (X4 t N) / t.c.den, ?_, MY hn (Nat.le_trans (Ur h1) s1), Hq hn (Nat.lt_of_lt_of_le s2 (Ur h2))⟩
 unfold wi
 rw [if_pos (Rat.num_nonneg.2 (Rat.le_of_lt hc))]
theorem Kl {t : Tm} (hn : Zw RM t) (hc : t.c < 0) (N : Nat) : ∃ g : Nat, wi t N = -(g + 1 : Int) ∧ (g : Rat) * (g : Rat) ≤ lF t * ((10 ^ (2 * N) : Nat) : Rat) ∧ lF t * ((10 ^ (2 * N) : Nat) : Rat) ≤ ((g + 1 : Nat) : Rat) * ((g + 1 : Nat) : Rat) := by
 obtain ⟨s1, s2⟩ := yH (X4 t N)
 have d0 := t.c.den_pos
 have h1 : t.c.den * (ZJ (X4 t N) / t.c.den) ≤ ZJ (X4 t N) := Nat.mul_div_le _ _
 have h2 : ZJ (X4 t N) + 1 ≤ t.c.den * (ZJ (X4 t N) / t.c.den + 1) := Nat.lt_mul_div_succ _ d0
 have hneg : ¬0 ≤ t.c.num := fun h => absurd (Rat.num_nonneg.1 h) (Rat.not_le.2 hc)
 have hS : 0 < X4 t N := by
  unfold X4
  have : 0 < t.c.num.natAbs := by omega
  exact Nat.mul_pos (Nat.mul_pos (Nat.mul_pos this this) hn.mQ.2.1) (Nat.pow_pos (by decide))
 unfold wi
 rw [if_neg hneg]
 split
 ·rename_i h
  have e : ZJ (X4 t N) = t.c.den * (ZJ (X4 t N) / t.c.den) := (Nat.mul_div_cancel' (Nat.dvd_of_mod_eq_zero h.2)).symm
  have p0 : 0 < ZJ (X4 t N) / t.c.den := Nat.pos_of_ne_zero fun e0 => by
   rw [e0, Nat.mul_zero] at e
   rw [e] at h
   have := h.1
   omega
  generalize ZJ (X4 t N) = r at *
  generalize hf : r / t.c.den = f at *
  refine ⟨f - 1, by omega, MY hn (Nat.le_trans (Ur (Nat.le_trans (Nat.mul_le_mul_left _ (Nat.sub_le _ _)) h1)) s1), jr hn ?_⟩
  rw [show f - 1 + 1 = f by omega, ← e, h.1]
  exact Nat.le_refl _
 ·refine ⟨ZJ (X4 t N) / t.c.den, rfl, MY hn (Nat.le_trans (Ur h1) s1), jr hn (Nat.le_of_lt (Nat.lt_of_lt_of_le s2 (Ur h2)))⟩
end Go.Te
