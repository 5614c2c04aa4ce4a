/- kingpostlaw04: text, of. -/
import Derived.Test.YthbpnknhfokadaaGreatDoorThQi
import Derived.Test.YthbpnknhfokadaaGreatDoorArAB
import Derived.ChangeArms
import Derived.Lib.LaidTab
import Derived.Test.YthbpnknhfokadaaGreatDoorCards
import Derived.Test.YthbpnknhfokadaaGreatDoorTie
import Derived.WalkKit
import Derived.ProofKit
import Derived.OpenShut
import Derived.WideKeyArgs
import Derived.Deep.DeepHandedRow
set_option linter.unusedSimpArgs false
set_option linter.unusedVariables false
namespace Go.Te
open Go Go.Sx Go.Proofs Go.Ar
set_option maxRecDepth 100000
set_option maxHeartbeats 4000000
theorem Ld {l : List Tm} {R L B : Nat} (hl : l.length ≤ 256) (ho : (Zl l).length ≤ 16) (hR : R < 10 ^ 15) (hn : ∀ t ∈ l, nat0 R t) (hi : inT RM l) (hc : ∀ t ∈ l, bq 60 t.c) (hL : 0 < L) (hp : pg L B l) (h1 : B * RM < 10 ^ 60) (h2 : L * RM < 10 ^ 60) : XL l := by
 refine ⟨hl, hc, fun t ht h0 => ?_, hi, sD (by decide) hi hL hp h1 h2, ho⟩
 obtain ⟨r, e, hr⟩ := hn t ht
 have hr0 : r ≠ 0 := fun e0 => h0 (by rw [e, e0]; rfl)
 have b1 : bq 15 t.q := by
  rw [e]
  exact ⟨by rw [Rat.num_natCast, Int.natAbs_natCast]; omega, by rw [Rat.den_natCast]; decide⟩
 refine ⟨(ZH (by decide) (by decide)).2 (b1.mono (by decide)), ?_, ?_⟩
 ·rw [zm, e]
  exact Rat.lt_of_le_of_ne Rat.natCast_nonneg fun e => hr0 (Rat.natCast_eq_zero_iff.1 e.symm)
 ·rw [zm]
  have a1 : x5 t.q.num ≤ 15 := xM (by decide) b1.num
  have a2 : Lib.nDigits t.q.den ≤ 1 := (Zx (by decide)).2 (by rw [e, Rat.den_natCast]; decide)
  omega
def QD (n d : Int) : Rat := mkRat n (d.toNat % 20 + 1)
structure Zm where
 a : Int
 b : Nat
 k : Nat
def gV (n : Int) (D : Nat) (z : Zm) : Prop := z.a * (D : Int) = n * (z.b : Int) ∧ 0 < z.b ∧ z.b ≤ D ∧ z.a.natAbs ≤ 128 ∧ 2 ≤ z.k ∧ z.k ≤ 22 ∧ ∀ j, 2 ≤ j → j < z.k → ¬((j : Int) ∣ z.a ∧ j ∣ z.b)
def jM (n d : Int) : yt :=
 .two .auto (.two .auto (.two (.two .auto (.one (.loop Zm (fun σ z => [(5, .i z.a), (6, .i (z.b : Int)), (7, .i (z.k : Int))]) (fun σ z => []) 0 (fun σ z => gV n (d.toNat % 20 + 1) z) (fun σ z => 40 - z.k) (.two .auto (.two (.one (.one (.loop Zm (fun σ z => [(7, σ.tm 7), (5, .i z.a), (6, .i (z.b : Int))]) (fun σ z => []) 0 (fun σ z => gV n (d.toNat % 20 + 1) z ∧ (z.k : Int) = AV.int (σ.tm 7)) (fun σ z => z.b) .auto))) .auto))))) .auto))
def nH : List AV → Option (List zN × AV)
 | [.v (.int .i8 n), .v (.int .u8 d)] => some ([.p (-128 ≤ n ∧ n ≤ 127), .p (0 ≤ d ∧ d ≤ 255)], .str (zT (QD n d)))
 | _ => none
theorem jT (G : List (Nat × Obj)) (n : Int) (d : Int) (hn : -128 ≤ n ∧ n ≤ 127) (hd : 0 ≤ d ∧ d ≤ 255) :
 Zw [AV.v (Value.int IntKind.i8 n), AV.v (Value.int IntKind.u8 d)] → bF (dK n) (bF (dK d) (bF (dK (Int.tmod d (20 : Int) + iO)) ((∃ (z : Zm), ((Zm.a z * (cI (Int.toNat d % 20 + 1)) = n * (cI (Zm.b z)) ∧ 0 < Zm.b z ∧ Zm.b z ≤ Int.toNat d % 20 + 1 ∧ Int.natAbs (Zm.a z) ≤ 128 ∧ 2 ≤ Zm.k z ∧ Zm.k z ≤ 22 ∧ ∀ (j : Nat), 2 ≤ j → j < Zm.k z → ¬((cI j) ∣ Zm.a z ∧ j ∣ Zm.b z)) ∧ (kI ∧ n = Zm.a z) ∧ (kI ∧ Int.tmod d (20 : Int) + iO = (cI (Zm.b z))) ∧ kI ∧ (2 :
 Int) = (cI (Zm.k z))) ∧ True) ∧ ∀ (z : Zm), (Zm.a z * (cI (Int.toNat d % 20 + 1)) = n * (cI (Zm.b z)) ∧ 0 < Zm.b z ∧ Zm.b z ≤ Int.toNat d % 20 + 1 ∧ Int.natAbs (Zm.a z) ≤ 128 ∧ 2 ≤ Zm.k z ∧ Zm.k z ≤ 22 ∧ ∀ (j : Nat), 2 ≤ j → j < Zm.k z → ¬((cI j) ∣ Zm.a z ∧ j ∣ Zm.b z)) → zZ (leB (cI (Zm.k z)) (cI (Zm.b z))) ((∃ (z_1 : Zm), (((Zm.a z_1 * (cI (Int.toNat d % 20 + 1)) = n * (cI (Zm.b z_1)) ∧ 0 < Zm.b z_1 ∧ Zm.b z_1 ≤ Int.toNat d % 20 + 1 ∧ Int.natAbs (Zm.a z_1) ≤ 128 ∧ 2 ≤ Zm.k z_1 ∧ Zm.k z_1 ≤ 22 ∧ ∀ (j : Nat), 2 ≤ j → j < Zm.k z_1 →
 ¬((cI j) ∣ Zm.a z_1 ∧ j ∣ Zm.b z_1)) ∧ (cI (Zm.k z_1)) = AV.int (aI (cI (Zm.k z)))) ∧ (kI ∧ (cI (Zm.k z)) = (cI (Zm.k z))) ∧ (kI ∧ Zm.a z = Zm.a z_1) ∧ kI ∧ (cI (Zm.b z)) = (cI (Zm.b z_1))) ∧ True) ∧ ∀ (z_1 : Zm), (Zm.a z_1 * (cI (Int.toNat d % 20 + 1)) = n * (cI (Zm.b z_1)) ∧ 0 < Zm.b z_1 ∧ Zm.b z_1 ≤ Int.toNat d % 20 + 1 ∧ Int.natAbs (Zm.a z_1) ≤ 128 ∧ 2 ≤ Zm.k z_1 ∧ Zm.k z_1 ≤ 22 ∧ ∀ (j : Nat), 2 ≤ j → j < Zm.k z_1 → ¬((cI j) ∣ Zm.a z_1 ∧ j ∣ Zm.b z_1)) ∧ (cI (Zm.k
 z_1)) = AV.int (aI (cI (Zm.k z))) → bF (DB.db ((cI (Zm.k z)) ≠ iZ)) (bF (!zr true (Int.tmod (Zm.a z_1) (cI (Zm.k z)) == iZ) || zr true (Int.tmod (Zm.a z_1) (cI (Zm.k z)) == iZ)) (bF (!zr true (Int.tmod (Zm.a z_1) (cI (Zm.k z)) == iZ) || zr true (Int.tmod (Zm.a z_1) (cI (Zm.k z)) == iZ)) (bF (!zr true (Int.tmod (Zm.a z_1) (cI (Zm.k z)) == iZ) || DB.db ((cI (Zm.k z)) ≠ iZ)) (bF (!zr true (Int.tmod (Zm.a z_1) (cI (Zm.k z)) == iZ) ||
 zr true (Int.tmod (Zm.a z_1) (cI (Zm.k z)) == iZ)) (bF (!Int.tmod (Zm.a z_1) (cI (Zm.k z)) == iZ || zr true (Int.tmod (Zm.a z_1) (cI (Zm.k z)) == iZ)) (zZ (bif Int.tmod (Zm.a z_1) (cI (Zm.k z)) == iZ then Int.tmod (cI (Zm.b z_1)) (cI (Zm.k z)) == iZ else false) (bF (DB.db ((cI (Zm.k z)) ≠ iZ)) (bF (dK (Int.tdiv (Zm.a z_1) (cI (Zm.k z)))) (bF (DB.db ((cI (Zm.k z)) ≠ iZ)) (bF (dK (Int.tdiv (cI (Zm.b z_1)) (cI (Zm.k z)))) (∃ (z' :
 Zm), ((((Zm.a z' * (cI (Int.toNat d % 20 + 1)) = n * (cI (Zm.b z')) ∧ 0 < Zm.b z' ∧ Zm.b z' ≤ Int.toNat d % 20 + 1 ∧ Int.natAbs (Zm.a z') ≤ 128 ∧ 2 ≤ Zm.k z' ∧ Zm.k z' ≤ 22 ∧ ∀ (j : Nat), 2 ≤ j → j < Zm.k z' → ¬((cI j) ∣ Zm.a z' ∧ j ∣ Zm.b z')) ∧ (cI (Zm.k z')) = AV.int (aI (cI (Zm.k z)))) ∧ Zm.b z' < Zm.b z_1) ∧ (kI ∧ (cI (Zm.k z)) = (cI (Zm.k z))) ∧ (kI ∧ Int.tdiv (Zm.a z_1) (cI (Zm.k z)) = Zm.a z') ∧ kI ∧ Int.tdiv (cI (Zm.b z_1)) (cI (Zm.k z)) = (↑(Zm.b z') :
 Int)) ∧ True))))) (bF (dK ((cI (Zm.k z)) + iO)) (∃ (z' : Zm), (((Zm.a z' * (cI (Int.toNat d % 20 + 1)) = n * (cI (Zm.b z')) ∧ 0 < Zm.b z' ∧ Zm.b z' ≤ Int.toNat d % 20 + 1 ∧ Int.natAbs (Zm.a z') ≤ 128 ∧ 2 ≤ Zm.k z' ∧ Zm.k z' ≤ 22 ∧ ∀ (j : Nat), 2 ≤ j → j < Zm.k z' → ¬((cI j) ∣ Zm.a z' ∧ j ∣ Zm.b z')) ∧ 40 - Zm.k z' < 40 - Zm.k z) ∧ (kI ∧ Zm.a z_1 = Zm.a z') ∧ (kI ∧ (cI (Zm.b z_1)) = (cI (Zm.b z'))) ∧ kI ∧ (cI (Zm.k z)) + iO = (cI (Zm.k z')))
 ∧ True))))))))) ((iN ≤ Zm.a z ∧ Zm.a z ≤ iX) ∧ zZ ((cI (Zm.b z)) != iO) ((iN ≤ (cI (Zm.b z)) ∧ (cI (Zm.b z)) ≤ iX) ∧ bF (DB.db (1 + lN (Lib.itoa (cI (Zm.b z))) ≤ nX)) (bF (DB.db (lN (Lib.itoa (Zm.a z)) + lN (bA #[(47 : UInt8)] ++ Lib.itoa (cI (Zm.b z))) ≤ nX)) (Lib.itoa (Zm.a z) ++ (Array.toList
 (ByteArray.data (ByteArray.mk #[(47 : UInt8)])) ++ Lib.itoa (cI (Zm.b z))) = zT (QD n d)))) (Lib.itoa (Zm.a z) = zT (QD n d)))))) := by
 delta bF dK bA nX cI kI lN iZ iO iX iN aI
 intro hb
 simp only [↓yz, ↓Zj, row_one]
 simp only [sS, YY, yU, zm, yZ, yI, xh, Yl, Xr, Yb, Xa, Y6, dS]
 have hD : d.tmod 20 + 1 = ((d.toNat % 20 + 1 : Nat) : Int) := by rw [Int.tmod_eq_emod_of_nonneg (by omega)]; omega
 have hD2 : d.toNat % 20 + 1 ≤ 20 := by omega
 have hD0 : 0 < d.toNat % 20 + 1 := by omega
 have eS : zT (QD n d) = ZX n (d.toNat % 20 + 1) := (Yi n hD0).symm
 rw [eS, hD]
 generalize d.toNat % 20 + 1 = D at *
 refine ⟨by simp only [yP]; omega, by simp only [yP]; omega, by simp only [yP]; omega, ⟨⟨n, D, 2⟩, ⟨rfl, hD0, Nat.le_refl _, by simp only; omega, Nat.le_refl _, by simp only; omega, fun j h1 h2 => absurd h2 (by simp only; omega)⟩, rfl, rfl, rfl⟩, fun z ⟨p1, p2, p3, p4, p5, p6, p7⟩ => ⟨fun hk => ⟨⟨z, ⟨⟨p1, p2, p3, p4, p5, p6, p7⟩, rfl⟩, rfl, rfl⟩, fun y ⟨⟨q1, q2, q3, q4, q5, q6, q7⟩, q8⟩ => ?_⟩, fun hk => ?_⟩⟩
 ·have q8 : y.k = z.k := by omega
  rw [← q8]
  have hk0 : (0 : Int) < (y.k : Int) := by omega
  refine ⟨by omega, fun _ => by omega, zX.2 ⟨fun c => ?_, fun c => ?_⟩⟩
  ·simp only [Bool.and_eq_true, beq_iff_eq] at c
   have d1 : (y.k : Int) ∣ y.a := Int.dvd_of_tmod_eq_zero c.1
   have d2 : (y.k : Int) ∣ (y.b : Int) := Int.dvd_of_tmod_eq_zero c.2
   have d3 : y.k ∣ y.b := Int.natCast_dvd_natCast.1 d2
   obtain ⟨a', ha⟩ := d1
   obtain ⟨b', hb'⟩ := d3
   have e1 : y.a.tdiv (y.k : Int) = a' := by rw [ha]; exact Int.mul_tdiv_cancel_left _ (by omega)
   have e2 : ((y.b : Nat) : Int).tdiv (y.k : Int) = (b' : Int) := by rw [hb', Int.natCast_mul]; exact Int.mul_tdiv_cancel_left _ (by omega)
   have hb0 : 0 < b' := Nat.pos_of_ne_zero fun e => by rw [e, Nat.mul_zero] at hb'; omega
   have hbl : b' < y.b := by
    rw [hb']
    have : 2 * b' ≤ y.k * b' := Nat.mul_le_mul_right _ (by omega)
    omega
   have hal : a'.natAbs ≤ y.a.natAbs := by
    rw [ha, Int.natAbs_mul]
    exact Nat.le_mul_of_pos_left _ (by omega)
   rw [e1, e2]
   refine ⟨by omega, by simp only [yP]; omega, by omega, by simp only [yP]; omega, ⟨a', b', y.k⟩, ⟨⟨⟨?_, hb0, by simp only; omega, by simp only; omega, q5, q6, fun j h1 h2 h3 => q7 j h1 h2 ⟨?_, ?_⟩⟩, rfl⟩, hbl⟩, rfl, rfl⟩
   ·have h : (y.k : Int) * (a' * (D : Int)) = (y.k : Int) * (n * (b' : Int)) := by
     have := q1
     rw [ha, hb', Int.natCast_mul] at this
     grind
    exact Int.eq_of_mul_eq_mul_left (by omega) h
   ·rw [ha]; exact Int.dvd_mul_of_dvd_right h3.1
   ·rw [hb']; exact Nat.dvd_mul_left_of_dvd h3.2 _
  ·refine ⟨by simp only [yP]; omega, ⟨y.a, y.b, y.k + 1⟩, ⟨⟨q1, q2, q3, q4, by simp only; omega, by simp only; omega, fun j h1 h2 h3 => ?_⟩, by simp only; omega⟩, rfl, rfl, by simp only; omega⟩
   by_cases ej : j = y.k
   ·subst ej
    rw [show (y.a.tmod (y.k : Int) == 0) = true from beq_iff_eq.2 (Int.tmod_eq_zero_of_dvd h3.1), show (((y.b : Nat) : Int).tmod (y.k : Int) == 0) = true from beq_iff_eq.2 (Int.tmod_eq_zero_of_dvd (Int.natCast_dvd_natCast.2 h3.2))] at c
    cases c
   ·exact q7 j h1 (by simp only at h2; omega) h3
 ·have hg : Nat.gcd z.a.natAbs z.b = 1 := by
   refine Decidable.byContradiction fun hne => ?_
   have hg0 : 0 < Nat.gcd z.a.natAbs z.b := Nat.gcd_pos_of_pos_right _ p2
   have hgl : Nat.gcd z.a.natAbs z.b ≤ z.b := Nat.le_of_dvd p2 (Nat.gcd_dvd_right _ _)
   exact p7 _ (by omega) (by omega) ⟨Int.ofNat_dvd_left.2 (Nat.gcd_dvd_left _ _), Nat.gcd_dvd_right _ _⟩
  have e : ZX n D = Yn z.a z.b := by
   rw [← TQ hg]
   exact (N5 hD0 p2).2 p1.symm
  rw [e]
  unfold Yn
  have la := ZA (n := z.a) (k := 9) (by decide) (by omega)
  have lb := ZA (n := ((z.b : Nat) : Int)) (k := 9) (by decide) (by omega)
  refine ⟨by omega, fun hb1 => ⟨by omega, by omega, by simp only [List.length_append, List.length_cons, List.length_nil]; omega, ?_⟩, fun hb1 => ?_⟩
  ·rw [show (z.b.beq 1) = false from by rw [← Bool.not_eq_true]; intro h; exact hb1 (by rw [Nat.eq_of_beq_eq_true h]; rfl), cond_false, Z6]
   rfl
  ·rw [show z.b = 1 from by omega]
   exact (List.append_nil _).symm
theorem Ih {G : List (Nat × Obj)} (hG : zo G) (n : Int) (d : Int) (hn : -128 ≤ n ∧ n ≤ 127) (hd : 0 ≤ d ∧ d ≤ 255) : zt Tryz.prog G 34 [.v (.int .i8 n), .v (.int .u8 d)] (.str (zT (QD n d))) :=
 zW (T := ni G) (an := jM n d) mixed (Yy hG) (Eq.mp (by kernel_rfl) (jT G n d hn hd))
theorem IN {G : List (Nat × Obj)} (hG : zo G) : zp Tryz.prog G 34 nH := by
 intro xs ps r h hp
 unfold nH at h
 split at h
 ·skip
  rename_i n d
  cases h
  obtain ⟨q0, q1, -⟩ := ZI hp
  exact weaken (ys := [.v (.int .i8 n), .v (.int .u8 d)]) ⟨zS _, zS _, trivial⟩ (Ih hG n d q0 q1)
 ·cases h
end Go.Te

namespace Go.Te
open Go Go.Sx Go.Proofs Go.Ar
set_option maxRecDepth 100000
set_option maxHeartbeats 4000000
structure Sm where
 A : Int
 C : Int
 E : Int
 B : Int
 D : Int
 F : Int
 N : Int
 M : Int
def Nz : AV → Bool
 | .v (.int .i8 _) => true
 | _ => false
def Qd : AV → Bool
 | .v (.int .u8 _) => true
 | _ => false
theorem sN {x : AV} (h : Nz x = true) : x = .v (.int .i8 (AV.int x)) := by
 unfold Nz at h
 split at h
 ·rfl
 ·cases h
theorem vS {x : AV} (h : Qd x = true) : x = .v (.int .u8 (AV.int x)) := by
 unfold Qd at h
 split at h
 ·rfl
 ·cases h
instance : zV Sm := ⟨8, ⟨0, 0, 0, 0, 0, 0, 0, 0⟩,
 fun x => zw [.v (.int .i8 x.A), .v (.int .i8 x.C), .v (.int .i8 x.E), .v (.int .u8 x.B), .v (.int .u8 x.D), .v (.int .u8 x.F), .v (.int .u8 x.N), .v (.int .u8 x.M)],
 fun c => ⟨AV.int (c 0), AV.int (c 1), AV.int (c 2), AV.int (c 3), AV.int (c 4), AV.int (c 5), AV.int (c 6), AV.int (c 7)⟩,
 fun c => Nz (c 0) && (Nz (c 1) && (Nz (c 2) && (Qd (c 3) && (Qd (c 4) && (Qd (c 5) && (Qd (c 6) && Qd (c 7))))))), fun c h j hj => by
 simp only [Bool.and_eq_true] at h
 obtain ⟨h0, h1, h2, h3, h4, h5, h6, h7⟩ := h
 match j, hj with
 | 0, _ => exact ZT (sN h0)
 | 1, _ => exact ZT (sN h1)
 | 2, _ => exact ZT (sN h2)
 | 3, _ => exact ZT (vS h3)
 | 4, _ => exact ZT (vS h4)
 | 5, _ => exact ZT (vS h5)
 | 6, _ => exact ZT (vS h6)
 | 7, _ => exact ZT (vS h7)⟩
instance : y7 Sm := ⟨fun _ => rfl, fun _ => rfl⟩
theorem Mq (x : Sm) : Zn (AV.agg 8 (zw [.v (.int .i8 x.A), .v (.int .i8 x.C), .v (.int .i8 x.E), .v (.int .u8 x.B), .v (.int .u8 x.D), .v (.int .u8 x.F), .v (.int .u8 x.N), .v (.int .u8 x.M)])) = x := Wt x
theorem py (x : Sm) : yV Sm (AV.agg 8 (zw [.v (.int .i8 x.A), .v (.int .i8 x.C), .v (.int .i8 x.E), .v (.int .u8 x.B), .v (.int .u8 x.D), .v (.int .u8 x.F), .v (.int .u8 x.N), .v (.int .u8 x.M)])) = true := XK x
theorem Pn (x : Sm) : Zn (AV.agg 8 (zV.enc x)) = x := Wt x
theorem Rz (x : Sm) : yV Sm (AV.agg 8 (zV.enc x)) = true := XK x
structure Vd (x : Sm) : Prop where
 A : -128 ≤ x.A ∧ x.A ≤ 127
 C : -128 ≤ x.C ∧ x.C ≤ 127
 E : -128 ≤ x.E ∧ x.E ≤ 127
 B : 0 ≤ x.B ∧ x.B ≤ 255
 D : 0 ≤ x.D ∧ x.D ≤ 255
 F : 0 ≤ x.F ∧ x.F ≤ 255
 N : 0 ≤ x.N ∧ x.N ≤ 255
 M : 0 ≤ x.M ∧ x.M ≤ 255
def YW (x : Sm) : List Tm := [⟨QD x.A x.B, 1⟩, ⟨QD x.C x.D, (x.N : Rat)⟩, ⟨QD x.E x.F, (x.M : Rat)⟩]
abbrev L0 : Nat := 232792560
abbrev B0 : Nat := 3 * (128 * L0 * 255)
theorem ji : ∀ D : Nat, 0 < D → D ≤ 20 → D ∣ L0 := by
 have h : ∀ D : Fin 21, 0 < D.val → D.val ∣ L0 := by decide
 exact fun D h0 h1 => h ⟨D, by omega⟩ h0
theorem sB {n d : Int} (hn : -128 ≤ n ∧ n ≤ 127) : ∃ z : Int, QD n d * (L0 : Rat) = (z : Rat) ∧ z.natAbs ≤ 128 * L0 := by
 have hD0 : 0 < d.toNat % 20 + 1 := by omega
 obtain ⟨e, he⟩ := ji (d.toNat % 20 + 1) hD0 (by omega)
 have hel : e ≤ L0 := by rw [he]; exact Nat.le_mul_of_pos_left _ hD0
 refine ⟨n * (e : Int), ?_, ?_⟩
 ·unfold QD
  rw [Rat.mkRat_eq_div, he, Rat.natCast_mul, Rat.intCast_mul, Rat.intCast_natCast]
  have hd : ((d.toNat % 20 + 1 : Nat) : Rat) ≠ 0 := fun e => by have := Rat.natCast_eq_zero_iff.1 e; omega
  generalize ((d.toNat % 20 + 1 : Nat) : Rat) = q at *
  grind
 ·rw [Int.natAbs_mul, Int.natAbs_natCast]
  exact Nat.mul_le_mul (by omega) hel
theorem sr {x : Sm} (h : Vd x) : ∀ t ∈ YW x, ∃ z : Int, t.c * (L0 : Rat) = (z : Rat) ∧ z.natAbs ≤ 128 * L0 := fun t ht => by
 unfold YW at ht
 simp only [List.mem_cons, List.not_mem_nil, or_false] at ht
 rcases ht with rfl | rfl | rfl
 ·exact sB h.A
 ·exact sB h.C
 ·exact sB h.E
theorem uR {x : Sm} (h : Vd x) : ∀ t ∈ YW x, nat0 255 t := fun t ht => by
 have key : ∀ n : Int, 0 ≤ n ∧ n ≤ 255 → nat0 255 ⟨0, (n : Rat)⟩ := fun n hn => ⟨n.toNat, by
  show (n : Rat) = _
  rw [← Rat.intCast_natCast, Int.toNat_of_nonneg hn.1], by omega⟩
 unfold YW at ht
 simp only [List.mem_cons, List.not_mem_nil, or_false] at ht
 rcases ht with rfl | rfl | rfl
 ·exact ⟨1, rfl, by omega⟩
 ·exact key _ h.N
 ·exact key _ h.M
theorem nF {x : Sm} (h : Vd x) : pg L0 B0 (YW x) := NH (uR h) (sr h)
theorem NB {x : Sm} (h : Vd x) : inT 255 (YW x) := fun t ht => by
 obtain ⟨h0, h1⟩ := (uR h t ht).in_
 exact ⟨h0, by omega⟩
theorem nS {R Q : Nat} {l : List Tm} (h : inT R l) (hq : R ≤ Q) : inT Q l := fun t ht => ⟨(h t ht).1, Nat.le_trans (h t ht).2 hq⟩
theorem OG {x : Sm} (h : Vd x) : XL (YW x) := by
 have hi := nS (NB h) (show 255 ≤ RM by decide)
 exact Ld (R := 255) (L := L0) (B := B0) (show 3 ≤ 256 by decide) (Nat.le_trans (Yk (by decide) hi).2.1 (show 3 ≤ 16 by decide)) (by decide) (uR h) hi (fun t ht => mM (by decide) (sr h t ht) (by decide) (by decide)) (by decide) (nF h) (by decide) (by decide)
structure fS (R n B : Nat) (s : List Tm) : Prop where
 g : gS R s
 len : s.length ≤ n
 pg : pg L0 B s
theorem Tw {x : Sm} (h : Vd x) : fS 255 3 B0 (Zl (YW x)) := by
 obtain ⟨h1, h2, h3⟩ := Yk (by decide) (NB h)
 exact ⟨h1, h2, vC h1.nat h1.unr h3 (nF h)⟩
theorem IP (p0 p1 p2 q0 q1 q2 : Rat) : Zs (AV.xl true 2 3 (Sx.rowAt [zw [AV.str (zT p0), AV.str (zT q0)], zw [AV.str (zT p1), AV.str (zT q1)], zw [AV.str (zT p2), AV.str (zT q2)]])) = ([⟨p0, q0⟩, ⟨p1, q1⟩, ⟨p2, q2⟩] : List Tm) := by
 show ([⟨ze (zT p0), ze (zT q0)⟩, ⟨ze (zT p1), ze (zT q1)⟩, ⟨ze (zT p2), ze (zT q2)⟩] : List Tm) = _
 simp only [zm]
theorem Jl (p0 p1 p2 q0 q1 q2 : Rat) : zf Tm (AV.xl true 2 3 (Sx.rowAt [zw [AV.str (zT p0), AV.str (zT q0)], zw [AV.str (zT p1), AV.str (zT q1)], zw [AV.str (zT p2), AV.str (zT q2)]])) = true := by
 have h : ∀ p q : Rat, zV.ok (α := Tm) (zw [AV.str (zT p), AV.str (zT q)]) = true := fun p q => y7.ok (⟨p, q⟩ : Tm)
 unfold zf
 rw [Bool.and_eq_true]
 refine ⟨rfl, un fun i hi => ?_⟩
 match i, hi with
 | 0, _ => exact h p0 q0
 | 1, _ => exact h p1 q1
 | 2, _ => exact h p2 q2
theorem Kf : zT 1 = [49] := by decide +kernel
noncomputable def gO (G : List (Nat × Obj)) : Tb := (((ni G).plus 34 nH).plus 20 TY).plus 35 t8
theorem PK {G : List (Nat × Obj)} (hG : zo G) : zz Tryz.prog (gO G) := zz.plus (zz.plus (zz.plus (Yy hG) (IN hG)) (pz hG)) (pr hG)
def pk : List AV → Option (List zN × AV)
 | [x_x] => some ([.b (yV Sm x_x), .p (Vd (Zn (α := Sm) x_x))], .tup 2 (zw [Ze (Zl (YW (Zn (α := Sm) x_x))), .b true]))
 | _ => none
theorem K5 (G : List (Nat × Obj)) (x : Sm) (h : Vd x) :
 let q1 := (AV.xl true 2 3 (Sx.rowAt [zw [AV.str (zT (QD (Sm.A x) (Sm.B x))), AV.str (bA #[(49 : UInt8)])], zw [AV.str (zT (QD (Sm.C x) (Sm.D x))), AV.str (Lib.itoa (Sm.N x))], zw [AV.str (zT (QD (Sm.E x) (Sm.F x))), AV.str (Lib.itoa (Sm.M x))]])); let q2 := (Zs q1); let q4 := (Zl q2); let q3 := (AV.xl false 2 (lN q4) fun i j => zV.enc (gD q4 i zV.dflt) j); Zw [AV.agg 8 (zV.enc x)] → ((-128 : Int) ≤ Sm.A x ∧ Sm.A x ≤ (127 : Int)) ∧ (iZ ≤ Sm.B x ∧ Sm.B x ≤ (255 : Int)) ∧ ((-128 : Int) ≤ Sm.C x ∧ Sm.C x ≤
 (127 : Int)) ∧ (iZ ≤ Sm.D x ∧ Sm.D x ≤ (255 : Int)) ∧ bF (dK (Sm.N x)) ((iN ≤ Sm.N x ∧ Sm.N x ≤ iX) ∧ ((-128 : Int) ≤ Sm.E x ∧ Sm.E x ≤ (127 : Int)) ∧ (iZ ≤ Sm.F x ∧ Sm.F x ≤ (255 : Int)) ∧ bF (dK (Sm.M x)) ((iN ≤ Sm.M x ∧ Sm.M x ≤ iX) ∧ bF (zf Tm q1) (XL q2 ∧ bF (!zr true (iZ == iZ) || zf Tm q3) ((zr true (iZ == iZ) = true → Y3 (Zs q3)) ∧ j2 ∧ (True ∧ zd q3 (AV.xl
 false 2 (lN (Zl (YW x))) fun i j => zV.enc (gD (Zl (YW x)) i zV.dflt) j)) ∧ (bif iZ == iZ then iZ == iZ else false) = true)))) := by
 delta bF dK bA j2 lN gD iZ iX iN
 dsimp only
 intro hb
 simp only [↓yz, ↓Zj, row_one]
 simp only [sS, YY, yU, zm, yZ, yI, xh, Yl, Xr, Yb, Xa, Y6, dS]
 have := h.A
 have := h.C
 have := h.E
 have := h.N
 have := h.M
 rw [← UB x.N, ← UB x.M, ← Kf, IP, Jl]
 exact ⟨h.A, h.B, h.C, h.D, by simp only [yP]; omega, by omega, h.E, h.F, by simp only [yP]; omega, by omega, zX.2 ⟨fun _ => ⟨OG h, fun _ => Sn (OG h), rfl, zS _, rfl⟩, fun c => by cases c⟩⟩
theorem i6 {G : List (Nat × Obj)} (hG : zo G) (x : Sm) (h : Vd x) : zt Tryz.prog G 11 [YG x] (.tup 2 (zw [Ze (Zl (YW x)), .b true])) :=
 zW (T := gO G) (an := .auto) mixed (PK hG) (Eq.mp (by kernel_rfl) (K5 G x h))
theorem Kc {G : List (Nat × Obj)} (hG : zo G) : zp Tryz.prog G 11 pk := by
 intro xs ps r h hp
 unfold pk at h
 split at h
 ·skip
  rename_i x_x
  cases h
  obtain ⟨q0, q1, -⟩ := ZI hp
  exact weaken (ys := [YG (Zn (α := Sm) x_x)]) ⟨ZU q0, trivial⟩ (i6 hG (Zn (α := Sm) x_x) q1)
 ·cases h
end Go.Te

namespace Go.Te
open Go Go.Sx Go.Proofs Go.Ar
set_option maxRecDepth 100000
set_option maxHeartbeats 4000000
theorem Y5 {R Q : Nat} {t : Tm} (h : ZV R t) (hq : R ≤ Q) : ZV Q t := by obtain ⟨r, e, h0, h1⟩ := h; exact ⟨r, e, h0, Nat.le_trans h1 hq⟩
theorem Px {R Q : Nat} {s : List Tm} (h : gS R s) (hq : R ≤ Q) : gS Q s := ⟨fun x hx => Y5 (h.nat x hx) hq, h.ne, h.nrm, h.unr, h.le⟩
theorem TL {R n B : Nat} {s : List Tm} (h : fS R n B s) (hR : R ≤ RM) (hB : B * RM < 10 ^ 60) : ∀ x ∈ s, bq 60 x.c :=
 Sf (by decide) h.g.nat h.g.unr (fun _ _ => rfl) h.pg (Nat.lt_of_le_of_lt (Nat.mul_le_mul_left _ hR) hB) (Nat.lt_of_le_of_lt (Nat.mul_le_mul_left _ hR) (by decide))
theorem Uf {R n B : Nat} {s : List Tm} (h : fS R n B s) (hR : R ≤ RM) (hn : n ≤ 16) (hB : B * RM < 10 ^ 60) : Y3 s := ⟨Px h.g hR, Nat.le_trans h.len hn, TL h hR hB⟩
theorem QB {l : List Tm} {B : Nat} (hl : l.length ≤ 256) (ho : (Zl l).length ≤ 16) (hn : ∀ t ∈ l, ZV RM t) (hc : ∀ t ∈ l, bq 60 t.c) (hp : pg L0 B l) (h1 : B * RM < 10 ^ 60) : XL l := by
 have hi : inT RM l := fun t ht => WM (hn t ht)
 exact ⟨hl, hc, fun t ht _ => QG (hn t ht), hi, sD (by decide) hi (by decide) hp h1 (by decide), ho⟩
theorem wJ {R : Nat} {s t : List Tm} (hs : ∀ x ∈ s, ZV R x) (ht : ∀ x ∈ t, ZV R x) : ∀ x ∈ s ++ t, ZV R x := fun x hx => (List.mem_append.1 hx).elim (hs x) (ht x)
theorem RQ {R : Nat} {k : Rat} {s : List Tm} (hs : ∀ x ∈ s, ZV R x) : ∀ x ∈ ZD k s, ZV R x := fun x hx => by
 unfold ZD at hx
 obtain ⟨u, hu, rfl⟩ := List.mem_map.1 hx
 exact hs u hu
theorem su {K : Nat} {s t : List Tm} (hs : ∀ x ∈ s, bq K x.c) (ht : ∀ x ∈ t, bq K x.c) : ∀ x ∈ s ++ t, bq K x.c := fun x hx => (List.mem_append.1 hx).elim (hs x) (ht x)
theorem nR {K : Nat} {s : List Tm} (hs : ∀ x ∈ s, bq K x.c) : ∀ x ∈ ZD (-1) s, bq K x.c := fun x hx => by
 unfold ZD at hx
 obtain ⟨u, hu, rfl⟩ := List.mem_map.1 hx
 have h := jm (hs u hu)
 show bq K (u.c * -1)
 rwa [show u.c * -1 = -u.c by grind]
theorem PS (k : Rat) (s : List Tm) : (ZD k s).length = s.length := by unfold ZD; rw [List.length_map]
theorem HV {A B C : Nat} (h : (A + B) * C < 10 ^ 60) : A * C < 10 ^ 60 ∧ B * C < 10 ^ 60 := by
 rw [Nat.add_mul] at h
 exact ⟨by omega, by omega⟩
theorem J0 {R n m A B : Nat} {s t : List Tm} (hs : fS R n A s) (ht : fS R m B t) (hR : R ≤ RM) (hl : n + m ≤ 16) (hB : (A + B) * RM < 10 ^ 60) :
  XL (s ++ t) ∧ fS R (n + m) (A + B) (Zl (s ++ t)) ∧ ∀ f, VR f → ev f (Zl (s ++ t)) = ev f s + ev f t := by
 obtain ⟨hA, hB'⟩ := HV hB
 have hi : inT R (s ++ t) := W3 hs.g.inT ht.g.inT
 obtain ⟨h1, h2, h3⟩ := Yk (Nat.lt_of_le_of_lt hR (by decide)) hi
 have hp := WN hs.pg ht.pg
 have l1 := hs.len
 have l2 := ht.len
 rw [List.length_append] at h2
 refine ⟨QB (by rw [List.length_append]; omega) (by omega) (fun x hx => Y5 (wJ hs.g.nat ht.g.nat x hx) hR) (su (TL hs hR hA) (TL ht hR hB')) hp hB, ⟨h1, by omega, vC h1.nat h1.unr h3 hp⟩, fun f hf => ?_⟩
 rw [h3 f hf, xz]
theorem I3 {R n m A B : Nat} {s t : List Tm} (hs : fS R n A s) (ht : fS R m B t) (hR : R ≤ RM) (hn : n ≤ 16) (hm : m ≤ 16) (hB : (A + B) * RM < 10 ^ 60) (he : ∀ f, VR f → ev f s = ev f t) : NQ s t ∧ XL (s ++ ZD (-1) t) ∧ Zl (s ++ ZD (-1) t) = [] := by
 obtain ⟨hA, hB'⟩ := HV hB
 have h0 := sub_zero (Nat.lt_of_le_of_lt hR (by decide)) hs.g.inT ht.g.inT he
 have hp := WN hs.pg (nY ht.pg)
 have l1 := hs.len
 have l2 := ht.len
 have hm : XL (s ++ ZD (-1) t) := QB (by rw [List.length_append, PS]; omega) (by rw [h0]; decide) (fun x hx => Y5 (wJ hs.g.nat (RQ ht.g.nat) x hx) hR) (su (TL hs hR hA) (nR (TL ht hR hB'))) hp hB
 exact ⟨⟨Uf hs hR (by omega) hA, Uf ht hR (by omega) hB', hm, h0⟩, hm, h0⟩
end Go.Te

namespace Go.Te
open Go Go.Sx Go.Proofs Go.Ar
set_option maxRecDepth 100000
set_option maxHeartbeats 4000000
def xi (C : List Nat) (V : List Tm) : Prop := ∀ t ∈ V, 0 < mQ t.q → ∃ c ∈ C, 0 < c ∧ ∃ k, c * mQ t.q = k * k
theorem Uw {f : Nat → Rat} : ∀ {V : List Tm}, ev f V ≠ 0 → ∃ t ∈ V, f (mQ t.q) ≠ 0
 | [], h => absurd rfl h
 | t :: V, h => by
  by_cases h0 : f (mQ t.q) = 0
  ·rw [ZL] at h
   have e : fQ f t.q = 0 := by unfold fQ; rw [h0, Rat.div_def, Rat.zero_mul]
   rw [e, Rat.mul_zero, Rat.zero_add] at h
   obtain ⟨u, hu, hf⟩ := Uw h
   exact ⟨u, List.mem_cons_of_mem _ hu, hf⟩
  ·exact ⟨t, List.mem_cons_self, h0⟩
theorem M1 {R : Nat} {S V : List Tm} (hn : ∀ x ∈ S, ZV R x) (hu : S.Pairwise unr) (hne : ∀ x ∈ S, x.c ≠ 0) (he : ∀ f, VR f → ev f S = ev f V) : ∀ x ∈ S, ∃ t ∈ V, 0 < mQ t.q ∧ ∃ k, mQ t.q * mQ x.q = k * k := fun x hx => by
 have h1 := UY hn hu hx
 rw [he _ (Um _)] at h1
 have p0 := (hn x hx).mQ.2.1
 obtain ⟨t, ht, hf⟩ := Uw (f := fR (mQ x.q)) (V := V) (by
  rw [h1]
  intro e
  rcases Rat.mul_eq_zero.1 e with e | e
  ·exact hne x hx e
  ·have := Rat.natCast_eq_zero_iff.1 e
   omega)
 by_cases hs : ∃ k, mQ t.q * mQ x.q = k * k
 ·obtain ⟨k, hk⟩ := hs
  refine ⟨t, ht, Nat.pos_of_ne_zero fun e => ?_, k, hk⟩
  rw [e, Nat.zero_mul] at hk
  have hk0 : k = 0 := by
   rcases Nat.mul_eq_zero.1 hk.symm with h | h <;> exact h
  refine hf ?_
  rw [e, U0 (r := mQ x.q) (n := 0) (k := 0) (by rw [Nat.zero_mul])]
  rfl
 ·exact absurd (VE fun k hk => hs ⟨k, hk⟩) hf
theorem Wd {C : List Nat} {R : Nat} {S V : List Tm} (hn : ∀ x ∈ S, ZV R x) (hu : S.Pairwise unr) (hne : ∀ x ∈ S, x.c ≠ 0) (he : ∀ f, VR f → ev f S = ev f V) (h : xi C V) : xi C S := fun x hx _ => by
 obtain ⟨t, ht, h0, k, hk⟩ := M1 hn hu hne he x hx
 obtain ⟨c, hc, c0, l, hl⟩ := h t ht h0
 obtain ⟨m, hm⟩ := XH (a := c * mQ x.q) (b := l * k) h0 (by
  have e : c * mQ x.q * (mQ t.q * mQ t.q) = (c * mQ t.q) * (mQ t.q * mQ x.q) := by grind
  rw [e, hl, hk]; grind)
 exact ⟨c, hc, c0, m, hm⟩
theorem W7 {C D : List Nat} {V : List Tm} (h : xi C V) (hs : ∀ c ∈ C, c ∈ D) : xi D V := fun t ht h0 => by
 obtain ⟨c, hc, h1⟩ := h t ht h0
 exact ⟨c, hs c hc, h1⟩
theorem To {C : List Nat} {V W : List Tm} (h : xi C V) (g : xi C W) : xi C (V ++ W) := fun t ht => (List.mem_append.1 ht).elim (h t) (g t)
def V6 (C D : List Nat) : List Nat := C.flatMap fun c => D.map (c * ·)
theorem rT (C D : List Nat) : (V6 C D).length = C.length * D.length := by
 unfold V6
 induction C with
 | nil => simp
 | cons a s ih => rw [List.flatMap_cons, List.length_append, ih, List.length_map, List.length_cons]; grind
theorem Ty {C D E : List Nat} (h : ∀ c ∈ D, c ∈ E) : ∀ c ∈ V6 C D, c ∈ V6 C E := fun x hx => by
 obtain ⟨a, ha, hx⟩ := List.mem_flatMap.1 hx
 obtain ⟨b, hb, rfl⟩ := List.mem_map.1 hx
 exact List.mem_flatMap.2 ⟨a, ha, List.mem_map.2 ⟨b, h b hb, rfl⟩⟩
theorem oN {C D : List Nat} {R Q : Nat} {s t : List Tm} (hs : ∀ x ∈ s, ZV R x) (ht : ∀ x ∈ t, ZV Q x) (h : xi C s) (g : xi D t) : xi (V6 C D) (Z8 s t) := fun x hx _ => by
 obtain ⟨a, ha, hx⟩ := List.mem_flatMap.1 hx
 obtain ⟨b, hb, rfl⟩ := List.mem_map.1 hx
 obtain ⟨c, hc, c0, k, hk⟩ := h a ha (hs a ha).mQ.2.1
 obtain ⟨d, hd, d0, l, hl⟩ := g b hb (ht b hb).mQ.2.1
 refine ⟨c * d, List.mem_flatMap.2 ⟨c, hc, List.mem_map.2 ⟨d, hd, rfl⟩⟩, Nat.mul_pos c0 d0, k * l, ?_⟩
 rw [(Sp (hs a ha) (ht b hb)).2]
 have e : c * d * (mQ a.q * mQ b.q) = (c * mQ a.q) * (d * mQ b.q) := by grind
 rw [e, hk, hl]; grind
theorem uU {R : Nat} : ∀ {S : List Tm} {C : List Nat}, (∀ x ∈ S, ZV R x) → S.Pairwise unr → xi C S → S.length ≤ C.length
 | [], _, _, _, _ => Nat.zero_le _
 | x :: S, C, hn, hu, h => by
  obtain ⟨c, hc, c0, k, hk⟩ := h x List.mem_cons_self (hn x List.mem_cons_self).mQ.2.1
  obtain ⟨p1, p2⟩ := List.pairwise_cons.1 hu
  have ih := uU (S := S) (C := C.erase c) (fun y hy => hn y (List.mem_cons_of_mem _ hy)) p2 fun y hy h0 => by
   obtain ⟨d, hd, d0, l, hl⟩ := h y (List.mem_cons_of_mem _ hy) h0
   refine ⟨d, (List.mem_erase_of_ne fun e => ?_).2 hd, d0, l, hl⟩
   subst e
   obtain ⟨m, hm⟩ := XH (a := mQ x.q * mQ y.q) (b := k * l) d0 (by
    have e : mQ x.q * mQ y.q * (d * d) = (d * mQ x.q) * (d * mQ y.q) := by grind
    rw [e, hk, hl]; grind)
   exact p1 y hy m hm
  rw [List.length_erase_of_mem hc] at ih
  have : 0 < C.length := List.length_pos_of_mem hc
  rw [List.length_cons]
  omega
theorem pG {R Q L D r : Nat} : ∀ {V : List Tm}, (∀ t ∈ V, nat0 R t) → Sb L D V → (∀ t ∈ V, ∃ m, m ≤ Q ∧ fR r (mQ t.q) = ((m * r : Nat) : Rat)) → ∃ z : Int, ev (fR r) V * (L : Rat) = (z : Rat) * (r : Rat) ∧ z.natAbs ≤ V.length * (D * Q)
 | [], _, _, _ => ⟨0, by rw [yr, Rat.zero_mul]; exact (Rat.zero_mul _).symm, Nat.zero_le _⟩
 | t :: V, h, g, d => by
  obtain ⟨z, h1, h2⟩ := pG (fun x hx => h x (List.mem_cons_of_mem _ hx)) (fun x hx => g x (List.mem_cons_of_mem _ hx)) fun x hx => d x (List.mem_cons_of_mem _ hx)
  obtain ⟨y, g1, g2⟩ := g t List.mem_cons_self
  obtain ⟨m, m2, m1⟩ := d t List.mem_cons_self
  obtain ⟨f1, _, _⟩ := (h t List.mem_cons_self).fQ (fR r)
  refine ⟨y * m + z, ?_, ?_⟩
  ·rw [ZL, f1, m1, Rat.intCast_add, Rat.intCast_mul, ← g1, Rat.intCast_natCast, Rat.natCast_mul, Rat.add_mul, h1]
   grind
  ·have a1 := Int.natAbs_add_le (y * m) z
   have a2 : (y * m).natAbs ≤ D * Q := by rw [Int.natAbs_mul, Int.natAbs_natCast]; exact Nat.mul_le_mul g2 m2
   rw [List.length_cons, Nat.add_mul, Nat.one_mul]
   omega
theorem Ph {T R Q L D : Nat} {S V : List Tm} (hn : ∀ x ∈ S, ZV T x) (hu : S.Pairwise unr) (he : ∀ f, VR f → ev f S = ev f V) (h0 : ∀ t ∈ V, nat0 R t) (hm : Sb L D V) (hd : ∀ x ∈ S, ∀ t ∈ V, ∃ m, m ≤ Q ∧ fR (mQ x.q) (mQ t.q) = ((m * mQ x.q : Nat) : Rat)) : Sb L (V.length * (D * Q)) S := fun x hx => by
 obtain ⟨z, h1, h2⟩ := pG (r := mQ x.q) h0 hm (hd x hx)
 rw [← he _ (Um _), UY hn hu hx] at h1
 have p0 := (hn x hx).mQ.2.1
 have hr : ((mQ x.q : Nat) : Rat) ≠ 0 := fun e => by have := Rat.natCast_eq_zero_iff.1 e; omega
 refine ⟨z, ?_, h2⟩
 generalize ((mQ x.q : Nat) : Rat) = r at *
 have : r * (x.c * (L : Rat)) = r * (z : Rat) := by grind
 grind
def gY (r : Nat) : Bool := (List.range r).all fun j => Nat.beq j 0 || !Nat.beq ((j * j) % r) 0
theorem ku : ((List.range 256).all fun r => Nat.beq r 0 || (!decide (nrm r = (1, r)) || gY r)) = true := by decide +kernel
theorem jx {r j : Nat} (h0 : 0 < r) (h1 : r ≤ 255) (hn : nrm r = (1, r)) (hd : r ∣ j * j) : r ∣ j := by
 have h := List.all_eq_true.1 ku r (List.mem_range.2 (by omega))
 rw [Bool.or_eq_true, Bool.or_eq_true] at h
 have h2 : gY r = true := by
  rcases h with h | h | h
  ·have := Nat.eq_of_beq_eq_true h; omega
  ·rw [decide_eq_true hn] at h; cases h
  ·exact h
 have h3 := List.all_eq_true.1 h2 (j % r) (List.mem_range.2 (Nat.mod_lt _ h0))
 rw [Bool.or_eq_true] at h3
 rcases h3 with h3 | h3
 ·exact Nat.dvd_of_mod_eq_zero (Nat.eq_of_beq_eq_true h3)
 ·rw [← Nat.mul_mod, Nat.mod_eq_zero_of_dvd hd] at h3
  cases h3
theorem K6 {r n : Nat} (h0 : 0 < r) (h1 : r ≤ 255) (hn : nrm r = (1, r)) (hb : n ≤ 255) : ∃ m, m ≤ 255 ∧ fR r n = ((m * r : Nat) : Rat) := by
 by_cases h : ∃ j, n * r = j * j
 ·obtain ⟨j, hj⟩ := h
  obtain ⟨m, rfl⟩ := jx h0 h1 hn (j := j) ⟨n, by rw [← hj, Nat.mul_comm]⟩
  refine ⟨m, ?_, by rw [U0 hj, Nat.mul_comm]⟩
  have e : n * r = (m * m * r) * r := by rw [hj]; grind
  have e2 := Nat.eq_of_mul_eq_mul_right h0 e
  have : m ≤ m * m * r := by
   rcases Nat.eq_zero_or_pos m with rfl | hm
   ·omega
   ·rw [Nat.mul_assoc]; exact Nat.le_mul_of_pos_right _ (Nat.mul_pos hm h0)
  omega
 ·exact ⟨0, by omega, by rw [VE fun k hk => h ⟨k, hk⟩, Nat.zero_mul]; rfl⟩
structure f1 (D : Nat) (C : List Nat) (s : List Tm) : Prop where
 g : gS 255 s
 mul : Sb L0 D s
 cls : xi C s
theorem f1.len {D : Nat} {C : List Nat} {s : List Tm} (h : f1 D C s) : s.length ≤ C.length := uU h.g.nat h.g.unr h.cls
theorem f1.fS {D : Nat} {C : List Nat} {s : List Tm} (h : f1 D C s) : fS 255 C.length (C.length * (D * 255)) s := ⟨h.g, h.len, (RZ h.g.nat h.mul).mono (Nat.mul_le_mul_right _ h.len)⟩
theorem PX {D : Nat} {C : List Nat} {n : Nat} {V : List Tm} (hl : V.length ≤ n) (h0 : ∀ t ∈ V, nat0 255 t) (hm : Sb L0 D V) (hc : xi C V) : f1 (n * (D * 255)) C (Zl V) := by
 have hi : inT 255 V := fun t ht => by
  obtain ⟨a, b⟩ := (h0 t ht).in_
  exact ⟨a, by omega⟩
 obtain ⟨h1, _, h3⟩ := Yk (by decide) hi
 refine ⟨h1, fun x hx => ?_, Wd h1.nat h1.unr h1.ne h3 hc⟩
 obtain ⟨z, z1, z2⟩ := Ph h1.nat h1.unr h3 h0 hm (fun x hx t ht => K6 (h1.nat x hx).mQ.2.1 (h1.nat x hx).mQ.2.2 (h1.nrm x hx) ((h0 t ht).fQ (fun _ => 0)).2.1) x hx
 exact ⟨z, z1, Nat.le_trans z2 (Nat.mul_le_mul_right _ hl)⟩
def OZ (x : Sm) : List Nat := [1, x.N.toNat, x.M.toNat]
abbrev D1 : Nat := 3 * (128 * L0 * 255)
abbrev D2 : Nat := 6 * (D1 * 255)
theorem MV {n : Int} (h : 0 ≤ n) : mQ (n : Rat) = n.toNat := by
 have e : (n : Rat) = ((n.toNat : Nat) : Rat) := by rw [← Rat.intCast_natCast, Int.toNat_of_nonneg h]
 rw [e, ww]
theorem rM {x : Sm} (h : Vd x) : f1 D1 (OZ x) (Zl (YW x)) := by
 refine PX (n := 3) (show 3 ≤ 3 by decide) (uR h) (sr h) fun t ht h0 => ?_
 refine ⟨mQ t.q, ?_, h0, _, rfl⟩
 unfold YW at ht
 simp only [List.mem_cons, List.not_mem_nil, or_false] at ht
 rcases ht with rfl | rfl | rfl
 ·exact List.mem_cons_self
 ·rw [show mQ (⟨QD x.C x.D, (x.N : Rat)⟩ : Tm).q = x.N.toNat from MV h.N.1]
  exact List.mem_cons_of_mem _ List.mem_cons_self
 ·rw [show mQ (⟨QD x.E x.F, (x.M : Rat)⟩ : Tm).q = x.M.toNat from MV h.M.1]
  exact List.mem_cons_of_mem _ (List.mem_cons_of_mem _ List.mem_cons_self)
def Si (x y : Sm) : List Nat := [1, x.N.toNat, x.M.toNat, y.N.toNat, y.M.toNat]
theorem Ko (x y : Sm) : ∀ c ∈ OZ x, c ∈ Si x y := fun c hc => by unfold OZ at hc; unfold Si; simp only [List.mem_cons, List.not_mem_nil, or_false] at hc ⊢; rcases hc with h | h | h <;> simp [h]
theorem KJ (x y : Sm) : ∀ c ∈ OZ y, c ∈ Si x y := fun c hc => by unfold OZ at hc; unfold Si; simp only [List.mem_cons, List.not_mem_nil, or_false] at hc ⊢; rcases hc with h | h | h <;> simp [h]
theorem Jd {x y : Sm} (hx : Vd x) (hy : Vd y) : f1 D2 (Si x y) (Zl (Zl (YW x) ++ Zl (YW y))) := by
 have a := rM hx
 have b := rM hy
 have la := a.len
 have lb := b.len
 refine PX (n := 6) (by rw [List.length_append]; exact Nat.add_le_add la lb) (fun t ht => ?_) (fun t ht => ?_) (To (W7 a.cls (Ko x y)) (W7 b.cls (KJ x y)))
 ·exact (wJ a.g.nat b.g.nat t ht).nat0
 ·exact (List.mem_append.1 ht).elim (a.mul t) (b.mul t)
end Go.Te

namespace Go.Te
open Go Go.Sx Go.Proofs Go.Ar
set_option maxRecDepth 100000
set_option maxHeartbeats 4000000
structure gL (L R n B : Nat) (s : List Tm) : Prop where
 g : gS R s
 len : s.length ≤ n
 pg : pg L B s
theorem RH {L R n B : Nat} {s : List Tm} (h : gL L R n B s) (hR : R ≤ RM) (hL : 0 < L ∧ L * RM < 10 ^ 60) (hB : B * RM < 10 ^ 60) : ∀ x ∈ s, bq 60 x.c :=
 Sf hL.1 h.g.nat h.g.unr (fun _ _ => rfl) h.pg (Nat.lt_of_le_of_lt (Nat.mul_le_mul_left _ hR) hB) (Nat.lt_of_le_of_lt (Nat.mul_le_mul_left _ hR) hL.2)
theorem pQ {L R n B : Nat} {s : List Tm} (h : gL L R n B s) (hR : R ≤ RM) (hL : 0 < L ∧ L * RM < 10 ^ 60) (hn : n ≤ 16) (hB : B * RM < 10 ^ 60) : Y3 s := ⟨Px h.g hR, Nat.le_trans h.len hn, RH h hR hL hB⟩
theorem qS {l : List Tm} {L B : Nat} (hL : 0 < L ∧ L * RM < 10 ^ 60) (hl : l.length ≤ 256) (ho : (Zl l).length ≤ 16) (hn : ∀ t ∈ l, ZV RM t) (hc : ∀ t ∈ l, bq 60 t.c) (hp : pg L B l) (h1 : B * RM < 10 ^ 60) : XL l := by
 have hi : inT RM l := fun t ht => WM (hn t ht)
 exact ⟨hl, hc, fun t ht _ => QG (hn t ht), hi, sD (by decide) hi hL.1 hp h1 hL.2, ho⟩
theorem KP {L R n m A B : Nat} {s t : List Tm} (hs : gL L R n A s) (ht : gL L R m B t) (hR : R ≤ RM) (hL : 0 < L ∧ L * RM < 10 ^ 60) (hn : n ≤ 16) (hm : m ≤ 16) (hB : (A + B) * RM < 10 ^ 60) (he : ∀ f, VR f → ev f s = ev f t) : NQ s t := by
 obtain ⟨hA, hB'⟩ := HV hB
 have h0 := sub_zero (Nat.lt_of_le_of_lt hR (by decide)) hs.g.inT ht.g.inT he
 have hp := WN hs.pg (nY ht.pg)
 have l1 := hs.len
 have l2 := ht.len
 have hm : XL (s ++ ZD (-1) t) := qS hL (by rw [List.length_append, PS]; omega) (by rw [h0]; decide) (fun x hx => Y5 (wJ hs.g.nat (RQ ht.g.nat) x hx) hR) (su (RH hs hR hL hA) (nR (RH ht hR hL hB'))) hp hB
 exact ⟨pQ hs hR hL (by omega) hA, pQ ht hR hL (by omega) hB', hm, h0⟩
theorem nm {A B : Nat} {s t : List Tm} (hs : Sb L0 A s) (ht : Sb L0 B t) : Sb (L0 * L0) (A * B) (Z8 s t) := fun x hx => by
 obtain ⟨a, ha, hx⟩ := List.mem_flatMap.1 hx
 obtain ⟨b, hb, rfl⟩ := List.mem_map.1 hx
 obtain ⟨y, y1, y2⟩ := hs a ha
 obtain ⟨z, z1, z2⟩ := ht b hb
 refine ⟨y * z, ?_, by rw [Int.natAbs_mul]; exact Nat.mul_le_mul y2 z2⟩
 rw [Rat.intCast_mul, ← y1, ← z1, Rat.natCast_mul]
 show a.c * b.c * _ = _
 grind
abbrev RP : Nat := 255 * 255
abbrev LP : Nat := L0 * L0
theorem P4 : 0 < LP ∧ LP * RM < 10 ^ 60 := by decide
structure gE (C : List Nat) (n B : Nat) (s t : List Tm) : Prop where
 made : XL (Z8 s t)
 f : gL LP RP C.length (n * B) (Zl (Z8 s t))
 cls : xi C (Zl (Z8 s t))
 ev : ∀ f, VR f → ev f (Zl (Z8 s t)) = bi f s t
theorem sZ {A B : Nat} {C D E : List Nat} {s t : List Tm} (hs : f1 A C s) (ht : f1 B D t) (hE : ∀ c ∈ V6 C D, c ∈ E) (hl : E.length ≤ 16) (hB : 256 * (A * B * RP) * RM < 10 ^ 60) (hn : s.length * t.length ≤ 256) : gE E 256 (A * B * RP) s t := by
 obtain ⟨i1, i2⟩ := LM hs.g.nat ht.g.nat
 have hm := nm hs.mul ht.mul
 obtain ⟨h1, _, h3⟩ := Yk (show RP < _ by decide) i2
 have hp := RZ i1 hm
 rw [um] at hp
 have hp := hp.mono (Nat.mul_le_mul_right (A * B * RP) hn)
 have hc := Wd h1.nat h1.unr h1.ne h3 (W7 (oN hs.g.nat ht.g.nat hs.cls ht.cls) hE)
 have hlen := uU h1.nat h1.unr hc
 have hAB : A * B < 10 ^ 60 := by
  refine Nat.lt_of_le_of_lt ?_ hB
  rw [Nat.mul_assoc, Nat.mul_assoc]
  exact Nat.le_trans (Nat.le_mul_of_pos_right _ (by decide : 0 < RP * RM)) (Nat.le_mul_of_pos_left _ (by decide))
 have hbc : ∀ x ∈ Z8 s t, bq 60 x.c := fun x hx => mM (L := LP) (by decide) (hm x hx) hAB (by decide)
 exact ⟨qS P4 (by rw [um]; exact hn) (Nat.le_trans hlen hl) (fun x hx => Y5 (i1 x hx) (by decide)) hbc hp hB, ⟨h1, hlen, vC h1.nat h1.unr h3 hp⟩, hc, fun f hf => by rw [h3 f hf, O0 hs.g.nat ht.g.nat]⟩
theorem JR {L R n m A B : Nat} {C : List Nat} {s t : List Tm} (hs : gL L R n A s) (ht : gL L R m B t) (cs : xi C s) (ct : xi C t) (hC : C.length ≤ 16) (hn : n ≤ 16) (hm : m ≤ 16) (hR : R ≤ RM) (hL : 0 < L ∧ L * RM < 10 ^ 60) (hB : (A + B) * RM < 10 ^ 60) :
  XL (s ++ t) ∧ gL L R C.length (A + B) (Zl (s ++ t)) ∧ ∀ f, VR f → ev f (Zl (s ++ t)) = ev f s + ev f t := by
 obtain ⟨hA, hB'⟩ := HV hB
 have hi : inT R (s ++ t) := W3 hs.g.inT ht.g.inT
 obtain ⟨h1, _, h3⟩ := Yk (Nat.lt_of_le_of_lt hR (by decide)) hi
 have hp := WN hs.pg ht.pg
 have l1 := hs.len
 have l2 := ht.len
 have hc := Wd h1.nat h1.unr h1.ne h3 (To cs ct)
 have hlen := uU h1.nat h1.unr hc
 refine ⟨qS hL (by rw [List.length_append]; omega) (by omega) (fun x hx => Y5 (wJ hs.g.nat ht.g.nat x hx) hR) (su (RH hs hR hL hA) (RH ht hR hL hB')) hp hB, ⟨h1, hlen, vC h1.nat h1.unr h3 hp⟩, fun f hf => ?_⟩
 rw [h3 f hf, xz]
noncomputable def I7 (G : List (Nat × Obj)) : Tb := ((((((WS G).plus 11 pk).plus 12 qk).plus 16 nk).plus 23 Sw).plus 15 pI).body Tryz.prog [(14, .auto)]
theorem QS {G : List (Nat × Obj)} (hG : WB G) : zz Tryz.prog (I7 G) := zz.body mixed (zz.plus (zz.plus (zz.plus (zz.plus (zz.plus zQ (Kc hG.tab)) (j6 hG.tab)) (Iq hG.tab)) (N3 hG.tab)) (KI hG)) _
theorem vQ (G : List (Nat × Obj)) (x y z : Sm) (hx : Vd x) (hy : Vd y) (hz : Vd z) :
 let q1 := (Zn (AV.agg 8 fun (i : Nat) => zV.enc x (0 + i))); let q2 := (Zn (AV.agg 8 fun (i : Nat) => zV.enc y (0 + i))); let q3 := (Zn (AV.agg 8 fun (i : Nat) => zV.enc z (0 + i))); let q5 := (AV.xl false 2 (lN (Zl (YW q1))) fun i j => zV.enc (gD (Zl (YW (Zn (AV.agg 8 fun (i : Nat) => zV.enc x (0 + i))))) i zV.dflt) j); let q4 := (zf Tm q5); let q7 := (AV.xl false 2 (lN (Zl (YW q2))) fun i j => zV.enc (gD (Zl (YW (Zn (AV.agg 8 fun (i : Nat) => zV.enc y (0 + i))))) i zV.dflt) j); let q6 := (zf Tm q7); let q8 := (Zs q5); let q9 := (Zs
 q7); let q10 := (Z8 q8 q9); let q11 := (Z8 q9 q8); let q13 := (AV.xl false 2 (lN (Zl (YW q3))) fun i j => zV.enc (gD (Zl (YW (Zn (AV.agg 8 fun (i : Nat) => zV.enc z (0 + i))))) i zV.dflt) j); let q12 := (zf Tm q13); let q14 := (Zs q13); let q15 := (Z8 q8 q14); let q16 := (Zs q7 ++ Zs q13); let q17 := (AV.xl false 2 (lN (Zl q16)) fun i j => zV.enc (gD (Zl (Zs (AV.xl false 2 (lN (Zl (YW (Zn (AV.agg 8 fun (i : Nat) => zV.enc y (0 + i)))))) fun i j => zV.enc (gD (Zl (YW (Zn (AV.agg 8 fun (i : Nat) => zV.enc y (0 +
 i))))) i zV.dflt) j) ++ Zs (AV.xl false 2 (lN (Zl (YW (Zn (AV.agg 8 fun (i : Nat) => zV.enc z (0 + i)))))) fun i j => zV.enc (gD (Zl (YW (Zn (AV.agg 8 fun (i : Nat) => zV.enc z (0 + i))))) i zV.dflt) j))) i zV.dflt) j); let q18 := (Zs q17); let q19 := (Z8 q8 q18); let q21 := (AV.xl false 2 (lN (Zl q10)) fun i j => zV.enc (gD (Zl (Z8 (Zs (AV.xl false 2 (lN (Zl (YW (Zn (AV.agg 8 fun (i : Nat) => zV.enc x (0 + i)))))) fun i j => zV.enc (gD (Zl (YW (Zn (AV.agg 8 fun (i : Nat) => zV.enc x (0 + i))))) i zV.dflt) j)) (Zs
 (AV.xl false 2 (lN (Zl (YW (Zn (AV.agg 8 fun (i : Nat) => zV.enc y (0 + i)))))) fun i j => zV.enc (gD (Zl (YW (Zn (AV.agg 8 fun (i : Nat) => zV.enc y (0 + i))))) i zV.dflt) j)))) i zV.dflt) j); let q20 := (zf Tm q21); let q22 := (AV.xl false 2 (lN (Zl q15)) fun i j => zV.enc (gD (Zl (Z8 (Zs (AV.xl false 2 (lN (Zl (YW (Zn (AV.agg 8 fun (i : Nat) => zV.enc x (0 + i)))))) fun i j => zV.enc (gD (Zl (YW (Zn (AV.agg 8 fun (i : Nat) => zV.enc x (0 + i))))) i zV.dflt) j)) (Zs (AV.xl false 2 (lN (Zl (YW (Zn (AV.agg
 8 fun (i : Nat) => zV.enc z (0 + i)))))) fun i j => zV.enc (gD (Zl (YW (Zn (AV.agg 8 fun (i : Nat) => zV.enc z (0 + i))))) i zV.dflt) j)))) i zV.dflt) j); let q23 := (Zs q21); let q24 := (Zs q21 ++ Zs q22); let q25 := (AV.xl false 2 (lN (Zl q11)) fun i j => zV.enc (gD (Zl (Z8 (Zs (AV.xl false 2 (lN (Zl (YW (Zn (AV.agg 8 fun (i : Nat) => zV.enc y (0 + i)))))) fun i j => zV.enc (gD (Zl (YW (Zn (AV.agg 8 fun (i : Nat) => zV.enc y (0 + i))))) i zV.dflt) j)) (Zs (AV.xl false 2 (lN (Zl (YW (Zn (AV.agg 8 fun (i : Nat) =>
 zV.enc x (0 + i)))))) fun i j => zV.enc (gD (Zl (YW (Zn (AV.agg 8 fun (i : Nat) => zV.enc x (0 + i))))) i zV.dflt) j)))) i zV.dflt) j); let q26 := (AV.xl false 2 (lN (Zl q19)) fun i j => zV.enc (gD (Zl (Z8 (Zs (AV.xl false 2 (lN (Zl (YW (Zn (AV.agg 8 fun (i : Nat) => zV.enc x (0 + i)))))) fun i j => zV.enc (gD (Zl (YW (Zn (AV.agg 8 fun (i : Nat) => zV.enc x (0 + i))))) i zV.dflt) j)) (Zs (AV.xl false 2 (lN (Zl (Zs (AV.xl false 2 (lN (Zl (YW (Zn (AV.agg 8 fun (i : Nat) => zV.enc y (0 + i)))))) fun i j =>
 zV.enc (gD (Zl (YW (Zn (AV.agg 8 fun (i : Nat) => zV.enc y (0 + i))))) i zV.dflt) j) ++ Zs (AV.xl false 2 (lN (Zl (YW (Zn (AV.agg 8 fun (i : Nat) => zV.enc z (0 + i)))))) fun i j => zV.enc (gD (Zl (YW (Zn (AV.agg 8 fun (i : Nat) => zV.enc z (0 + i))))) i zV.dflt) j)))) fun i j => zV.enc (gD (Zl (Zs (AV.xl false 2 (lN (Zl (YW (Zn (AV.agg 8 fun (i : Nat) => zV.enc y (0 + i)))))) fun i j => zV.enc (gD (Zl (YW (Zn (AV.agg 8 fun (i : Nat) => zV.enc y (0 + i))))) i zV.dflt) j) ++ Zs (AV.xl false 2 (lN (Zl (YW (Zn
 (AV.agg 8 fun (i : Nat) => zV.enc z (0 + i)))))) fun i j => zV.enc (gD (Zl (YW (Zn (AV.agg 8 fun (i : Nat) => zV.enc z (0 + i))))) i zV.dflt) j))) i zV.dflt) j)))) i zV.dflt) j); let q27 := (AV.xl false 2 (lN (Zl q24)) fun i j => let q28 := (Zs (AV.xl false 2 (lN (Zl (YW (Zn (AV.agg 8 fun (i : Nat) => zV.enc x (0 + i)))))) fun i j => zV.enc (gD (Zl (YW (Zn (AV.agg 8 fun (i : Nat) => zV.enc x (0 + i))))) i zV.dflt) j)); zV.enc (gD (Zl (Zs (AV.xl false 2 (lN (Zl (Z8 q28 (Zs (AV.xl false 2 (lN (Zl (YW (Zn
 (AV.agg 8 fun (i : Nat) => zV.enc y (0 + i)))))) fun i j => zV.enc (gD (Zl (YW (Zn (AV.agg 8 fun (i : Nat) => zV.enc y (0 + i))))) i zV.dflt) j))))) fun i j => zV.enc (gD (Zl (Z8 (Zs (AV.xl false 2 (lN (Zl (YW (Zn (AV.agg 8 fun (i : Nat) => zV.enc x (0 + i)))))) fun i j => zV.enc (gD (Zl (YW (Zn (AV.agg 8 fun (i : Nat) => zV.enc x (0 + i))))) i zV.dflt) j)) (Zs (AV.xl false 2 (lN (Zl (YW (Zn (AV.agg 8 fun (i : Nat) => zV.enc y (0 + i)))))) fun i j => zV.enc (gD (Zl (YW (Zn (AV.agg 8 fun (i : Nat) => zV.enc y (0 +
 i))))) i zV.dflt) j)))) i zV.dflt) j) ++ Zs (AV.xl false 2 (lN (Zl (Z8 q28 (Zs (AV.xl false 2 (lN (Zl (YW (Zn (AV.agg 8 fun (i : Nat) => zV.enc z (0 + i)))))) fun i j => zV.enc (gD (Zl (YW (Zn (AV.agg 8 fun (i : Nat) => zV.enc z (0 + i))))) i zV.dflt) j))))) fun i j => zV.enc (gD (Zl (Z8 (Zs (AV.xl false 2 (lN (Zl (YW (Zn (AV.agg 8 fun (i : Nat) => zV.enc x (0 + i)))))) fun i j => zV.enc (gD (Zl (YW (Zn (AV.agg 8 fun (i : Nat) => zV.enc x (0 + i))))) i zV.dflt) j)) (Zs (AV.xl false 2 (lN (Zl (YW (Zn
 (AV.agg 8 fun (i : Nat) => zV.enc z (0 + i)))))) fun i j => zV.enc (gD (Zl (YW (Zn (AV.agg 8 fun (i : Nat) => zV.enc z (0 + i))))) i zV.dflt) j)))) i zV.dflt) j))) i zV.dflt) j); Zw [AV.agg 8 (zV.enc x), AV.agg 8 (zV.enc y), AV.agg 8 (zV.enc z)] → Vd q1 ∧ Vd q2 ∧ Vd q3 ∧ bF q4 (bF q6 (Y3 q8 ∧ Y3 q9 ∧ XL q10 ∧ bF q6 (bF q4 (Y3 q9 ∧ Y3 q8 ∧ XL q11 ∧ bF q4 (bF q12 (Y3 q8 ∧ Y3 q14 ∧ XL q15 ∧ bF q6 (bF q12 (Y3 q9 ∧ Y3 q14 ∧ XL q16 ∧ bF q4 (bF (zf Tm q17) (Y3 q8 ∧ Y3 q18 ∧ XL q19 ∧ bF q20 (bF (zf Tm q22) (Y3
 q23 ∧ Y3 (Zs q22) ∧ XL q24 ∧ bF q20 (bF (zf Tm q25) (NQ q23 (Zs q25) ∧ bF (zf Tm q26) (bF (zf Tm q27) (NQ (Zs q26) (Zs q27) ∧ (bif bif bif bif iZ == iZ then iZ == iZ else false then bif iZ == iZ then iZ == iZ else false else false then bif iZ == iZ then iZ == iZ else false else false then true else false) = true)))))))))))))))) := by
 delta bF lN gD iZ
 dsimp only
 intro hb
 simp only [Nat.zero_add]
 simp only [sS, YY, yU, zm, yZ, yI, xh, Yl, Xr, Yb, Xa, Y6, Mq, py, Pn, Rz, dS]
 have a := rM hx
 have b := rM hy
 have c := rM hz
 have d := Jd hy hz
 have la : (Zl (YW x)).length ≤ 3 := a.len
 have lb : (Zl (YW y)).length ≤ 3 := b.len
 have lc : (Zl (YW z)).length ≤ 3 := c.len
 have ld : (Zl (Zl (YW y) ++ Zl (YW z))).length ≤ 5 := d.len
 have E : (V6 (OZ x) (Si y z)).length = 15 := by rw [rT]; rfl
 have E2 : (V6 (OZ y) (OZ x)).length = 9 := by rw [rT]; rfl
 have p1 := sZ (E := V6 (OZ x) (Si y z)) a b (Ty (Ko y z)) (by omega) (by decide) (Nat.le_trans (Nat.mul_le_mul la lb) (by decide))
 have p2 := sZ (E := V6 (OZ y) (OZ x)) b a (fun _ h => h) (by omega) (by decide) (Nat.le_trans (Nat.mul_le_mul lb la) (by decide))
 have p3 := sZ (E := V6 (OZ x) (Si y z)) a c (Ty (KJ y z)) (by omega) (by decide) (Nat.le_trans (Nat.mul_le_mul la lc) (by decide))
 have p4 := sZ (E := V6 (OZ x) (Si y z)) a d (fun _ h => h) (by omega) (by decide) (Nat.le_trans (Nat.mul_le_mul la ld) (by decide))
 have oR : 255 ≤ RM := by decide
 obtain ⟨m5, f5, v5⟩ := J0 (Tw hy) (Tw hz) oR (by decide) (by decide)
 obtain ⟨m6, f6, v6⟩ := JR p1.f p3.f p1.cls p3.cls (by omega) (by omega) (by omega) (by decide) P4 (by decide)
 have q1 := KP p1.f p2.f (by decide) P4 (by omega) (by omega) (by decide) (fun f hf => by rw [p1.ev f hf, p2.ev f hf, pA f a.g.nat b.g.nat])
 have q2 := KP p4.f f6 (by decide) P4 (by omega) (by omega) (by decide) (fun f hf => by rw [p4.ev f hf, v6 f hf, p1.ev f hf, p3.ev f hf, Ni hf v5])
 have o1 := Uf (Tw hx) oR (by decide) (by decide)
 have o2 := Uf (Tw hy) oR (by decide) (by decide)
 have o3 := Uf (Tw hz) oR (by decide) (by decide)
 exact ⟨hx, hy, hz, o1, o2, p1.made, o2, o1, p2.made, o1, o3, p3.made, o2, o3, m5, o1, Uf f5 oR (by decide) (by decide), p4.made,
  pQ p1.f (by decide) P4 (by omega) (by decide), pQ p3.f (by decide) P4 (by omega) (by decide), m6, q1, q2, rfl⟩
theorem VN {G : List (Nat × Obj)} (hG : WB G) (x y z : Sm) (hx : Vd x) (hy : Vd y) (hz : Vd z) : zt Tryz.prog G 4 [YG x, YG y, YG z] (.b true) :=
 zW (T := I7 G) (an := .auto) mixed (QS hG) (Eq.mp (by kernel_rfl) (vQ G x y z hx hy hz))
end Go.Te

namespace Go.Te
open Go Go.Sx Go.Proofs Go.Ar Go.RowKit
set_option maxRecDepth 100000
def SO : List (List UInt8) := [[50], [51], [53], [55], [49, 49], [49, 51], [49, 55], [49, 57], [50, 51], [50, 57], [51, 49], [51, 55], [52, 49], [52, 51], [52, 55], [53, 51], [53, 57], [54, 49], [54, 55], [55, 49], [55, 51], [55, 57], [56, 51], [56, 57], [57, 55]]
theorem U5 : (SO.map fun z => Value.string ⟨z.toArray⟩) = zO.toList := by kernel_rfl
theorem Wg {H : Type} {enc : TypeId × Value → H} {P : Program} {w : World} {base : Nat} {sp : Nat → Bool} {held : Bool} {fuel : Nat} {t e : TypeId} {n : Nat} {cs : List Value} {zs : List (List UInt8)} {p : List MemPlace}
  (ht : P.underlying t = some (.array n e)) (he : P.underlying e = some .string) (hce : P.cellsOf e = 1) (hct : P.cellsOf t = n)
  (h : DataW.trod enc P w base sp held fuel t cs = some (.agg (zs.map fun z => .lit (.string z)), p)) : cs = zs.map fun z => Value.string ⟨z.toArray⟩ := by
 cases fuel with
 | zero => simp [DataW.trod] at h
 | succ fuel =>
  simp only [DataW.trod, ht, hce, hct, Nat.mul_one] at h
  split at h
  ·rename_i hl
   obtain ⟨xs, hm, hx⟩ := Option.map_eq_some_iff.1 h
   have hxs : xs.map (·.1) = zs.map fun z => (DataW.lit (.string z) : DataW H) := by
    have := congrArg Prod.fst hx
    simpa using this
   have hxl : xs.length = n := by simpa using Lib.mapM_length hm
   have hzl : zs.length = n := by
    have := congrArg List.length hxs
    simp at this
    omega
   apply List.ext_getElem?
   intro i
   by_cases hi : i < n
   ·obtain ⟨b, hb, hf⟩ := Lib.mapM_at hm i i (by simp [hi])
    obtain ⟨z, hc, rfl, _⟩ := DataW.trod_string he hf
    have h1 : cs[i]? = some (.string z) := by
     have := congrArg (·[0]?) hc
     simpa [List.getElem?_take, List.getElem?_drop] using this
    have h2 : (xs.map (·.1))[i]? = some (DataW.lit (.string z.data.toList) : DataW H) := by simp [hb]
    rw [hxs] at h2
    simp only [List.getElem?_map, Option.map_eq_some_iff, DataW.lit.injEq, Lit.string.injEq] at h2
    obtain ⟨z', hz', rfl⟩ := h2
    simp [h1, hz']
   ·rw [List.getElem?_eq_none (by omega), List.getElem?_eq_none (by simp; omega)]
  ·cases h
section
variable {H : Type} {enc : TypeId × Value → H} {W : World} {spare : Nat → Bool} {held : Bool}
abbrev Hz (W : World) : Nat → Prop := fun b => b < W.heap.size
theorem rL {m : Nat} {cs : List Value} {x : DataW H × List MemPlace} (h : DataW.trod enc Tryz.prog W 0 spare held m 5 cs = some x) : ∃ n, cs = [.int .u8 n] ∧ (0 ≤ n ∧ n ≤ 255) := by
 obtain ⟨k, h1, _, h3⟩ := DataW.trod_int Tryz.underlying5 h
 simp only [Lit.wf, Bool.and_eq_true, decide_eq_true_eq] at h3
 have h4 : (0 : Int) ≤ k ∧ k ≤ 255 := h3
 exact ⟨k, h1, h4⟩
theorem Oc {m : Nat} {cs : List Value} {x : DataW H × List MemPlace} (h : DataW.trod enc Tryz.prog W 0 spare held m 22 cs = some x) : ∃ n, cs = [.int .i8 n] ∧ (-128 ≤ n ∧ n ≤ 127) := by
 obtain ⟨k, h1, _, h3⟩ := DataW.trod_int Tryz.underlying22 h
 simp only [Lit.wf, Bool.and_eq_true, decide_eq_true_eq] at h3
 have h4 : (-128 : Int) ≤ k ∧ k ≤ 127 := h3
 exact ⟨k, h1, h4⟩
theorem vX : Tryz.prog.cellsOf 24 = 8 := by kernel_rfl
theorem cells5 : Tryz.prog.cellsOf 5 = 1 := by kernel_rfl
theorem KT : Tryz.prog.cellsOf 22 = 1 := by kernel_rfl
theorem O6 {n : Nat} {cs : List Value} {x : DataW H × List MemPlace} (h : DataW.trod enc Tryz.prog W 0 spare held n 24 cs = some x) : ∃ g : Sm, (∀ j, j < 8 → zF W (Hz W) y8 (zV.enc g j) (cs.getD j undef)) ∧ Vd g := by
 obtain ⟨xs, m, _, _, hl, hx, hf⟩ := DataW.trod_struct Tryz.underlying24 h
 rw [vX] at hl
 match cs, hl with
 | [c0, c1, c2, c3, c4, c5, c6, c7], _ =>
 have hx3 : xs.length = 8 := hx
 have g0 : DataW.trod enc Tryz.prog W 0 spare held m 22 (([c0, c1, c2, c3, c4, c5, c6, c7].drop 0).take (Tryz.prog.cellsOf 22)) = xs[0]? := hf 0 _ rfl
 have g1 : DataW.trod enc Tryz.prog W 0 spare held m 22 (([c0, c1, c2, c3, c4, c5, c6, c7].drop 1).take (Tryz.prog.cellsOf 22)) = xs[1]? := hf 1 _ rfl
 have g2 : DataW.trod enc Tryz.prog W 0 spare held m 22 (([c0, c1, c2, c3, c4, c5, c6, c7].drop 2).take (Tryz.prog.cellsOf 22)) = xs[2]? := hf 2 _ rfl
 have g3 : DataW.trod enc Tryz.prog W 0 spare held m 5 (([c0, c1, c2, c3, c4, c5, c6, c7].drop 3).take (Tryz.prog.cellsOf 5)) = xs[3]? := hf 3 _ rfl
 have g4 : DataW.trod enc Tryz.prog W 0 spare held m 5 (([c0, c1, c2, c3, c4, c5, c6, c7].drop 4).take (Tryz.prog.cellsOf 5)) = xs[4]? := hf 4 _ rfl
 have g5 : DataW.trod enc Tryz.prog W 0 spare held m 5 (([c0, c1, c2, c3, c4, c5, c6, c7].drop 5).take (Tryz.prog.cellsOf 5)) = xs[5]? := hf 5 _ rfl
 have g6 : DataW.trod enc Tryz.prog W 0 spare held m 5 (([c0, c1, c2, c3, c4, c5, c6, c7].drop 6).take (Tryz.prog.cellsOf 5)) = xs[6]? := hf 6 _ rfl
 have g7 : DataW.trod enc Tryz.prog W 0 spare held m 5 (([c0, c1, c2, c3, c4, c5, c6, c7].drop 7).take (Tryz.prog.cellsOf 5)) = xs[7]? := hf 7 _ rfl
 rw [KT] at g0 g1 g2
 rw [cells5] at g3 g4 g5 g6 g7
 rw [List.getElem?_eq_getElem (by omega)] at g0 g1 g2 g3 g4 g5 g6 g7
 obtain ⟨z0, e0, b0⟩ := Oc g0
 obtain ⟨z1, e1, b1⟩ := Oc g1
 obtain ⟨z2, e2, b2⟩ := Oc g2
 obtain ⟨z3, e3, b3⟩ := rL g3
 obtain ⟨z4, e4, b4⟩ := rL g4
 obtain ⟨z5, e5, b5⟩ := rL g5
 obtain ⟨z6, e6, b6⟩ := rL g6
 obtain ⟨z7, e7, b7⟩ := rL g7
 simp only [List.drop_zero, List.drop_succ_cons, List.take_succ_cons, List.take_zero, List.cons.injEq, and_true] at e0 e1 e2 e3 e4 e5 e6 e7
 subst e0 e1 e2 e3 e4 e5 e6 e7
 refine ⟨⟨z0, z1, z2, z3, z4, z5, z6, z7⟩, fun j hj => ?_, ⟨b0, b1, b2, b3, b4, b5, b6, b7⟩⟩
 match j, hj with
 | 0, _ => exact .v _
 | 1, _ => exact .v _
 | 2, _ => exact .v _
 | 3, _ => exact .v _
 | 4, _ => exact .v _
 | 5, _ => exact .v _
 | 6, _ => exact .v _
 | 7, _ => exact .v _
theorem ux {cs : Array Value} {d : DataW H} {ps : List MemPlace} (h : DataW.Trod enc Tryz.prog W 0 spare held 24 (.agg cs) d ps) (hs : cs.size = 8) : ∃ b : Sm, zF W (Hz W) y8 (YG b) (.agg cs) ∧ Vd b := by
 obtain ⟨m, h⟩ := h
 have hcs : (Value.agg cs).cells.toList = cs.toList := rfl
 rw [hcs] at h
 obtain ⟨b, hb, hi⟩ := O6 h
 refine ⟨b, .agg cs hs fun i hi => ?_, hi⟩
 have e : cs.getD i undef = cs.toList.getD i undef := by
  rw [Array.getD_eq_getD_getElem?, List.getD_eq_getElem?_getD, Array.getElem?_toList]
 rw [e]
 exact hb i hi
end
end Go.Te

namespace Go.Proofs.YthbpnknhfokadaaGreatDoor.surdMultiplies
open Go Go.ChangeShapes Go.WideShapes Go.ChangeAt Go.RowKit
theorem own : ownKnob Tryz.prog.godebug = none := by kernel_rfl
theorem QU : Tryz.prog.globalNamed "internal/strconv.uint64pow10" = some 1 := by kernel_rfl
theorem laidOut : laidOutB Tryz.prog = true := by kernel_rfl
theorem mZ : Tryz.prog.readableRec 24 = true := by kernel_rfl
theorem NS : (24 : TypeId) < Tryz.prog.types.size := of_decide_eq_true (by kernel_rfl)
theorem XO {W W' : World} (h : Below W.heap.size W W') (may : MemPlace → Prop) : W.keptBut W' may := by
 refine ⟨h.os, h.output, fun i hi => ?_⟩
 rw [h.block i hi]
 cases hh : W.heap[i]? with
 | none => rfl
 | some o => cases o <;> simp
theorem Xo {W W' : World} (h : Below W.heap.size W W') {p : MemPlace} (hp : p.block < W.heap.size) : W.sameAt W' p := by
 cases p with
 | cell b off =>
  show W'.cell? _ = W.cell? _
  exact World.cell?_of_block (h.block b hp)
 | map b => exact h.block b hp
theorem Vz {H : Type} {enc : TypeId × Value → H} {P : Program} {f : Func} {s : ChangeSpec} {apart fresh handsOn again : Bool} {W W' : World} {args : Array Value} {v : Value} {ds gs : List (DataW H)} {before pa pv : List MemPlace}
  (hW : DataW.Whole enc P f.params.toList s.vars apart W args.toList ds gs before)
  (hres : ∀ (b : Nat) (sp : Nat → Bool) (hd : Bool), DataW.TrodAll enc P W' b sp hd f.resultTypes.toList (v.resultList f.resultTypes.size) (s.fn H (ds ++ gs)).results [])
  (hargs : ∀ sp : Nat → Bool, (∀ p ∈ before, sp p.block = true) → DataW.TrodAll enc P W' 0 sp true f.params.toList args.toList (s.fn H (ds ++ gs)).args pa)
  (hvars : ∀ sp : Nat → Bool, (∀ p ∈ before, sp p.block = true) → DataW.TrodVars enc P W' sp s.vars (s.fn H (ds ++ gs)).vars pv)
  (hps : before = pa ++ pv) (hb : Below W.heap.size W W')
  (hok : ∀ (j : Nat) (t : TypeId) (r : Value), f.resultTypes[j]? = some t → (v.resultList f.resultTypes.size)[j]? = some r → Value.okWide P W' .any 0 t r) :
  s.post enc P f apart fresh handsOn again W args v W' := by
 have hlt : ∀ p ∈ before, p.block < W.heap.size := fun p hp => hW.lt p hp
 have hold : ∀ p ∈ before, (fun b => decide (b < W.heap.size)) p.block = true := fun p hp => by simpa using hlt p hp
 refine ⟨ds, gs, before, [], pa, pv, hW, hres _ _ _, hargs _ hold, hvars _ hold, XO hb _, fun _ => ?_⟩
 obtain ⟨_, _, _, _, _, hz, hn⟩ := hW
 refine ⟨hok, _, _, ([] ++ pa) ++ pv, ⟨[] ++ pa, pv, trodAll_append (hargs _ (fun _ _ => rfl)) (hres _ _ _), hvars _ (fun _ _ => rfl), rfl, ?_, ?_⟩, ?_⟩
 ·intro b off hp
  have hp' : MemPlace.cell b off ∈ before := by rw [hps]; simpa using hp
  have e : W'.frozen? ⟨b, off, none⟩ = W.frozen? ⟨b, off, none⟩ := by
   unfold World.frozen?
   rw [hb.block b (hlt _ hp')]
  rw [e]
  exact hz b off hp'
 ·intro ha
  have := hn ha
  rw [hps] at this
  simpa using this
 ·intro p hp _
  rw [hps]
  simpa using hp
theorem table {W : World} (h : laidMetH Tryz.prog Rows.surdMultipliesRow.laid W) : ∃ cs t fr, W.heap[1]? = some (.cells cs t fr) ∧ cs = (Lib.pow10Tab.map fun z => Value.int .u64 z).toArray := by
 have h' : laidMet Tryz.prog (("math/bits.deBruijn32tab", Rows.laid_math_bits_deBruijn32tab) :: ("math/bits.deBruijn64tab", Rows.laid_math_bits_deBruijn64tab) :: ("internal/strconv.uint64pow10", Rows.laid_internal_strconv_uint64pow10) :: [("unicode/utf8.acceptRanges", Rows.laid_unicode_utf8_acceptRanges), ("strconv.ErrRange", Rows.laid_strconv_ErrRange), ("strconv.ErrSyntax", Rows.laid_strconv_ErrSyntax), ("kingpost/root.primes", Rows.laid_kingpost_root_primes), ("kingpost/surd.signPlaces", Rows.laid_kingpost_surd_signPlaces), ("unicode/utf8.first", Rows.laid_unicode_utf8_first)]) W := h
 obtain ⟨ps, ⟨_, _, _, _, _, _, _, _, _, _, ⟨_, _, _, _, _, _, _, _, _, _, ⟨g, t, cs, fuel, p, q, hg, hty, hvar, hd, _⟩, _⟩, _⟩, _⟩ := h'
 obtain rfl := Option.some.inj (QU.symm.trans hg)
 have hcs : cs.toList = Lib.pow10Tab.map fun z => Value.int .u64 z := by
  obtain rfl : t = 216 := Option.some.inj ((show (Tryz.prog.globals[1]?).map (·.type) = some 216 by kernel_rfl).symm.trans hty) |>.symm
  exact Lib.cells_of_tab (n := 20) (e := 160) (zs := Lib.pow10Tab) (by kernel_rfl) (by kernel_rfl) (by kernel_rfl) (by kernel_rfl) hd
 unfold World.var? at hvar
 rw [QU] at hvar
 simp only [Option.bind_some] at hvar
 split at hvar
 ·rename_i cs' t' fr hh
  cases hvar
  exact ⟨_, _, _, hh, by rw [← hcs]⟩
 ·cases hvar
theorem RU : Tryz.prog.globalNamed "kingpost/root.primes" = some 2 := by kernel_rfl
theorem Qo {W : World} (h : laidMetH Tryz.prog Rows.surdMultipliesRow.laid W) : ∃ t fr, W.heap[2]? = some (.cells Te.zO t fr) := by
 have h' : laidMet Tryz.prog (("math/bits.deBruijn32tab", Rows.laid_math_bits_deBruijn32tab) :: ("math/bits.deBruijn64tab", Rows.laid_math_bits_deBruijn64tab) :: ("internal/strconv.uint64pow10", Rows.laid_internal_strconv_uint64pow10) :: [("unicode/utf8.acceptRanges", Rows.laid_unicode_utf8_acceptRanges), ("strconv.ErrRange", Rows.laid_strconv_ErrRange), ("strconv.ErrSyntax", Rows.laid_strconv_ErrSyntax), ("kingpost/root.primes", Rows.laid_kingpost_root_primes), ("kingpost/surd.signPlaces", Rows.laid_kingpost_surd_signPlaces), ("unicode/utf8.first", Rows.laid_unicode_utf8_first)]) W := h
 obtain ⟨ps, ⟨_, _, _, _, _, _, _, _, _, _, ⟨_, _, _, _, _, _, _, _, _, _, ⟨_, _, _, _, _, _, _, _, _, _, ⟨_, _, _, _, _, _, _, _, _, _, ⟨_, _, _, _, _, _, _, _, _, _, ⟨_, _, _, _, _, _, _, _, _, _, ⟨g, t, cs, fuel, p, q, hg, hty, hvar, hd, _⟩, _⟩, _⟩, _⟩, _⟩, _⟩, _⟩, _⟩ := h'
 obtain rfl := Option.some.inj (RU.symm.trans hg)
 have hcs : cs.toList = Te.zO.toList := by
  obtain rfl : t = 218 := Option.some.inj ((show (Tryz.prog.globals[2]?).map (·.type) = some 218 by kernel_rfl).symm.trans hty) |>.symm
  exact (Te.Wg (n := 25) (e := 9) (zs := Te.SO) Tryz.underlying218 Tryz.underlying9 (by kernel_rfl) (by kernel_rfl) hd).trans Te.U5
 unfold World.var? at hvar
 rw [RU] at hvar
 simp only [Option.bind_some] at hvar
 split at hvar
 ·rename_i cs' t' fr hh
  cases hvar
  exact ⟨_, _, by rw [← Array.toList_inj.1 hcs]; exact hh⟩
 ·cases hvar
theorem rN : Tryz.prog.globalNamed "kingpost/surd.signPlaces" = some 0 := by kernel_rfl
theorem Od {W : World} (h : laidMetH Tryz.prog Rows.surdMultipliesRow.laid W) : ∃ t fr, W.heap[0]? = some (.cells Te.Zq t fr) := by
 have h' : laidMet Tryz.prog (("math/bits.deBruijn32tab", Rows.laid_math_bits_deBruijn32tab) :: ("math/bits.deBruijn64tab", Rows.laid_math_bits_deBruijn64tab) :: ("internal/strconv.uint64pow10", Rows.laid_internal_strconv_uint64pow10) :: [("unicode/utf8.acceptRanges", Rows.laid_unicode_utf8_acceptRanges), ("strconv.ErrRange", Rows.laid_strconv_ErrRange), ("strconv.ErrSyntax", Rows.laid_strconv_ErrSyntax), ("kingpost/root.primes", Rows.laid_kingpost_root_primes), ("kingpost/surd.signPlaces", Rows.laid_kingpost_surd_signPlaces), ("unicode/utf8.first", Rows.laid_unicode_utf8_first)]) W := h
 obtain ⟨ps, ⟨_, _, _, _, _, _, _, _, _, _, ⟨_, _, _, _, _, _, _, _, _, _, ⟨_, _, _, _, _, _, _, _, _, _, ⟨_, _, _, _, _, _, _, _, _, _, ⟨_, _, _, _, _, _, _, _, _, _, ⟨_, _, _, _, _, _, _, _, _, _, ⟨_, _, _, _, _, _, _, _, _, _, ⟨g, t, cs, fuel, p, q, hg, hty, hvar, hd, _⟩, _⟩, _⟩, _⟩, _⟩, _⟩, _⟩, _⟩, _⟩ := h'
 obtain rfl := Option.some.inj (rN.symm.trans hg)
 have hcs : cs.toList = [4, 16, 64].map fun z => Value.int .i64 z := by
  obtain rfl : t = 115 := Option.some.inj ((show (Tryz.prog.globals[0]?).map (·.type) = some 115 by kernel_rfl).symm.trans hty) |>.symm
  exact Lib.cells_of_tab (n := 3) (e := 3) (zs := [4, 16, 64]) (by kernel_rfl) (by kernel_rfl) (by kernel_rfl) (by kernel_rfl) hd
 have hcs2 : cs = Te.Zq := Array.toList_inj.1 hcs
 unfold World.var? at hvar
 rw [rN] at hvar
 simp only [Option.bind_some] at hvar
 split at hvar
 ·rename_i cs' t' fr hh
  cases hvar
  exact ⟨_, _, by rw [← hcs2]; exact hh⟩
 ·cases hvar
set_option maxRecDepth 100000 in
set_option maxHeartbeats 1000000 in
theorem tt (H : Type) (enc : TypeId × Value → H) (W : World) (base : Nat) (args : Array Value) (ds gs : List (DataW H)) (before : List MemPlace)
  (hval : ∀ (j : Nat) t v, Tryz.f4.params[j]? = some t → args[j]? = some v → Value.okWide Tryz.prog W .any base t v)
  (hW : DataW.Whole enc Tryz.prog Tryz.f4.params.toList Rows.surdMultipliesSpec.vars false W args.toList ds gs before) (hL : laidMetH Tryz.prog Rows.surdMultipliesRow.laid W) :
  Calls Tryz.prog 4 args W fun e W' => ∃ v, e = .returned v ∧ Rows.surdMultipliesSpec.post enc Tryz.prog Tryz.f4 false true false false W args v W' := by
 have hW' := hW
 have hlt := hW.lt
 obtain ⟨p, q, hA0, hV, rfl, hfz, hnd⟩ := hW
 have hA : DataW.TrodAll enc Tryz.prog W 0 (fun _ => true) true Tryz.f4.params.toList args.toList ds p := hA0
 rw [Tryz.params4] at hA hval
 obtain ⟨v0, vs0, d0, ds0, p0, q0, hargs, rfl, rfl, h0, r0⟩ := trodAll_cons hA
 obtain ⟨v1, vs1, d1, ds1, p1, q1, rfl, rfl, rfl, h1, r1⟩ := trodAll_cons r0
 obtain ⟨v2, vs2, d2, ds2, p2, q2, rfl, rfl, rfl, h2, r2⟩ := trodAll_cons r1
 obtain ⟨rfl, rfl, rfl⟩ := trodAll_nil r2
 obtain rfl : args = #[v0, v1, v2] := by cases args; simp_all
 obtain ⟨rfl, rfl⟩ := trodVars_none hV
 clear hA0
 simp only [List.append_nil] at hW' hlt
 obtain ⟨as0, rfl, hs0⟩ := okWide_struct Tryz.underlying24 (hval 0 24 v0 rfl rfl)
 obtain ⟨as1, rfl, hs1⟩ := okWide_struct Tryz.underlying24 (hval 1 24 v1 rfl rfl)
 obtain ⟨as2, rfl, hs2⟩ := okWide_struct Tryz.underlying24 (hval 2 24 v2 rfl rfl)
 obtain ⟨b0, hb0, hi0⟩ := Te.ux h0 (hs0.trans Te.vX)
 obtain ⟨b1, hb1, hi1⟩ := Te.ux h1 (hs1.trans Te.vX)
 obtain ⟨b2, hb2, hi2⟩ := Te.ux h2 (hs2.trans Te.vX)
 obtain ⟨cs, t, fr, hh, hcs⟩ := table hL
 obtain ⟨t1, fr1, hh1⟩ := Qo hL
 obtain ⟨t2, fr2, hh2⟩ := Od hL
 have hG : Te.WB [(2, Obj.cells Te.zO t1 fr1), (0, Obj.cells Te.Zq t2 fr2), (1, Obj.cells cs t fr)] := ⟨⟨⟨1, t, fr, QU, by rw [hcs]; exact List.mem_cons_of_mem _ (List.mem_cons_of_mem _ List.mem_cons_self)⟩, t1, fr1, _, rfl⟩, t1, fr1, t2, fr2, _, rfl⟩
 have lt : ∀ {k : Nat} {o : Obj}, W.heap[k]? = some o → k < W.heap.size := fun {k o} h => by
  rcases Nat.lt_or_ge k W.heap.size with h' | h'
  ·exact h'
  ·rw [Array.getElem?_eq_none h'] at h; cases h
 have walk := (Te.VN hG b0 b1 b2 hi0 hi1 hi2).2 W (Te.Hz W) [.agg as0, .agg as1, .agg as2] (fun b h => h) (fun b o hb => by
  rcases List.mem_cons.1 hb with hb | hb
  ·cases hb; exact ⟨lt hh1, hh1⟩
  rcases List.mem_cons.1 hb with hb | hb
  ·cases hb; exact ⟨lt hh2, hh2⟩
  rw [List.mem_singleton] at hb
  cases hb; exact ⟨lt hh, hh⟩) ⟨hb0, hb1, hb2, trivial⟩
 refine walk.mono fun e W' ⟨hb, rv, he, hr⟩ => ?_
 obtain rfl := Sx.ZS hr
 subst he
 have again : ∀ {t : TypeId} (hrec : Tryz.prog.readableRec t = true) (hrow : t < Tryz.prog.types.size) {v : Value} {d : DataW H} {ps : List MemPlace}, DataW.Trod enc Tryz.prog W 0 (fun _ => true) true t v d ps → (∀ p ∈ ps, p.block < W.heap.size) → ∀ sp : Nat → Bool, (∀ p ∈ ps, sp p.block = true) →
   DataW.Trod enc Tryz.prog W' 0 sp true t v d ps := fun hrec hrow _ _ _ h hp sp hs => Go.WideElems.Trod_stays laidOut hrec hrow h (fun p hp' => Xo hb.toBelow (hp p hp')) hs
 refine ⟨_, rfl, Vz (pa := p0 ++ (p1 ++ (p2 ++ ([])))) (pv := []) hW' (fun _ _ _ => trodAll_cons_mk (shut_bool Tryz.underlying4 _) trodAll_mk0) (fun sp hsp => ?_) (fun _ _ => rfl) (by simp) hb.toBelow (ok_one (by kernel_rfl) rfl (okWide_bool_mk Tryz.underlying4 _))⟩
 rw [Tryz.params4]
 exact trodAll_cons_mk (again mZ NS h0 (fun p hp => hlt p (by simp [hp])) sp fun p hp => hsp p (by simp [hp]))
  (trodAll_cons_mk (again mZ NS h1 (fun p hp => hlt p (by simp [hp])) sp fun p hp => hsp p (by simp [hp]))
  (trodAll_cons_mk (again mZ NS h2 (fun p hp => hlt p (by simp [hp])) sp fun p hp => hsp p (by simp [hp])) trodAll_mk0))
def nV : List Int := [0, 1, 28, 2, 29, 14, 24, 3, 30, 22, 20, 15, 25, 17, 4, 8, 31, 27, 13, 23, 21, 19, 16, 7, 26, 12, 18, 6, 11, 5, 10, 9]
def mt : List Int := [0, 1, 56, 2, 57, 49, 28, 3, 61, 58, 42, 50, 38, 29, 17, 4, 62, 47, 59, 36, 45, 43, 51, 22, 53, 39, 33, 30, 24, 18, 12, 5, 63, 55, 48, 27, 60, 41, 37, 16, 46, 35, 44, 21, 52, 32, 23, 11, 54, 26, 40, 15, 34, 20, 31, 10, 25, 14, 19, 9, 13, 8, 7, 6]
def first : List Int := Go.Pinned.utf8FirstZ.map fun (n : Nat) => (n : Int)
def Qb : List Int := [128, 191, 160, 191, 128, 159, 144, 191, 128, 143] ++ List.replicate 22 0
def put (cs : Array Value) : Obj → Obj
 | .cells _ t frozen => .cells cs t frozen
 | o => o
def bytesOf (l : List Int) : Array Value := (l.map fun z => Value.int .u8 z).toArray
noncomputable def tX (h : Array Obj) : Array Obj :=
 ((((((((((h.modify 2 (put Te.zO)).modify 0 (put Te.Zq)).modify 1 (put (Lib.pow10Tab.map fun z => Value.int .u64 z).toArray)).modify 4 (put (bytesOf nV))).modify 5 (put (bytesOf mt))).modify 9 (put (bytesOf Qb))).modify 8 (put (bytesOf first))).modify
  7 (put #[.iface 275 (.pointer (some ⟨h.size, 0, none⟩))])).modify 6 (put #[.iface 275 (.pointer (some ⟨h.size + 1, 0, none⟩))])).push
  (.cells #[.string ⟨#[118, 97, 108, 117, 101, 32, 111, 117, 116, 32, 111, 102, 32, 114, 97, 110, 103, 101]⟩] 277 (0, 0))).push (.cells #[.string ⟨#[105, 110, 118, 97, 108, 105, 100, 32, 115, 121, 110, 116, 97, 120]⟩] 277 (0, 0))
noncomputable def Y7 (os : Os) : World := { World.holding Tryz.prog os ⟨#[], #[], []⟩ with heap := tX (World.holding Tryz.prog os ⟨#[], #[], []⟩).heap }
abbrev wA : Array Value := #[.agg #[.int .i8 0, .int .i8 0, .int .i8 0, .int .u8 0, .int .u8 0, .int .u8 0, .int .u8 0, .int .u8 0], .agg #[.int .i8 0, .int .i8 0, .int .i8 0, .int .u8 0, .int .u8 0, .int .u8 0, .int .u8 0, .int .u8 0], .agg #[.int .i8 0, .int .i8 0, .int .i8 0, .int .u8 0, .int .u8 0, .int .u8 0, .int .u8 0, .int .u8 0]]
theorem uk (os : Os) : laidMet Tryz.prog Rows.surdMultipliesRow.laid ((Y7 os).forCall (fun _ _ => 0) ⟨#[], wA, []⟩).memory :=
 laidMet_of_run' 8 (by kernel_rfl) (by kernel_rfl)
theorem reads (os : Os) {H : Type} (enc : TypeId × Value → H) : ∃ places, DataW.whole enc Tryz.prog ((Y7 os).forCall (fun _ _ => 0) ⟨#[], wA, []⟩).memory Tryz.f4.params.toList Rows.surdMultipliesSpec.vars false wA.toList 8 = some ([.agg [.lit (.int .i8 0), .lit (.int .i8 0), .lit (.int .i8 0), .lit (.int .u8 0), .lit (.int .u8 0), .lit (.int .u8 0), .lit (.int .u8 0), .lit (.int .u8 0)], .agg [.lit (.int .i8 0), .lit (.int .i8 0), .lit (.int .i8 0), .lit (.int .u8 0), .lit (.int .u8 0), .lit (.int .u8 0), .lit (.int .u8 0), .lit (.int .u8 0)], .agg [.lit (.int .i8 0), .lit (.int .i8 0), .lit (.int .i8 0), .lit (.int .u8 0), .lit (.int .u8 0), .lit (.int .u8 0), .lit (.int .u8 0), .lit (.int .u8 0)]], [], places) :=
 ⟨[], by kernel_rfl⟩
set_option maxRecDepth 100000 in
theorem lifted (os : Os) (started : os.Started) (H : Type) (enc : TypeId × Value → H) (F : Stop.Interp) :
  ReturnsInHanded {} Tryz.checked os 4 .any ((OpenSpec.ofChange Rows.surdMultipliesSpec).preRow enc Tryz.prog Tryz.f4 Rows.surdMultipliesRow.domain false Rows.surdMultipliesRow.laid) (((OpenSpec.ofChange Rows.surdMultipliesSpec).at F).post enc Tryz.prog Tryz.f4 false true false false) := by
 obtain ⟨places, hx⟩ := reads os enc
 refine returnsInHanded_of_row (C := Tryz.checked) (s := OpenSpec.ofChange Rows.surdMultipliesSpec) own started (by kernel_rfl) Tryz.func4
  (witness_row_at (enc := enc) (C := Tryz.checked) false (Y7 os) wA rfl (by kernel_rfl) (by kernel_rfl) (by kernel_rfl)
   (OpenSpec.preRow_of_cond 8 hx (by kernel_rfl) (fun k hk => by cases hk) (by kernel_rfl) (uk os))) ?_
 intro W base args ds gs before hval hW _ _ _ hL _ _
 exact tt H enc W base args ds gs before hval hW hL
end Go.Proofs.YthbpnknhfokadaaGreatDoor.surdMultiplies

namespace Go.Proofs.YthbpnknhfokadaaGreatDoor.surdMultiplies
open Go Go.ChangeShapes Go.WideShapes Go.ChangeAt Go.RowKit
theorem Hf : (Rows.surdMultipliesRow.inPlace == Tryz.pinned.checked.prog.inPlace 4) = true := by kernel_rfl
theorem HG : (Rows.surdMultipliesRow.unfollowed == Tryz.pinned.checked.prog.unfollowed 4) = true := by kernel_rfl
theorem Hm : (Rows.surdMultipliesRow.recurses == Tryz.pinned.checked.prog.recurses 4) = true := by kernel_rfl
theorem HE : (Rows.surdMultipliesRow.named == Tryz.pinned.checked.prog.varsNamed 4) = true := by kernel_rfl
theorem closed : joinedFacts Tryz.pinned.checked.prog 4 Tryz.f4 (OpenSpec.ofChange Rows.surdMultipliesSpec).bare Rows.surdMultipliesRow = true := by
 unfold joinedFacts
 rw [Hf, HG, Hm, HE]
 kernel_rfl
theorem wrap : Tryz.f4.isWrapper Tryz.pinned.checked.prog Rows.surdMultipliesRow.wrapper Rows.surdMultipliesRow.mainSum := by
 unfold Func.isWrapper; first | (rw [if_pos (by decide +kernel)]; kernel_rfl) | (rw [if_neg (by decide +kernel)]; exact ⟨rfl, rfl⟩)
theorem lH : Tryz.f4.isInstance Tryz.pinned.checked.prog Rows.surdMultipliesRow.origin Rows.surdMultipliesRow.targs := of_decide_eq_true (by kernel_rfl)
theorem named : Tryz.pinned.checked.prog.funcNamed Rows.surdMultipliesRow.func = some 4 := by kernel_rfl
theorem said : Rows.SurdMultipliesSaid :=
 OpenClaim.holds_of_cond 4 Tryz.f4 rfl rfl rfl rfl rfl rfl rfl ⟨rfl, rfl, rfl, rfl, rfl⟩ rfl rfl rfl rfl rfl named Tryz.func4 closed
  lH wrap
  (fun os started H enc _ F => by rw [OpenClaim.pre_eq_preRow]; exact lifted os started H enc F)
end Go.Proofs.YthbpnknhfokadaaGreatDoor.surdMultiplies
