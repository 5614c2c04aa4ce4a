/- kingpostlaw04: text, of. -/
import Derived.Test.YthbpnknhfokadaaGreatDoorThQi
import Derived.Test.YthbpnknhfokadaaGreatDoorArAB
import Derived.ChangeArms
import Derived.Lib.LaidTab
import Derived.Test.YthbpnknhfokadaaGreatDoorCards
import Derived.Test.YthbpnknhfokadaaGreatDoorTie
import Derived.WalkKit
import Derived.ProofKit
import Derived.OpenShut
import Derived.WideKeyArgs
import Derived.Deep.DeepHandedRow
set_option linter.unusedSimpArgs false
set_option linter.unusedVariables false
namespace Go.Te
open Go Go.Sx Go.Proofs Go.Ar
set_option maxRecDepth 100000
set_option maxHeartbeats 4000000
theorem Mu {l : List Tm} {R L B : Nat} (hl : l.length ≤ 256) (ho : (ZD l).length ≤ 16) (hR : R < 10 ^ 15) (hn : ∀ t ∈ l, nat0 R t) (hi : inT RM l) (hc : ∀ t ∈ l, bq 60 t.c) (hL : 0 < L) (hp : pg L B l) (h1 : B * RM < 10 ^ 60) (h2 : L * RM < 10 ^ 60) : wv l := by
 refine ⟨hl, hc, fun t ht h0 => ?_, hi, qB (by decide) hi hL hp h1 h2, ho⟩
 obtain ⟨r, e, hr⟩ := hn t ht
 have hr0 : r ≠ 0 := fun e0 => h0 (by rw [e, e0]; rfl)
 have b1 : bq 15 t.q := by
  rw [e]
  exact ⟨by rw [Rat.num_natCast, Int.natAbs_natCast]; omega, by rw [Rat.den_natCast]; decide⟩
 refine ⟨(ZJ (by decide) (by decide)).2 (b1.mono (by decide)), ?_, ?_⟩
 ·rw [zk, e]
  exact Rat.lt_of_le_of_ne Rat.natCast_nonneg fun e => hr0 (Rat.natCast_eq_zero_iff.1 e.symm)
 ·rw [zk]
  have a1 : xC t.q.num ≤ 15 := xR (by decide) b1.num
  have a2 : Lib.nDigits t.q.den ≤ 1 := (Zx (by decide)).2 (by rw [e, Rat.den_natCast]; decide)
  omega
def pG (n d : Int) : Rat := mkRat n (d.toNat % 20 + 1)
structure Zo where
 a : Int
 b : Nat
 k : Nat
def Ht (n : Int) (D : Nat) (z : Zo) : Prop := z.a * (D : Int) = n * (z.b : Int) ∧ 0 < z.b ∧ z.b ≤ D ∧ z.a.natAbs ≤ 128 ∧ 2 ≤ z.k ∧ z.k ≤ 22 ∧ ∀ j, 2 ≤ j → j < z.k → ¬((j : Int) ∣ z.a ∧ j ∣ z.b)
def jG (n d : Int) : yW :=
 .two .auto (.two .auto (.two (.two .auto (.one (.loop Zo (fun σ z => [(5, .i z.a), (6, .i (z.b : Int)), (7, .i (z.k : Int))]) (fun σ z => []) 0 (fun σ z => Ht n (d.toNat % 20 + 1) z) (fun σ z => 40 - z.k) (.two .auto (.two (.one (.one (.loop Zo (fun σ z => [(7, σ.tm 7), (5, .i z.a), (6, .i (z.b : Int))]) (fun σ z => []) 0 (fun σ z => Ht n (d.toNat % 20 + 1) z ∧ (z.k : Int) = AV.int (σ.tm 7)) (fun σ z => z.b) .auto))) .auto))))) .auto))
def NW : List AV → Option (List zn × AV)
 | [.v (.int .i8 n), .v (.int .u8 d)] => some ([.p (-128 ≤ n ∧ n ≤ 127), .p (0 ≤ d ∧ d ≤ 255)], .str (zT (pG n d)))
 | _ => none
theorem Ku (G : List (Nat × Obj)) (n : Int) (d : Int) (hn : -128 ≤ n ∧ n ≤ 127) (hd : 0 ≤ d ∧ d ≤ 255) :
 ZV [AV.v (Value.int IntKind.i8 n), AV.v (Value.int IntKind.u8 d)] → bF (dK n) (bF (dK d) (bF (dK (Int.tmod d (20 : Int) + iO)) ((∃ (z : Zo), ((Zo.a z * (cI (Int.toNat d % 20 + 1)) = n * (cI (Zo.b z)) ∧ 0 < Zo.b z ∧ Zo.b z ≤ Int.toNat d % 20 + 1 ∧ Int.natAbs (Zo.a z) ≤ 128 ∧ 2 ≤ Zo.k z ∧ Zo.k z ≤ 22 ∧ ∀ (j : Nat), 2 ≤ j → j < Zo.k z → ¬((cI j) ∣ Zo.a z ∧ j ∣ Zo.b z)) ∧ (kI ∧ n = Zo.a z) ∧ (kI ∧ Int.tmod d (20 : Int) + iO = (cI (Zo.b z))) ∧ kI ∧ (2 :
 Int) = (cI (Zo.k z))) ∧ True) ∧ ∀ (z : Zo), (Zo.a z * (cI (Int.toNat d % 20 + 1)) = n * (cI (Zo.b z)) ∧ 0 < Zo.b z ∧ Zo.b z ≤ Int.toNat d % 20 + 1 ∧ Int.natAbs (Zo.a z) ≤ 128 ∧ 2 ≤ Zo.k z ∧ Zo.k z ≤ 22 ∧ ∀ (j : Nat), 2 ≤ j → j < Zo.k z → ¬((cI j) ∣ Zo.a z ∧ j ∣ Zo.b z)) → zZ (leB (cI (Zo.k z)) (cI (Zo.b z))) ((∃ (z_1 : Zo), (((Zo.a z_1 * (cI (Int.toNat d % 20 + 1)) = n * (cI (Zo.b z_1)) ∧ 0 < Zo.b z_1 ∧ Zo.b z_1 ≤ Int.toNat d % 20 + 1 ∧ Int.natAbs (Zo.a z_1) ≤ 128 ∧ 2 ≤ Zo.k z_1 ∧ Zo.k z_1 ≤ 22 ∧ ∀ (j : Nat), 2 ≤ j → j < Zo.k z_1 →
 ¬((cI j) ∣ Zo.a z_1 ∧ j ∣ Zo.b z_1)) ∧ (cI (Zo.k z_1)) = AV.int (aI (cI (Zo.k z)))) ∧ (kI ∧ (cI (Zo.k z)) = (cI (Zo.k z))) ∧ (kI ∧ Zo.a z = Zo.a z_1) ∧ kI ∧ (cI (Zo.b z)) = (cI (Zo.b z_1))) ∧ True) ∧ ∀ (z_1 : Zo), (Zo.a z_1 * (cI (Int.toNat d % 20 + 1)) = n * (cI (Zo.b z_1)) ∧ 0 < Zo.b z_1 ∧ Zo.b z_1 ≤ Int.toNat d % 20 + 1 ∧ Int.natAbs (Zo.a z_1) ≤ 128 ∧ 2 ≤ Zo.k z_1 ∧ Zo.k z_1 ≤ 22 ∧ ∀ (j : Nat), 2 ≤ j → j < Zo.k z_1 → ¬((cI j) ∣ Zo.a z_1 ∧ j ∣ Zo.b z_1)) ∧ (cI (Zo.k
 z_1)) = AV.int (aI (cI (Zo.k z))) → bF (DB.db ((cI (Zo.k z)) ≠ iZ)) (bF (!zr true (Int.tmod (Zo.a z_1) (cI (Zo.k z)) == iZ) || zr true (Int.tmod (Zo.a z_1) (cI (Zo.k z)) == iZ)) (bF (!zr true (Int.tmod (Zo.a z_1) (cI (Zo.k z)) == iZ) || zr true (Int.tmod (Zo.a z_1) (cI (Zo.k z)) == iZ)) (bF (!zr true (Int.tmod (Zo.a z_1) (cI (Zo.k z)) == iZ) || DB.db ((cI (Zo.k z)) ≠ iZ)) (bF (!zr true (Int.tmod (Zo.a z_1) (cI (Zo.k z)) == iZ) ||
 zr true (Int.tmod (Zo.a z_1) (cI (Zo.k z)) == iZ)) (bF (!Int.tmod (Zo.a z_1) (cI (Zo.k z)) == iZ || zr true (Int.tmod (Zo.a z_1) (cI (Zo.k z)) == iZ)) (zZ (bif Int.tmod (Zo.a z_1) (cI (Zo.k z)) == iZ then Int.tmod (cI (Zo.b z_1)) (cI (Zo.k z)) == iZ else false) (bF (DB.db ((cI (Zo.k z)) ≠ iZ)) (bF (dK (Int.tdiv (Zo.a z_1) (cI (Zo.k z)))) (bF (DB.db ((cI (Zo.k z)) ≠ iZ)) (bF (dK (Int.tdiv (cI (Zo.b z_1)) (cI (Zo.k z)))) (∃ (z' :
 Zo), ((((Zo.a z' * (cI (Int.toNat d % 20 + 1)) = n * (cI (Zo.b z')) ∧ 0 < Zo.b z' ∧ Zo.b z' ≤ Int.toNat d % 20 + 1 ∧ Int.natAbs (Zo.a z') ≤ 128 ∧ 2 ≤ Zo.k z' ∧ Zo.k z' ≤ 22 ∧ ∀ (j : Nat), 2 ≤ j → j < Zo.k z' → ¬((cI j) ∣ Zo.a z' ∧ j ∣ Zo.b z')) ∧ (cI (Zo.k z')) = AV.int (aI (cI (Zo.k z)))) ∧ Zo.b z' < Zo.b z_1) ∧ (kI ∧ (cI (Zo.k z)) = (cI (Zo.k z))) ∧ (kI ∧ Int.tdiv (Zo.a z_1) (cI (Zo.k z)) = Zo.a z') ∧ kI ∧ Int.tdiv (cI (Zo.b z_1)) (cI (Zo.k z)) = (↑(Zo.b z') :
 Int)) ∧ True))))) (bF (dK ((cI (Zo.k z)) + iO)) (∃ (z' : Zo), (((Zo.a z' * (cI (Int.toNat d % 20 + 1)) = n * (cI (Zo.b z')) ∧ 0 < Zo.b z' ∧ Zo.b z' ≤ Int.toNat d % 20 + 1 ∧ Int.natAbs (Zo.a z') ≤ 128 ∧ 2 ≤ Zo.k z' ∧ Zo.k z' ≤ 22 ∧ ∀ (j : Nat), 2 ≤ j → j < Zo.k z' → ¬((cI j) ∣ Zo.a z' ∧ j ∣ Zo.b z')) ∧ 40 - Zo.k z' < 40 - Zo.k z) ∧ (kI ∧ Zo.a z_1 = Zo.a z') ∧ (kI ∧ (cI (Zo.b z_1)) = (cI (Zo.b z'))) ∧ kI ∧ (cI (Zo.k z)) + iO = (cI (Zo.k z')))
 ∧ True))))))))) ((iN ≤ Zo.a z ∧ Zo.a z ≤ iX) ∧ zZ ((cI (Zo.b z)) != iO) ((iN ≤ (cI (Zo.b z)) ∧ (cI (Zo.b z)) ≤ iX) ∧ bF (DB.db (1 + lN (Lib.itoa (cI (Zo.b z))) ≤ nX)) (bF (DB.db (lN (Lib.itoa (Zo.a z)) + lN (bA #[(47 : UInt8)] ++ Lib.itoa (cI (Zo.b z))) ≤ nX)) (Lib.itoa (Zo.a z) ++ (Array.toList
 (ByteArray.data (ByteArray.mk #[(47 : UInt8)])) ++ Lib.itoa (cI (Zo.b z))) = zT (pG n d)))) (Lib.itoa (Zo.a z) = zT (pG n d)))))) := by
 delta bF dK bA nX cI kI lN iZ iO iX iN aI
 intro hb
 simp only [↓yZ, ↓Zj, row_one]
 simp only [sS, YN, yK, zk, yp, YZ, Xr, YD, wu, xO, wH, XW, dS]
 have hD : d.tmod 20 + 1 = ((d.toNat % 20 + 1 : Nat) : Int) := by rw [Int.tmod_eq_emod_of_nonneg (by omega)]; omega
 have hD2 : d.toNat % 20 + 1 ≤ 20 := by omega
 have hD0 : 0 < d.toNat % 20 + 1 := by omega
 have eS : zT (pG n d) = ZX n (d.toNat % 20 + 1) := (YK n hD0).symm
 rw [eS, hD]
 generalize d.toNat % 20 + 1 = D at *
 refine ⟨by simp only [yn]; omega, by simp only [yn]; omega, by simp only [yn]; omega, ⟨⟨n, D, 2⟩, ⟨rfl, hD0, Nat.le_refl _, by simp only; omega, Nat.le_refl _, by simp only; omega, fun j h1 h2 => absurd h2 (by simp only; omega)⟩, rfl, rfl, rfl⟩, fun z ⟨p1, p2, p3, p4, p5, p6, p7⟩ => ⟨fun hk => ⟨⟨z, ⟨⟨p1, p2, p3, p4, p5, p6, p7⟩, rfl⟩, rfl, rfl⟩, fun y ⟨⟨q1, q2, q3, q4, q5, q6, q7⟩, q8⟩ => ?_⟩, fun hk => ?_⟩⟩
 ·have q8 : y.k = z.k := by omega
  rw [← q8]
  have hk0 : (0 : Int) < (y.k : Int) := by omega
  refine ⟨by omega, fun _ => by omega, zX.2 ⟨fun c => ?_, fun c => ?_⟩⟩
  ·simp only [Bool.and_eq_true, beq_iff_eq] at c
   have d1 : (y.k : Int) ∣ y.a := Int.dvd_of_tmod_eq_zero c.1
   have d2 : (y.k : Int) ∣ (y.b : Int) := Int.dvd_of_tmod_eq_zero c.2
   have d3 : y.k ∣ y.b := Int.natCast_dvd_natCast.1 d2
   obtain ⟨a', ha⟩ := d1
   obtain ⟨b', hb'⟩ := d3
   have e1 : y.a.tdiv (y.k : Int) = a' := by rw [ha]; exact Int.mul_tdiv_cancel_left _ (by omega)
   have e2 : ((y.b : Nat) : Int).tdiv (y.k : Int) = (b' : Int) := by rw [hb', Int.natCast_mul]; exact Int.mul_tdiv_cancel_left _ (by omega)
   have hb0 : 0 < b' := Nat.pos_of_ne_zero fun e => by rw [e, Nat.mul_zero] at hb'; omega
   have hbl : b' < y.b := by
    rw [hb']
    have : 2 * b' ≤ y.k * b' := Nat.mul_le_mul_right _ (by omega)
    omega
   have hal : a'.natAbs ≤ y.a.natAbs := by
    rw [ha, Int.natAbs_mul]
    exact Nat.le_mul_of_pos_left _ (by omega)
   rw [e1, e2]
   refine ⟨by omega, by simp only [yn]; omega, by omega, by simp only [yn]; omega, ⟨a', b', y.k⟩, ⟨⟨⟨?_, hb0, by simp only; omega, by simp only; omega, q5, q6, fun j h1 h2 h3 => q7 j h1 h2 ⟨?_, ?_⟩⟩, rfl⟩, hbl⟩, rfl, rfl⟩
   ·have h : (y.k : Int) * (a' * (D : Int)) = (y.k : Int) * (n * (b' : Int)) := by
     have := q1
     rw [ha, hb', Int.natCast_mul] at this
     grind
    exact Int.eq_of_mul_eq_mul_left (by omega) h
   ·rw [ha]; exact Int.dvd_mul_of_dvd_right h3.1
   ·rw [hb']; exact Nat.dvd_mul_left_of_dvd h3.2 _
  ·refine ⟨by simp only [yn]; omega, ⟨y.a, y.b, y.k + 1⟩, ⟨⟨q1, q2, q3, q4, by simp only; omega, by simp only; omega, fun j h1 h2 h3 => ?_⟩, by simp only; omega⟩, rfl, rfl, by simp only; omega⟩
   by_cases ej : j = y.k
   ·subst ej
    rw [show (y.a.tmod (y.k : Int) == 0) = true from beq_iff_eq.2 (Int.tmod_eq_zero_of_dvd h3.1), show (((y.b : Nat) : Int).tmod (y.k : Int) == 0) = true from beq_iff_eq.2 (Int.tmod_eq_zero_of_dvd (Int.natCast_dvd_natCast.2 h3.2))] at c
    cases c
   ·exact q7 j h1 (by simp only at h2; omega) h3
 ·have hg : Nat.gcd z.a.natAbs z.b = 1 := by
   refine Decidable.byContradiction fun hne => ?_
   have hg0 : 0 < Nat.gcd z.a.natAbs z.b := Nat.gcd_pos_of_pos_right _ p2
   have hgl : Nat.gcd z.a.natAbs z.b ≤ z.b := Nat.le_of_dvd p2 (Nat.gcd_dvd_right _ _)
   exact p7 _ (by omega) (by omega) ⟨Int.ofNat_dvd_left.2 (Nat.gcd_dvd_left _ _), Nat.gcd_dvd_right _ _⟩
  have e : ZX n D = YP z.a z.b := by
   rw [← tp hg]
   exact (O2 hD0 p2).2 p1.symm
  rw [e]
  unfold YP
  have la := ZA (n := z.a) (k := 9) (by decide) (by omega)
  have lb := ZA (n := ((z.b : Nat) : Int)) (k := 9) (by decide) (by omega)
  refine ⟨by omega, fun hb1 => ⟨by omega, by omega, by simp only [List.length_append, List.length_cons, List.length_nil]; omega, ?_⟩, fun hb1 => ?_⟩
  ·rw [show (z.b.beq 1) = false from by rw [← Bool.not_eq_true]; intro h; exact hb1 (by rw [Nat.eq_of_beq_eq_true h]; rfl), cond_false, Z5]
   rfl
  ·rw [show z.b = 1 from by omega]
   exact (List.append_nil _).symm
theorem iA {G : List (Nat × Obj)} (hG : zo G) (n : Int) (d : Int) (hn : -128 ≤ n ∧ n ≤ 127) (hd : 0 ≤ d ∧ d ≤ 255) : zt Tryz.prog G 34 [.v (.int .i8 n), .v (.int .u8 d)] (.str (zT (pG n d))) :=
 zW (T := oJ G) (an := jG n d) mixed (y8 hG) (Eq.mp (by kernel_rfl) (Ku G n d hn hd))
theorem iq {G : List (Nat × Obj)} (hG : zo G) : zp Tryz.prog G 34 NW := by
 intro xs ps r h hp
 unfold NW at h
 split at h
 ·skip
  rename_i n d
  cases h
  obtain ⟨q0, q1, -⟩ := ZH hp
  exact weaken (ys := [.v (.int .i8 n), .v (.int .u8 d)]) ⟨zS _, zS _, trivial⟩ (iA hG n d q0 q1)
 ·cases h
end Go.Te

namespace Go.Te
open Go Go.Sx Go.Proofs Go.Ar
set_option maxRecDepth 100000
set_option maxHeartbeats 4000000
structure Sm where
 A : Int
 C : Int
 E : Int
 B : Int
 D : Int
 F : Int
 N : Int
 M : Int
def OC : AV → Bool
 | .v (.int .i8 _) => true
 | _ => false
def Re : AV → Bool
 | .v (.int .u8 _) => true
 | _ => false
theorem sD {x : AV} (h : OC x = true) : x = .v (.int .i8 (AV.int x)) := by
 unfold OC at h
 split at h
 ·rfl
 ·cases h
theorem vP {x : AV} (h : Re x = true) : x = .v (.int .u8 (AV.int x)) := by
 unfold Re at h
 split at h
 ·rfl
 ·cases h
instance : zU Sm := ⟨8, ⟨0, 0, 0, 0, 0, 0, 0, 0⟩,
 fun x => zw [.v (.int .i8 x.A), .v (.int .i8 x.C), .v (.int .i8 x.E), .v (.int .u8 x.B), .v (.int .u8 x.D), .v (.int .u8 x.F), .v (.int .u8 x.N), .v (.int .u8 x.M)],
 fun c => ⟨AV.int (c 0), AV.int (c 1), AV.int (c 2), AV.int (c 3), AV.int (c 4), AV.int (c 5), AV.int (c 6), AV.int (c 7)⟩,
 fun c => OC (c 0) && (OC (c 1) && (OC (c 2) && (Re (c 3) && (Re (c 4) && (Re (c 5) && (Re (c 6) && Re (c 7))))))), fun c h j hj => by
 simp only [Bool.and_eq_true] at h
 obtain ⟨h0, h1, h2, h3, h4, h5, h6, h7⟩ := h
 match j, hj with
 | 0, _ => exact ZU (sD h0)
 | 1, _ => exact ZU (sD h1)
 | 2, _ => exact ZU (sD h2)
 | 3, _ => exact ZU (vP h3)
 | 4, _ => exact ZU (vP h4)
 | 5, _ => exact ZU (vP h5)
 | 6, _ => exact ZU (vP h6)
 | 7, _ => exact ZU (vP h7)⟩
instance : y9 Sm := ⟨fun _ => rfl, fun _ => rfl⟩
theorem jm (x : Sm) : Zn (AV.agg 8 (zw [.v (.int .i8 x.A), .v (.int .i8 x.C), .v (.int .i8 x.E), .v (.int .u8 x.B), .v (.int .u8 x.D), .v (.int .u8 x.F), .v (.int .u8 x.N), .v (.int .u8 x.M)])) = x := WZ x
theorem lC (x : Sm) : yw Sm (AV.agg 8 (zw [.v (.int .i8 x.A), .v (.int .i8 x.C), .v (.int .i8 x.E), .v (.int .u8 x.B), .v (.int .u8 x.D), .v (.int .u8 x.F), .v (.int .u8 x.N), .v (.int .u8 x.M)])) = true := XE x
theorem MS (x : Sm) : Zn (AV.agg 8 (zU.enc x)) = x := WZ x
theorem Na (x : Sm) : yw Sm (AV.agg 8 (zU.enc x)) = true := XE x
structure tK (x : Sm) : Prop where
 A : -128 ≤ x.A ∧ x.A ≤ 127
 C : -128 ≤ x.C ∧ x.C ≤ 127
 E : -128 ≤ x.E ∧ x.E ≤ 127
 B : 0 ≤ x.B ∧ x.B ≤ 255
 D : 0 ≤ x.D ∧ x.D ≤ 255
 F : 0 ≤ x.F ∧ x.F ≤ 255
 N : 0 ≤ x.N ∧ x.N ≤ 255
 M : 0 ≤ x.M ∧ x.M ≤ 255
def Yb (x : Sm) : List Tm := [⟨pG x.A x.B, 1⟩, ⟨pG x.C x.D, (x.N : Rat)⟩, ⟨pG x.E x.F, (x.M : Rat)⟩]
abbrev L0 : Nat := 232792560
abbrev B0 : Nat := 3 * (128 * L0 * 255)
theorem jT : ∀ D : Nat, 0 < D → D ≤ 20 → D ∣ L0 := by
 have h : ∀ D : Fin 21, 0 < D.val → D.val ∣ L0 := by decide
 exact fun D h0 h1 => h ⟨D, by omega⟩ h0
theorem TD {n d : Int} (hn : -128 ≤ n ∧ n ≤ 127) : ∃ z : Int, pG n d * (L0 : Rat) = (z : Rat) ∧ z.natAbs ≤ 128 * L0 := by
 have hD0 : 0 < d.toNat % 20 + 1 := by omega
 obtain ⟨e, he⟩ := jT (d.toNat % 20 + 1) hD0 (by omega)
 have hel : e ≤ L0 := by rw [he]; exact Nat.le_mul_of_pos_left _ hD0
 refine ⟨n * (e : Int), ?_, ?_⟩
 ·unfold pG
  rw [Rat.mkRat_eq_div, he, Rat.natCast_mul, Rat.intCast_mul, Rat.intCast_natCast]
  have hd : ((d.toNat % 20 + 1 : Nat) : Rat) ≠ 0 := fun e => by have := Rat.natCast_eq_zero_iff.1 e; omega
  generalize ((d.toNat % 20 + 1 : Nat) : Rat) = q at *
  grind
 ·rw [Int.natAbs_mul, Int.natAbs_natCast]
  exact Nat.mul_le_mul (by omega) hel
theorem po {x : Sm} (h : tK x) : ∀ t ∈ Yb x, ∃ z : Int, t.c * (L0 : Rat) = (z : Rat) ∧ z.natAbs ≤ 128 * L0 := fun t ht => by
 unfold Yb at ht
 simp only [List.mem_cons, List.not_mem_nil, or_false] at ht
 rcases ht with rfl | rfl | rfl
 ·exact TD h.A
 ·exact TD h.C
 ·exact TD h.E
theorem TF {x : Sm} (h : tK x) : ∀ t ∈ Yb x, nat0 255 t := fun t ht => by
 have key : ∀ n : Int, 0 ≤ n ∧ n ≤ 255 → nat0 255 ⟨0, (n : Rat)⟩ := fun n hn => ⟨n.toNat, by
  show (n : Rat) = _
  rw [← Rat.intCast_natCast, Int.toNat_of_nonneg hn.1], by omega⟩
 unfold Yb at ht
 simp only [List.mem_cons, List.not_mem_nil, or_false] at ht
 rcases ht with rfl | rfl | rfl
 ·exact ⟨1, rfl, by omega⟩
 ·exact key _ h.N
 ·exact key _ h.M
theorem NH {x : Sm} (h : tK x) : pg L0 B0 (Yb x) := NL (TF h) (po h)
theorem nB {x : Sm} (h : tK x) : inT 255 (Yb x) := fun t ht => by
 obtain ⟨h0, h1⟩ := (TF h t ht).in_
 exact ⟨h0, by omega⟩
theorem Nh {R Q : Nat} {l : List Tm} (h : inT R l) (hq : R ≤ Q) : inT Q l := fun t ht => ⟨(h t ht).1, Nat.le_trans (h t ht).2 hq⟩
theorem O4 {x : Sm} (h : tK x) : wv (Yb x) := by
 have hi := Nh (nB h) (show 255 ≤ RM by decide)
 exact Mu (R := 255) (L := L0) (B := B0) (show 3 ≤ 256 by decide) (Nat.le_trans (XX (by decide) hi).2.1 (show 3 ≤ 16 by decide)) (by decide) (TF h) hi (fun t ht => kT (by decide) (po h t ht) (by decide) (by decide)) (by decide) (NH h) (by decide) (by decide)
structure fS (R n B : Nat) (s : List Tm) : Prop where
 g : gS R s
 len : s.length ≤ n
 pg : pg L0 B s
theorem mz {x : Sm} (h : tK x) : fS 255 3 B0 (ZD (Yb x)) := by
 obtain ⟨h1, h2, h3⟩ := XX (by decide) (nB h)
 exact ⟨h1, h2, sO h1.nat h1.unr h3 (NH h)⟩
theorem iH (p0 p1 p2 q0 q1 q2 : Rat) : ZO (AV.xl true 2 3 (Sx.rowAt [zw [AV.str (zT p0), AV.str (zT q0)], zw [AV.str (zT p1), AV.str (zT q1)], zw [AV.str (zT p2), AV.str (zT q2)]])) = ([⟨p0, q0⟩, ⟨p1, q1⟩, ⟨p2, q2⟩] : List Tm) := by
 show ([⟨ze (zT p0), ze (zT q0)⟩, ⟨ze (zT p1), ze (zT q1)⟩, ⟨ze (zT p2), ze (zT q2)⟩] : List Tm) = _
 simp only [zk]
theorem KS (p0 p1 p2 q0 q1 q2 : Rat) : zD Tm (AV.xl true 2 3 (Sx.rowAt [zw [AV.str (zT p0), AV.str (zT q0)], zw [AV.str (zT p1), AV.str (zT q1)], zw [AV.str (zT p2), AV.str (zT q2)]])) = true := by
 have h : ∀ p q : Rat, zU.ok (α := Tm) (zw [AV.str (zT p), AV.str (zT q)]) = true := fun p q => y9.ok (⟨p, q⟩ : Tm)
 unfold zD
 rw [Bool.and_eq_true]
 refine ⟨rfl, sw fun i hi => ?_⟩
 match i, hi with
 | 0, _ => exact h p0 q0
 | 1, _ => exact h p1 q1
 | 2, _ => exact h p2 q2
theorem iW : zT 1 = [49] := by decide +kernel
noncomputable def Hp (G : List (Nat × Obj)) : Tb := (((oJ G).plus 34 NW).plus 20 SH).plus 35 SL
theorem PY {G : List (Nat × Obj)} (hG : zo G) : zz Tryz.prog (Hp G) := zz.plus (zz.plus (zz.plus (y8 hG) (iq hG)) (nh hG)) (OL hG)
def N3 : List AV → Option (List zn × AV)
 | [x_x] => some ([.b (yw Sm x_x), .p (tK (Zn (α := Sm) x_x))], .tup 2 (zw [ZE (ZD (Yb (Zn (α := Sm) x_x))), .b true]))
 | _ => none
theorem KB (G : List (Nat × Obj)) (x : Sm) (h : tK x) :
 let q1 := (AV.xl true 2 3 (Sx.rowAt [zw [AV.str (zT (pG (Sm.A x) (Sm.B x))), AV.str (bA #[(49 : UInt8)])], zw [AV.str (zT (pG (Sm.C x) (Sm.D x))), AV.str (Lib.itoa (Sm.N x))], zw [AV.str (zT (pG (Sm.E x) (Sm.F x))), AV.str (Lib.itoa (Sm.M x))]])); let q2 := (ZO q1); let q4 := (ZD q2); let q3 := (AV.xl false 2 (lN q4) fun i j => zU.enc (gD q4 i zU.dflt) j); ZV [AV.agg 8 (zU.enc x)] → ((-128 : Int) ≤ Sm.A x ∧ Sm.A x ≤ (127 : Int)) ∧ (iZ ≤ Sm.B x ∧ Sm.B x ≤ (255 : Int)) ∧ ((-128 : Int) ≤ Sm.C x ∧ Sm.C x ≤
 (127 : Int)) ∧ (iZ ≤ Sm.D x ∧ Sm.D x ≤ (255 : Int)) ∧ bF (dK (Sm.N x)) ((iN ≤ Sm.N x ∧ Sm.N x ≤ iX) ∧ ((-128 : Int) ≤ Sm.E x ∧ Sm.E x ≤ (127 : Int)) ∧ (iZ ≤ Sm.F x ∧ Sm.F x ≤ (255 : Int)) ∧ bF (dK (Sm.M x)) ((iN ≤ Sm.M x ∧ Sm.M x ≤ iX) ∧ bF (zD Tm q1) (wv q2 ∧ bF (!zr true (iZ == iZ) || zD Tm q3) ((zr true (iZ == iZ) = true → xh (ZO q3)) ∧ j2 ∧ (True ∧ zE q3 (AV.xl
 false 2 (lN (ZD (Yb x))) fun i j => zU.enc (gD (ZD (Yb x)) i zU.dflt) j)) ∧ (bif iZ == iZ then iZ == iZ else false) = true)))) := by
 delta bF dK bA j2 lN gD iZ iX iN
 dsimp only
 intro hb
 simp only [↓yZ, ↓Zj, row_one]
 simp only [sS, YN, yK, zk, yp, YZ, Xr, YD, wu, xO, wH, XW, dS]
 have := h.A
 have := h.C
 have := h.E
 have := h.N
 have := h.M
 rw [← uQ x.N, ← uQ x.M, ← iW, iH, KS]
 exact ⟨h.A, h.B, h.C, h.D, by simp only [yn]; omega, by omega, h.E, h.F, by simp only [yn]; omega, by omega, zX.2 ⟨fun _ => ⟨O4 h, fun _ => sj (O4 h), rfl, zS _, rfl⟩, fun c => by cases c⟩⟩
theorem iV {G : List (Nat × Obj)} (hG : zo G) (x : Sm) (h : tK x) : zt Tryz.prog G 11 [Yh x] (.tup 2 (zw [ZE (ZD (Yb x)), .b true])) :=
 zW (T := Hp G) (an := .auto) mixed (PY hG) (Eq.mp (by kernel_rfl) (KB G x h))
theorem Jf {G : List (Nat × Obj)} (hG : zo G) : zp Tryz.prog G 11 N3 := by
 intro xs ps r h hp
 unfold N3 at h
 split at h
 ·skip
  rename_i x_x
  cases h
  obtain ⟨q0, q1, -⟩ := ZH hp
  exact weaken (ys := [Yh (Zn (α := Sm) x_x)]) ⟨Zu q0, trivial⟩ (iV hG (Zn (α := Sm) x_x) q1)
 ·cases h
end Go.Te

namespace Go.Te
open Go Go.Sx Go.Proofs Go.Ar
set_option maxRecDepth 100000
set_option maxHeartbeats 4000000
theorem WU {R Q : Nat} {t : Tm} (h : Zf R t) (hq : R ≤ Q) : Zf Q t := by obtain ⟨r, e, h0, h1⟩ := h; exact ⟨r, e, h0, Nat.le_trans h1 hq⟩
theorem M7 {R Q : Nat} {s : List Tm} (h : gS R s) (hq : R ≤ Q) : gS Q s := ⟨fun x hx => WU (h.nat x hx) hq, h.ne, h.nrm, h.unr, h.le⟩
theorem uj {R n B : Nat} {s : List Tm} (h : fS R n B s) (hR : R ≤ RM) (hB : B * RM < 10 ^ 60) : ∀ x ∈ s, bq 60 x.c :=
 pT (by decide) h.g.nat h.g.unr (fun _ _ => rfl) h.pg (Nat.lt_of_le_of_lt (Nat.mul_le_mul_left _ hR) hB) (Nat.lt_of_le_of_lt (Nat.mul_le_mul_left _ hR) (by decide))
theorem uZ {R n B : Nat} {s : List Tm} (h : fS R n B s) (hR : R ≤ RM) (hn : n ≤ 16) (hB : B * RM < 10 ^ 60) : xh s := ⟨M7 h.g hR, Nat.le_trans h.len hn, uj h hR hB⟩
theorem qR {l : List Tm} {B : Nat} (hl : l.length ≤ 256) (ho : (ZD l).length ≤ 16) (hn : ∀ t ∈ l, Zf RM t) (hc : ∀ t ∈ l, bq 60 t.c) (hp : pg L0 B l) (h1 : B * RM < 10 ^ 60) : wv l := by
 have hi : inT RM l := fun t ht => sJ (hn t ht)
 exact ⟨hl, hc, fun t ht _ => mo (hn t ht), hi, qB (by decide) hi (by decide) hp h1 (by decide), ho⟩
theorem uC {R : Nat} {s t : List Tm} (hs : ∀ x ∈ s, Zf R x) (ht : ∀ x ∈ t, Zf R x) : ∀ x ∈ s ++ t, Zf R x := fun x hx => (List.mem_append.1 hx).elim (hs x) (ht x)
theorem SJ {R : Nat} {k : Rat} {s : List Tm} (hs : ∀ x ∈ s, Zf R x) : ∀ x ∈ ZK k s, Zf R x := fun x hx => by
 unfold ZK at hx
 obtain ⟨u, hu, rfl⟩ := List.mem_map.1 hx
 exact hs u hu
theorem qW {K : Nat} {s t : List Tm} (hs : ∀ x ∈ s, bq K x.c) (ht : ∀ x ∈ t, bq K x.c) : ∀ x ∈ s ++ t, bq K x.c := fun x hx => (List.mem_append.1 hx).elim (hs x) (ht x)
theorem N7 {K : Nat} {s : List Tm} (hs : ∀ x ∈ s, bq K x.c) : ∀ x ∈ ZK (-1) s, bq K x.c := fun x hx => by
 unfold ZK at hx
 obtain ⟨u, hu, rfl⟩ := List.mem_map.1 hx
 have h := jM (hs u hu)
 show bq K (u.c * -1)
 rwa [show u.c * -1 = -u.c by grind]
theorem Tj (k : Rat) (s : List Tm) : (ZK k s).length = s.length := by unfold ZK; rw [List.length_map]
theorem Ir {A B C : Nat} (h : (A + B) * C < 10 ^ 60) : A * C < 10 ^ 60 ∧ B * C < 10 ^ 60 := by
 rw [Nat.add_mul] at h
 exact ⟨by omega, by omega⟩
theorem uz {R n m A B : Nat} {s t : List Tm} (hs : fS R n A s) (ht : fS R m B t) (hR : R ≤ RM) (hl : n + m ≤ 16) (hB : (A + B) * RM < 10 ^ 60) :
  wv (s ++ t) ∧ fS R (n + m) (A + B) (ZD (s ++ t)) ∧ ∀ f, RV f → ev f (ZD (s ++ t)) = ev f s + ev f t := by
 obtain ⟨hA, hB'⟩ := Ir hB
 have hi : inT R (s ++ t) := Wb hs.g.inT ht.g.inT
 obtain ⟨h1, h2, h3⟩ := XX (Nat.lt_of_le_of_lt hR (by decide)) hi
 have hp := vK hs.pg ht.pg
 have l1 := hs.len
 have l2 := ht.len
 rw [List.length_append] at h2
 refine ⟨qR (by rw [List.length_append]; omega) (by omega) (fun x hx => WU (uC hs.g.nat ht.g.nat x hx) hR) (qW (uj hs hR hA) (uj ht hR hB')) hp hB, ⟨h1, by omega, sO h1.nat h1.unr h3 hp⟩, fun f hf => ?_⟩
 rw [h3 f hf, xE]
theorem jp {R n m A B : Nat} {s t : List Tm} (hs : fS R n A s) (ht : fS R m B t) (hR : R ≤ RM) (hl : n + m ≤ 16) (hB : (A + B) * RM < 10 ^ 60) :
  wv (s ++ ZK (-1) t) ∧ fS R (n + m) (A + B) (ZD (s ++ ZK (-1) t)) ∧ ∀ f, RV f → ev f (ZD (s ++ ZK (-1) t)) = ev f s - ev f t := by
 obtain ⟨hA, hB'⟩ := Ir hB
 have hi : inT R (s ++ ZK (-1) t) := Wb hs.g.inT (pO ht.g.inT)
 obtain ⟨h1, h2, h3⟩ := XX (Nat.lt_of_le_of_lt hR (by decide)) hi
 have hp := vK hs.pg (OS ht.pg)
 have l1 := hs.len
 have l2 := ht.len
 rw [List.length_append, Tj] at h2
 refine ⟨qR (by rw [List.length_append, Tj]; omega) (by omega) (fun x hx => WU (uC hs.g.nat (SJ ht.g.nat) x hx) hR) (qW (uj hs hR hA) (N7 (uj ht hR hB'))) hp hB, ⟨h1, by omega, sO h1.nat h1.unr h3 hp⟩, fun f hf => ?_⟩
 rw [h3 f hf, xE, s9]
 grind
theorem QR {R n m A B : Nat} {s t : List Tm} (hs : fS R n A s) (ht : fS R m B t) (hR : R ≤ RM) (hn : n ≤ 16) (hm : m ≤ 16) (hB : (A + B) * RM < 10 ^ 60) (he : ∀ f, RV f → ev f s = ev f t) : mI s t ∧ wv (s ++ ZK (-1) t) ∧ ZD (s ++ ZK (-1) t) = [] := by
 obtain ⟨hA, hB'⟩ := Ir hB
 have h0 := sub_zero (Nat.lt_of_le_of_lt hR (by decide)) hs.g.inT ht.g.inT he
 have hp := vK hs.pg (OS ht.pg)
 have l1 := hs.len
 have l2 := ht.len
 have hm : wv (s ++ ZK (-1) t) := qR (by rw [List.length_append, Tj]; omega) (by rw [h0]; decide) (fun x hx => WU (uC hs.g.nat (SJ ht.g.nat) x hx) hR) (qW (uj hs hR hA) (N7 (uj ht hR hB'))) hp hB
 exact ⟨⟨uZ hs hR (by omega) hA, uZ ht hR (by omega) hB', hm, h0⟩, hm, h0⟩
noncomputable def il (G : List (Nat × Obj)) : Tb := ((((((Wm G).plus 11 N3).plus 12 RJ).plus 13 SV).plus 23 Rh).plus 15 NT).body Tryz.prog [(14, .auto)]
theorem QY {G : List (Nat × Obj)} (hG : Vh G) : zz Tryz.prog (il G) := zz.body mixed (zz.plus (zz.plus (zz.plus (zz.plus (zz.plus zQ (Jf hG.tab)) (KY hG.tab)) (mT hG.tab)) (jk hG.tab)) (iQ hG)) _
theorem Rx (G : List (Nat × Obj)) (x y z : Sm) (hx : tK x) (hy : tK y) (hz : tK z) :
 let q1 := (Zn (AV.agg 8 fun (i : Nat) => zU.enc x (0 + i))); let q2 := (Zn (AV.agg 8 fun (i : Nat) => zU.enc y (0 + i))); let q3 := (Zn (AV.agg 8 fun (i : Nat) => zU.enc z (0 + i))); let q5 := (AV.xl false 2 (lN (ZD (Yb q1))) fun i j => zU.enc (gD (ZD (Yb (Zn (AV.agg 8 fun (i : Nat) => zU.enc x (0 + i))))) i zU.dflt) j); let q4 := (zD Tm q5); let q7 := (AV.xl false 2 (lN (ZD (Yb q2))) fun i j => zU.enc (gD (ZD (Yb (Zn (AV.agg 8 fun (i : Nat) => zU.enc y (0 + i))))) i zU.dflt) j); let q6 := (zD Tm q7); let q8 := (ZO q5); let q9 := (ZO
 q7); let q10 := (ZO q5 ++ ZO q7); let q11 := (ZO q7 ++ ZO q5); let q13 := (AV.xl false 2 (lN (ZD (Yb q3))) fun i j => zU.enc (gD (ZD (Yb (Zn (AV.agg 8 fun (i : Nat) => zU.enc z (0 + i))))) i zU.dflt) j); let q12 := (zD Tm q13); let q14 := (ZO q13); let q15 := (ZO q7 ++ ZO q13); let q17 := (AV.xl false 2 (lN (ZD q10)) fun i j => zU.enc (gD (ZD (ZO (AV.xl false 2 (lN (ZD (Yb (Zn (AV.agg 8 fun (i : Nat) => zU.enc x (0 + i)))))) fun i j => zU.enc (gD (ZD (Yb (Zn (AV.agg 8 fun (i : Nat) => zU.enc x (0 + i))))) i zU.dflt)
 j) ++ ZO (AV.xl false 2 (lN (ZD (Yb (Zn (AV.agg 8 fun (i : Nat) => zU.enc y (0 + i)))))) fun i j => zU.enc (gD (ZD (Yb (Zn (AV.agg 8 fun (i : Nat) => zU.enc y (0 + i))))) i zU.dflt) j))) i zU.dflt) j); let q16 := (zD Tm q17); let q18 := (ZO q17); let q19 := (ZO q17 ++ ZO q13); let q20 := (AV.xl false 2 (lN (ZD q15)) fun i j => zU.enc (gD (ZD (ZO (AV.xl false 2 (lN (ZD (Yb (Zn (AV.agg 8 fun (i : Nat) => zU.enc y (0 + i)))))) fun i j => zU.enc (gD (ZD (Yb (Zn (AV.agg 8 fun (i : Nat) => zU.enc y (0 + i))))) i zU.dflt)
 j) ++ ZO (AV.xl false 2 (lN (ZD (Yb (Zn (AV.agg 8 fun (i : Nat) => zU.enc z (0 + i)))))) fun i j => zU.enc (gD (ZD (Yb (Zn (AV.agg 8 fun (i : Nat) => zU.enc z (0 + i))))) i zU.dflt) j))) i zU.dflt) j); let q21 := (ZO q5 ++ ZO q20); let q22 := (ZO q17 ++ ZK (-1 : Rat) q9); let q23 := (ZO q5 ++ ZK (-1 : Rat) q8); let q24 := (AV.xl false 2 (lN (ZD q11)) fun i j => zU.enc (gD (ZD (ZO (AV.xl false 2 (lN (ZD (Yb (Zn (AV.agg 8 fun (i : Nat) => zU.enc y (0 + i)))))) fun i j => zU.enc (gD (ZD (Yb (Zn (AV.agg 8 fun (i : Nat)
 => zU.enc y (0 + i))))) i zU.dflt) j) ++ ZO (AV.xl false 2 (lN (ZD (Yb (Zn (AV.agg 8 fun (i : Nat) => zU.enc x (0 + i)))))) fun i j => zU.enc (gD (ZD (Yb (Zn (AV.agg 8 fun (i : Nat) => zU.enc x (0 + i))))) i zU.dflt) j))) i zU.dflt) j); let q25 := (AV.xl false 2 (lN (ZD q19)) fun i j => zU.enc (gD (ZD (ZO (AV.xl false 2 (lN (ZD (ZO (AV.xl false 2 (lN (ZD (Yb (Zn (AV.agg 8 fun (i : Nat) => zU.enc x (0 + i)))))) fun i j => zU.enc (gD (ZD (Yb (Zn (AV.agg 8 fun (i : Nat) => zU.enc x (0 + i))))) i zU.dflt) j) ++
 ZO (AV.xl false 2 (lN (ZD (Yb (Zn (AV.agg 8 fun (i : Nat) => zU.enc y (0 + i)))))) fun i j => zU.enc (gD (ZD (Yb (Zn (AV.agg 8 fun (i : Nat) => zU.enc y (0 + i))))) i zU.dflt) j)))) fun i j => zU.enc (gD (ZD (ZO (AV.xl false 2 (lN (ZD (Yb (Zn (AV.agg 8 fun (i : Nat) => zU.enc x (0 + i)))))) fun i j => zU.enc (gD (ZD (Yb (Zn (AV.agg 8 fun (i : Nat) => zU.enc x (0 + i))))) i zU.dflt) j) ++ ZO (AV.xl false 2 (lN (ZD (Yb (Zn (AV.agg 8 fun (i : Nat) => zU.enc y (0 + i)))))) fun i j => zU.enc (gD (ZD (Yb (Zn
 (AV.agg 8 fun (i : Nat) => zU.enc y (0 + i))))) i zU.dflt) j))) i zU.dflt) j) ++ ZO (AV.xl false 2 (lN (ZD (Yb (Zn (AV.agg 8 fun (i : Nat) => zU.enc z (0 + i)))))) fun i j => zU.enc (gD (ZD (Yb (Zn (AV.agg 8 fun (i : Nat) => zU.enc z (0 + i))))) i zU.dflt) j))) i zU.dflt) j); let q26 := (AV.xl false 2 (lN (ZD q21)) fun i j => zU.enc (gD (ZD (ZO (AV.xl false 2 (lN (ZD (Yb (Zn (AV.agg 8 fun (i : Nat) => zU.enc x (0 + i)))))) fun i j => zU.enc (gD (ZD (Yb (Zn (AV.agg 8 fun (i : Nat) => zU.enc x (0 + i))))) i zU.dflt) j)
 ++ ZO (AV.xl false 2 (lN (ZD (ZO (AV.xl false 2 (lN (ZD (Yb (Zn (AV.agg 8 fun (i : Nat) => zU.enc y (0 + i)))))) fun i j => zU.enc (gD (ZD (Yb (Zn (AV.agg 8 fun (i : Nat) => zU.enc y (0 + i))))) i zU.dflt) j) ++ ZO (AV.xl false 2 (lN (ZD (Yb (Zn (AV.agg 8 fun (i : Nat) => zU.enc z (0 + i)))))) fun i j => zU.enc (gD (ZD (Yb (Zn (AV.agg 8 fun (i : Nat) => zU.enc z (0 + i))))) i zU.dflt) j)))) fun i j => zU.enc (gD (ZD (ZO (AV.xl false 2 (lN (ZD (Yb (Zn (AV.agg 8 fun (i : Nat) => zU.enc y (0 + i)))))) fun i j
 => zU.enc (gD (ZD (Yb (Zn (AV.agg 8 fun (i : Nat) => zU.enc y (0 + i))))) i zU.dflt) j) ++ ZO (AV.xl false 2 (lN (ZD (Yb (Zn (AV.agg 8 fun (i : Nat) => zU.enc z (0 + i)))))) fun i j => zU.enc (gD (ZD (Yb (Zn (AV.agg 8 fun (i : Nat) => zU.enc z (0 + i))))) i zU.dflt) j))) i zU.dflt) j))) i zU.dflt) j); let q27 := (AV.xl false 2 (lN (ZD q22)) fun i j => let q28 := (AV.xl false 2 (lN (ZD (Yb (Zn (AV.agg 8 fun (i : Nat) => zU.enc y (0 + i)))))) fun i j => zU.enc (gD (ZD (Yb (Zn (AV.agg 8 fun (i : Nat) => zU.enc y (0 +
 i))))) i zU.dflt) j); zU.enc (gD (ZD (ZO (AV.xl false 2 (lN (ZD (ZO (AV.xl false 2 (lN (ZD (Yb (Zn (AV.agg 8 fun (i : Nat) => zU.enc x (0 + i)))))) fun i j => zU.enc (gD (ZD (Yb (Zn (AV.agg 8 fun (i : Nat) => zU.enc x (0 + i))))) i zU.dflt) j) ++ ZO q28))) fun i j => zU.enc (gD (ZD (ZO (AV.xl false 2 (lN (ZD (Yb (Zn (AV.agg 8 fun (i : Nat) => zU.enc x (0 + i)))))) fun i j => zU.enc (gD (ZD (Yb (Zn (AV.agg 8 fun (i : Nat) => zU.enc x (0 + i))))) i zU.dflt) j) ++ ZO (AV.xl false 2 (lN (ZD (Yb (Zn
 (AV.agg 8 fun (i : Nat) => zU.enc y (0 + i)))))) fun i j => zU.enc (gD (ZD (Yb (Zn (AV.agg 8 fun (i : Nat) => zU.enc y (0 + i))))) i zU.dflt) j))) i zU.dflt) j) ++ ZK (-1 : Rat) (ZO q28))) i zU.dflt) j); let q29 := (if iZ > if iZ > if iZ > iZ then iZ else iZ then iZ else if iZ > iZ then iZ else iZ then iZ else if iZ > if iZ > iZ then iZ else iZ then iZ else if iZ > iZ then iZ else iZ); let q30 := (↑(lN (ZD q23)) :
 Int); ZV [AV.agg 8 (zU.enc x), AV.agg 8 (zU.enc y), AV.agg 8 (zU.enc z)] → tK q1 ∧ tK q2 ∧ tK q3 ∧ bF q4 (bF q6 (xh q8 ∧ xh q9 ∧ wv q10 ∧ bF q6 (bF q4 (xh q9 ∧ xh q8 ∧ wv q11 ∧ bF q6 (bF q12 (xh q9 ∧ xh q14 ∧ wv q15 ∧ bF q16 (bF q12 (xh q18 ∧ xh q14 ∧ wv q19 ∧ bF q4 (bF (zD Tm q20) (xh q8 ∧ xh (ZO q20) ∧ wv q21 ∧ bF q16 (bF q6 (xh q18 ∧ xh q9 ∧ wv q22 ∧ bF q4 (bF q4 (xh q8 ∧ xh q8 ∧ wv q23 ∧ bF q16 (bF (zD Tm q24) (mI q18 (ZO q24) ∧ bF (zD Tm q25) (bF (zD Tm q26) (mI (ZO q25) (ZO
 q26) ∧ bF (zD Tm q27) (bF q4 (mI (ZO q27) q8 ∧ bF ((!bif bif bif bif q29 == iZ then bif iZ == iZ then iZ == iZ else false else false then bif iZ == iZ then iZ == iZ else false else false then bif iZ == iZ then iZ == iZ else false else false then q30 == iZ else false) || zr true (bif bif bif bif q29 == iZ then bif iZ == iZ then iZ == iZ else false else false then bif iZ == iZ then iZ == iZ else false else false then bif
 iZ == iZ then iZ == iZ else false else false then q30 == iZ else false)) ((bif bif bif bif bif q29 == iZ then bif iZ == iZ then iZ == iZ else false else false then bif iZ == iZ then iZ == iZ else false else false then bif iZ == iZ then iZ == iZ else false else false then q30 == iZ else false then true else false) = true))))))))))))))))))))) := by
 delta bF lN gD iZ
 dsimp only
 intro hb
 simp only [Nat.zero_add]
 simp only [sS, YN, yK, zk, yp, YZ, Xr, YD, wu, xO, wH, XW, jm, lC, MS, Na, dS]
 have fx := mz hx
 have fy := mz hy
 have fz := mz hz
 have oR : 255 ≤ RM := by decide
 obtain ⟨m1, f1, v1⟩ := uz fx fy oR (by decide) (by decide)
 obtain ⟨m2, f2, v2⟩ := uz fy fx oR (by decide) (by decide)
 obtain ⟨m3, f3, v3⟩ := uz fy fz oR (by decide) (by decide)
 obtain ⟨m4, f4, v4⟩ := uz f1 fz oR (by decide) (by decide)
 obtain ⟨m5, f5, v5⟩ := uz fx f3 oR (by decide) (by decide)
 obtain ⟨m6, f6, v6⟩ := jp f1 fy oR (by decide) (by decide)
 obtain ⟨_, m7, e7⟩ := QR fx fx oR (by decide) (by decide) (by decide) (fun _ _ => rfl)
 obtain ⟨q1, _, _⟩ := QR f1 f2 oR (by decide) (by decide) (by decide) (fun f hf => by rw [v1 f hf, v2 f hf]; grind)
 obtain ⟨q2, _, _⟩ := QR f4 f5 oR (by decide) (by decide) (by decide) (fun f hf => by rw [v4 f hf, v1 f hf, v5 f hf, v3 f hf]; grind)
 obtain ⟨q3, _, _⟩ := QR f6 fx oR (by decide) (by decide) (by decide) (fun f hf => by rw [v6 f hf, v1 f hf]; grind)
 have o1 := uZ fx oR (by decide) (by decide)
 have o2 := uZ fy oR (by decide) (by decide)
 have o3 := uZ fz oR (by decide) (by decide)
 have o4 := uZ f1 oR (by decide) (by decide)
 have o5 := uZ f3 oR (by decide) (by decide)
 refine ⟨hx, hy, hz, o1, o2, m1, o2, o1, m2, o2, o3, m3, o4, o3, m4, o1, o5, m5, o4, o2, m6, o1, o1, m7, q1, q2, q3, ?_⟩
 rw [e7]
 rfl
theorem Rf {G : List (Nat × Obj)} (hG : Vh G) (x y z : Sm) (hx : tK x) (hy : tK y) (hz : tK z) : zt Tryz.prog G 3 [Yh x, Yh y, Yh z] (.b true) :=
 zW (T := il G) (an := .auto) mixed (QY hG) (Eq.mp (by kernel_rfl) (Rx G x y z hx hy hz))
end Go.Te

namespace Go.Te
open Go Go.Sx Go.Proofs Go.Ar Go.RowKit
set_option maxRecDepth 100000
def pN : List (List UInt8) := [[50], [51], [53], [55], [49, 49], [49, 51], [49, 55], [49, 57], [50, 51], [50, 57], [51, 49], [51, 55], [52, 49], [52, 51], [52, 55], [53, 51], [53, 57], [54, 49], [54, 55], [55, 49], [55, 51], [55, 57], [56, 51], [56, 57], [57, 55]]
theorem qz : (pN.map fun z => Value.string ⟨z.toArray⟩) = zm.toList := by kernel_rfl
theorem tz {H : Type} {enc : TypeId × Value → H} {P : Program} {w : World} {base : Nat} {sp : Nat → Bool} {held : Bool} {fuel : Nat} {t e : TypeId} {n : Nat} {cs : List Value} {zs : List (List UInt8)} {p : List MemPlace}
  (ht : P.underlying t = some (.array n e)) (he : P.underlying e = some .string) (hce : P.cellsOf e = 1) (hct : P.cellsOf t = n)
  (h : DataW.trod enc P w base sp held fuel t cs = some (.agg (zs.map fun z => .lit (.string z)), p)) : cs = zs.map fun z => Value.string ⟨z.toArray⟩ := by
 cases fuel with
 | zero => simp [DataW.trod] at h
 | succ fuel =>
  simp only [DataW.trod, ht, hce, hct, Nat.mul_one] at h
  split at h
  ·rename_i hl
   obtain ⟨xs, hm, hx⟩ := Option.map_eq_some_iff.1 h
   have hxs : xs.map (·.1) = zs.map fun z => (DataW.lit (.string z) : DataW H) := by
    have := congrArg Prod.fst hx
    simpa using this
   have hxl : xs.length = n := by simpa using Lib.mapM_length hm
   have hzl : zs.length = n := by
    have := congrArg List.length hxs
    simp at this
    omega
   apply List.ext_getElem?
   intro i
   by_cases hi : i < n
   ·obtain ⟨b, hb, hf⟩ := Lib.mapM_at hm i i (by simp [hi])
    obtain ⟨z, hc, rfl, _⟩ := DataW.trod_string he hf
    have h1 : cs[i]? = some (.string z) := by
     have := congrArg (·[0]?) hc
     simpa [List.getElem?_take, List.getElem?_drop] using this
    have h2 : (xs.map (·.1))[i]? = some (DataW.lit (.string z.data.toList) : DataW H) := by simp [hb]
    rw [hxs] at h2
    simp only [List.getElem?_map, Option.map_eq_some_iff, DataW.lit.injEq, Lit.string.injEq] at h2
    obtain ⟨z', hz', rfl⟩ := h2
    simp [h1, hz']
   ·rw [List.getElem?_eq_none (by omega), List.getElem?_eq_none (by simp; omega)]
  ·cases h
section
variable {H : Type} {enc : TypeId × Value → H} {W : World} {spare : Nat → Bool} {held : Bool}
abbrev Ic (W : World) : Nat → Prop := fun b => b < W.heap.size
theorem rZ {m : Nat} {cs : List Value} {x : DataW H × List MemPlace} (h : DataW.trod enc Tryz.prog W 0 spare held m 5 cs = some x) : ∃ n, cs = [.int .u8 n] ∧ (0 ≤ n ∧ n ≤ 255) := by
 obtain ⟨k, h1, _, h3⟩ := DataW.trod_int Tryz.underlying5 h
 simp only [Lit.wf, Bool.and_eq_true, decide_eq_true_eq] at h3
 have h4 : (0 : Int) ≤ k ∧ k ≤ 255 := h3
 exact ⟨k, h1, h4⟩
theorem od {m : Nat} {cs : List Value} {x : DataW H × List MemPlace} (h : DataW.trod enc Tryz.prog W 0 spare held m 22 cs = some x) : ∃ n, cs = [.int .i8 n] ∧ (-128 ≤ n ∧ n ≤ 127) := by
 obtain ⟨k, h1, _, h3⟩ := DataW.trod_int Tryz.underlying22 h
 simp only [Lit.wf, Bool.and_eq_true, decide_eq_true_eq] at h3
 have h4 : (-128 : Int) ≤ k ∧ k ≤ 127 := h3
 exact ⟨k, h1, h4⟩
theorem VB : Tryz.prog.cellsOf 24 = 8 := by kernel_rfl
theorem cells5 : Tryz.prog.cellsOf 5 = 1 := by kernel_rfl
theorem Lw : Tryz.prog.cellsOf 22 = 1 := by kernel_rfl
theorem Nw {n : Nat} {cs : List Value} {x : DataW H × List MemPlace} (h : DataW.trod enc Tryz.prog W 0 spare held n 24 cs = some x) : ∃ g : Sm, (∀ j, j < 8 → zf W (Ic W) yC (zU.enc g j) (cs.getD j undef)) ∧ tK g := by
 obtain ⟨xs, m, _, _, hl, hx, hf⟩ := DataW.trod_struct Tryz.underlying24 h
 rw [VB] at hl
 match cs, hl with
 | [c0, c1, c2, c3, c4, c5, c6, c7], _ =>
 have hx3 : xs.length = 8 := hx
 have g0 : DataW.trod enc Tryz.prog W 0 spare held m 22 (([c0, c1, c2, c3, c4, c5, c6, c7].drop 0).take (Tryz.prog.cellsOf 22)) = xs[0]? := hf 0 _ rfl
 have g1 : DataW.trod enc Tryz.prog W 0 spare held m 22 (([c0, c1, c2, c3, c4, c5, c6, c7].drop 1).take (Tryz.prog.cellsOf 22)) = xs[1]? := hf 1 _ rfl
 have g2 : DataW.trod enc Tryz.prog W 0 spare held m 22 (([c0, c1, c2, c3, c4, c5, c6, c7].drop 2).take (Tryz.prog.cellsOf 22)) = xs[2]? := hf 2 _ rfl
 have g3 : DataW.trod enc Tryz.prog W 0 spare held m 5 (([c0, c1, c2, c3, c4, c5, c6, c7].drop 3).take (Tryz.prog.cellsOf 5)) = xs[3]? := hf 3 _ rfl
 have g4 : DataW.trod enc Tryz.prog W 0 spare held m 5 (([c0, c1, c2, c3, c4, c5, c6, c7].drop 4).take (Tryz.prog.cellsOf 5)) = xs[4]? := hf 4 _ rfl
 have g5 : DataW.trod enc Tryz.prog W 0 spare held m 5 (([c0, c1, c2, c3, c4, c5, c6, c7].drop 5).take (Tryz.prog.cellsOf 5)) = xs[5]? := hf 5 _ rfl
 have g6 : DataW.trod enc Tryz.prog W 0 spare held m 5 (([c0, c1, c2, c3, c4, c5, c6, c7].drop 6).take (Tryz.prog.cellsOf 5)) = xs[6]? := hf 6 _ rfl
 have g7 : DataW.trod enc Tryz.prog W 0 spare held m 5 (([c0, c1, c2, c3, c4, c5, c6, c7].drop 7).take (Tryz.prog.cellsOf 5)) = xs[7]? := hf 7 _ rfl
 rw [Lw] at g0 g1 g2
 rw [cells5] at g3 g4 g5 g6 g7
 rw [List.getElem?_eq_getElem (by omega)] at g0 g1 g2 g3 g4 g5 g6 g7
 obtain ⟨z0, e0, b0⟩ := od g0
 obtain ⟨z1, e1, b1⟩ := od g1
 obtain ⟨z2, e2, b2⟩ := od g2
 obtain ⟨z3, e3, b3⟩ := rZ g3
 obtain ⟨z4, e4, b4⟩ := rZ g4
 obtain ⟨z5, e5, b5⟩ := rZ g5
 obtain ⟨z6, e6, b6⟩ := rZ g6
 obtain ⟨z7, e7, b7⟩ := rZ g7
 simp only [List.drop_zero, List.drop_succ_cons, List.take_succ_cons, List.take_zero, List.cons.injEq, and_true] at e0 e1 e2 e3 e4 e5 e6 e7
 subst e0 e1 e2 e3 e4 e5 e6 e7
 refine ⟨⟨z0, z1, z2, z3, z4, z5, z6, z7⟩, fun j hj => ?_, ⟨b0, b1, b2, b3, b4, b5, b6, b7⟩⟩
 match j, hj with
 | 0, _ => exact .v _
 | 1, _ => exact .v _
 | 2, _ => exact .v _
 | 3, _ => exact .v _
 | 4, _ => exact .v _
 | 5, _ => exact .v _
 | 6, _ => exact .v _
 | 7, _ => exact .v _
theorem sF {cs : Array Value} {d : DataW H} {ps : List MemPlace} (h : DataW.Trod enc Tryz.prog W 0 spare held 24 (.agg cs) d ps) (hs : cs.size = 8) : ∃ b : Sm, zf W (Ic W) yC (Yh b) (.agg cs) ∧ tK b := by
 obtain ⟨m, h⟩ := h
 have hcs : (Value.agg cs).cells.toList = cs.toList := rfl
 rw [hcs] at h
 obtain ⟨b, hb, hi⟩ := Nw h
 refine ⟨b, .agg cs hs fun i hi => ?_, hi⟩
 have e : cs.getD i undef = cs.toList.getD i undef := by
  rw [Array.getD_eq_getD_getElem?, List.getD_eq_getElem?_getD, Array.getElem?_toList]
 rw [e]
 exact hb i hi
end
end Go.Te

namespace Go.Proofs.YthbpnknhfokadaaGreatDoor.surdAdds
open Go Go.ChangeShapes Go.WideShapes Go.ChangeAt Go.RowKit
theorem own : ownKnob Tryz.prog.godebug = none := by kernel_rfl
theorem jW : Tryz.prog.globalNamed "internal/strconv.uint64pow10" = some 1 := by kernel_rfl
theorem laidOut : laidOutB Tryz.prog = true := by kernel_rfl
theorem Ki : Tryz.prog.readableRec 24 = true := by kernel_rfl
theorem jF : (24 : TypeId) < Tryz.prog.types.size := of_decide_eq_true (by kernel_rfl)
theorem U9 {W W' : World} (h : Below W.heap.size W W') (may : MemPlace → Prop) : W.keptBut W' may := by
 refine ⟨h.os, h.output, fun i hi => ?_⟩
 rw [h.block i hi]
 cases hh : W.heap[i]? with
 | none => rfl
 | some o => cases o <;> simp
theorem Ua {W W' : World} (h : Below W.heap.size W W') {p : MemPlace} (hp : p.block < W.heap.size) : W.sameAt W' p := by
 cases p with
 | cell b off =>
  show W'.cell? _ = W.cell? _
  exact World.cell?_of_block (h.block b hp)
 | map b => exact h.block b hp
theorem Pi {H : Type} {enc : TypeId × Value → H} {P : Program} {f : Func} {s : ChangeSpec} {apart fresh handsOn again : Bool} {W W' : World} {args : Array Value} {v : Value} {ds gs : List (DataW H)} {before pa pv : List MemPlace}
  (hW : DataW.Whole enc P f.params.toList s.vars apart W args.toList ds gs before)
  (hres : ∀ (b : Nat) (sp : Nat → Bool) (hd : Bool), DataW.TrodAll enc P W' b sp hd f.resultTypes.toList (v.resultList f.resultTypes.size) (s.fn H (ds ++ gs)).results [])
  (hargs : ∀ sp : Nat → Bool, (∀ p ∈ before, sp p.block = true) → DataW.TrodAll enc P W' 0 sp true f.params.toList args.toList (s.fn H (ds ++ gs)).args pa)
  (hvars : ∀ sp : Nat → Bool, (∀ p ∈ before, sp p.block = true) → DataW.TrodVars enc P W' sp s.vars (s.fn H (ds ++ gs)).vars pv)
  (hps : before = pa ++ pv) (hb : Below W.heap.size W W')
  (hok : ∀ (j : Nat) (t : TypeId) (r : Value), f.resultTypes[j]? = some t → (v.resultList f.resultTypes.size)[j]? = some r → Value.okWide P W' .any 0 t r) :
  s.post enc P f apart fresh handsOn again W args v W' := by
 have hlt : ∀ p ∈ before, p.block < W.heap.size := fun p hp => hW.lt p hp
 have hold : ∀ p ∈ before, (fun b => decide (b < W.heap.size)) p.block = true := fun p hp => by simpa using hlt p hp
 refine ⟨ds, gs, before, [], pa, pv, hW, hres _ _ _, hargs _ hold, hvars _ hold, U9 hb _, fun _ => ?_⟩
 obtain ⟨_, _, _, _, _, hz, hn⟩ := hW
 refine ⟨hok, _, _, ([] ++ pa) ++ pv, ⟨[] ++ pa, pv, trodAll_append (hargs _ (fun _ _ => rfl)) (hres _ _ _), hvars _ (fun _ _ => rfl), rfl, ?_, ?_⟩, ?_⟩
 ·intro b off hp
  have hp' : MemPlace.cell b off ∈ before := by rw [hps]; simpa using hp
  have e : W'.frozen? ⟨b, off, none⟩ = W.frozen? ⟨b, off, none⟩ := by
   unfold World.frozen?
   rw [hb.block b (hlt _ hp')]
  rw [e]
  exact hz b off hp'
 ·intro ha
  have := hn ha
  rw [hps] at this
  simpa using this
 ·intro p hp _
  rw [hps]
  simpa using hp
theorem table {W : World} (h : laidMetH Tryz.prog Rows.surdAddsRow.laid W) : ∃ cs t fr, W.heap[1]? = some (.cells cs t fr) ∧ cs = (Lib.pow10Tab.map fun z => Value.int .u64 z).toArray := by
 have h' : laidMet Tryz.prog (("math/bits.deBruijn32tab", Rows.laid_math_bits_deBruijn32tab) :: ("math/bits.deBruijn64tab", Rows.laid_math_bits_deBruijn64tab) :: ("internal/strconv.uint64pow10", Rows.laid_internal_strconv_uint64pow10) :: [("unicode/utf8.acceptRanges", Rows.laid_unicode_utf8_acceptRanges), ("strconv.ErrRange", Rows.laid_strconv_ErrRange), ("strconv.ErrSyntax", Rows.laid_strconv_ErrSyntax), ("kingpost/root.primes", Rows.laid_kingpost_root_primes), ("kingpost/surd.signPlaces", Rows.laid_kingpost_surd_signPlaces), ("unicode/utf8.first", Rows.laid_unicode_utf8_first)]) W := h
 obtain ⟨ps, ⟨_, _, _, _, _, _, _, _, _, _, ⟨_, _, _, _, _, _, _, _, _, _, ⟨g, t, cs, fuel, p, q, hg, hty, hvar, hd, _⟩, _⟩, _⟩, _⟩ := h'
 obtain rfl := Option.some.inj (jW.symm.trans hg)
 have hcs : cs.toList = Lib.pow10Tab.map fun z => Value.int .u64 z := by
  obtain rfl : t = 216 := Option.some.inj ((show (Tryz.prog.globals[1]?).map (·.type) = some 216 by kernel_rfl).symm.trans hty) |>.symm
  exact Lib.cells_of_tab (n := 20) (e := 160) (zs := Lib.pow10Tab) (by kernel_rfl) (by kernel_rfl) (by kernel_rfl) (by kernel_rfl) hd
 unfold World.var? at hvar
 rw [jW] at hvar
 simp only [Option.bind_some] at hvar
 split at hvar
 ·rename_i cs' t' fr hh
  cases hvar
  exact ⟨_, _, _, hh, by rw [← hcs]⟩
 ·cases hvar
theorem kh : Tryz.prog.globalNamed "kingpost/root.primes" = some 2 := by kernel_rfl
theorem ja {W : World} (h : laidMetH Tryz.prog Rows.surdAddsRow.laid W) : ∃ t fr, W.heap[2]? = some (.cells Te.zm t fr) := by
 have h' : laidMet Tryz.prog (("math/bits.deBruijn32tab", Rows.laid_math_bits_deBruijn32tab) :: ("math/bits.deBruijn64tab", Rows.laid_math_bits_deBruijn64tab) :: ("internal/strconv.uint64pow10", Rows.laid_internal_strconv_uint64pow10) :: [("unicode/utf8.acceptRanges", Rows.laid_unicode_utf8_acceptRanges), ("strconv.ErrRange", Rows.laid_strconv_ErrRange), ("strconv.ErrSyntax", Rows.laid_strconv_ErrSyntax), ("kingpost/root.primes", Rows.laid_kingpost_root_primes), ("kingpost/surd.signPlaces", Rows.laid_kingpost_surd_signPlaces), ("unicode/utf8.first", Rows.laid_unicode_utf8_first)]) W := h
 obtain ⟨ps, ⟨_, _, _, _, _, _, _, _, _, _, ⟨_, _, _, _, _, _, _, _, _, _, ⟨_, _, _, _, _, _, _, _, _, _, ⟨_, _, _, _, _, _, _, _, _, _, ⟨_, _, _, _, _, _, _, _, _, _, ⟨_, _, _, _, _, _, _, _, _, _, ⟨g, t, cs, fuel, p, q, hg, hty, hvar, hd, _⟩, _⟩, _⟩, _⟩, _⟩, _⟩, _⟩, _⟩ := h'
 obtain rfl := Option.some.inj (kh.symm.trans hg)
 have hcs : cs.toList = Te.zm.toList := by
  obtain rfl : t = 218 := Option.some.inj ((show (Tryz.prog.globals[2]?).map (·.type) = some 218 by kernel_rfl).symm.trans hty) |>.symm
  exact (Te.tz (n := 25) (e := 9) (zs := Te.pN) Tryz.underlying218 Tryz.underlying9 (by kernel_rfl) (by kernel_rfl) hd).trans Te.qz
 unfold World.var? at hvar
 rw [kh] at hvar
 simp only [Option.bind_some] at hvar
 split at hvar
 ·rename_i cs' t' fr hh
  cases hvar
  exact ⟨_, _, by rw [← Array.toList_inj.1 hcs]; exact hh⟩
 ·cases hvar
theorem kV : Tryz.prog.globalNamed "kingpost/surd.signPlaces" = some 0 := by kernel_rfl
theorem iI {W : World} (h : laidMetH Tryz.prog Rows.surdAddsRow.laid W) : ∃ t fr, W.heap[0]? = some (.cells Te.ZL t fr) := by
 have h' : laidMet Tryz.prog (("math/bits.deBruijn32tab", Rows.laid_math_bits_deBruijn32tab) :: ("math/bits.deBruijn64tab", Rows.laid_math_bits_deBruijn64tab) :: ("internal/strconv.uint64pow10", Rows.laid_internal_strconv_uint64pow10) :: [("unicode/utf8.acceptRanges", Rows.laid_unicode_utf8_acceptRanges), ("strconv.ErrRange", Rows.laid_strconv_ErrRange), ("strconv.ErrSyntax", Rows.laid_strconv_ErrSyntax), ("kingpost/root.primes", Rows.laid_kingpost_root_primes), ("kingpost/surd.signPlaces", Rows.laid_kingpost_surd_signPlaces), ("unicode/utf8.first", Rows.laid_unicode_utf8_first)]) W := h
 obtain ⟨ps, ⟨_, _, _, _, _, _, _, _, _, _, ⟨_, _, _, _, _, _, _, _, _, _, ⟨_, _, _, _, _, _, _, _, _, _, ⟨_, _, _, _, _, _, _, _, _, _, ⟨_, _, _, _, _, _, _, _, _, _, ⟨_, _, _, _, _, _, _, _, _, _, ⟨_, _, _, _, _, _, _, _, _, _, ⟨g, t, cs, fuel, p, q, hg, hty, hvar, hd, _⟩, _⟩, _⟩, _⟩, _⟩, _⟩, _⟩, _⟩, _⟩ := h'
 obtain rfl := Option.some.inj (kV.symm.trans hg)
 have hcs : cs.toList = [4, 16, 64].map fun z => Value.int .i64 z := by
  obtain rfl : t = 115 := Option.some.inj ((show (Tryz.prog.globals[0]?).map (·.type) = some 115 by kernel_rfl).symm.trans hty) |>.symm
  exact Lib.cells_of_tab (n := 3) (e := 3) (zs := [4, 16, 64]) (by kernel_rfl) (by kernel_rfl) (by kernel_rfl) (by kernel_rfl) hd
 have hcs2 : cs = Te.ZL := Array.toList_inj.1 hcs
 unfold World.var? at hvar
 rw [kV] at hvar
 simp only [Option.bind_some] at hvar
 split at hvar
 ·rename_i cs' t' fr hh
  cases hvar
  exact ⟨_, _, by rw [← hcs2]; exact hh⟩
 ·cases hvar
set_option maxRecDepth 100000 in
set_option maxHeartbeats 1000000 in
theorem o8 (H : Type) (enc : TypeId × Value → H) (W : World) (base : Nat) (args : Array Value) (ds gs : List (DataW H)) (before : List MemPlace)
  (hval : ∀ (j : Nat) t v, Tryz.f3.params[j]? = some t → args[j]? = some v → Value.okWide Tryz.prog W .any base t v)
  (hW : DataW.Whole enc Tryz.prog Tryz.f3.params.toList Rows.surdAddsSpec.vars false W args.toList ds gs before) (hL : laidMetH Tryz.prog Rows.surdAddsRow.laid W) :
  Calls Tryz.prog 3 args W fun e W' => ∃ v, e = .returned v ∧ Rows.surdAddsSpec.post enc Tryz.prog Tryz.f3 false true false false W args v W' := by
 have hW' := hW
 have hlt := hW.lt
 obtain ⟨p, q, hA0, hV, rfl, hfz, hnd⟩ := hW
 have hA : DataW.TrodAll enc Tryz.prog W 0 (fun _ => true) true Tryz.f3.params.toList args.toList ds p := hA0
 rw [Tryz.params3] at hA hval
 obtain ⟨v0, vs0, d0, ds0, p0, q0, hargs, rfl, rfl, h0, r0⟩ := trodAll_cons hA
 obtain ⟨v1, vs1, d1, ds1, p1, q1, rfl, rfl, rfl, h1, r1⟩ := trodAll_cons r0
 obtain ⟨v2, vs2, d2, ds2, p2, q2, rfl, rfl, rfl, h2, r2⟩ := trodAll_cons r1
 obtain ⟨rfl, rfl, rfl⟩ := trodAll_nil r2
 obtain rfl : args = #[v0, v1, v2] := by cases args; simp_all
 obtain ⟨rfl, rfl⟩ := trodVars_none hV
 clear hA0
 simp only [List.append_nil] at hW' hlt
 obtain ⟨as0, rfl, hs0⟩ := okWide_struct Tryz.underlying24 (hval 0 24 v0 rfl rfl)
 obtain ⟨as1, rfl, hs1⟩ := okWide_struct Tryz.underlying24 (hval 1 24 v1 rfl rfl)
 obtain ⟨as2, rfl, hs2⟩ := okWide_struct Tryz.underlying24 (hval 2 24 v2 rfl rfl)
 obtain ⟨b0, hb0, hi0⟩ := Te.sF h0 (hs0.trans Te.VB)
 obtain ⟨b1, hb1, hi1⟩ := Te.sF h1 (hs1.trans Te.VB)
 obtain ⟨b2, hb2, hi2⟩ := Te.sF h2 (hs2.trans Te.VB)
 obtain ⟨cs, t, fr, hh, hcs⟩ := table hL
 obtain ⟨t1, fr1, hh1⟩ := ja hL
 obtain ⟨t2, fr2, hh2⟩ := iI hL
 have hG : Te.Vh [(2, Obj.cells Te.zm t1 fr1), (0, Obj.cells Te.ZL t2 fr2), (1, Obj.cells cs t fr)] := ⟨⟨⟨1, t, fr, jW, by rw [hcs]; exact List.mem_cons_of_mem _ (List.mem_cons_of_mem _ List.mem_cons_self)⟩, t1, fr1, _, rfl⟩, t1, fr1, t2, fr2, _, rfl⟩
 have lt : ∀ {k : Nat} {o : Obj}, W.heap[k]? = some o → k < W.heap.size := fun {k o} h => by
  rcases Nat.lt_or_ge k W.heap.size with h' | h'
  ·exact h'
  ·rw [Array.getElem?_eq_none h'] at h; cases h
 have walk := (Te.Rf hG b0 b1 b2 hi0 hi1 hi2).2 W (Te.Ic W) [.agg as0, .agg as1, .agg as2] (fun b h => h) (fun b o hb => by
  rcases List.mem_cons.1 hb with hb | hb
  ·cases hb; exact ⟨lt hh1, hh1⟩
  rcases List.mem_cons.1 hb with hb | hb
  ·cases hb; exact ⟨lt hh2, hh2⟩
  rw [List.mem_singleton] at hb
  cases hb; exact ⟨lt hh, hh⟩) ⟨hb0, hb1, hb2, trivial⟩
 refine walk.mono fun e W' ⟨hb, rv, he, hr⟩ => ?_
 obtain rfl := Sx.Zr hr
 subst he
 have again : ∀ {t : TypeId} (hrec : Tryz.prog.readableRec t = true) (hrow : t < Tryz.prog.types.size) {v : Value} {d : DataW H} {ps : List MemPlace}, DataW.Trod enc Tryz.prog W 0 (fun _ => true) true t v d ps → (∀ p ∈ ps, p.block < W.heap.size) → ∀ sp : Nat → Bool, (∀ p ∈ ps, sp p.block = true) →
   DataW.Trod enc Tryz.prog W' 0 sp true t v d ps := fun hrec hrow _ _ _ h hp sp hs => Go.WideElems.Trod_stays laidOut hrec hrow h (fun p hp' => Ua hb.toBelow (hp p hp')) hs
 refine ⟨_, rfl, Pi (pa := p0 ++ (p1 ++ (p2 ++ ([])))) (pv := []) hW' (fun _ _ _ => trodAll_cons_mk (shut_bool Tryz.underlying4 _) trodAll_mk0) (fun sp hsp => ?_) (fun _ _ => rfl) (by simp) hb.toBelow (ok_one (by kernel_rfl) rfl (okWide_bool_mk Tryz.underlying4 _))⟩
 rw [Tryz.params3]
 exact trodAll_cons_mk (again Ki jF h0 (fun p hp => hlt p (by simp [hp])) sp fun p hp => hsp p (by simp [hp]))
  (trodAll_cons_mk (again Ki jF h1 (fun p hp => hlt p (by simp [hp])) sp fun p hp => hsp p (by simp [hp]))
  (trodAll_cons_mk (again Ki jF h2 (fun p hp => hlt p (by simp [hp])) sp fun p hp => hsp p (by simp [hp])) trodAll_mk0))
def i7 : List Int := [0, 1, 28, 2, 29, 14, 24, 3, 30, 22, 20, 15, 25, 17, 4, 8, 31, 27, 13, 23, 21, 19, 16, 7, 26, 12, 18, 6, 11, 5, 10, 9]
def ib : List Int := [0, 1, 56, 2, 57, 49, 28, 3, 61, 58, 42, 50, 38, 29, 17, 4, 62, 47, 59, 36, 45, 43, 51, 22, 53, 39, 33, 30, 24, 18, 12, 5, 63, 55, 48, 27, 60, 41, 37, 16, 46, 35, 44, 21, 52, 32, 23, 11, 54, 26, 40, 15, 34, 20, 31, 10, 25, 14, 19, 9, 13, 8, 7, 6]
def first : List Int := Go.Pinned.utf8FirstZ.map fun (n : Nat) => (n : Int)
def Jz : List Int := [128, 191, 160, 191, 128, 159, 144, 191, 128, 143] ++ List.replicate 22 0
def put (cs : Array Value) : Obj → Obj
 | .cells _ t frozen => .cells cs t frozen
 | o => o
def bytesOf (l : List Int) : Array Value := (l.map fun z => Value.int .u8 z).toArray
noncomputable def nF (h : Array Obj) : Array Obj :=
 ((((((((((h.modify 2 (put Te.zm)).modify 0 (put Te.ZL)).modify 1 (put (Lib.pow10Tab.map fun z => Value.int .u64 z).toArray)).modify 4 (put (bytesOf i7))).modify 5 (put (bytesOf ib))).modify 9 (put (bytesOf Jz))).modify 8 (put (bytesOf first))).modify
  7 (put #[.iface 275 (.pointer (some ⟨h.size, 0, none⟩))])).modify 6 (put #[.iface 275 (.pointer (some ⟨h.size + 1, 0, none⟩))])).push
  (.cells #[.string ⟨#[118, 97, 108, 117, 101, 32, 111, 117, 116, 32, 111, 102, 32, 114, 97, 110, 103, 101]⟩] 277 (0, 0))).push (.cells #[.string ⟨#[105, 110, 118, 97, 108, 105, 100, 32, 115, 121, 110, 116, 97, 120]⟩] 277 (0, 0))
noncomputable def vJ (os : Os) : World := { World.holding Tryz.prog os ⟨#[], #[], []⟩ with heap := nF (World.holding Tryz.prog os ⟨#[], #[], []⟩).heap }
abbrev wA : Array Value := #[.agg #[.int .i8 0, .int .i8 0, .int .i8 0, .int .u8 0, .int .u8 0, .int .u8 0, .int .u8 0, .int .u8 0], .agg #[.int .i8 0, .int .i8 0, .int .i8 0, .int .u8 0, .int .u8 0, .int .u8 0, .int .u8 0, .int .u8 0], .agg #[.int .i8 0, .int .i8 0, .int .i8 0, .int .u8 0, .int .u8 0, .int .u8 0, .int .u8 0, .int .u8 0]]
theorem mu (os : Os) : laidMet Tryz.prog Rows.surdAddsRow.laid ((vJ os).forCall (fun _ _ => 0) ⟨#[], wA, []⟩).memory :=
 laidMet_of_run' 8 (by kernel_rfl) (by kernel_rfl)
theorem reads (os : Os) {H : Type} (enc : TypeId × Value → H) : ∃ places, DataW.whole enc Tryz.prog ((vJ os).forCall (fun _ _ => 0) ⟨#[], wA, []⟩).memory Tryz.f3.params.toList Rows.surdAddsSpec.vars false wA.toList 8 = some ([.agg [.lit (.int .i8 0), .lit (.int .i8 0), .lit (.int .i8 0), .lit (.int .u8 0), .lit (.int .u8 0), .lit (.int .u8 0), .lit (.int .u8 0), .lit (.int .u8 0)], .agg [.lit (.int .i8 0), .lit (.int .i8 0), .lit (.int .i8 0), .lit (.int .u8 0), .lit (.int .u8 0), .lit (.int .u8 0), .lit (.int .u8 0), .lit (.int .u8 0)], .agg [.lit (.int .i8 0), .lit (.int .i8 0), .lit (.int .i8 0), .lit (.int .u8 0), .lit (.int .u8 0), .lit (.int .u8 0), .lit (.int .u8 0), .lit (.int .u8 0)]], [], places) :=
 ⟨[], by kernel_rfl⟩
set_option maxRecDepth 100000 in
theorem lifted (os : Os) (started : os.Started) (H : Type) (enc : TypeId × Value → H) (F : Stop.Interp) :
  ReturnsInHanded {} Tryz.checked os 3 .any ((OpenSpec.ofChange Rows.surdAddsSpec).preRow enc Tryz.prog Tryz.f3 Rows.surdAddsRow.domain false Rows.surdAddsRow.laid) (((OpenSpec.ofChange Rows.surdAddsSpec).at F).post enc Tryz.prog Tryz.f3 false true false false) := by
 obtain ⟨places, hx⟩ := reads os enc
 refine returnsInHanded_of_row (C := Tryz.checked) (s := OpenSpec.ofChange Rows.surdAddsSpec) own started (by kernel_rfl) Tryz.func3
  (witness_row_at (enc := enc) (C := Tryz.checked) false (vJ os) wA rfl (by kernel_rfl) (by kernel_rfl) (by kernel_rfl)
   (OpenSpec.preRow_of_cond 8 hx (by kernel_rfl) (fun k hk => by cases hk) (by kernel_rfl) (mu os))) ?_
 intro W base args ds gs before hval hW _ _ _ hL _ _
 exact o8 H enc W base args ds gs before hval hW hL
end Go.Proofs.YthbpnknhfokadaaGreatDoor.surdAdds

namespace Go.Proofs.YthbpnknhfokadaaGreatDoor.surdAdds
open Go Go.ChangeShapes Go.WideShapes Go.ChangeAt Go.RowKit
theorem HM : (Rows.surdAddsRow.inPlace == Tryz.pinned.checked.prog.inPlace 3) = true := by kernel_rfl
theorem Hn : (Rows.surdAddsRow.unfollowed == Tryz.pinned.checked.prog.unfollowed 3) = true := by kernel_rfl
theorem Hk : (Rows.surdAddsRow.recurses == Tryz.pinned.checked.prog.recurses 3) = true := by kernel_rfl
theorem Hj : (Rows.surdAddsRow.named == Tryz.pinned.checked.prog.varsNamed 3) = true := by kernel_rfl
theorem closed : joinedFacts Tryz.pinned.checked.prog 3 Tryz.f3 (OpenSpec.ofChange Rows.surdAddsSpec).bare Rows.surdAddsRow = true := by
 unfold joinedFacts
 rw [HM, Hn, Hk, Hj]
 kernel_rfl
theorem wrap : Tryz.f3.isWrapper Tryz.pinned.checked.prog Rows.surdAddsRow.wrapper Rows.surdAddsRow.mainSum := by
 unfold Func.isWrapper; first | (rw [if_pos (by decide +kernel)]; kernel_rfl) | (rw [if_neg (by decide +kernel)]; exact ⟨rfl, rfl⟩)
theorem JG : Tryz.f3.isInstance Tryz.pinned.checked.prog Rows.surdAddsRow.origin Rows.surdAddsRow.targs := of_decide_eq_true (by kernel_rfl)
theorem named : Tryz.pinned.checked.prog.funcNamed Rows.surdAddsRow.func = some 3 := by kernel_rfl
theorem said : Rows.SurdAddsSaid :=
 OpenClaim.holds_of_cond 3 Tryz.f3 rfl rfl rfl rfl rfl rfl rfl ⟨rfl, rfl, rfl, rfl, rfl⟩ rfl rfl rfl rfl rfl named Tryz.func3 closed
  JG wrap
  (fun os started H enc _ F => by rw [OpenClaim.pre_eq_preRow]; exact lifted os started H enc F)
end Go.Proofs.YthbpnknhfokadaaGreatDoor.surdAdds
