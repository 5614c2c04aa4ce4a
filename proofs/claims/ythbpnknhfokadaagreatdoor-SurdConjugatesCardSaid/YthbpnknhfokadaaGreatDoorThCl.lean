import Derived.Test.YthbpnknhfokadaaGreatDoorThQk
import Derived.Test.YthbpnknhfokadaaGreatDoorCards
import Derived.Test.YthbpnknhfokadaaGreatDoorTie
import Derived.WalkKit
import Derived.ProofKit
import Derived.OpenShut
import Derived.WideKeyArgs
import Derived.Deep.DeepHandedRow
import Derived.Lib.LaidTab
set_option linter.unusedSimpArgs false
set_option linter.unusedVariables false
namespace Go.Proofs.YthbpnknhfokadaaGreatDoor.surdConjugates
open Go Go.ChangeShapes Go.WideShapes Go.ChangeAt Go.RowKit
theorem w1 : OpenClaim.wfByText (OpenSpec.ofChange Rows.surdConjugatesSpec) Rows.surdConjugatesRow = true := by kernel_rfl
theorem w3 : true = Tryz.pinned.checked.prog.looks [] := by kernel_rfl
theorem w4 : false = Rows.surdConjugatesRow.goesBy Tryz.pinned.checked.prog := by kernel_rfl
theorem IU : Tryz.prog.wantsStandIn 51 = false := by kernel_rfl
theorem Hr : Tryz.prog.wantsStandIn 38 = false := by kernel_rfl
theorem card : Rows.SurdConjugatesCardSaid :=
 Claim7.holds_tied_plain_at .later [] _ _ _ _ said (fun _ h => by cases h) w1 (fun _ h => by cases h) surdConjugates_row_tie rfl ⟨rfl, rfl⟩ (by kernel_rfl) rfl (by
 intro f fn hf hfn
 obtain rfl : f = 8 := Option.some.inj (named.symm.trans hf) |>.symm
 obtain rfl : fn = Tryz.f8 := (Option.some.inj (Tryz.func8.symm.trans hfn)).symm
 refine ⟨w3, fun j t ht => ?_⟩
 rw [Tryz.params8] at ht
 have h : t = 51 ∨ t = 51 ∨ t = 38 := by
  match j, ht with
  | 0, ht => exact .inl (Option.some.inj ht).symm
  | 1, ht => exact .inr (.inl (Option.some.inj ht).symm)
  | 2, ht => exact .inr (.inr (Option.some.inj ht).symm)
  | j + 3, ht => simp at ht
 rcases h with rfl | rfl | rfl
 ·exact IU
 ·exact IU
 ·exact Hr) w4
end Go.Proofs.YthbpnknhfokadaaGreatDoor.surdConjugates

namespace Go.Te
open Go Go.Sx Go.Proofs Go.Ar
set_option maxRecDepth 100000
set_option maxHeartbeats 4000000
def gQ (n : Int) (D : Nat) (z : Zm) : Prop := z.a * (D : Int) = n * (z.b : Int) ∧ 0 < z.b ∧ z.b ≤ D ∧ z.a.natAbs ≤ 65535 ∧ 2 ≤ z.k ∧ z.k ≤ 22 ∧ ∀ j, 2 ≤ j → j < z.k → ¬((j : Int) ∣ z.a ∧ j ∣ z.b)
def J5 (n d : Int) : yq :=
 .two .auto (.two .auto (.two (.two .auto (.one (.loop Zm (fun σ z => [(5, .i z.a), (6, .i (z.b : Int)), (7, .i (z.k : Int))]) (fun σ z => []) 0 (fun σ z => gQ n (d.toNat % 20 + 1) z) (fun σ z => 40 - z.k) (.two .auto (.two (.one (.one (.loop Zm (fun σ z => [(7, σ.tm 7), (5, .i z.a), (6, .i (z.b : Int))]) (fun σ z => []) 0 (fun σ z => gQ n (d.toNat % 20 + 1) z ∧ (z.k : Int) = AV.int (σ.tm 7)) (fun σ z => z.b) .auto))) .auto))))) .auto))
def nh : List AV → Option (List zk × AV)
 | [.v (.int .u16 n), .v (.int .u8 d)] => some ([.p (0 ≤ n ∧ n ≤ 65535), .p (0 ≤ d ∧ d ≤ 255)], .str (zt (Rf n d)))
 | _ => none
theorem JX (G : List (Nat × Obj)) (n : Int) (d : Int) (hn : 0 ≤ n ∧ n ≤ 65535) (hd : 0 ≤ d ∧ d ≤ 255) :
 Zv [AV.v (Value.int IntKind.u16 n), AV.v (Value.int IntKind.u8 d)] → bF (dK n) (bF (dK d) (bF (dK (Int.tmod d (20 : Int) + iO)) ((∃ (z : Zm), ((Zm.a z * (cI (Int.toNat d % 20 + 1)) = n * (cI (Zm.b z)) ∧ 0 < Zm.b z ∧ Zm.b z ≤ Int.toNat d % 20 + 1 ∧ Int.natAbs (Zm.a z) ≤ 65535 ∧ 2 ≤ Zm.k z ∧ Zm.k z ≤ 22 ∧ ∀ (j : Nat), 2 ≤ j → j < Zm.k z → ¬((cI j) ∣ Zm.a z ∧ j ∣ Zm.b z)) ∧ (kI ∧ n = Zm.a z) ∧ (kI ∧ Int.tmod d (20 : Int) + iO = (cI (Zm.b z))) ∧ kI ∧ (2
 : Int) = (cI (Zm.k z))) ∧ True) ∧ ∀ (z : Zm), (Zm.a z * (cI (Int.toNat d % 20 + 1)) = n * (cI (Zm.b z)) ∧ 0 < Zm.b z ∧ Zm.b z ≤ Int.toNat d % 20 + 1 ∧ Int.natAbs (Zm.a z) ≤ 65535 ∧ 2 ≤ Zm.k z ∧ Zm.k z ≤ 22 ∧ ∀ (j : Nat), 2 ≤ j → j < Zm.k z → ¬((cI j) ∣ Zm.a z ∧ j ∣ Zm.b z)) → zZ (leB (cI (Zm.k z)) (cI (Zm.b z))) ((∃ (z_1 : Zm), (((Zm.a z_1 * (cI (Int.toNat d % 20 + 1)) = n * (cI (Zm.b z_1)) ∧ 0 < Zm.b z_1 ∧ Zm.b z_1 ≤ Int.toNat d % 20 + 1 ∧ Int.natAbs (Zm.a z_1) ≤ 65535 ∧ 2 ≤ Zm.k z_1 ∧ Zm.k z_1 ≤ 22 ∧ ∀ (j : Nat), 2 ≤ j → j < Zm.k z_1
 → ¬((cI j) ∣ Zm.a z_1 ∧ j ∣ Zm.b z_1)) ∧ (cI (Zm.k z_1)) = AV.int (aI (cI (Zm.k z)))) ∧ (kI ∧ (cI (Zm.k z)) = (cI (Zm.k z))) ∧ (kI ∧ Zm.a z = Zm.a z_1) ∧ kI ∧ (cI (Zm.b z)) = (cI (Zm.b z_1))) ∧ True) ∧ ∀ (z_1 : Zm), (Zm.a z_1 * (cI (Int.toNat d % 20 + 1)) = n * (cI (Zm.b z_1)) ∧ 0 < Zm.b z_1 ∧ Zm.b z_1 ≤ Int.toNat d % 20 + 1 ∧ Int.natAbs (Zm.a z_1) ≤ 65535 ∧ 2 ≤ Zm.k z_1 ∧ Zm.k z_1 ≤ 22 ∧ ∀ (j : Nat), 2 ≤ j → j < Zm.k z_1 → ¬((cI j) ∣ Zm.a z_1 ∧ j ∣ Zm.b z_1)) ∧
 (cI (Zm.k z_1)) = AV.int (aI (cI (Zm.k z))) → bF (DB.db ((cI (Zm.k z)) ≠ iZ)) (bF (!zr true (Int.tmod (Zm.a z_1) (cI (Zm.k z)) == iZ) || zr true (Int.tmod (Zm.a z_1) (cI (Zm.k z)) == iZ)) (bF (!zr true (Int.tmod (Zm.a z_1) (cI (Zm.k z)) == iZ) || zr true (Int.tmod (Zm.a z_1) (cI (Zm.k z)) == iZ)) (bF (!zr true (Int.tmod (Zm.a z_1) (cI (Zm.k z)) == iZ) || DB.db ((cI (Zm.k z)) ≠ iZ)) (bF (!zr true (Int.tmod (Zm.a z_1) (cI (Zm.k z)) == (0 :
 Int)) || zr true (Int.tmod (Zm.a z_1) (cI (Zm.k z)) == iZ)) (bF (!Int.tmod (Zm.a z_1) (cI (Zm.k z)) == iZ || zr true (Int.tmod (Zm.a z_1) (cI (Zm.k z)) == iZ)) (zZ (bif Int.tmod (Zm.a z_1) (cI (Zm.k z)) == iZ then Int.tmod (cI (Zm.b z_1)) (cI (Zm.k z)) == iZ else false) (bF (DB.db ((cI (Zm.k z)) ≠ iZ)) (bF (dK (Int.tdiv (Zm.a z_1) (cI (Zm.k z)))) (bF (DB.db ((cI (Zm.k z)) ≠ iZ)) (bF (dK (Int.tdiv (cI (Zm.b z_1)) (cI (Zm.k z)))) (∃
 (z' : Zm), ((((Zm.a z' * (cI (Int.toNat d % 20 + 1)) = n * (cI (Zm.b z')) ∧ 0 < Zm.b z' ∧ Zm.b z' ≤ Int.toNat d % 20 + 1 ∧ Int.natAbs (Zm.a z') ≤ 65535 ∧ 2 ≤ Zm.k z' ∧ Zm.k z' ≤ 22 ∧ ∀ (j : Nat), 2 ≤ j → j < Zm.k z' → ¬((cI j) ∣ Zm.a z' ∧ j ∣ Zm.b z')) ∧ (cI (Zm.k z')) = AV.int (aI (cI (Zm.k z)))) ∧ Zm.b z' < Zm.b z_1) ∧ (kI ∧ (cI (Zm.k z)) = (cI (Zm.k z))) ∧ (kI ∧ Int.tdiv (Zm.a z_1) (cI (Zm.k z)) = Zm.a z') ∧ kI ∧ Int.tdiv (cI (Zm.b z_1)) (cI (Zm.k z)) = (cI (Zm.b
 z'))) ∧ True))))) (bF (dK ((cI (Zm.k z)) + iO)) (∃ (z' : Zm), (((Zm.a z' * (cI (Int.toNat d % 20 + 1)) = n * (cI (Zm.b z')) ∧ 0 < Zm.b z' ∧ Zm.b z' ≤ Int.toNat d % 20 + 1 ∧ Int.natAbs (Zm.a z') ≤ 65535 ∧ 2 ≤ Zm.k z' ∧ Zm.k z' ≤ 22 ∧ ∀ (j : Nat), 2 ≤ j → j < Zm.k z' → ¬((cI j) ∣ Zm.a z' ∧ j ∣ Zm.b z')) ∧ 40 - Zm.k z' < 40 - Zm.k z) ∧ (kI ∧ Zm.a z_1 = Zm.a z') ∧ (kI ∧ (cI (Zm.b z_1)) = (cI (Zm.b z'))) ∧ kI ∧ (cI (Zm.k z)) + iO = (↑(Zm.k z')
 : Int)) ∧ True))))))))) ((iN ≤ Zm.a z ∧ Zm.a z ≤ iX) ∧ zZ ((cI (Zm.b z)) != iO) ((iN ≤ (cI (Zm.b z)) ∧ (cI (Zm.b z)) ≤ iX) ∧ bF (DB.db (1 + lN (Lib.itoa (cI (Zm.b z))) ≤ nX)) (bF (DB.db (lN (Lib.itoa (Zm.a z)) + lN (bA #[(47 : UInt8)] ++ Lib.itoa (cI (Zm.b z))) ≤ nX)) (Lib.itoa (Zm.a z) ++ (Array.toList
 (ByteArray.data (ByteArray.mk #[(47 : UInt8)])) ++ Lib.itoa (cI (Zm.b z))) = zt (Rf n d)))) (Lib.itoa (Zm.a z) = zt (Rf n d)))))) := by
 delta bF dK bA nX cI kI lN iZ iO iX iN aI
 intro hb
 simp only [↓yx, ↓ZI, row_one]
 simp only [sS, Yw, yQ, zm, yY, ye, xb, YJ, Xk, xz, Xf, xr, dS]
 have hD : d.tmod 20 + 1 = ((d.toNat % 20 + 1 : Nat) : Int) := by rw [Int.tmod_eq_emod_of_nonneg (by omega)]; omega
 have hD2 : d.toNat % 20 + 1 ≤ 20 := by omega
 have hD0 : 0 < d.toNat % 20 + 1 := by omega
 have eS : zt (Rf n d) = ZW n (d.toNat % 20 + 1) := (Yf n hD0).symm
 rw [eS, hD]
 generalize d.toNat % 20 + 1 = D at *
 refine ⟨by simp only [ZA]; omega, by simp only [ZA]; omega, by simp only [ZA]; omega, ⟨⟨n, D, 2⟩, ⟨rfl, hD0, Nat.le_refl _, by simp only; omega, Nat.le_refl _, by simp only; omega, fun j h1 h2 => absurd h2 (by simp only; omega)⟩, rfl, rfl, rfl⟩, fun z ⟨p1, p2, p3, p4, p5, p6, p7⟩ => ⟨fun hk => ⟨⟨z, ⟨⟨p1, p2, p3, p4, p5, p6, p7⟩, rfl⟩, rfl, rfl⟩, fun y ⟨⟨q1, q2, q3, q4, q5, q6, q7⟩, q8⟩ => ?_⟩, fun hk => ?_⟩⟩
 ·have q8 : y.k = z.k := by omega
  rw [← q8]
  have hk0 : (0 : Int) < (y.k : Int) := by omega
  refine ⟨by omega, fun _ => by omega, zY.2 ⟨fun c => ?_, fun c => ?_⟩⟩
  ·simp only [Bool.and_eq_true, beq_iff_eq] at c
   have d1 : (y.k : Int) ∣ y.a := Int.dvd_of_tmod_eq_zero c.1
   have d2 : (y.k : Int) ∣ (y.b : Int) := Int.dvd_of_tmod_eq_zero c.2
   have d3 : y.k ∣ y.b := Int.natCast_dvd_natCast.1 d2
   obtain ⟨a', ha⟩ := d1
   obtain ⟨b', hb'⟩ := d3
   have e1 : y.a.tdiv (y.k : Int) = a' := by rw [ha]; exact Int.mul_tdiv_cancel_left _ (by omega)
   have e2 : ((y.b : Nat) : Int).tdiv (y.k : Int) = (b' : Int) := by rw [hb', Int.natCast_mul]; exact Int.mul_tdiv_cancel_left _ (by omega)
   have hb0 : 0 < b' := Nat.pos_of_ne_zero fun e => by rw [e, Nat.mul_zero] at hb'; omega
   have hbl : b' < y.b := by
    rw [hb']
    have : 2 * b' ≤ y.k * b' := Nat.mul_le_mul_right _ (by omega)
    omega
   have hal : a'.natAbs ≤ y.a.natAbs := by
    rw [ha, Int.natAbs_mul]
    exact Nat.le_mul_of_pos_left _ (by omega)
   rw [e1, e2]
   refine ⟨by omega, by simp only [ZA]; omega, by omega, by simp only [ZA]; omega, ⟨a', b', y.k⟩, ⟨⟨⟨?_, hb0, by simp only; omega, by simp only; omega, q5, q6, fun j h1 h2 h3 => q7 j h1 h2 ⟨?_, ?_⟩⟩, rfl⟩, hbl⟩, rfl, rfl⟩
   ·have h : (y.k : Int) * (a' * (D : Int)) = (y.k : Int) * (n * (b' : Int)) := by
     have := q1
     rw [ha, hb', Int.natCast_mul] at this
     grind
    exact Int.eq_of_mul_eq_mul_left (by omega) h
   ·rw [ha]; exact Int.dvd_mul_of_dvd_right h3.1
   ·rw [hb']; exact Nat.dvd_mul_left_of_dvd h3.2 _
  ·refine ⟨by simp only [ZA]; omega, ⟨y.a, y.b, y.k + 1⟩, ⟨⟨q1, q2, q3, q4, by simp only; omega, by simp only; omega, fun j h1 h2 h3 => ?_⟩, by simp only; omega⟩, rfl, rfl, by simp only; omega⟩
   by_cases ej : j = y.k
   ·subst ej
    rw [show (y.a.tmod (y.k : Int) == 0) = true from beq_iff_eq.2 (Int.tmod_eq_zero_of_dvd h3.1), show (((y.b : Nat) : Int).tmod (y.k : Int) == 0) = true from beq_iff_eq.2 (Int.tmod_eq_zero_of_dvd (Int.natCast_dvd_natCast.2 h3.2))] at c
    cases c
   ·exact q7 j h1 (by simp only at h2; omega) h3
 ·have hg : Nat.gcd z.a.natAbs z.b = 1 := by
   refine Decidable.byContradiction fun hne => ?_
   have hg0 : 0 < Nat.gcd z.a.natAbs z.b := Nat.gcd_pos_of_pos_right _ p2
   have hgl : Nat.gcd z.a.natAbs z.b ≤ z.b := Nat.le_of_dvd p2 (Nat.gcd_dvd_right _ _)
   exact p7 _ (by omega) (by omega) ⟨Int.ofNat_dvd_left.2 (Nat.gcd_dvd_left _ _), Nat.gcd_dvd_right _ _⟩
  have e : ZW n D = YL z.a z.b := by
   rw [← Tk hg]
   exact (NN hD0 p2).2 p1.symm
  rw [e]
  unfold YL
  have la := Z2 (n := z.a) (k := 9) (by decide) (by omega)
  have lb := Z2 (n := ((z.b : Nat) : Int)) (k := 9) (by decide) (by omega)
  refine ⟨by omega, fun hb1 => ⟨by omega, by omega, by simp only [List.length_append, List.length_cons, List.length_nil]; omega, ?_⟩, fun hb1 => ?_⟩
  ·rw [show (z.b.beq 1) = false from by rw [← Bool.not_eq_true]; intro h; exact hb1 (by rw [Nat.eq_of_beq_eq_true h]; rfl), cond_false, Z6]
   rfl
  ·rw [show z.b = 1 from by omega]
   exact (List.append_nil _).symm
theorem Ik {G : List (Nat × Obj)} (hG : zN G) (n : Int) (d : Int) (hn : 0 ≤ n ∧ n ≤ 65535) (hd : 0 ≤ d ∧ d ≤ 255) : zU Tryz.prog G 18 [.v (.int .u16 n), .v (.int .u8 d)] (.str (zt (Rf n d))) :=
 zW (T := oQ G) (an := J5 n d) mixed (yO hG) (Eq.mp (by kernel_rfl) (JX G n d hn hd))
theorem Is {G : List (Nat × Obj)} (hG : zN G) : zO Tryz.prog G 18 nh := by
 intro xs ps r h hp
 unfold nh at h
 split at h
 ·skip
  rename_i n d
  cases h
  obtain ⟨q0, q1, -⟩ := ZH hp
  exact weaken (ys := [.v (.int .u16 n), .v (.int .u8 d)]) ⟨zT _, zT _, trivial⟩ (Ik hG n d q0 q1)
 ·cases h
end Go.Te

namespace Go.Te
open Go Go.Sx Go.Proofs Go.Ar
set_option maxRecDepth 100000
set_option maxHeartbeats 4000000
def Yy (t : Tm) : Rat := t.c * t.c * t.q
theorem pS {t : Tm} (h : t.c ≠ 0) (hq : t.q ≠ 0) (hk : xx t = t) : Zb [t] = [t] := by
 have e1 : YU [t] = [t] := by
  unfold YU
  rw [List.filter_cons, if_pos (by rw [decide_eq_true h, decide_eq_true hq]; rfl), List.filter_nil, List.map_cons, List.map_nil, hk]
 unfold Zb Yo
 rw [e1]
 show Xe (([t] : List Tm).filter _) = _
 rw [List.filter_cons, if_pos (by simpa using h), List.filter_nil]
 rfl
theorem tB {m : Nat} {c : Rat} (h : nrm m = (1, m)) : xx ⟨c, (m : Rat)⟩ = ⟨c, (m : Rat)⟩ := by
 have e : c * mkRat ((1 : Nat) : Int) 1 = c := by rw [show mkRat ((1 : Nat) : Int) 1 = 1 from by decide +kernel]; exact Rat.mul_one c
 unfold xx
 simp only [Y4, h, Rat.den_natCast]
 rw [e]
theorem vo {P : Rat} (h0 : 0 ≤ P) (hb : mQ P ≤ RM) : (P = 0 → Zb [⟨1, P⟩] = []) ∧ (P ≠ 0 → ∃ u : Tm, Zb [⟨1, P⟩] = [u] ∧ ZZ RM u ∧ nrm (mQ u.q) = (1, mQ u.q) ∧ 0 < u.c ∧ Yy u = P ∧ ∃ k : Nat, u.c = mkRat k P.den ∧ k * k ≤ mQ P) := by
 constructor
 ·rintro rfl
  decide +kernel
 ·intro hne
  have hp : 0 < P := Rat.lt_of_le_of_ne h0 (Ne.symm hne)
  have hm := Vx hp
  obtain ⟨n1, n2, n3, n4⟩ := Wv hm
  obtain ⟨l1, l2, l3⟩ := W8 hm
  have hc : (xx ⟨1, P⟩).c = mkRat (nrm (mQ P)).1 P.den := by
   show (1 : Rat) * mkRat (nrm (mQ P)).1 P.den = _
   rw [Rat.one_mul]
  have hq : (xx ⟨1, P⟩).q = (((nrm (mQ P)).2 : Nat) : Rat) := rfl
  have hd : (P.den : Rat) ≠ 0 := fun e => P.den_nz (Rat.natCast_eq_zero_iff.1 e)
  have hk : (xx ⟨1, P⟩).c * (P.den : Rat) = ((nrm (mQ P)).1 : Rat) := by
   rw [hc, Rat.mkRat_eq_div, Rat.intCast_natCast]
   generalize (((nrm (mQ P)).1 : Nat) : Rat) = x
   grind
  have hpd : (0 : Rat) < (P.den : Rat) := Rat.natCast_pos.2 P.den_pos
  have hpk : (0 : Rat) < ((nrm (mQ P)).1 : Rat) := Rat.natCast_pos.2 n2
  have hc0 : 0 < (xx ⟨1, P⟩).c := by
   rcases Decidable.em (0 < (xx ⟨1, P⟩).c) with h | h
   ·exact h
   ·have h1 := Rat.mul_le_mul_of_nonneg_right (Rat.not_lt.1 h) (Rat.le_of_lt hpd)
    rw [hk, Rat.zero_mul] at h1
    exact absurd hpk (Rat.not_lt.2 h1)
  have hv : ((nrm (mQ P)).1 : Rat) * ((nrm (mQ P)).1 : Rat) * ((nrm (mQ P)).2 : Rat) = P * (P.den : Rat) * (P.den : Rat) := by
   have e : ((mQ P : Nat) : Rat) = P * (P.den : Rat) * (P.den : Rat) := by
    have h1 : P * (P.den : Rat) = (P.num : Rat) := by
     have h2 := Rat.mkRat_self P
     rw [Rat.mkRat_eq_div] at h2
     generalize (P.num : Rat) = x at *
     generalize (P.den : Rat) = d at *
     rw [← h2]
     grind
    rw [h1]
    unfold mQ
    rw [Rat.natCast_mul, ← Rat.intCast_natCast P.num.toNat, Int.toNat_of_nonneg (Rat.num_nonneg.2 h0)]
   rw [← e]
   conv => rhs; rw [← n1]
   rw [Rat.natCast_mul, Rat.natCast_mul]
  have e1 : YU [⟨1, P⟩] = [xx ⟨1, P⟩] := by
   unfold YU
   rw [List.filter_cons, if_pos (by rw [decide_eq_true (show (⟨1, P⟩ : Tm).q ≠ 0 from hne)]; rfl), List.filter_nil]
   rfl
  refine ⟨xx ⟨1, P⟩, ?_, ⟨_, hq, n3, Nat.le_trans l2 hb⟩, by rw [hq, Y4]; exact n4, hc0, ?_, (nrm (mQ P)).1, hc, l1⟩
  ·unfold Zb Yo
   rw [e1]
   show Xe (([xx ⟨1, P⟩] : List Tm).filter _) = _
   rw [List.filter_cons, if_pos (by simpa using fun e => Rat.ne_of_gt hc0 e), List.filter_nil]
   rfl
  ·unfold Yy
   rw [hq]
   generalize (xx ⟨1, P⟩).c = c at *
   generalize (((nrm (mQ P)).2 : Nat) : Rat) = m at *
   rw [← hk] at hv
   generalize (P.den : Rat) = d at *
   have : (c * c * m - P) * (d * d) = 0 := by grind
   rcases Rat.mul_eq_zero.1 this with h | h
   ·grind
   ·rcases Rat.mul_eq_zero.1 h with h | h <;> exact absurd h hd
theorem WZ {a b : Nat} (h : a ≤ b) : a * a ≤ b * b := Nat.mul_le_mul h h
theorem T8 {t : Tm} (hn : ZZ RM t) (N : Nat) : Yy t * ((10 ^ (2 * N) : Nat) : Rat) * ((t.c.den : Rat) * (t.c.den : Rat)) = ((wz t N : Nat) : Rat) := by
 have hq := hn.mQ.1
 have hc : t.c * (t.c.den : Rat) = (t.c.num : Rat) := by
  have h2 := Rat.mkRat_self t.c
  have hd : (t.c.den : Rat) ≠ 0 := fun e => t.c.den_nz (Rat.natCast_eq_zero_iff.1 e)
  rw [Rat.mkRat_eq_div] at h2
  generalize (t.c.num : Rat) = x at *
  generalize (t.c.den : Rat) = d at *
  rw [← h2]
  grind
 have hs : ((t.c.num.natAbs * t.c.num.natAbs : Nat) : Rat) = (t.c.num : Rat) * (t.c.num : Rat) := by
  rw [← Rat.intCast_natCast, Int.natCast_mul, Int.natAbs_mul_self', Rat.intCast_mul]
 unfold wz Yy
 rw [Rat.natCast_mul, Rat.natCast_mul, hs, ← hc, ← hq]
 generalize ((10 ^ (2 * N) : Nat) : Rat) = K
 generalize (t.c.den : Rat) = d
 grind
theorem qH (c : Rat) : (0 : Rat) < (c.den : Rat) * (c.den : Rat) := Rat.mul_pos (Rat.natCast_pos.2 c.den_pos) (Rat.natCast_pos.2 c.den_pos)
theorem MO {t : Tm} (hn : ZZ RM t) {N f : Nat} (h : (t.c.den * f) * (t.c.den * f) ≤ wz t N) : (f : Rat) * (f : Rat) ≤ Yy t * ((10 ^ (2 * N) : Nat) : Rat) := by
 refine Rat.le_of_mul_le_mul_right ?_ (qH t.c)
 rw [T8 hn]
 have := Rat.natCast_le_natCast.2 h
 rw [Rat.natCast_mul, Rat.natCast_mul] at this
 generalize (t.c.den : Rat) = d at *
 grind
theorem Iu {t : Tm} (hn : ZZ RM t) {N f : Nat} (h : wz t N < (t.c.den * f) * (t.c.den * f)) : Yy t * ((10 ^ (2 * N) : Nat) : Rat) < (f : Rat) * (f : Rat) := by
 refine Rat.lt_of_mul_lt_mul_right ?_ (Rat.le_of_lt (qH t.c))
 rw [T8 hn]
 have := Rat.natCast_lt_natCast.2 h
 rw [Rat.natCast_mul, Rat.natCast_mul] at this
 generalize (t.c.den : Rat) = d at *
 grind
theorem KM {t : Tm} (hn : ZZ RM t) {N f : Nat} (h : wz t N ≤ (t.c.den * f) * (t.c.den * f)) : Yy t * ((10 ^ (2 * N) : Nat) : Rat) ≤ (f : Rat) * (f : Rat) := by
 refine Rat.le_of_mul_le_mul_right ?_ (qH t.c)
 rw [T8 hn]
 have := Rat.natCast_le_natCast.2 h
 rw [Rat.natCast_mul, Rat.natCast_mul] at this
 generalize (t.c.den : Rat) = d at *
 grind
theorem sr {t : Tm} (hn : ZZ RM t) (hc : 0 < t.c) (N : Nat) : ∃ f : Nat, WG t N = (f : Int) ∧ (f : Rat) * (f : Rat) ≤ Yy t * ((10 ^ (2 * N) : Nat) : Rat) ∧ Yy t * ((10 ^ (2 * N) : Nat) : Rat) < ((f + 1 : Nat) : Rat) * ((f + 1 : Nat) : Rat) := by
 obtain ⟨s1, s2⟩ := xS (wz t N)
 have d0 := t.c.den_pos
 have h1 : t.c.den * (ZC (wz t N) / t.c.den) ≤ ZC (wz t N) := Nat.mul_div_le _ _
 have h2 : ZC (wz t N) + 1 ≤ t.c.den * (ZC (wz t N) / t.c.den + 1) := Nat.lt_mul_div_succ _ d0
 refine ⟨ZC (wz t N) / t.c.den, ?_, MO hn (Nat.le_trans (WZ h1) s1), Iu hn (Nat.lt_of_lt_of_le s2 (WZ h2))⟩
 unfold WG
 rw [if_pos (Rat.num_nonneg.2 (Rat.le_of_lt hc))]
theorem SZ {t : Tm} (hn : ZZ RM t) (hc : t.c < 0) (N : Nat) : ∃ g : Nat, WG t N = -(g + 1 : Int) ∧ (g : Rat) * (g : Rat) ≤ Yy t * ((10 ^ (2 * N) : Nat) : Rat) ∧ Yy t * ((10 ^ (2 * N) : Nat) : Rat) ≤ ((g + 1 : Nat) : Rat) * ((g + 1 : Nat) : Rat) := by
 obtain ⟨s1, s2⟩ := xS (wz t N)
 have d0 := t.c.den_pos
 have h1 : t.c.den * (ZC (wz t N) / t.c.den) ≤ ZC (wz t N) := Nat.mul_div_le _ _
 have h2 : ZC (wz t N) + 1 ≤ t.c.den * (ZC (wz t N) / t.c.den + 1) := Nat.lt_mul_div_succ _ d0
 have hneg : ¬0 ≤ t.c.num := fun h => absurd (Rat.num_nonneg.1 h) (Rat.not_le.2 hc)
 have hS : 0 < wz t N := by
  unfold wz
  have : 0 < t.c.num.natAbs := by omega
  exact Nat.mul_pos (Nat.mul_pos (Nat.mul_pos this this) hn.mQ.2.1) (Nat.pow_pos (by decide))
 unfold WG
 rw [if_neg hneg]
 split
 ·rename_i h
  have e : ZC (wz t N) = t.c.den * (ZC (wz t N) / t.c.den) := (Nat.mul_div_cancel' (Nat.dvd_of_mod_eq_zero h.2)).symm
  have p0 : 0 < ZC (wz t N) / t.c.den := Nat.pos_of_ne_zero fun e0 => by
   rw [e0, Nat.mul_zero] at e
   rw [e] at h
   have := h.1
   omega
  generalize ZC (wz t N) = r at *
  generalize hf : r / t.c.den = f at *
  refine ⟨f - 1, by omega, MO hn (Nat.le_trans (WZ (Nat.le_trans (Nat.mul_le_mul_left _ (Nat.sub_le _ _)) h1)) s1), KM hn ?_⟩
  rw [show f - 1 + 1 = f by omega, ← e, h.1]
  exact Nat.le_refl _
 ·refine ⟨ZC (wz t N) / t.c.den, rfl, MO hn (Nat.le_trans (WZ h1) s1), KM hn (Nat.le_of_lt (Nat.lt_of_lt_of_le s2 (WZ h2)))⟩
end Go.Te

namespace Go.Te
open Go Go.Sx Go.Proofs Go.Ar
set_option maxRecDepth 100000
set_option maxHeartbeats 4000000
theorem nY {P Q : Rat} {f g : Nat} (hf1 : (f : Rat) * (f : Rat) ≤ P) (hf2 : P < ((f + 1 : Nat) : Rat) * ((f + 1 : Nat) : Rat)) (hg1 : (g : Rat) * (g : Rat) ≤ Q) (hg2 : Q ≤ ((g + 1 : Nat) : Rat) * ((g + 1 : Nat) : Rat)) :
  (g + 2 ≤ f → Q < P) ∧ (f + 2 ≤ g → P < Q) ∧ (f ≤ g + 1 → P < Q + ((4 * g + 4 : Nat) : Rat)) ∧ (g ≤ f + 1 → Q ≤ P + ((4 * f + 4 : Nat) : Rat)) := by
 have up : ∀ a b : Nat, a ≤ b → (a : Rat) * (a : Rat) ≤ (b : Rat) * (b : Rat) := fun a b h => by
  rw [← Rat.natCast_mul, ← Rat.natCast_mul]
  exact Rat.natCast_le_natCast.2 (WZ h)
 have lt : ∀ a b : Nat, a < b → (a : Rat) * (a : Rat) < (b : Rat) * (b : Rat) := fun a b h => by
  rw [← Rat.natCast_mul, ← Rat.natCast_mul]
  exact Rat.natCast_lt_natCast.2 (Nat.mul_lt_mul'' h h)
 have ex : ∀ a : Nat, ((a + 2 : Nat) : Rat) * ((a + 2 : Nat) : Rat) = (a : Rat) * (a : Rat) + ((4 * a + 4 : Nat) : Rat) := fun a => by
  rw [← Rat.natCast_mul, ← Rat.natCast_mul, ← Rat.natCast_add]
  congr 1
  grind
 refine ⟨fun h => ?_, fun h => ?_, fun h => ?_, fun h => ?_⟩
 ·have := lt (g + 1) f (by omega)
  grind
 ·have := lt (f + 1) g (by omega)
  grind
 ·have a := up (f + 1) (g + 2) (by omega)
  rw [ex] at a
  grind
 ·have a := up (g + 1) (f + 2) (by omega)
  rw [ex] at a
  grind
abbrev uj : Nat := 10 ^ 32
theorem ua {g : Nat} {Q : Rat} (h : (g : Rat) * (g : Rat) ≤ Q * ((uj : Nat) : Rat)) (hQ : Q ≤ 65535) : 4 * g + 4 ≤ 10 ^ 20 := by
 refine Decidable.byContradiction fun hn => ?_
 have h1 : 10 ^ 19 ≤ g := by omega
 have h2 := WZ h1
 have h3 := Rat.natCast_le_natCast.2 h2
 rw [Rat.natCast_mul] at h3
 have h4 := Rat.mul_le_mul_of_nonneg_right hQ (show (0 : Rat) ≤ ((uj : Nat) : Rat) by decide +kernel)
 have h5 : (65535 : Rat) * ((uj : Nat) : Rat) < ((10 ^ 19 * 10 ^ 19 : Nat) : Rat) := by decide +kernel
 rw [← Rat.natCast_mul] at h3
 grind
theorem nN {l : List Tm} {u w : Tm} (hl : l.length = 2) (hs : ∀ N, Zk l N = WG u N + WG w N) (hu : ZZ RM u) (hw : ZZ RM w) (cu : 0 < u.c) (cw : w.c < 0) (bP : Yy u ≤ 65535) (bQ : Yy w ≤ 65535) (gp : Yy u < Yy w → 1 ≤ (Yy w - Yy u) * 400) (gq : Yy w < Yy u → 1 ≤ (Yy u - Yy w) * 400) (hne : Yy u ≠ Yy w) :
  YV l = if Yy u < Yy w then -1 else 1 := by
 have kp : ∀ N : Nat, (0 : Rat) < ((10 ^ (2 * N) : Nat) : Rat) := fun N => Rat.natCast_pos.2 (Nat.pow_pos (by decide))
 have key : ∀ N : Nat, (xy l N = 1 → Yy w < Yy u) ∧ (xy l N = -1 → Yy u < Yy w) ∧ (xy l N = 0 ∨ xy l N = 1 ∨ xy l N = -1) ∧ (N = 16 → xy l N ≠ 0) := fun N => by
  obtain ⟨f, f1, f2, f3⟩ := sr hu cu N
  obtain ⟨g, g1, g2, g3⟩ := SZ hw cw N
  obtain ⟨d1, d2, d3, d4⟩ := nY f2 f3 g2 g3
  have e : Zk l N = (f : Int) - g - 1 := by rw [hs, f1, g1]; omega
  have r1 : g + 2 ≤ f → Yy w < Yy u := fun h => Rat.lt_of_mul_lt_mul_right (d1 h) (Rat.le_of_lt (kp N))
  have r2 : f + 2 ≤ g → Yy u < Yy w := fun h => Rat.lt_of_mul_lt_mul_right (d2 h) (Rat.le_of_lt (kp N))
  unfold xy
  rw [e, hl]
  refine ⟨fun h => ?_, fun h => ?_, ?_, fun hN h => ?_⟩
  ·split at h
   ·exact r1 (by omega)
   ·split at h <;> omega
  ·split at h
   ·omega
   ·split at h
    ·exact r2 (by omega)
    ·omega
  ·split
   ·omega
   ·split <;> omega
  ·subst hN
   have hf : f ≤ g + 1 ∧ g ≤ f + 1 := by
    split at h
    ·omega
    ·split at h
     ·omega
     ·omega
   have a1 := d3 hf.1
   have a2 := d4 hf.2
   have b1 := Rat.natCast_le_natCast.2 (ua g2 bQ)
   have b2 := Rat.natCast_le_natCast.2 (ua f2 bP)
   have b3 : ((10 ^ 20 : Nat) : Rat) * 400 < ((uj : Nat) : Rat) := by decide +kernel
   have k0 : (0 : Rat) ≤ ((uj : Nat) : Rat) := Rat.le_of_lt (kp 16)
   have c1 : ∀ x y : Rat, 1 ≤ (x - y) * 400 → ((uj : Nat) : Rat) ≤ (x * ((uj : Nat) : Rat) - y * ((uj : Nat) : Rat)) * 400 := fun x y h => by
    have := Rat.mul_le_mul_of_nonneg_right h k0
    generalize ((uj : Nat) : Rat) = k at *
    grind
   have a1 : Yy u * ((uj : Nat) : Rat) < Yy w * ((uj : Nat) : Rat) + ((4 * g + 4 : Nat) : Rat) := a1
   have a2 : Yy w * ((uj : Nat) : Rat) ≤ Yy u * ((uj : Nat) : Rat) + ((4 * f + 4 : Nat) : Rat) := a2
   rcases Decidable.em (Yy u < Yy w) with h | h
   ·have := c1 _ _ (gp h)
    generalize ((uj : Nat) : Rat) = k at *
    generalize ((10 ^ 20 : Nat) : Rat) = y at *
    generalize Yy u * k = p at *
    generalize Yy w * k = q at *
    grind
   ·have := c1 _ _ (gq (Rat.lt_of_le_of_ne (Rat.not_lt.1 h) (Ne.symm hne)))
    generalize ((uj : Nat) : Rat) = k at *
    generalize ((10 ^ 20 : Nat) : Rat) = y at *
    generalize Yy u * k = p at *
    generalize Yy w * k = q at *
    grind
 obtain ⟨x1, x2, x3, _⟩ := key 4
 obtain ⟨y1, y2, y3, y4⟩ := key 16
 have nlt : ∀ {a b : Rat}, a < b → ¬b < a := fun h => Rat.not_lt.2 (Rat.le_of_lt h)
 unfold YV
 split
 ·rcases y3 with h | h | h
  ·exact absurd h (y4 rfl)
  ·rw [h, if_neg (nlt (y1 h))]
  ·rw [h, if_pos (y2 h)]
 ·rename_i h0
  rcases x3 with h | h | h
  ·exact absurd h h0
  ·rw [h, if_neg (nlt (x1 h))]
  ·rw [h, if_pos (x2 h)]
theorem SO {x : Tm} (hx : ZZ RM x) (h0 : x.c ≠ 0) (hb : 4 ≤ Yy x * ((uj : Nat) : Rat)) : YV [x] = if x.c < 0 then -1 else 1 := by
 have e : ∀ N, Zk [x] N = WG x N := fun N => by unfold Zk; simp
 unfold YV xy
 rw [e, e]
 rcases Decidable.em (x.c < 0) with hc | hc
 ·obtain ⟨g, g1, _, _⟩ := SZ hx hc 4
  obtain ⟨k, k1, _, k3⟩ := SZ hx hc 16
  rw [if_pos hc, g1, k1]
  have k3 : Yy x * ((uj : Nat) : Rat) ≤ ((k + 1 : Nat) : Rat) * ((k + 1 : Nat) : Rat) := k3
  have k0 : k ≠ 0 := fun e => by
   rw [e] at k3
   have : (((0 + 1 : Nat) : Rat)) * ((0 + 1 : Nat) : Rat) < 4 := by decide +kernel
   grind
  have hl : (([x] : List Tm).length : Int) = 1 := rfl
  rw [hl, if_neg (show ¬0 < -((g : Int) + 1) by omega), if_neg (show ¬0 < -((k : Int) + 1) by omega), if_pos (show -((k : Int) + 1) + 1 < 0 by omega)]
  split <;> rfl
 ·have hc' : 0 < x.c := Rat.lt_of_le_of_ne (Rat.not_lt.1 hc) (Ne.symm h0)
  obtain ⟨g, g1, _, _⟩ := sr hx hc' 4
  obtain ⟨k, k1, _, k3⟩ := sr hx hc' 16
  rw [if_neg hc, g1, k1]
  have k3 : Yy x * ((uj : Nat) : Rat) < ((k + 1 : Nat) : Rat) * ((k + 1 : Nat) : Rat) := k3
  have k0 : k ≠ 0 := fun e => by
   rw [e] at k3
   have : (((0 + 1 : Nat) : Rat)) * ((0 + 1 : Nat) : Rat) < 4 := by decide +kernel
   grind
  have hl : (([x] : List Tm).length : Int) = 1 := rfl
  rw [hl, if_neg (show ¬(g : Int) + 1 < 0 by omega), if_pos (show 0 < (k : Int) by omega)]
  split <;> rfl
end Go.Te

namespace Go.Te
open Go Go.Sx Go.Proofs Go.Ar
set_option maxRecDepth 100000
set_option maxHeartbeats 4000000
theorem pL {r s : Tm} (hr : ZZ RM r) (hs : ZZ RM s) (h : yw r.q s.q = true) : ∃ p : Rat, ww r.q s.q = p ∧ 0 < p ∧ s.q * (p * p) = r.q := by
 obtain ⟨e1, p1, _⟩ := hr.mQ
 obtain ⟨e2, p2, _⟩ := hs.mQ
 rw [e1, e2] at h
 obtain ⟨a, b, ha, hb, e, hv⟩ := Sr p1 p2 h
 refine ⟨mkRat a b, by rw [e1, e2]; exact hv, ?_, ?_⟩
 ·rw [Rat.mkRat_eq_div, Rat.div_def]
  exact Rat.mul_pos (by rw [Rat.intCast_natCast]; exact Rat.natCast_pos.2 ha) (Rat.inv_pos.2 (Rat.natCast_pos.2 hb))
 ·have e := congrArg (fun n : Nat => (n : Rat)) e
  simp only [Rat.natCast_mul] at e
  rw [← e1, ← e2] at e
  have hb0 : ((b : Nat) : Rat) ≠ 0 := fun e => by have := Rat.natCast_eq_zero_iff.1 e; omega
  rw [Rat.mkRat_eq_div, Rat.intCast_natCast]
  generalize (a : Rat) = x at *
  generalize (b : Rat) = y at *
  generalize r.q = m at *
  generalize s.q = n at *
  have : (n * (x / y * (x / y)) - m) * (y * y) = 0 := by grind
  rcases Rat.mul_eq_zero.1 this with h | h
  ·grind
  ·rcases Rat.mul_eq_zero.1 h with h | h <;> exact absurd h hb0
theorem MV {r s : Tm} (hr : ZZ RM r) (hs : ZZ RM s) (h : yw r.q s.q = true) : yw s.q r.q = true := by
 cases e : yw s.q r.q with
 | true => rfl
 | false =>
  have := (Wr hr hs (by decide)).2 ((Wr hs hr (by decide)).1 e).symm
  rw [h] at this
  cases this
theorem l6 {u w : Tm} (hu : ZZ RM u) (hw : ZZ RM w) (cu : 0 < u.c) (cw : w.c < 0) (h : yw w.q u.q = true) :
  ∃ z : Rat, 0 < z ∧ (yr u w).c * z * (yr u w).q = Yy u - Yy w ∧ z * z * (yr u w).q ≤ 2 * (Yy u + Yy w) ∧ 0 < (yr u w).q := by
 have qp : ∀ {t : Tm}, ZZ RM t → 0 < t.q := fun h => by rw [h.mQ.1]; exact Rat.natCast_pos.2 h.mQ.2.1
 have sqn : ∀ x : Rat, 0 ≤ x * x := fun x => by
  rcases Rat.le_total (a := 0) (b := x) with h | h
  ·exact Rat.mul_nonneg h h
  ·have := Rat.mul_nonneg (a := -x) (b := -x) (by grind) (by grind)
   grind
 unfold yr Yy
 split
 ·obtain ⟨p, hp, p0, e⟩ := pL hu hw (MV hw hu h)
  rw [hp]
  have hq := qp hw
  have h1 := Rat.mul_pos cu p0
  have h2 := Rat.mul_nonneg (sqn (w.c + u.c * p)) (Rat.le_of_lt hq)
  refine ⟨u.c * p - w.c, by grind, ?_, ?_, hq⟩
  ·show (w.c + u.c * p) * (u.c * p - w.c) * w.q = _
   rw [← e]
   grind
  ·show (u.c * p - w.c) * (u.c * p - w.c) * w.q ≤ _
   rw [← e]
   grind
 ·obtain ⟨p, hp, p0, e⟩ := pL hw hu h
  rw [hp]
  have hq := qp hu
  have h1 := Rat.mul_pos (a := -w.c) (by grind) p0
  have h2 := Rat.mul_nonneg (sqn (u.c + w.c * p)) (Rat.le_of_lt hq)
  refine ⟨u.c - w.c * p, by grind, ?_, ?_, hq⟩
  ·show (u.c + w.c * p) * (u.c - w.c * p) * u.q = _
   rw [← e]
   grind
  ·show (u.c - w.c * p) * (u.c - w.c * p) * u.q ≤ _
   rw [← e]
   grind
theorem Li {u w : Tm} (hu : ZZ RM u) (hw : ZZ RM w) (nu : nrm (mQ u.q) = (1, mQ u.q)) (nw : nrm (mQ w.q) = (1, mQ w.q)) (cu : u.c ≠ 0) (cw : w.c ≠ 0) :
  (yw w.q u.q = false → (Zb [u, w]).Perm [u, w]) ∧ (yw w.q u.q = true → (yr u w).c ≠ 0 → Zb [u, w] = [yr u w]) := by
 have q0 : ∀ {t : Tm}, ZZ RM t → t.q ≠ 0 := fun h e => by
  have := h.mQ.2.1
  rw [e] at this
  exact absurd this (by decide +kernel)
 have self : ∀ {t : Tm}, ZZ RM t → nrm (mQ t.q) = (1, mQ t.q) → xx t = t := fun {t} h g => by
  have e := h.mQ.1
  have := tB (c := t.c) g
  rw [← e] at this
  exact this
 have e1 : YU [u, w] = [u, w] := by
  unfold YU
  rw [List.filter_cons, if_pos (by rw [decide_eq_true cu, decide_eq_true (q0 hu)]; rfl), List.filter_cons, if_pos (by rw [decide_eq_true cw, decide_eq_true (q0 hw)]; rfl), List.filter_nil, List.map_cons, List.map_cons, List.map_nil, self hu nu, self hw nw]
 have e2 : XT [u, w] = if yw w.q u.q then [yr u w] else [u, w] := by
  show wn (wn [] u) w = _
  show wn [u] w = _
  rw [YE]
  rfl
 refine ⟨fun h => ?_, fun h hc => ?_⟩
 ·rw [h] at e2
  have e3 : Yo [u, w] = [u, w] := by
   unfold Yo
   rw [e1, e2]
   show ([u, w] : List Tm).filter _ = _
   rw [List.filter_cons, if_pos (by simpa using cu), List.filter_cons, if_pos (by simpa using cw), List.filter_nil]
  have := YF (Yo [u, w])
  rw [e3] at this
  unfold Zb
  rw [e3]
  exact this
 ·rw [h] at e2
  unfold Zb Yo
  rw [e1, e2]
  show Xe (([yr u w] : List Tm).filter _) = _
  rw [List.filter_cons, if_pos (by simpa using hc), List.filter_nil]
  rfl
theorem P3 {l m : List Int} (h : l.Perm m) : l.sum = m.sum := by
 induction h with
 | nil => rfl
 | cons _ _ ih => rw [List.sum_cons, List.sum_cons, ih]
 | swap _ _ _ => simp only [List.sum_cons]; omega
 | trans _ _ a b => rw [a, b]
theorem kJ {u w : Tm} (hu : ZZ RM u) (hw : ZZ RM w) (nu : nrm (mQ u.q) = (1, mQ u.q)) (nw : nrm (mQ w.q) = (1, mQ w.q)) (cu : 0 < u.c) (cw : w.c < 0) (bP : Yy u ≤ 65535) (bQ : Yy w ≤ 65535) (gp : Yy u < Yy w → 1 ≤ (Yy w - Yy u) * 400) (gq : Yy w < Yy u → 1 ≤ (Yy u - Yy w) * 400) (hne : Yy u ≠ Yy w) (hj : ∀ x ∈ Zb [u, w], ZZ RM x) :
  Zb [u, w] ≠ [] ∧ YV (Zb [u, w]) = if Yy u < Yy w then -1 else 1 := by
 obtain ⟨m1, m2⟩ := Li hu hw nu nw (Rat.ne_of_gt cu) (Rat.ne_of_lt cw)
 cases h : yw w.q u.q with
 | false =>
  have hp := m1 h
  have hl : (Zb [u, w]).length = 2 := hp.length_eq
  refine ⟨fun e => (by rw [e] at hl; cases hl), nN hl (fun N => ?_) hu hw cu cw bP bQ gp gq hne⟩
  unfold Zk
  rw [P3 (hp.map _)]
  simp
 | true =>
  obtain ⟨z, z0, z1, z2, z3⟩ := l6 hu hw cu cw h
  have hc : (yr u w).c ≠ 0 := fun e => by
   rw [e, Rat.zero_mul, Rat.zero_mul] at z1
   exact hne (by grind)
  have e := m2 h hc
  rw [e] at hj ⊢
  refine ⟨List.cons_ne_nil _ _, ?_⟩
  have hx := hj _ List.mem_cons_self
  have hs : Yy (yr u w) = (yr u w).c * (yr u w).c * (yr u w).q := rfl
  have fin : 4 ≤ Yy (yr u w) * ((uj : Nat) : Rat) ∧ ((yr u w).c < 0 ↔ Yy u < Yy w) := by
   rw [hs]
   clear hs hx hj e m1 m2 h hu hw nu nw cu cw
   generalize (yr u w).c = c at *
   generalize (yr u w).q = q at *
   generalize Yy u = P at *
   generalize Yy w = Q at *
   have zq := Rat.mul_pos z0 z3
   constructor
   ·have hX : 0 ≤ c * c * q := by
     refine Rat.mul_nonneg ?_ (Rat.le_of_lt z3)
     rcases Rat.le_total (a := 0) (b := c) with h | h
     ·exact Rat.mul_nonneg h h
     ·have := Rat.mul_nonneg (a := -c) (b := -c) (by grind) (by grind)
      grind
    have hD : (c * c * q) * (z * z * q) = (P - Q) * (P - Q) := by rw [← z1]; grind
    have hY : z * z * q ≤ 262140 := by grind
    have h1 := Rat.mul_le_mul_of_nonneg_left hY hX
    have h2 : 1 ≤ (P - Q) * (P - Q) * 160000 := by
     rcases Decidable.em (P < Q) with h | h
     ·have a := gp h
      have b := Rat.mul_le_mul_of_nonneg_left a (show 0 ≤ (Q - P) * 400 by grind)
      grind
     ·have a := gq (Rat.lt_of_le_of_ne (Rat.not_lt.1 h) (Ne.symm hne))
      have b := Rat.mul_le_mul_of_nonneg_left a (show 0 ≤ (P - Q) * 400 by grind)
      grind
    have h3 : ((4 * 262140 * 160000 : Nat) : Rat) ≤ ((uj : Nat) : Rat) := by decide +kernel
    have h4 := Rat.mul_le_mul_of_nonneg_left h3 hX
    have h5 : ((4 * 262140 * 160000 : Nat) : Rat) = 4 * 262140 * 160000 := by decide +kernel
    rw [h5] at h4
    rw [hD] at h1
    generalize c * c * q = X at *
    generalize ((uj : Nat) : Rat) = k at *
    generalize (P - Q) * (P - Q) = D at *
    grind
   ·have e : c * (z * q) = P - Q := by rw [← z1]; grind
    constructor
    ·intro hc
     have := Rat.mul_pos (a := -c) (by grind) zq
     grind
    ·intro hPQ
     rcases Decidable.em (c < 0) with h | h
     ·exact h
     ·have := Rat.mul_nonneg (Rat.not_lt.1 h) (Rat.le_of_lt zq)
      grind
  rw [SO hx hc fin.1]
  rcases Decidable.em (Yy u < Yy w) with hl | hl
  ·rw [if_pos hl, if_pos (fin.2.2 hl)]
  ·rw [if_neg hl, if_neg fun c => hl (fin.2.1 c)]
end Go.Te

namespace Go.Te
open Go Go.Sx Go.Proofs Go.Ar
set_option maxRecDepth 100000
set_option maxHeartbeats 4000000
structure HR (s t : List Tm) : Prop where
 h : iI s t ∨ Jp s t
def MR : List AV → Option (List zk × AV)
 | [x, y] => some ([.b (zC Tm x), .b (zC Tm y), .p (HR (Ze x) (Ze y))], .tup 2 (zw [.i (YV (Zb (Ze (α := Tm) x ++ Zl (-1) (Ze (α := Tm) y)))), .i 0]))
 | _ => none
theorem iE {G : List (Nat × Obj)} (hG : WE G) : zO Tryz.prog G 23 MR := by
 intro xs ps r e hp
 unfold MR at e
 split at e
 ·rename_i x y
  cases e
  obtain ⟨q0, q1, -⟩ := ZH hp
  have q2 : HR (Ze x) (Ze y) := hp _ (List.mem_cons_of_mem _ (List.mem_cons_of_mem _ List.mem_cons_self))
  rcases q2.h with h | h
  ·have := jx hG.tab (Ze x) (Ze y) h
   rw [h.no, show YV [] = 0 from rfl]
   exact weaken (ys := [_, _]) ⟨zg q0, zg q1, trivial⟩ this
  ·exact weaken (ys := [_, _]) ⟨zg q0, zg q1, trivial⟩ (OI hG (Ze x) (Ze y) h)
 ·cases e
noncomputable def IC (G : List (Nat × Obj)) : Tb := (((((((oQ G).plus 18 nh).plus 22 Q3).plus 20 tD).plus 16 pO).plus 23 MR).plus 15 Q7).body Tryz.prog [(21, .auto)]
theorem QJ {G : List (Nat × Obj)} (hG : WE G) : zz Tryz.prog (IC G) := zz.body mixed (zz.plus (zz.plus (zz.plus (zz.plus (zz.plus (zz.plus (yO hG.tab) (Is hG.tab)) (KC hG.tab)) (pI hG.tab)) (Km hG.tab)) (iE hG)) (Kh hG)) _
end Go.Te

namespace Go.Te
open Go Go.Sx Go.Proofs Go.Ar
set_option maxRecDepth 100000
set_option maxHeartbeats 4000000
structure OP (P : Rat) : Prop where
 pos : 0 ≤ P
 num : P.num.natAbs ≤ 65535
 den : P.den ≤ 20
abbrev RR : Nat := 1310700
theorem OP.m {P : Rat} (h : OP P) : mQ P ≤ RR := by
 unfold mQ
 exact Nat.mul_le_mul (show P.num.toNat ≤ 65535 by have := h.num; omega) h.den
theorem ml {n d : Int} (hn : 0 ≤ n ∧ n ≤ 65535) : OP (Rf n d) := by
 have hD0 : 0 < d.toNat % 20 + 1 := by omega
 unfold Rf
 refine ⟨?_, ?_, ?_⟩
 ·rw [Rat.mkRat_eq_div, Rat.div_def]
  exact Rat.mul_nonneg (Rat.intCast_nonneg.2 hn.1) (Rat.le_of_lt (Rat.inv_pos.2 (Rat.natCast_pos.2 hD0)))
 ·rw [Rat.num_mkRat, if_neg (by omega)]
  have hnv : ((Nat.gcd (d.toNat % 20 + 1) n.natAbs : Nat) : Int) ∣ n := Int.ofNat_dvd_left.2 (Nat.gcd_dvd_right _ _)
  rw [← Int.tdiv_eq_ediv_of_dvd hnv]
  exact Nat.le_trans (Int.natAbs_tdiv_le_natAbs n _) (by omega)
 ·rw [Rat.den_mkRat, if_neg (by omega)]
  exact Nat.le_trans (Nat.div_le_self _ _) (by omega)
theorem Kn {P : Rat} (h : OP P) : inT RR [⟨1, P⟩] := fun t ht => by
 rw [List.mem_singleton.1 ht]
 refine ⟨h.pos, ?_⟩
 show (nrm (mQ P)).2 ≤ RR
 rcases Nat.eq_zero_or_pos (mQ P) with e | e
 ·rw [e]; decide +kernel
 ·exact Nat.le_trans (W8 e).2.1 h.m
theorem H5 {P : Rat} (h : OP P) : ∀ x ∈ XT (YU [⟨1, P⟩]), bq 10 x.c := fun x hx => by
 by_cases h0 : P = 0
 ·subst h0
  rw [show XT (YU [(⟨1, 0⟩ : Tm)]) = [] from by decide +kernel] at hx
  cases hx
 ·have e1 : YU [⟨1, P⟩] = [xx ⟨1, P⟩] := by
   unfold YU
   rw [List.filter_cons, if_pos (by rw [decide_eq_true (show (⟨1, P⟩ : Tm).q ≠ 0 from h0)]; rfl), List.filter_nil]
   rfl
  rw [e1] at hx
  rw [List.mem_singleton.1 (show x ∈ [xx ⟨1, P⟩] from hx)]
  show bq 10 (1 * mkRat (nrm (mQ P)).1 P.den)
  rw [Rat.one_mul]
  have hm := Vx (Rat.lt_of_le_of_ne h.pos (Ne.symm h0))
  have := (W8 hm).2.2
  have h3 : mQ P ≤ 1310700 := h.m
  have := h.den
  exact vh P.den_pos (by rw [Int.natAbs_natCast]; omega) (by omega)
theorem NW {P : Rat} (h : OP P) : wk [⟨1, P⟩] := by
 have hi := RX (Kn h) (show RR ≤ RM by decide)
 refine ⟨show 1 ≤ 256 by decide, fun t ht => ?_, fun t ht h0 => ?_, hi, fun k => ?_, Nat.le_trans (YH (by decide) hi).2.1 (show 1 ≤ 16 by decide)⟩
 ·rw [List.mem_singleton.1 ht]
  exact (⟨by decide +kernel, by decide +kernel⟩ : bq 60 (1 : Rat))
 ·rw [List.mem_singleton.1 ht] at h0 ⊢
  have h0 : P ≠ 0 := h0
  show OC (zt P)
  have b1 : bq 5 P := ⟨Nat.lt_of_le_of_lt h.num (by decide), Nat.lt_of_le_of_lt h.den (by decide)⟩
  refine ⟨(ZL (by decide) (by decide)).2 (b1.mono (by decide)), ?_, ?_⟩
  ·rw [zm]
   exact Rat.lt_of_le_of_ne h.pos (Ne.symm h0)
  ·rw [zm]
   have a1 : xa P.num ≤ 5 := Ya (by decide) b1.num
   have a2 : Lib.nDigits P.den ≤ 5 := (z7 (by decide)).2 b1.den
   omega
 ·intro x hx
  match k with
  | 0 => exact absurd hx (by rw [List.take_zero]; intro h; cases h)
  | k + 1 =>
   rw [List.take_succ_cons, List.take_nil] at hx
   exact (H5 h x hx).mono (by decide)
theorem Il {k : Nat} (h : k * k ≤ RR) : k ≤ 1144 := by
 refine Decidable.byContradiction fun hn => ?_
 have h2 := WZ (show 1145 ≤ k by omega)
 have h3 : 1145 * 1145 ≤ RR := Nat.le_trans h2 h
 exact absurd h3 (by decide)
theorem IF {P : Rat} (h : OP P) : wk (yV (Zb [⟨1, P⟩]) (Zb [⟨1, P⟩])) ∧ Zb (yV (Zb [⟨1, P⟩]) (Zb [⟨1, P⟩])) = if P = 0 then [] else [⟨P, 1⟩] := by
 obtain ⟨z, nz⟩ := vo h.pos (Nat.le_trans h.m (by decide))
 by_cases h0 : P = 0
 ·rw [z h0, if_pos h0]
  exact ⟨xn (by decide) (by decide +kernel), by decide +kernel⟩
 ·obtain ⟨u, e, hu, nu, cu, su, k, hk, kb⟩ := nz h0
  rw [e, if_neg h0]
  obtain ⟨q1, m0, m1⟩ := hu.mQ
  obtain ⟨a1, a2⟩ := uT hu hu
  have en : nrm (mQ (xf u u).q) = (mQ u.q, 1) := by rw [a2]; exact sB m0 (Nat.lt_of_le_of_lt (Nat.mul_le_mul m1 m1) (by decide))
  have ex : xx (xf u u) = ⟨P, 1⟩ := by
   unfold xx
   rw [en]
   have e1 : (xf u u).q.den = 1 := by rw [a1.mQ.1]; rfl
   have e2 : (xf u u).c * mkRat ((mQ u.q : Nat) : Int) 1 = P := by
    rw [Rat.mkRat_eq_div, Rat.intCast_natCast, ← q1, ← su]
    show u.c * u.c * (u.q / ((1 : Nat) : Rat)) = u.c * u.c * u.q
    rw [show ((1 : Nat) : Rat) = 1 from rfl]
    grind
   simp only [e1, e2]
   rfl
  have hc : (xf u u).c ≠ 0 := fun e => by
   rcases Rat.mul_eq_zero.1 (show u.c * u.c = 0 from e) with e | e <;> exact absurd e (Rat.ne_of_gt cu)
  have hq : (xf u u).q ≠ 0 := fun e => by
   have := a1.mQ.2.1
   rw [e] at this
   exact absurd this (by decide +kernel)
  have e1 : YU [xf u u] = [⟨P, 1⟩] := by
   unfold YU
   rw [List.filter_cons, if_pos (by rw [decide_eq_true hc, decide_eq_true hq]; rfl), List.filter_nil, List.map_cons, List.map_nil, ex]
  have e2 : Zb [xf u u] = [⟨P, 1⟩] := by
   unfold Zb Yo
   rw [e1]
   show Xe (([⟨P, 1⟩] : List Tm).filter _) = _
   rw [List.filter_cons, if_pos (by simpa using h0), List.filter_nil]
   rfl
  show wk [xf u u] ∧ Zb [xf u u] = _
  have bP : bq 60 P := ⟨Nat.lt_of_le_of_lt h.num (by decide), Nat.lt_of_le_of_lt h.den (by decide)⟩
  have bu : bq 10 u.c := by
   have h3 : mQ P ≤ 1310700 := h.m
   have := Il (Nat.le_trans kb h.m)
   have := h.den
   rw [hk]
   exact vh P.den_pos (by rw [Int.natAbs_natCast]; omega) (by omega)
  have hin : inT RM [xf u u] := fun t ht => by
   rw [List.mem_singleton.1 ht]
   exact ⟨(Xj a1).1, by rw [en]; exact (show 1 ≤ RM by decide)⟩
  refine ⟨⟨show 1 ≤ 256 by decide, fun t ht => ?_, fun t ht _ => ?_, hin, fun k => ?_, by rw [e2]; exact (show 1 ≤ 16 by decide)⟩, e2⟩
  ·rw [List.mem_singleton.1 ht]
   exact (sN bu bu).mono (by decide)
  ·rw [List.mem_singleton.1 ht]
   have mm : mQ u.q * mQ u.q < 10 ^ 16 := Nat.lt_of_le_of_lt (Nat.mul_le_mul m1 m1) (by decide)
   have eq : (xf u u).q = ((mQ u.q * mQ u.q : Nat) : Rat) := by rw [a1.mQ.1, a2]
   generalize mQ u.q * mQ u.q = r at *
   have b1 : bq 16 (xf u u).q := by
    rw [eq]
    exact ⟨by rw [Rat.num_natCast, Int.natAbs_natCast]; exact mm, by rw [Rat.den_natCast]; decide⟩
   refine ⟨(ZL (by decide) (by decide)).2 (b1.mono (by decide)), ?_, ?_⟩
   ·rw [zm]
    exact Rat.lt_of_le_of_ne (Xj a1).1 (Ne.symm hq)
   ·rw [zm]
    have c1 : xa (xf u u).q.num ≤ 16 := Ya (by decide) b1.num
    have c2 : Lib.nDigits (xf u u).q.den ≤ 1 := (z7 (by decide)).2 (by rw [eq, Rat.den_natCast]; decide)
    omega
  ·intro x hx
   match k with
   | 0 => exact absurd hx (by rw [List.take_zero]; intro h; cases h)
   | k + 1 =>
    rw [List.take_succ_cons, List.take_nil, e1] at hx
    rw [List.mem_singleton.1 (show x ∈ [(⟨P, 1⟩ : Tm)] from hx)]
    exact bP
theorem Nm {P : Rat} (h : OP P) : gS RR (Zb [⟨1, P⟩]) ∧ (Zb [⟨1, P⟩]).length ≤ 1 ∧ Xn (Zb [⟨1, P⟩]) ∧ ∀ x ∈ Zb [⟨1, P⟩], bq 10 x.c ∧ ∀ d : Nat, d ≤ 20 → ∃ z : Int, x.c * ((P.den * d : Nat) : Rat) = (z : Rat) ∧ z.natAbs ≤ 1144 * 20 := by
 obtain ⟨g1, g2, _⟩ := YH (by decide) (Kn h)
 refine ⟨g1, g2, Vt (NW h), ?_⟩
 obtain ⟨z, nz⟩ := vo h.pos (Nat.le_trans h.m (by decide))
 by_cases h0 : P = 0
 ·rw [z h0]
  intro x hx
  cases hx
 ·obtain ⟨u, e, hu, nu, cu, su, k, hk, kb⟩ := nz h0
  rw [e]
  intro x hx
  rw [List.mem_singleton.1 hx]
  have kk := Il (Nat.le_trans kb h.m)
  have dd := h.den
  have hd : (P.den : Rat) ≠ 0 := fun e => P.den_nz (Rat.natCast_eq_zero_iff.1 e)
  refine ⟨by rw [hk]; exact vh P.den_pos (by rw [Int.natAbs_natCast]; omega) (by omega), fun d hd20 => ⟨((k * d : Nat) : Int), ?_, by rw [Int.natAbs_natCast]; exact Nat.mul_le_mul kk hd20⟩⟩
  rw [hk, Rat.mkRat_eq_div, Rat.intCast_natCast, Rat.intCast_natCast, Rat.natCast_mul, Rat.natCast_mul]
  generalize (P.den : Rat) = y at *
  grind
theorem jU {P Q : Rat} (hP : OP P) (hQ : OP Q) : wk (Zb [⟨1, P⟩] ++ Zl (-1) (Zb [⟨1, Q⟩])) ∧ gS RR (Zb (Zb [⟨1, P⟩] ++ Zl (-1) (Zb [⟨1, Q⟩]))) ∧ ∀ x ∈ Zb (Zb [⟨1, P⟩] ++ Zl (-1) (Zb [⟨1, Q⟩])), bq 17 x.c := by
 obtain ⟨g1, l1, _, b1⟩ := Nm hP
 obtain ⟨g2, l2, _, b2⟩ := Nm hQ
 generalize Zb [(⟨1, P⟩ : Tm)] = s at *
 generalize Zb [(⟨1, Q⟩ : Tm)] = t at *
 have hn : ∀ x ∈ s ++ Zl (-1) t, ZZ RR x := Np g1.nat (mH g2.nat)
 have hi : inT RR (s ++ Zl (-1) t) := fun x hx => Xj (hn x hx)
 have hL : 0 < P.den * Q.den := Nat.mul_pos P.den_pos Q.den_pos
 have hL2 : P.den * Q.den ≤ 20 * 20 := Nat.mul_le_mul hP.den hQ.den
 have hm : sV (P.den * Q.den) (1144 * 20) (s ++ Zl (-1) t) := fun x hx => by
  rcases List.mem_append.1 hx with h | h
  ·exact (b1 x h).2 _ hQ.den
  ·unfold Zl at h
   obtain ⟨y, hy, rfl⟩ := List.mem_map.1 h
   obtain ⟨z, z1, z2⟩ := (b2 y hy).2 _ hP.den
   refine ⟨-z, ?_, by rw [Int.natAbs_neg]; exact z2⟩
   rw [Nat.mul_comm, Rat.intCast_neg, ← z1]
   show y.c * -1 * _ = _
   grind
 have ll : (s ++ Zl (-1) t).length ≤ 2 := by rw [List.length_append, Q6]; omega
 have hp := (Q9 hn hm).mono (Nat.mul_le_mul_right _ ll)
 obtain ⟨h1, h2, h3⟩ := YH (by decide) hi
 refine ⟨Jc ⟨hL, Nat.lt_of_le_of_lt (Nat.mul_le_mul_right _ hL2) (by decide)⟩ (by omega) (by omega) (fun x hx => Wt (hn x hx) (by decide)) (Jl (fun x hx => (b1 x hx).1.mono (by decide)) (J9 fun x hx => (b2 x hx).1.mono (by decide))) hp (by decide), h1, ?_⟩
 exact pH hL h1.nat h1.unr h3 hp (by decide) (Nat.lt_of_le_of_lt (Nat.mul_le_mul_right _ hL2) (by decide))
theorem KJ {x : Tm} {p : Int} (hx : ZZ RR x) (h0 : x.c ≠ 0) (hb : bq 17 x.c) (hp : 0 ≤ p ∧ p ≤ 16) : Qf x p := by
 refine ⟨h0, hb.mono (by decide), Wt hx (by decide), by omega, ?_⟩
 unfold wz
 have a := Nat.mul_lt_mul'' hb.num hb.num
 have b : x.c.num.natAbs * x.c.num.natAbs * mQ x.q ≤ 10 ^ 17 * 10 ^ 17 * RR := Nat.mul_le_mul (Nat.le_of_lt a) hx.mQ.2.2
 have c : 10 ^ (2 * p.toNat) ≤ 10 ^ 32 := Nat.pow_le_pow_right (by decide) (by omega)
 exact Nat.lt_of_le_of_lt (Nat.mul_le_mul b c) (by decide)
theorem JE {P Q : Rat} (hP : OP P) (hQ : OP Q) (bP : P ≤ 65535) (bQ : Q ≤ 65535) (gp : P < Q → 1 ≤ (Q - P) * 400) (gq : Q < P → 1 ≤ (P - Q) * 400) :
  HR (Zb [⟨1, P⟩]) (Zb [⟨1, Q⟩]) ∧ YV (Zb (Zb [⟨1, P⟩] ++ Zl (-1) (Zb [⟨1, Q⟩]))) = if P < Q then -1 else if Q < P then 1 else 0 := by
 obtain ⟨m, g, b⟩ := jU hP hQ
 obtain ⟨g1, l1, o1, _⟩ := Nm hP
 obtain ⟨g2, l2, o2, _⟩ := Nm hQ
 have irr : ∀ x : Rat, ¬x < x := fun x h => Rat.not_lt.2 (Rat.le_refl) h
 by_cases he : P = Q
 ·subst he
  have z := sub_zero (by decide) g1.inT g1.inT (fun _ _ => rfl)
  exact ⟨⟨.inl ⟨o1, o1, m, z⟩⟩, by rw [z, if_neg (irr _), if_neg (irr _)]; rfl⟩
 ·have key : Zb (Zb [⟨1, P⟩] ++ Zl (-1) (Zb [⟨1, Q⟩])) ≠ [] ∧ YV (Zb (Zb [⟨1, P⟩] ++ Zl (-1) (Zb [⟨1, Q⟩]))) = if P < Q then -1 else 1 := by
   obtain ⟨zP, nP⟩ := vo hP.pos (Nat.le_trans hP.m (by decide))
   obtain ⟨zQ, nQ⟩ := vo hQ.pos (Nat.le_trans hQ.m (by decide))
   have k4 : ∀ x : Rat, 1 ≤ x * 400 → 4 ≤ x * ((uj : Nat) : Rat) := fun x h => by
    have h3 : (1600 : Rat) ≤ ((uj : Nat) : Rat) := by decide +kernel
    have x0 : 0 ≤ x := by grind
    have := Rat.mul_le_mul_of_nonneg_left h3 x0
    grind
   have self : ∀ {t : Tm}, ZZ RM t → nrm (mQ t.q) = (1, mQ t.q) → xx t = t := fun {t} h g => by
    have e := h.mQ.1
    have := tB (c := t.c) g
    rw [← e] at this
    exact this
   have q0 : ∀ {t : Tm}, ZZ RM t → t.q ≠ 0 := fun h e => by
    have := h.mQ.2.1
    rw [e] at this
    exact absurd this (by decide +kernel)
   by_cases p0 : P = 0
   ·have hQ0 : Q ≠ 0 := fun e => he (by rw [p0, e])
    have hlt : P < Q := by rw [p0]; exact Rat.lt_of_le_of_ne hQ.pos (Ne.symm hQ0)
    obtain ⟨w, e, hw, nw, cw, sw, _⟩ := nQ hQ0
    rw [zP p0, e]
    have hc : (⟨w.c * -1, w.q⟩ : Tm).c < 0 := show w.c * -1 < 0 by grind
    have er : Zb ([] ++ Zl (-1) [w]) = [⟨w.c * -1, w.q⟩] := pS (t := ⟨w.c * -1, w.q⟩) (Rat.ne_of_lt hc) (q0 hw) (self (t := ⟨w.c * -1, w.q⟩) hw nw)
    have es : Yy ⟨w.c * -1, w.q⟩ = Q := by rw [← sw]; unfold Yy; grind
    rw [er]
    refine ⟨List.cons_ne_nil _ _, ?_⟩
    rw [SO (x := ⟨w.c * -1, w.q⟩) hw (Rat.ne_of_lt hc) (by rw [es]; exact k4 Q (by have := gp hlt; rw [p0] at this; grind)), if_pos hc, if_pos hlt]
   ·obtain ⟨u, e, hu, nu, cu, su, _⟩ := nP p0
    by_cases hq0 : Q = 0
    ·have hlt : Q < P := by rw [hq0]; exact Rat.lt_of_le_of_ne hP.pos (Ne.symm p0)
     rw [zQ hq0, e]
     have er : Zb ([u] ++ Zl (-1) []) = [u] := pS (Rat.ne_of_gt cu) (q0 hu) (self hu nu)
     rw [er]
     refine ⟨List.cons_ne_nil _ _, ?_⟩
     rw [SO hu (Rat.ne_of_gt cu) (by rw [su]; exact k4 P (by have := gq hlt; rw [hq0] at this; grind)), if_neg (Rat.not_lt.2 (Rat.le_of_lt cu)), if_neg (Rat.not_lt.2 (Rat.le_of_lt hlt))]
    ·obtain ⟨w, e2, hw, nw, cw, sw, _⟩ := nQ hq0
     rw [e, e2] at g ⊢
     have es : Yy ⟨w.c * -1, w.q⟩ = Q := by rw [← sw]; unfold Yy; grind
     have := kJ (u := u) (w := ⟨w.c * -1, w.q⟩) hu hw nu nw cu (show w.c * -1 < 0 by grind) (by rw [su]; exact bP) (by rw [es]; exact bQ) (by rw [su, es]; exact gp) (by rw [su, es]; exact gq) (by rw [su, es]; exact he) fun x hx => Wt (g.nat x hx) (by decide)
     rw [su, es] at this
     exact this
  have hs : YV (Zb (Zb [⟨1, P⟩] ++ Zl (-1) (Zb [⟨1, Q⟩]))) ≠ 0 := by
   rw [key.2]
   split <;> decide
  have hlen := (YH (R := RR) (l := Zb [⟨1, P⟩] ++ Zl (-1) (Zb [⟨1, Q⟩])) (by decide) (u7 g1.inT (PW g2.inT))).2.1
  rw [List.length_append, Q6] at hlen
  refine ⟨⟨.inr ⟨o1, o2, m, ⟨List.length_pos_iff.2 key.1, by omega, fun t ht => KJ (g.nat t ht) (g.ne t ht) (b t ht) (by decide), fun _ t ht => KJ (g.nat t ht) (g.ne t ht) (b t ht) (by decide), hs⟩⟩⟩, ?_⟩
  rw [key.2]
  split
  ·rfl
  ·rename_i h
   rw [if_pos (Rat.lt_of_le_of_ne (Rat.not_lt.1 h) (Ne.symm he))]
end Go.Te

namespace Go.Te
open Go Go.Sx Go.Proofs Go.Ar
set_option maxRecDepth 100000
set_option maxHeartbeats 4000000
theorem OO (a b c d : Int) : (Rf b d - Rf a c) * (((c.toNat % 20 + 1) * (d.toNat % 20 + 1) : Nat) : Rat) = ((b * ((c.toNat % 20 + 1 : Nat) : Int) - a * ((d.toNat % 20 + 1 : Nat) : Int) : Int) : Rat) := by
 unfold Rf
 have h1 : ((c.toNat % 20 + 1 : Nat) : Rat) ≠ 0 := fun e => by have := Rat.natCast_eq_zero_iff.1 e; omega
 have h2 : ((d.toNat % 20 + 1 : Nat) : Rat) ≠ 0 := fun e => by have := Rat.natCast_eq_zero_iff.1 e; omega
 rw [Rat.mkRat_eq_div, Rat.mkRat_eq_div, Rat.natCast_mul, Rat.intCast_sub, Rat.intCast_mul, Rat.intCast_mul, Rat.intCast_natCast, Rat.intCast_natCast]
 generalize ((c.toNat % 20 + 1 : Nat) : Rat) = x at *
 generalize ((d.toNat % 20 + 1 : Nat) : Rat) = y at *
 grind
theorem MX {P Q : Rat} {m n : Int} {D : Nat} (h : (Q - P) * (D : Rat) = ((n - m : Int) : Rat)) (hD : 0 < D) (hD2 : D ≤ 400) : (P < Q ↔ m < n) ∧ (P < Q → 1 ≤ (Q - P) * 400) := by
 have d0 : (0 : Rat) < (D : Rat) := Rat.natCast_pos.2 hD
 have d4 : (D : Rat) ≤ 400 := Rat.natCast_le_natCast.2 hD2
 have f : P < Q → m < n := fun hl => by
  have := Rat.mul_pos (a := Q - P) (by grind) d0
  rw [h] at this
  have := Rat.intCast_pos.1 this
  omega
 refine ⟨⟨f, fun hl => ?_⟩, fun hl => ?_⟩
 ·rcases Decidable.em (P < Q) with g | g
  ·exact g
  ·have h1 := Rat.mul_nonneg (a := P - Q) (b := (D : Rat)) (by grind) (Rat.le_of_lt d0)
   have h2 : (0 : Rat) < ((n - m : Int) : Rat) := Rat.intCast_pos.2 (by omega)
   grind
 ·have h1 := f hl
  have h2 : (1 : Rat) ≤ ((n - m : Int) : Rat) := by
   have : ((1 : Int) : Rat) ≤ ((n - m : Int) : Rat) := Rat.intCast_le_intCast.2 (by omega)
   exact this
  rw [← h] at h2
  have h3 := Rat.mul_le_mul_of_nonneg_left d4 (show 0 ≤ Q - P by grind)
  grind
theorem Kj {n d : Int} (hn : 0 ≤ n ∧ n ≤ 65535) : Rf n d ≤ 65535 := by
 unfold Rf
 have h1 : (0 : Rat) < ((d.toNat % 20 + 1 : Nat) : Rat) := Rat.natCast_pos.2 (by omega)
 have h2 : (1 : Rat) ≤ ((d.toNat % 20 + 1 : Nat) : Rat) := by
  have : ((1 : Nat) : Rat) ≤ ((d.toNat % 20 + 1 : Nat) : Rat) := Rat.natCast_le_natCast.2 (by omega)
  exact this
 have h3 : (n : Rat) ≤ 65535 := by
  have : (n : Rat) ≤ ((65535 : Int) : Rat) := Rat.intCast_le_intCast.2 hn.2
  exact this
 rw [Rat.mkRat_eq_div]
 refine Rat.le_of_mul_le_mul_right ?_ h1
 generalize ((d.toNat % 20 + 1 : Nat) : Rat) = y at *
 generalize (n : Rat) = x at *
 have y0 : y ≠ 0 := Rat.ne_of_gt h1
 have e : x / y * y = x := by grind
 rw [e]
 grind
theorem S4 (G : List (Nat × Obj)) (a b c d : Int) (ha : 0 ≤ a ∧ a ≤ 65535) (hb : 0 ≤ b ∧ b ≤ 65535) (hc : 0 ≤ c ∧ c ≤ 255) (hd : 0 ≤ d ∧ d ≤ 255) :
 let q2 := (bA #[(49 : UInt8)]); let q1 := (AV.xl true 2 1 (Sx.rowAt [zw [AV.str q2, AV.str (zt (Rf a c))]])); let q3 := (Ze q1); let q4 := (AV.xl true 2 1 (Sx.rowAt [zw [AV.str q2, AV.str (zt (Rf b d))]])); let q5 := (Ze q4); let q8 := (Zb q3); let q7 := (AV.xl false 2 (lN q8) fun i j => zS.enc (gD q8 i zS.dflt) j); let q6 := (zC Tm q7); let q9 := (Ze q7); let q10 := (yV q9 q9); let q12 := (Zb q10); let q11 := (AV.xl false 2 (lN q12) fun i j => zS.enc (gD q12 i zS.dflt) j); let q13 := (Ze q11);
 let q15 := (Zb q5); let q14 := (AV.xl false 2 (lN q15) fun i j => zS.enc (gD q15 i zS.dflt) j); let q16 := (Ze q14); let q19 := (if iZ > if iZ > if iZ > if iZ > iZ then iZ else iZ then iZ else if iZ > iZ then iZ else iZ then iZ else if iZ > if iZ > iZ then iZ else iZ then iZ else if iZ > iZ then iZ else iZ then iZ else if iZ > if iZ > if iZ > iZ then iZ else iZ then (0
 : Int) else if iZ > iZ then iZ else iZ then iZ else if iZ > if iZ > iZ then iZ else iZ then iZ else if iZ > iZ then iZ else iZ); let q21 := (gD q13 0 zS.dflt); let q20 := (lN q13 = 0 ∨ lN q13 = 1 ∧ Tm.q q21 = (1 : Rat)); let q18 := (bif q19 != iZ then true else !decide q20); let q17 := (!zr false q18 || zr false q18); let q22 := (a * (Int.tmod d (20 : Int) + iO)); let q23 := (b * (Int.tmod c (20 : Int) + iO)); let q24 := (Zb (Ze q7 ++ Zl
 (-1 : Rat) q16)); Zv [AV.v (Value.int IntKind.u16 a), AV.v (Value.int IntKind.u16 b), AV.v (Value.int IntKind.u8 c), AV.v (Value.int IntKind.u8 d)] → (iZ ≤ a ∧ a ≤ (65535 : Int)) ∧ (iZ ≤ c ∧ c ≤ (255 : Int)) ∧ (iZ ≤ b ∧ b ≤ (65535 : Int)) ∧ (iZ ≤ d ∧ d ≤ (255 : Int)) ∧ bF (zC Tm q1) (wk q3 ∧ bF (zC Tm q4) (wk q5 ∧ bF q6 (bF q6 (Xn q9 ∧ Xn q9 ∧ wk q10 ∧ bF (zC Tm q11) (Xn q13 ∧ bF q6 (bF (zC Tm q14) (HR q9 q16 ∧ bF q17 (bF q17 (bF ((!!bif q19 != iZ then true else !decide q20) || zr false q18) (zZ
 (bif bif q19 != iZ then true else !decide q20 then true else !(if lN q13 = 0 then [(48 : UInt8)] else if lN q13 = 1 ∧ Tm.q q21 = (1 : Rat) then zt (Tm.c q21) else []) == zt (Rf a c)) (false = true) (bF (dK a) (bF (dK d) (bF (dK (Int.tmod d (20 : Int) + iO)) (bF (dK q22) (bF (dK b) (bF (dK c) (bF (dK (Int.tmod c (20 : Int) + iO)) (bF (dK q23) (zZ (zF q22 q23) (bF (!YV q24 == (-1 : Int) || zr true
 (YV q24 == (-1 : Int))) ((bif YV q24 == (-1 : Int) then true else false) = true)) (zZ (zF q23 q22) (bF (!YV q24 == iO || zr true (YV q24 == iO)) ((bif YV q24 == iO then true else false) = true)) (bF (!YV q24 == iZ || zr true (YV q24 == iZ)) ((bif YV q24 == iZ then true else false) = true)))))))))))))))))))))) := by
 delta bF dK bA lN gD iZ iO
 dsimp only
 intro hbb
 simp only [sS, Yw, yQ, zm, yY, ye, xb, YJ, Xk, xz, Xf, xr, dS]
 have y1 : c.tmod 20 + 1 = ((c.toNat % 20 + 1 : Nat) : Int) := by rw [Int.tmod_eq_emod_of_nonneg (by omega)]; omega
 have y2 : d.tmod 20 + 1 = ((d.toNat % 20 + 1 : Nat) : Int) := by rw [Int.tmod_eq_emod_of_nonneg (by omega)]; omega
 have hD : 0 < (c.toNat % 20 + 1) * (d.toNat % 20 + 1) := Nat.mul_pos (by omega) (by omega)
 have hD2 : (c.toNat % 20 + 1) * (d.toNat % 20 + 1) ≤ 400 := Nat.mul_le_mul (show _ ≤ 20 by omega) (show _ ≤ 20 by omega)
 have t1 := OO a b c d
 have t2 := OO b a d c
 rw [Nat.mul_comm] at t2
 have i1 := MX t1 hD hD2
 have i2 := MX t2 hD hD2
 have bP := Kj (d := c) ha
 have bQ := Kj (d := d) hb
 rw [y1, y2]
 clear t1 t2
 have z1 : c.toNat % 20 + 1 ≤ 20 := by omega
 have z2 : d.toNat % 20 + 1 ≤ 20 := by omega
 generalize c.toNat % 20 + 1 = Y1 at *
 generalize d.toNat % 20 + 1 = Y2 at *
 have b1 : 0 ≤ a * (Y2 : Int) ∧ a * (Y2 : Int) ≤ 65535 * 20 := ⟨Int.mul_nonneg ha.1 (by omega), Int.mul_le_mul ha.2 (by omega) (by omega) (by omega)⟩
 have b2 : 0 ≤ b * (Y1 : Int) ∧ b * (Y1 : Int) ≤ 65535 * 20 := ⟨Int.mul_nonneg hb.1 (by omega), Int.mul_le_mul hb.2 (by omega) (by omega) (by omega)⟩
 obtain ⟨P1, P2⟩ : ∃ P, Rf a c = P := ⟨_, rfl⟩
 obtain ⟨Q1, Q2⟩ : ∃ Q, Rf b d = Q := ⟨_, rfl⟩
 have hP := ml (d := c) ha
 have hQ := ml (d := d) hb
 rw [P2] at hP bP i1 i2
 rw [Q2] at hQ bQ i1 i2
 simp only [P2, Q2, ← KI, I5, K8]
 have s1 := IF hP
 have o1 := (Nm hP).2.2.1
 have o2 := Vt s1.1
 rw [s1.2] at o2
 simp only [s1.2]
 obtain ⟨k1, k2⟩ := JE hP hQ bP bQ i1.2 i2.2
 refine ⟨ha, hc, hb, hd, zY.2 ⟨fun _ => ⟨NW hP, zY.2 ⟨fun _ => ⟨NW hQ, o1, o1, s1.1, o2, k1, zY.2 ⟨fun e => ?_, fun _ => ⟨by simp only [ZA]; omega, by simp only [ZA]; omega, by simp only [ZA]; omega, by simp only [ZA]; omega, by simp only [ZA]; omega, by simp only [ZA]; omega, by simp only [ZA]; omega, by simp only [ZA]; omega, fun h => ?_, fun h => ⟨fun g => ?_, fun g => ?_⟩⟩⟩⟩, fun e => by cases e⟩⟩, fun e => by cases e⟩⟩
 ·exfalso
  by_cases h0 : P1 = 0
  ·rw [if_pos h0, h0] at e
   revert e
   decide +kernel
  ·rw [if_neg h0] at e
   have d1 : decide (([(⟨P1, 1⟩ : Tm)]).length = 0 ∨ ([(⟨P1, 1⟩ : Tm)]).length = 1 ∧ (([(⟨P1, 1⟩ : Tm)]).getD 0 zS.dflt).q = 1) = true := decide_eq_true (.inr ⟨rfl, rfl⟩)
   have i0 : (if ([(⟨P1, 1⟩ : Tm)]).length = 0 then [48] else if ([(⟨P1, 1⟩ : Tm)]).length = 1 ∧ (([(⟨P1, 1⟩ : Tm)]).getD 0 zS.dflt).q = 1 then zt (([(⟨P1, 1⟩ : Tm)]).getD 0 zS.dflt).c else []) = zt P1 := by
    rw [if_neg (by simp), if_pos ⟨rfl, rfl⟩]
    rfl
   rw [d1, i0, beq_self_eq_true] at e
   revert e
   decide
 ·rw [k2, if_pos (i1.1.2 (by omega))]
  rfl
 ·have n1 : ¬P1 < Q1 := fun e => by have := i1.1.1 e; omega
  rw [k2, if_neg n1, if_pos (i2.1.2 (by omega))]
  rfl
 ·have n1 : ¬P1 < Q1 := fun e => by have := i1.1.1 e; omega
  have n2 : ¬Q1 < P1 := fun e => by have := i2.1.1 e; omega
  rw [k2, if_neg n1, if_neg n2]
  rfl
theorem rR {G : List (Nat × Obj)} (hG : WE G) (a b c d : Int) (ha : 0 ≤ a ∧ a ≤ 65535) (hb : 0 ≤ b ∧ b ≤ 65535) (hc : 0 ≤ c ∧ c ≤ 255) (hd : 0 ≤ d ∧ d ≤ 255) : zU Tryz.prog G 6 [.v (.int .u16 a), .v (.int .u16 b), .v (.int .u8 c), .v (.int .u8 d)] (.b true) :=
 zW (T := IC G) (an := .auto) mixed (QJ hG) (Eq.mp (by kernel_rfl) (S4 G a b c d ha hb hc hd))
end Go.Te

namespace Go.Proofs.YthbpnknhfokadaaGreatDoor.surdRoots
open Go Go.ChangeShapes Go.WideShapes Go.ChangeAt Go.RowKit
theorem own : ownKnob Tryz.prog.godebug = none := by kernel_rfl
theorem QI : Tryz.prog.globalNamed "internal/strconv.uint64pow10" = some 1 := by kernel_rfl
theorem laidOut : laidOutB Tryz.prog = true := by kernel_rfl
theorem nl : Tryz.prog.readableRec 38 = true := by kernel_rfl
theorem Oj : (38 : TypeId) < Tryz.prog.types.size := of_decide_eq_true (by kernel_rfl)
theorem Me : Tryz.prog.readableRec 5 = true := by kernel_rfl
theorem lO : (5 : TypeId) < Tryz.prog.types.size := of_decide_eq_true (by kernel_rfl)
theorem Xi {W W' : World} (h : Below W.heap.size W W') (may : MemPlace → Prop) : W.keptBut W' may := by
 refine ⟨h.os, h.output, fun i hi => ?_⟩
 rw [h.block i hi]
 cases hh : W.heap[i]? with
 | none => rfl
 | some o => cases o <;> simp
theorem XH {W W' : World} (h : Below W.heap.size W W') {p : MemPlace} (hp : p.block < W.heap.size) : W.sameAt W' p := by
 cases p with
 | cell b off =>
  show W'.cell? _ = W.cell? _
  exact World.cell?_of_block (h.block b hp)
 | map b => exact h.block b hp
theorem VJ {H : Type} {enc : TypeId × Value → H} {P : Program} {f : Func} {s : ChangeSpec} {apart fresh handsOn again : Bool} {W W' : World} {args : Array Value} {v : Value} {ds gs : List (DataW H)} {before pa pv : List MemPlace}
  (hW : DataW.Whole enc P f.params.toList s.vars apart W args.toList ds gs before)
  (hres : ∀ (b : Nat) (sp : Nat → Bool) (hd : Bool), DataW.TrodAll enc P W' b sp hd f.resultTypes.toList (v.resultList f.resultTypes.size) (s.fn H (ds ++ gs)).results [])
  (hargs : ∀ sp : Nat → Bool, (∀ p ∈ before, sp p.block = true) → DataW.TrodAll enc P W' 0 sp true f.params.toList args.toList (s.fn H (ds ++ gs)).args pa)
  (hvars : ∀ sp : Nat → Bool, (∀ p ∈ before, sp p.block = true) → DataW.TrodVars enc P W' sp s.vars (s.fn H (ds ++ gs)).vars pv)
  (hps : before = pa ++ pv) (hb : Below W.heap.size W W')
  (hok : ∀ (j : Nat) (t : TypeId) (r : Value), f.resultTypes[j]? = some t → (v.resultList f.resultTypes.size)[j]? = some r → Value.okWide P W' .any 0 t r) :
  s.post enc P f apart fresh handsOn again W args v W' := by
 have hlt : ∀ p ∈ before, p.block < W.heap.size := fun p hp => hW.lt p hp
 have hold : ∀ p ∈ before, (fun b => decide (b < W.heap.size)) p.block = true := fun p hp => by simpa using hlt p hp
 refine ⟨ds, gs, before, [], pa, pv, hW, hres _ _ _, hargs _ hold, hvars _ hold, Xi hb _, fun _ => ?_⟩
 obtain ⟨_, _, _, _, _, hz, hn⟩ := hW
 refine ⟨hok, _, _, ([] ++ pa) ++ pv, ⟨[] ++ pa, pv, trodAll_append (hargs _ (fun _ _ => rfl)) (hres _ _ _), hvars _ (fun _ _ => rfl), rfl, ?_, ?_⟩, ?_⟩
 ·intro b off hp
  have hp' : MemPlace.cell b off ∈ before := by rw [hps]; simpa using hp
  have e : W'.frozen? ⟨b, off, none⟩ = W.frozen? ⟨b, off, none⟩ := by
   unfold World.frozen?
   rw [hb.block b (hlt _ hp')]
  rw [e]
  exact hz b off hp'
 ·intro ha
  have := hn ha
  rw [hps] at this
  simpa using this
 ·intro p hp _
  rw [hps]
  simpa using hp
theorem table {W : World} (h : laidMetH Tryz.prog Rows.surdRootsRow.laid W) : ∃ cs t fr, W.heap[1]? = some (.cells cs t fr) ∧ cs = (Lib.pow10Tab.map fun z => Value.int .u64 z).toArray := by
 have h' : laidMet Tryz.prog (("math/bits.deBruijn32tab", Rows.laid_math_bits_deBruijn32tab) :: ("math/bits.deBruijn64tab", Rows.laid_math_bits_deBruijn64tab) :: ("internal/strconv.uint64pow10", Rows.laid_internal_strconv_uint64pow10) :: [("unicode/utf8.acceptRanges", Rows.laid_unicode_utf8_acceptRanges), ("strconv.ErrRange", Rows.laid_strconv_ErrRange), ("strconv.ErrSyntax", Rows.laid_strconv_ErrSyntax), ("kingpost/root.primes", Rows.laid_kingpost_root_primes), ("kingpost/surd.signPlaces", Rows.laid_kingpost_surd_signPlaces), ("unicode/utf8.first", Rows.laid_unicode_utf8_first)]) W := h
 obtain ⟨ps, ⟨_, _, _, _, _, _, _, _, _, _, ⟨_, _, _, _, _, _, _, _, _, _, ⟨g, t, cs, fuel, p, q, hg, hty, hvar, hd, _⟩, _⟩, _⟩, _⟩ := h'
 obtain rfl := Option.some.inj (QI.symm.trans hg)
 have hcs : cs.toList = Lib.pow10Tab.map fun z => Value.int .u64 z := by
  obtain rfl : t = 216 := Option.some.inj ((show (Tryz.prog.globals[1]?).map (·.type) = some 216 by kernel_rfl).symm.trans hty) |>.symm
  exact Lib.cells_of_tab (n := 20) (e := 160) (zs := Lib.pow10Tab) (by kernel_rfl) (by kernel_rfl) (by kernel_rfl) (by kernel_rfl) hd
 unfold World.var? at hvar
 rw [QI] at hvar
 simp only [Option.bind_some] at hvar
 split at hvar
 ·rename_i cs' t' fr hh
  cases hvar
  exact ⟨_, _, _, hh, by rw [← hcs]⟩
 ·cases hvar
theorem rC : Tryz.prog.globalNamed "kingpost/root.primes" = some 2 := by kernel_rfl
theorem R3 {W : World} (h : laidMetH Tryz.prog Rows.surdRootsRow.laid W) : ∃ t fr, W.heap[2]? = some (.cells Te.zM t fr) := by
 have h' : laidMet Tryz.prog (("math/bits.deBruijn32tab", Rows.laid_math_bits_deBruijn32tab) :: ("math/bits.deBruijn64tab", Rows.laid_math_bits_deBruijn64tab) :: ("internal/strconv.uint64pow10", Rows.laid_internal_strconv_uint64pow10) :: [("unicode/utf8.acceptRanges", Rows.laid_unicode_utf8_acceptRanges), ("strconv.ErrRange", Rows.laid_strconv_ErrRange), ("strconv.ErrSyntax", Rows.laid_strconv_ErrSyntax), ("kingpost/root.primes", Rows.laid_kingpost_root_primes), ("kingpost/surd.signPlaces", Rows.laid_kingpost_surd_signPlaces), ("unicode/utf8.first", Rows.laid_unicode_utf8_first)]) W := h
 obtain ⟨ps, ⟨_, _, _, _, _, _, _, _, _, _, ⟨_, _, _, _, _, _, _, _, _, _, ⟨_, _, _, _, _, _, _, _, _, _, ⟨_, _, _, _, _, _, _, _, _, _, ⟨_, _, _, _, _, _, _, _, _, _, ⟨_, _, _, _, _, _, _, _, _, _, ⟨g, t, cs, fuel, p, q, hg, hty, hvar, hd, _⟩, _⟩, _⟩, _⟩, _⟩, _⟩, _⟩, _⟩ := h'
 obtain rfl := Option.some.inj (rC.symm.trans hg)
 have hcs : cs.toList = Te.zM.toList := by
  obtain rfl : t = 218 := Option.some.inj ((show (Tryz.prog.globals[2]?).map (·.type) = some 218 by kernel_rfl).symm.trans hty) |>.symm
  exact (Te.Wa (n := 25) (e := 9) (zs := Te.sZ) Tryz.underlying218 Tryz.underlying9 (by kernel_rfl) (by kernel_rfl) hd).trans Te.tu
 unfold World.var? at hvar
 rw [rC] at hvar
 simp only [Option.bind_some] at hvar
 split at hvar
 ·rename_i cs' t' fr hh
  cases hvar
  exact ⟨_, _, by rw [← Array.toList_inj.1 hcs]; exact hh⟩
 ·cases hvar
theorem Ry : Tryz.prog.globalNamed "kingpost/surd.signPlaces" = some 0 := by kernel_rfl
theorem OL {W : World} (h : laidMetH Tryz.prog Rows.surdRootsRow.laid W) : ∃ t fr, W.heap[0]? = some (.cells Te.Zp t fr) := by
 have h' : laidMet Tryz.prog (("math/bits.deBruijn32tab", Rows.laid_math_bits_deBruijn32tab) :: ("math/bits.deBruijn64tab", Rows.laid_math_bits_deBruijn64tab) :: ("internal/strconv.uint64pow10", Rows.laid_internal_strconv_uint64pow10) :: [("unicode/utf8.acceptRanges", Rows.laid_unicode_utf8_acceptRanges), ("strconv.ErrRange", Rows.laid_strconv_ErrRange), ("strconv.ErrSyntax", Rows.laid_strconv_ErrSyntax), ("kingpost/root.primes", Rows.laid_kingpost_root_primes), ("kingpost/surd.signPlaces", Rows.laid_kingpost_surd_signPlaces), ("unicode/utf8.first", Rows.laid_unicode_utf8_first)]) W := h
 obtain ⟨ps, ⟨_, _, _, _, _, _, _, _, _, _, ⟨_, _, _, _, _, _, _, _, _, _, ⟨_, _, _, _, _, _, _, _, _, _, ⟨_, _, _, _, _, _, _, _, _, _, ⟨_, _, _, _, _, _, _, _, _, _, ⟨_, _, _, _, _, _, _, _, _, _, ⟨_, _, _, _, _, _, _, _, _, _, ⟨g, t, cs, fuel, p, q, hg, hty, hvar, hd, _⟩, _⟩, _⟩, _⟩, _⟩, _⟩, _⟩, _⟩, _⟩ := h'
 obtain rfl := Option.some.inj (Ry.symm.trans hg)
 have hcs : cs.toList = [4, 16, 64].map fun z => Value.int .i64 z := by
  obtain rfl : t = 115 := Option.some.inj ((show (Tryz.prog.globals[0]?).map (·.type) = some 115 by kernel_rfl).symm.trans hty) |>.symm
  exact Lib.cells_of_tab (n := 3) (e := 3) (zs := [4, 16, 64]) (by kernel_rfl) (by kernel_rfl) (by kernel_rfl) (by kernel_rfl) hd
 have hcs2 : cs = Te.Zp := Array.toList_inj.1 hcs
 unfold World.var? at hvar
 rw [Ry] at hvar
 simp only [Option.bind_some] at hvar
 split at hvar
 ·rename_i cs' t' fr hh
  cases hvar
  exact ⟨_, _, by rw [← hcs2]; exact hh⟩
 ·cases hvar
set_option maxRecDepth 100000 in
set_option maxHeartbeats 1000000 in
theorem tW (H : Type) (enc : TypeId × Value → H) (W : World) (base : Nat) (args : Array Value) (ds gs : List (DataW H)) (before : List MemPlace)
  (hval : ∀ (j : Nat) t v, Tryz.f6.params[j]? = some t → args[j]? = some v → Value.okWide Tryz.prog W .any base t v)
  (hW : DataW.Whole enc Tryz.prog Tryz.f6.params.toList Rows.surdRootsSpec.vars false W args.toList ds gs before) (hL : laidMetH Tryz.prog Rows.surdRootsRow.laid W) :
  Calls Tryz.prog 6 args W fun e W' => ∃ v, e = .returned v ∧ Rows.surdRootsSpec.post enc Tryz.prog Tryz.f6 false true false false W args v W' := by
 have hW' := hW
 have hlt := hW.lt
 obtain ⟨p, q, hA0, hV, rfl, hfz, hnd⟩ := hW
 have hA : DataW.TrodAll enc Tryz.prog W 0 (fun _ => true) true Tryz.f6.params.toList args.toList ds p := hA0
 rw [Tryz.params6] at hA hval
 obtain ⟨v0, vs0, d0, ds0, p0, q0, hargs, rfl, rfl, h0, r0⟩ := trodAll_cons hA
 obtain ⟨v1, vs1, d1, ds1, p1, q1, rfl, rfl, rfl, h1, r1⟩ := trodAll_cons r0
 obtain ⟨v2, vs2, d2, ds2, p2, q2, rfl, rfl, rfl, h2, r2⟩ := trodAll_cons r1
 obtain ⟨v3, vs3, d3, ds3, p3, q3, rfl, rfl, rfl, h3, r3⟩ := trodAll_cons r2
 obtain ⟨rfl, rfl, rfl⟩ := trodAll_nil r3
 obtain rfl : args = #[v0, v1, v2, v3] := by cases args; simp_all
 obtain ⟨rfl, rfl⟩ := trodVars_none hV
 clear hA0
 simp only [List.append_nil] at hW' hlt
 obtain ⟨k0, rfl⟩ := okWide_int Tryz.underlying38 (hval 0 38 v0 rfl rfl)
 obtain ⟨k1, rfl⟩ := okWide_int Tryz.underlying38 (hval 1 38 v1 rfl rfl)
 obtain ⟨k2, rfl⟩ := okWide_int Tryz.underlying5 (hval 2 5 v2 rfl rfl)
 obtain ⟨k3, rfl⟩ := okWide_int Tryz.underlying5 (hval 3 5 v3 rfl rfl)
 have hu0 := Te.U3 h0
 have hu1 := Te.U3 h1
 have hu2 := Te.po h2
 have hu3 := Te.po h3
 obtain ⟨cs, t, fr, hh, hcs⟩ := table hL
 obtain ⟨t1, fr1, hh1⟩ := R3 hL
 obtain ⟨t2, fr2, hh2⟩ := OL hL
 have hG : Te.WE [(2, Obj.cells Te.zM t1 fr1), (0, Obj.cells Te.Zp t2 fr2), (1, Obj.cells cs t fr)] := ⟨⟨⟨1, t, fr, QI, by rw [hcs]; exact List.mem_cons_of_mem _ (List.mem_cons_of_mem _ List.mem_cons_self)⟩, t1, fr1, _, rfl⟩, t1, fr1, t2, fr2, _, rfl⟩
 have lt : ∀ {k : Nat} {o : Obj}, W.heap[k]? = some o → k < W.heap.size := fun {k o} h => by
  rcases Nat.lt_or_ge k W.heap.size with h' | h'
  ·exact h'
  ·rw [Array.getElem?_eq_none h'] at h; cases h
 have walk := (Te.rR hG k0 k1 k2 k3 hu0 hu1 hu2 hu3).2 W (Te.Gz W) [.int .u16 k0, .int .u16 k1, .int .u8 k2, .int .u8 k3] (fun b h => h) (fun b o hb => by
  rcases List.mem_cons.1 hb with hb | hb
  ·cases hb; exact ⟨lt hh1, hh1⟩
  rcases List.mem_cons.1 hb with hb | hb
  ·cases hb; exact ⟨lt hh2, hh2⟩
  rw [List.mem_singleton] at hb
  cases hb; exact ⟨lt hh, hh⟩) ⟨.v _, .v _, .v _, .v _, trivial⟩
 refine walk.mono fun e W' ⟨hb, rv, he, hr⟩ => ?_
 obtain rfl := Sx.ZS hr
 subst he
 have again : ∀ {t : TypeId} (hrec : Tryz.prog.readableRec t = true) (hrow : t < Tryz.prog.types.size) {v : Value} {d : DataW H} {ps : List MemPlace}, DataW.Trod enc Tryz.prog W 0 (fun _ => true) true t v d ps → (∀ p ∈ ps, p.block < W.heap.size) → ∀ sp : Nat → Bool, (∀ p ∈ ps, sp p.block = true) →
   DataW.Trod enc Tryz.prog W' 0 sp true t v d ps := fun hrec hrow _ _ _ h hp sp hs => Go.WideElems.Trod_stays laidOut hrec hrow h (fun p hp' => XH hb.toBelow (hp p hp')) hs
 refine ⟨_, rfl, VJ (pa := p0 ++ (p1 ++ (p2 ++ (p3 ++ ([]))))) (pv := []) hW' (fun _ _ _ => trodAll_cons_mk (shut_bool Tryz.underlying4 _) trodAll_mk0) (fun sp hsp => ?_) (fun _ _ => rfl) (by simp) hb.toBelow (ok_one (by kernel_rfl) rfl (okWide_bool_mk Tryz.underlying4 _))⟩
 rw [Tryz.params6]
 exact trodAll_cons_mk (again nl Oj h0 (fun p hp => hlt p (by simp [hp])) sp fun p hp => hsp p (by simp [hp]))
  (trodAll_cons_mk (again nl Oj h1 (fun p hp => hlt p (by simp [hp])) sp fun p hp => hsp p (by simp [hp]))
  (trodAll_cons_mk (again Me lO h2 (fun p hp => hlt p (by simp [hp])) sp fun p hp => hsp p (by simp [hp]))
  (trodAll_cons_mk (again Me lO h3 (fun p hp => hlt p (by simp [hp])) sp fun p hp => hsp p (by simp [hp])) trodAll_mk0)))
def Od : List Int := [0, 1, 28, 2, 29, 14, 24, 3, 30, 22, 20, 15, 25, 17, 4, 8, 31, 27, 13, 23, 21, 19, 16, 7, 26, 12, 18, 6, 11, 5, 10, 9]
def MZ : List Int := [0, 1, 56, 2, 57, 49, 28, 3, 61, 58, 42, 50, 38, 29, 17, 4, 62, 47, 59, 36, 45, 43, 51, 22, 53, 39, 33, 30, 24, 18, 12, 5, 63, 55, 48, 27, 60, 41, 37, 16, 46, 35, 44, 21, 52, 32, 23, 11, 54, 26, 40, 15, 34, 20, 31, 10, 25, 14, 19, 9, 13, 8, 7, 6]
def first : List Int := Go.Pinned.utf8FirstZ.map fun (n : Nat) => (n : Int)
def Qe : List Int := [128, 191, 160, 191, 128, 159, 144, 191, 128, 143] ++ List.replicate 22 0
def put (cs : Array Value) : Obj → Obj
 | .cells _ t frozen => .cells cs t frozen
 | o => o
def bytesOf (l : List Int) : Array Value := (l.map fun z => Value.int .u8 z).toArray
noncomputable def U7 (h : Array Obj) : Array Obj :=
 ((((((((((h.modify 2 (put Te.zM)).modify 0 (put Te.Zp)).modify 1 (put (Lib.pow10Tab.map fun z => Value.int .u64 z).toArray)).modify 4 (put (bytesOf Od))).modify 5 (put (bytesOf MZ))).modify 9 (put (bytesOf Qe))).modify 8 (put (bytesOf first))).modify
  7 (put #[.iface 275 (.pointer (some ⟨h.size, 0, none⟩))])).modify 6 (put #[.iface 275 (.pointer (some ⟨h.size + 1, 0, none⟩))])).push
  (.cells #[.string ⟨#[118, 97, 108, 117, 101, 32, 111, 117, 116, 32, 111, 102, 32, 114, 97, 110, 103, 101]⟩] 277 (0, 0))).push (.cells #[.string ⟨#[105, 110, 118, 97, 108, 105, 100, 32, 115, 121, 110, 116, 97, 120]⟩] 277 (0, 0))
noncomputable def xT (os : Os) : World := { World.holding Tryz.prog os ⟨#[], #[], []⟩ with heap := U7 (World.holding Tryz.prog os ⟨#[], #[], []⟩).heap }
abbrev wA : Array Value := #[.int .u16 0, .int .u16 0, .int .u8 0, .int .u8 0]
theorem tz (os : Os) : laidMet Tryz.prog Rows.surdRootsRow.laid ((xT os).forCall (fun _ _ => 0) ⟨#[], wA, []⟩).memory :=
 laidMet_of_run' 8 (by kernel_rfl) (by kernel_rfl)
theorem reads (os : Os) {H : Type} (enc : TypeId × Value → H) : ∃ places, DataW.whole enc Tryz.prog ((xT os).forCall (fun _ _ => 0) ⟨#[], wA, []⟩).memory Tryz.f6.params.toList Rows.surdRootsSpec.vars false wA.toList 8 = some ([.lit (.int .u16 0), .lit (.int .u16 0), .lit (.int .u8 0), .lit (.int .u8 0)], [], places) :=
 ⟨[], by kernel_rfl⟩
set_option maxRecDepth 100000 in
theorem lifted (os : Os) (started : os.Started) (H : Type) (enc : TypeId × Value → H) (F : Stop.Interp) :
  ReturnsInHanded {} Tryz.checked os 6 .any ((OpenSpec.ofChange Rows.surdRootsSpec).preRow enc Tryz.prog Tryz.f6 Rows.surdRootsRow.domain false Rows.surdRootsRow.laid) (((OpenSpec.ofChange Rows.surdRootsSpec).at F).post enc Tryz.prog Tryz.f6 false true false false) := by
 obtain ⟨places, hx⟩ := reads os enc
 refine returnsInHanded_of_row (C := Tryz.checked) (s := OpenSpec.ofChange Rows.surdRootsSpec) own started (by kernel_rfl) Tryz.func6
  (witness_row_at (enc := enc) (C := Tryz.checked) false (xT os) wA rfl (by kernel_rfl) (by kernel_rfl) (by kernel_rfl)
   (OpenSpec.preRow_of_cond 8 hx (by kernel_rfl) (fun k hk => by cases hk) (by kernel_rfl) (tz os))) ?_
 intro W base args ds gs before hval hW _ _ _ hL _ _
 exact tW H enc W base args ds gs before hval hW hL
end Go.Proofs.YthbpnknhfokadaaGreatDoor.surdRoots

namespace Go.Proofs.YthbpnknhfokadaaGreatDoor.surdRoots
open Go Go.ChangeShapes Go.WideShapes Go.ChangeAt Go.RowKit
theorem HF : (Rows.surdRootsRow.inPlace == Tryz.pinned.checked.prog.inPlace 6) = true := by kernel_rfl
theorem Hf : (Rows.surdRootsRow.unfollowed == Tryz.pinned.checked.prog.unfollowed 6) = true := by kernel_rfl
theorem H0 : (Rows.surdRootsRow.recurses == Tryz.pinned.checked.prog.recurses 6) = true := by kernel_rfl
theorem Hn : (Rows.surdRootsRow.named == Tryz.pinned.checked.prog.varsNamed 6) = true := by kernel_rfl
theorem closed : joinedFacts Tryz.pinned.checked.prog 6 Tryz.f6 (OpenSpec.ofChange Rows.surdRootsSpec).bare Rows.surdRootsRow = true := by
 unfold joinedFacts
 rw [HF, Hf, H0, Hn]
 kernel_rfl
theorem wrap : Tryz.f6.isWrapper Tryz.pinned.checked.prog Rows.surdRootsRow.wrapper Rows.surdRootsRow.mainSum := by
 unfold Func.isWrapper; first | (rw [if_pos (by decide +kernel)]; kernel_rfl) | (rw [if_neg (by decide +kernel)]; exact ⟨rfl, rfl⟩)
theorem LQ : Tryz.f6.isInstance Tryz.pinned.checked.prog Rows.surdRootsRow.origin Rows.surdRootsRow.targs := of_decide_eq_true (by kernel_rfl)
theorem named : Tryz.pinned.checked.prog.funcNamed Rows.surdRootsRow.func = some 6 := by kernel_rfl
theorem said : Rows.SurdRootsSaid :=
 OpenClaim.holds_of_cond 6 Tryz.f6 rfl rfl rfl rfl rfl rfl rfl ⟨rfl, rfl, rfl, rfl, rfl⟩ rfl rfl rfl rfl rfl named Tryz.func6 closed
  LQ wrap
  (fun os started H enc _ F => by rw [OpenClaim.pre_eq_preRow]; exact lifted os started H enc F)
end Go.Proofs.YthbpnknhfokadaaGreatDoor.surdRoots
