/- The reference's estimate of a limb of a quotient. -/
import Derived.Test.YtdkpceodckdcfaaGreatDoorArI
set_option linter.unusedSimpArgs false
set_option linter.unusedVariables false
namespace Go.Ar
open Go Go.Sx Go.Lib
set_option maxRecDepth 100000
theorem OF {l : List Int} {i : Nat} (h : l.length ≤ i) : l.getD i 0 = 0 := by rw [List.getD_eq_getElem?_getD, List.getElem?_eq_none h]; rfl
theorem xQ (b : Int) (l : List Int) (z : Nat) : zW b (l.drop z) = l.getD z 0 + b * zW b (l.drop (z + 1)) := by
 rcases Nat.lt_or_ge z l.length with h | h
 ·exact xU b h
 ·rw [List.drop_of_length_le h, List.drop_of_length_le (by omega), OF h, y9, Int.mul_zero, Int.add_zero]
theorem uk (b : Int) (l : List Int) (z : Nat) : zW b l = zW b (l.take z) + b ^ z * zW b (l.drop z) := by
 rcases Nat.lt_or_ge z l.length with h | h
 ·exact xY b l (Nat.le_of_lt h)
 ·rw [List.drop_of_length_le h, List.take_of_length_le h, y9, Int.mul_zero, Int.add_zero]
theorem Rw {b : Int} (hb : 2 ≤ b) {l : List Int} (h : Zv b l) (z : Nat) : zW b (l.take z) < b ^ z := by
 have h1 := yB (b := b) (by omega) (h.take z)
 obtain ⟨m, rfl⟩ : ∃ m : Nat, b = m := ⟨b.toNat, by omega⟩
 have h2 : m ^ (l.take z).length ≤ m ^ z := Nat.pow_le_pow_right (by omega) (by rw [List.length_take]; omega)
 grind
theorem yg {b n k : Nat} (hb : 2 ≤ b) (h : (n : Int) < (b : Int) ^ k) : (zw b n).length ≤ k := by
 by_cases h0 : n = 0
 ·subst h0; rw [Zj]; exact Nat.zero_le _
 ·have h1 := qR hb h0
  refine Decidable.byContradiction fun hn => ?_
  have h2 : b ^ k ≤ b ^ ((zw b n).length - 1) := Nat.pow_le_pow_right (by omega) (by omega)
  grind
theorem GQ {b : Int} (hb : 2 ≤ b) {y L : List Int} (hy : Zv b y) (hL : Zv b L) {n : Nat} (hn : 2 ≤ n) (hyn : y.length = n) (hLn : L.length ≤ n + 1) (hN : zW b L < b * zW b y)
  {M t : Int} (hM : M = (L.getD n 0 * b + L.getD (n - 1) 0) * b + L.getD (n - 2) 0) (ht : t = y.getD (n - 1) 0 * b + y.getD (n - 2) 0) :
  0 ≤ M.tdiv (t + 1) ∧ M.tdiv (t + 1) < b ∧ zW b y * M.tdiv (t + 1) ≤ zW b L := by
 have eM : zW b (L.drop (n - 2)) = M := by
  rw [xQ, show n - 2 + 1 = n - 1 by omega, xQ, show n - 1 + 1 = n by omega, xQ, List.drop_of_length_le (by omega), y9, hM]
  grind
 have et : zW b (y.drop (n - 2)) = t := by
  rw [xQ, show n - 2 + 1 = n - 1 by omega, xQ, show n - 1 + 1 = n by omega, List.drop_of_length_le (by omega), y9, ht]
  grind
 have sL := uk b L (n - 2)
 have sy := uk b y (n - 2)
 rw [eM] at sL
 rw [et] at sy
 have a0 := zj (b := b) (by omega) (hL.take (n - 2))
 have a1 := Rw hb hy (n - 2)
 have M0 : 0 ≤ M := by rw [← eM]; exact zj (by omega) (hL.drop _)
 have t0 : 0 ≤ t := by rw [← et]; exact zj (by omega) (hy.drop _)
 have p0 := YR (b := b) (by omega) (n - 2)
 generalize b ^ (n - 2) = p at *
 obtain ⟨e, m0, m1, d0⟩ := LI (n := M) (b := t + 1) M0 (by omega)
 generalize M.tdiv (t + 1) = g at *
 have h1 : (t + 1) * g ≤ M := by omega
 have h2 : p * ((t + 1) * g) ≤ p * M := Int.mul_le_mul_of_nonneg_left h1 (by omega)
 have hV : zW b y ≤ p * (t + 1) := by rw [Int.mul_add, Int.mul_one]; omega
 have h3 : zW b y * g ≤ p * (t + 1) * g := Int.mul_le_mul_of_nonneg_right hV d0
 rw [Int.mul_assoc] at h3
 have h4 : zW b y * g ≤ zW b L := by omega
 refine ⟨d0, Decidable.byContradiction fun hn => ?_, h4⟩
 have h5 : p * (t + 1) * b ≤ p * (t + 1) * g := Int.mul_le_mul_of_nonneg_left (by omega) (Int.mul_nonneg (by omega) (by omega))
 have h6 : zW b y * b ≤ p * (t + 1) * b := Int.mul_le_mul_of_nonneg_right hV (by omega)
 grind
end Go.Ar
