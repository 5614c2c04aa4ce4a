/- The reference's estimate of a limb of a quotient. -/
import Derived.Test.YtdkpceodckdcfaaGreatDoorArI
set_option linter.unusedSimpArgs false
set_option linter.unusedVariables false
namespace Go.Ar
open Go Go.Sx Go.Lib
set_option maxRecDepth 100000
theorem getD_outM {l : List Int} {i : Nat} (h : l.length ≤ i) : l.getD i 0 = 0 := by rw [List.getD_eq_getElem?_getD, List.getElem?_eq_none h]; rfl
theorem valL_dropA (b : Int) (l : List Int) (z : Nat) : valL b (l.drop z) = l.getD z 0 + b * valL b (l.drop (z + 1)) := by
 rcases Nat.lt_or_ge z l.length with h | h
 ·exact valL_drop b h
 ·rw [List.drop_of_length_le h, List.drop_of_length_le (by omega), getD_outM h, valL_nil, Int.mul_zero, Int.add_zero]
theorem valL_splitA (b : Int) (l : List Int) (z : Nat) : valL b l = valL b (l.take z) + b ^ z * valL b (l.drop z) := by
 rcases Nat.lt_or_ge z l.length with h | h
 ·exact valL_split b l (Nat.le_of_lt h)
 ·rw [List.drop_of_length_le h, List.take_of_length_le h, valL_nil, Int.mul_zero, Int.add_zero]
theorem valL_take_lt {b : Int} (hb : 2 ≤ b) {l : List Int} (h : InL b l) (z : Nat) : valL b (l.take z) < b ^ z := by
 have h1 := valL_lt (b := b) (by omega) (h.take z)
 obtain ⟨m, rfl⟩ : ∃ m : Nat, b = m := ⟨b.toNat, by omega⟩
 have h2 : m ^ (l.take z).length ≤ m ^ z := Nat.pow_le_pow_right (by omega) (by rw [List.length_take]; omega)
 have h3 : (m : Int) ^ (l.take z).length ≤ (m : Int) ^ z := by exact_mod_cast h2
 omega
theorem limbs_len_le {b n k : Nat} (hb : 2 ≤ b) (h : (n : Int) < (b : Int) ^ k) : (limbs b n).length ≤ k := by
 by_cases h0 : n = 0
 ·subst h0; rw [limbs_zero]; exact Nat.zero_le _
 ·have h1 := limbs_ge hb h0
  refine Decidable.byContradiction fun hn => ?_
  have h2 : b ^ k ≤ b ^ ((limbs b n).length - 1) := Nat.pow_le_pow_right (by omega) (by omega)
  have h3 : (b : Int) ^ k ≤ (b : Int) ^ ((limbs b n).length - 1) := by exact_mod_cast h2
  omega
theorem est3 {b : Int} (hb : 2 ≤ b) {y L : List Int} (hy : InL b y) (hL : InL b L) {n : Nat} (hn : 2 ≤ n) (hyn : y.length = n) (hLn : L.length ≤ n + 1) (hN : valL b L < b * valL b y)
  {M t : Int} (hM : M = (L.getD n 0 * b + L.getD (n - 1) 0) * b + L.getD (n - 2) 0) (ht : t = y.getD (n - 1) 0 * b + y.getD (n - 2) 0) :
  0 ≤ M.tdiv (t + 1) ∧ M.tdiv (t + 1) < b ∧ valL b y * M.tdiv (t + 1) ≤ valL b L := by
 have eM : valL b (L.drop (n - 2)) = M := by
  rw [valL_dropA, show n - 2 + 1 = n - 1 by omega, valL_dropA, show n - 1 + 1 = n by omega, valL_dropA, List.drop_of_length_le (by omega), valL_nil, hM]
  rw [Int.mul_zero, Int.add_zero, Int.mul_comm b, Int.mul_comm b, Int.add_comm, Int.add_comm (L.getD (n - 1) 0)]
 have et : valL b (y.drop (n - 2)) = t := by
  rw [valL_dropA, show n - 2 + 1 = n - 1 by omega, valL_dropA, show n - 1 + 1 = n by omega, List.drop_of_length_le (by omega), valL_nil, ht]
  rw [Int.mul_zero, Int.add_zero, Int.mul_comm b, Int.add_comm]
 have sL := valL_splitA b L (n - 2)
 have sy := valL_splitA b y (n - 2)
 rw [eM] at sL
 rw [et] at sy
 have a0 := valL_nonneg (b := b) (by omega) (hL.take (n - 2))
 have a1 := valL_take_lt hb hy (n - 2)
 have M0 : 0 ≤ M := by rw [← eM]; exact valL_nonneg (by omega) (hL.drop _)
 have t0 : 0 ≤ t := by rw [← et]; exact valL_nonneg (by omega) (hy.drop _)
 have p0 := powI_pos (b := b) (by omega) (n - 2)
 generalize b ^ (n - 2) = p at *
 obtain ⟨e, m0, m1, d0⟩ := tdm (n := M) (b := t + 1) M0 (by omega)
 generalize M.tdiv (t + 1) = g at *
 have h1 : (t + 1) * g ≤ M := by omega
 have h2 : p * ((t + 1) * g) ≤ p * M := Int.mul_le_mul_of_nonneg_left h1 (by omega)
 have hV : valL b y ≤ p * (t + 1) := by rw [Int.mul_add, Int.mul_one]; omega
 have h3 : valL b y * g ≤ p * (t + 1) * g := Int.mul_le_mul_of_nonneg_right hV d0
 rw [Int.mul_assoc] at h3
 have h4 : valL b y * g ≤ valL b L := by omega
 refine ⟨d0, Decidable.byContradiction fun hn => ?_, h4⟩
 have h5 : p * (t + 1) * b ≤ p * (t + 1) * g := Int.mul_le_mul_of_nonneg_left (by omega) (Int.mul_nonneg (by omega) (by omega))
 have h6 : valL b y * b ≤ p * (t + 1) * b := Int.mul_le_mul_of_nonneg_right hV (by omega)
 rw [Int.mul_comm b] at hN
 rw [Int.mul_assoc p (t + 1) g] at h5
 omega
end Go.Ar
