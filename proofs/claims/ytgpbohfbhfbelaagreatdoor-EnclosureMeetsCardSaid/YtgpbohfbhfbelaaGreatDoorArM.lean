/- The reference's estimate of a limb of a quotient. -/
import Derived.Test.YtgpbohfbhfbelaaGreatDoorArA
set_option linter.unusedSimpArgs false
set_option linter.unusedVariables false
namespace Go.Ar
open Go Go.Sx Go.Lib
set_option maxRecDepth 100000
theorem Ni {l : List Int} {i : Nat} (h : l.length ≤ i) : l.getD i 0 = 0 := by rw [List.getD_eq_getElem?_getD, List.getElem?_eq_none h]; rfl
theorem xz (b : Int) (l : List Int) (z : Nat) : zX b (l.drop z) = l.getD z 0 + b * zX b (l.drop (z + 1)) := by
 rcases Nat.lt_or_ge z l.length with h | h
 ·exact Y9 b h
 ·rw [List.drop_of_length_le h, List.drop_of_length_le (by omega), Ni h, yj, Int.mul_zero, Int.add_zero]
theorem uA (b : Int) (l : List Int) (z : Nat) : zX b l = zX b (l.take z) + b ^ z * zX b (l.drop z) := by
 rcases Nat.lt_or_ge z l.length with h | h
 ·exact xW b l (Nat.le_of_lt h)
 ·rw [List.drop_of_length_le h, List.take_of_length_le h, yj, Int.mul_zero, Int.add_zero]
theorem rC {b : Int} (hb : 2 ≤ b) {l : List Int} (h : z8 b l) (z : Nat) : zX b (l.take z) < b ^ z := by
 have h1 := yN (b := b) (by omega) (h.take z)
 obtain ⟨m, rfl⟩ : ∃ m : Nat, b = m := ⟨b.toNat, by omega⟩
 have h2 : m ^ (l.take z).length ≤ m ^ z := Nat.pow_le_pow_right (by omega) (by rw [List.length_take]; omega)
 grind
theorem yU {b n k : Nat} (hb : 2 ≤ b) (h : (n : Int) < (b : Int) ^ k) : (zw b n).length ≤ k := by
 by_cases h0 : n = 0
 ·subst h0; rw [ZN]; exact Nat.zero_le _
 ·have h1 := Ql hb h0
  refine Decidable.byContradiction fun hn => ?_
  have h2 : b ^ k ≤ b ^ ((zw b n).length - 1) := Nat.pow_le_pow_right (by omega) (by omega)
  grind
theorem eY {b : Int} (hb : 2 ≤ b) {y L : List Int} (hy : z8 b y) (hL : z8 b L) {n : Nat} (hn : 2 ≤ n) (hyn : y.length = n) (hLn : L.length ≤ n + 1) (hN : zX b L < b * zX b y)
  {M t : Int} (hM : M = (L.getD n 0 * b + L.getD (n - 1) 0) * b + L.getD (n - 2) 0) (ht : t = y.getD (n - 1) 0 * b + y.getD (n - 2) 0) :
  0 ≤ M.tdiv (t + 1) ∧ M.tdiv (t + 1) < b ∧ zX b y * M.tdiv (t + 1) ≤ zX b L := by
 have eM : zX b (L.drop (n - 2)) = M := by
  rw [xz, show n - 2 + 1 = n - 1 by omega, xz, show n - 1 + 1 = n by omega, xz, List.drop_of_length_le (by omega), yj, hM]
  grind
 have et : zX b (y.drop (n - 2)) = t := by
  rw [xz, show n - 2 + 1 = n - 1 by omega, xz, show n - 1 + 1 = n by omega, List.drop_of_length_le (by omega), yj, ht]
  grind
 have sL := uA b L (n - 2)
 have sy := uA b y (n - 2)
 rw [eM] at sL
 rw [et] at sy
 have a0 := zK (b := b) (by omega) (hL.take (n - 2))
 have a1 := rC hb hy (n - 2)
 have M0 : 0 ≤ M := by rw [← eM]; exact zK (by omega) (hL.drop _)
 have t0 : 0 ≤ t := by rw [← et]; exact zK (by omega) (hy.drop _)
 have p0 := y8 (b := b) (by omega) (n - 2)
 generalize b ^ (n - 2) = p at *
 obtain ⟨e, m0, m1, d0⟩ := kV (n := M) (b := t + 1) M0 (by omega)
 generalize M.tdiv (t + 1) = g at *
 have h1 : (t + 1) * g ≤ M := by omega
 have h2 : p * ((t + 1) * g) ≤ p * M := Int.mul_le_mul_of_nonneg_left h1 (by omega)
 have hV : zX b y ≤ p * (t + 1) := by rw [Int.mul_add, Int.mul_one]; omega
 have h3 : zX b y * g ≤ p * (t + 1) * g := Int.mul_le_mul_of_nonneg_right hV d0
 rw [Int.mul_assoc] at h3
 have h4 : zX b y * g ≤ zX b L := by omega
 refine ⟨d0, Decidable.byContradiction fun hn => ?_, h4⟩
 have h5 : p * (t + 1) * b ≤ p * (t + 1) * g := Int.mul_le_mul_of_nonneg_left (by omega) (Int.mul_nonneg (by omega) (by omega))
 have h6 : zX b y * b ≤ p * (t + 1) * b := Int.mul_le_mul_of_nonneg_right hV (by omega)
 grind
end Go.Ar
