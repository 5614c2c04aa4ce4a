/- Reading digits into limbs, and writing limbs as digits. -/
import Derived.Test.YtdkpceodckdcfaaGreatDoorArA
set_option linter.unusedSimpArgs false
set_option linter.unusedVariables false
namespace Go.Ar
open Go Go.Sx Go.Lib
set_option maxRecDepth 100000
structure QV (k : Nat) (r : zp) (z : Nat) (L : List Int) : Prop where
 le : z ≤ r.length
 len : L.length = (r.length + k - 1) / k
 in_ : Z2 (10 ^ k : Nat) L
 zero : ∀ i, z ≤ k * i → L.getD i 0 = 0
 part : L.getD (z / k) 0 < 10 ^ (z % k)
 val : zV (10 ^ k : Nat) L = (zP (r.drop (r.length - z)) : Int)
theorem QV.start {k : Nat} (hk : 0 < k) (r : zp) : QV k r 0 (List.replicate ((r.length + k - 1) / k) 0) := by
 have h10 : 0 < 10 ^ k := Nat.pow_pos (by decide)
 refine ⟨Nat.zero_le _, by simp, .zeros (by omega) _, fun i _ => Wa _ _, ?_, ?_⟩
 ·rw [Wa, Nat.zero_mod]; decide
 ·rw [Wq, Nat.sub_zero, List.drop_of_length_le (Nat.le_refl _)]; rfl
theorem vO {r : zp} {i : Nat} (h : i < r.length) : r.drop i = r.getD i 0 :: r.drop (i + 1) := by
 rw [List.drop_eq_getElem_cons h, List.getD_eq_getElem?_getD, List.getElem?_eq_getElem h]; rfl
theorem QV.step {k : Nat} (hk : 0 < k) {r : zp} (hr : ∀ c ∈ r, zC c = true) {z : Nat} (hz : z < r.length) {L : List Int} (h : QV k r z L) :
  z / k < L.length ∧ QV k r (z + 1) (L.set (z / k) (L.getD (z / k) 0 + (wa (r.getD (r.length - 1 - z) 0) : Int) * 10 ^ (z % k))) := by
 have h10 : 0 < 10 ^ k := Nat.pow_pos (by decide)
 have hi : r.length - 1 - z < r.length := by omega
 have hd : zC (r.getD (r.length - 1 - z) 0) = true := by
  rw [List.getD_eq_getElem?_getD, List.getElem?_eq_getElem hi]
  exact hr _ (List.getElem_mem hi)
 have hv := uQ hd
 have hdm := Nat.div_add_mod z k
 have hmod := Nat.mod_lt z hk
 have hlen : z / k < L.length := by
  rw [h.len]
  have : k * (z / k) < r.length := by omega
  have h2 : (k * (z / k) + k) / k ≤ (r.length + k - 1) / k := Nat.div_le_div_right (by omega)
  rw [Nat.add_div_right _ hk, Nat.mul_div_cancel_left _ hk] at h2
  omega
 have hp := h.part
 have hL := h.in_.get (by omega) (z / k)
 generalize hdd : wa (r.getD (r.length - 1 - z) 0) = d at *
 have hp0 : (0 : Int) < 10 ^ (z % k) := Int.pow_pos (by decide)
 have hdp : (d : Int) * 10 ^ (z % k) ≤ 9 * 10 ^ (z % k) := Int.mul_le_mul_of_nonneg_right (by omega) (Int.le_of_lt hp0)
 have hdp0 : 0 ≤ (d : Int) * 10 ^ (z % k) := Int.mul_nonneg (by omega) (Int.le_of_lt hp0)
 have hnew : L.getD (z / k) 0 + (d : Int) * 10 ^ (z % k) < 10 ^ (z % k + 1) := by rw [Int.pow_succ]; omega
 have hle : (10 : Int) ^ (z % k + 1) ≤ ((10 ^ k : Nat) : Int) := by
  have : 10 ^ (z % k + 1) ≤ 10 ^ k := Nat.pow_le_pow_right (by decide) (by omega)
  exact_mod_cast this
 refine ⟨hlen, by omega, by rw [List.length_set]; exact h.len, h.in_.set (by omega) (by omega) _, fun i hzi => ?_, ?_, ?_⟩
 ·have hne : i ≠ z / k := fun e => by
   subst e
   omega
  rw [yj _ _ _ _ hlen, if_neg hne]
  exact h.zero i (by omega)
 ·by_cases e : (z + 1) % k = 0
  ·have hz1 : k * ((z + 1) / k) = z + 1 := by have := Nat.div_add_mod (z + 1) k; omega
   have hne : (z + 1) / k ≠ z / k := fun e2 => by rw [e2] at hz1; omega
   rw [yj _ _ _ _ hlen, if_neg hne, h.zero _ (by omega)]
   exact Int.pow_pos (by decide)
  ·have e1 : (z + 1) % k = z % k + 1 ∧ (z + 1) / k = z / k := by
    have h1 : z % k + 1 < k := by
     refine Nat.lt_of_le_of_ne (by omega) fun e2 => e ?_
     have : z + 1 = k * (z / k + 1) := by rw [Nat.mul_add, Nat.mul_one]; omega
     rw [this, Nat.mul_mod_right]
    have h2 : z + 1 = k * (z / k) + (z % k + 1) := by omega
    constructor
    ·rw [h2, Nat.mul_add_mod, Nat.mod_eq_of_lt h1]
    ·rw [h2, Nat.mul_add_div hk, Nat.div_eq_of_lt h1, Nat.add_zero]
   rw [e1.1, e1.2, yj _ _ _ _ hlen, if_pos rfl]
   exact hnew
 ·rw [xG _ _ hlen, h.val, show r.length - (z + 1) = r.length - 1 - z by omega, vO hi, Xx, show r.length - 1 - z + 1 = r.length - z by omega, hdd, List.length_drop, show r.length - (r.length - z) = z by omega]
  have e1 : ((10 ^ k : Nat) : Int) ^ (z / k) * (10 : Int) ^ (z % k) = 10 ^ z := by
   have : (10 ^ k) ^ (z / k) * 10 ^ (z % k) = 10 ^ z := by rw [← Nat.pow_mul, ← Nat.pow_add, hdm]
   exact_mod_cast this
  have e2 : ((10 ^ k : Nat) : Int) ^ (z / k) * (L.getD (z / k) 0 + (d : Int) * 10 ^ (z % k) - L.getD (z / k) 0) = (d : Int) * 10 ^ z := by
   rw [← e1, Int.mul_left_comm]
   congr 1
   omega
  rw [e2]
  push_cast
  omega
theorem QV.end_ {k : Nat} (hk : 0 < k) {r : zp} {L : List Int} (h : QV k r r.length L) : YX L = yV (10 ^ k) (zP r) := by
 have hv := h.val
 rw [Nat.sub_self, List.drop_zero] at hv
 have h2 : 2 ≤ 10 ^ k := by
  have : 10 ^ 1 ≤ 10 ^ k := Nat.pow_le_pow_right (by decide) hk
  omega
 rw [yG h2 h.in_, hv, Int.toNat_natCast]
end Go.Ar

namespace Go.Ar
open Go Go.Sx Go.Lib
set_option maxRecDepth 100000
end Go.Ar

namespace Go.Ar
open Go Go.Sx Go.Lib
set_option maxRecDepth 100000
theorem sU {a : zp} (h : ¬ (0 < a.length ∧ a.getD 0 0 = 45)) : V8 a = ZH a ∧ R4 a = a.length ∧ Uy a = (zP a : Int) := by
 match a, h with
 | [], _ => exact ⟨rfl, rfl, rfl⟩
 | c :: r, h =>
  have hc : c ≠ 45 := fun e => h ⟨by simp, e⟩
  refine ⟨?_, ?_, ?_⟩
  ·unfold V8; split
   ·rename_i e; cases e; exact absurd rfl hc
   ·rfl
  ·unfold R4; split
   ·rename_i e; cases e; exact absurd rfl hc
   ·rfl
  ·unfold Uy; split
   ·rename_i e; cases e; exact absurd rfl hc
   ·rfl
end Go.Ar
