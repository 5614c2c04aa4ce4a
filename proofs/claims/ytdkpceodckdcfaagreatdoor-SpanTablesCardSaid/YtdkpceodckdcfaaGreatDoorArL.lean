/- The reference's reading of digits, six at a time. -/
import Derived.Test.YtdkpceodckdcfaaGreatDoorArI
set_option linter.unusedSimpArgs false
set_option linter.unusedVariables false
namespace Go.Ar
open Go Go.Sx Go.Lib
set_option maxRecDepth 100000
structure Pl where
 k : Nat
 L : List Int
structure pY (s : zp) (z : Pl) : Prop where
 le : 6 * z.k ≤ s.length + 5
 len : z.L.length = z.k
 in_ : Z2 1000000 z.L
 val : zV 1000000 z.L = (zP (s.drop (s.length - 6 * z.k)) : Int)
theorem pY.start (s : zp) : pY s ⟨0, []⟩ := ⟨by simp, rfl, .nil _, by rw [Nat.mul_zero, Nat.sub_zero, List.drop_length]; rfl⟩
def Xf (s : zp) (k i : Nat) : zp := (s.take i).drop (s.length - 6 * k - 6)
theorem s8 {s : zp} {k i : Nat} (h1 : i ≤ s.length - 6 * k) : (Xf s k i).length ≤ 6 := by
 unfold Xf
 rw [List.length_drop, List.length_take]; omega
theorem Sa {s : zp} (hs : ∀ c ∈ s, zC c = true) (k i : Nat) : (Xf s k i).all zC = true := by
 rw [List.all_eq_true]
 intro c hc
 exact hs c (List.mem_of_mem_take (List.mem_of_mem_drop hc))
theorem rS {s : zp} (hs : ∀ c ∈ s, zC c = true) {k i : Nat} (h1 : i ≤ s.length - 6 * k) : (zP (Xf s k i) : Int) < 1000000 := by
 have h2 := Xg (Sa hs k i)
 have h3 : 10 ^ (Xf s k i).length ≤ 10 ^ 6 := Nat.pow_le_pow_right (by decide) (s8 h1)
 have : zP (Xf s k i) < 10 ^ 6 := Nat.lt_of_lt_of_le h2 h3
 omega
theorem pY.step {s : zp} (hs : ∀ c ∈ s, zC c = true) {z : Pl} (h : pY s z) (hz : 6 * z.k < s.length) : pY s ⟨z.k + 1, z.L ++ [(zP (Xf s z.k (s.length - 6 * z.k)) : Int)]⟩ := by
 refine ⟨by simp only; omega, by simp [h.len], h.in_.snoc (by omega) (rS hs (Nat.le_refl _)), ?_⟩
 show zV 1000000 (z.L ++ [_]) = (zP (s.drop (s.length - 6 * (z.k + 1))) : Int)
 rw [Ya, h.val, h.len]
 have e : s.drop (s.length - 6 * (z.k + 1)) = Xf s z.k (s.length - 6 * z.k) ++ s.drop (s.length - 6 * z.k) := by
  unfold Xf
  rw [show s.length - 6 * (z.k + 1) = s.length - 6 * z.k - 6 by omega]
  have e1 := List.drop_append_of_le_length (l₁ := s.take (s.length - 6 * z.k)) (l₂ := s.drop (s.length - 6 * z.k)) (i := s.length - 6 * z.k - 6) (by rw [List.length_take]; omega)
  rwa [List.take_append_drop] at e1
 rw [e, Uk, List.length_drop, show s.length - (s.length - 6 * z.k) = 6 * z.k by omega]
 have e2 : (1000000 : Int) ^ z.k = ((10 ^ (6 * z.k) : Nat) : Int) := by
  have e3 : 1000000 ^ z.k = 10 ^ (6 * z.k) := by rw [Nat.pow_mul]
  rw [← e3]
  exact (Int.natCast_pow 1000000 z.k).symm
 rw [e2]
 push_cast
 rw [Int.mul_comm]
 omega
theorem pY.end_ {s : zp} {z : Pl} (h : pY s z) (hz : s.length ≤ 6 * z.k) : YX z.L = yV 1000000 (zP s) := by
 have hv := h.val
 rw [show s.length - 6 * z.k = 0 by omega, List.drop_zero] at hv
 have := yG (b := 1000000) (by decide) h.in_
 rw [this]
 congr 1
 have hv' : zV ((1000000 : Nat) : Int) z.L = (zP s : Int) := hv
 rw [hv', Int.toNat_natCast]
end Go.Ar
