/- The reference's writing of limbs: six digits a limb, from the end. -/
import Derived.Test.YtdkpceodckdcfaaGreatDoorArI
set_option linter.unusedSimpArgs false
set_option linter.unusedVariables false
namespace Go.Ar
open Go Go.Sx Go.Lib
set_option maxRecDepth 100000
structure RL (l : List Int) (i j : Nat) (out : zp) : Prop where
 len : out.length = 6 * l.length
 dg : ∀ c ∈ out.drop (6 * l.length - 6 * i - j), zC c = true
 val : zP (out.drop (6 * l.length - 6 * i - j)) = (zV 1000000 (l.take i)).toNat + 1000000 ^ i * ((l.getD i 0).toNat % 10 ^ j)
theorem RL.start (l : List Int) : RL l 0 0 (List.replicate (6 * l.length) 0) := by
 have e : (List.replicate (6 * l.length) (0 : UInt8)).drop (6 * l.length - 6 * 0 - 0) = [] := List.drop_of_length_le (by simp)
 refine ⟨by simp, fun c hc => ?_, ?_⟩
 ·rw [e] at hc; cases hc
 ·rw [e, List.take_zero, xf]; simp [zP, Nat.mod_one]
theorem sM (l : zp) (z : Nat) (v : UInt8) (h : z < l.length) : (l.set z v).drop z = v :: l.drop (z + 1) := by
 rw [List.drop_eq_getElem_cons (by simpa using h), List.drop_set]
 simp
theorem RL.step {l : List Int} {i j : Nat} {out : zp} (h : RL l i j out) (hi : i < l.length) (hj : j < 6) :
  RL l i (j + 1) (out.set (6 * l.length - 6 * i - j - 1) (RP ((l.getD i 0).toNat / 10 ^ j % 10))) := by
 have hd : (l.getD i 0).toNat / 10 ^ j % 10 < 10 := Nat.mod_lt _ (by omega)
 have hp : 6 * l.length - 6 * i - j - 1 < out.length := by rw [h.len]; omega
 have e1 : 6 * l.length - 6 * i - (j + 1) = 6 * l.length - 6 * i - j - 1 := by omega
 have e2 : 6 * l.length - 6 * i - j - 1 + 1 = 6 * l.length - 6 * i - j := by omega
 have ed := sM out _ (RP ((l.getD i 0).toNat / 10 ^ j % 10)) hp
 rw [e2] at ed
 refine ⟨by rw [List.length_set]; exact h.len, fun c hc => ?_, ?_⟩
 ·rw [e1, ed] at hc
  rcases List.mem_cons.1 hc with rfl | hc
  ·exact vQ hd
  ·exact h.dg c hc
 ·rw [e1, ed, Xx, h.val, V5 hd, List.length_drop, h.len, show 6 * l.length - (6 * l.length - 6 * i - j) = 6 * i + j by omega, Nat.pow_add, Nat.pow_mul,
   show (10 : Nat) ^ 6 = 1000000 from rfl, Nat.mod_pow_succ, Nat.mul_add]
  have : (l.getD i 0).toNat / 10 ^ j % 10 * (1000000 ^ i * 10 ^ j) = 1000000 ^ i * (10 ^ j * ((l.getD i 0).toNat / 10 ^ j % 10)) := by
   rw [Nat.mul_comm, Nat.mul_assoc]
  omega
theorem RL.next {l : List Int} {i : Nat} {out : zp} (hl : Z2 1000000 l) (h : RL l i 6 out) (hi : i < l.length) : RL l (i + 1) 0 out := by
 have e1 : 6 * l.length - 6 * (i + 1) - 0 = 6 * l.length - 6 * i - 6 := by omega
 refine ⟨h.len, by rw [e1]; exact h.dg, ?_⟩
 have x1 := hl.get (by omega) i
 have v0 := z7 (b := 1000000) (by omega) (hl.take i)
 rw [e1, h.val, ZY, Nat.pow_zero, Nat.mod_one, Nat.mul_zero, Nat.add_zero, Nat.mod_eq_of_lt (by omega)]
 obtain ⟨x, hx⟩ : ∃ x : Nat, l.getD i 0 = x := ⟨(l.getD i 0).toNat, by omega⟩
 obtain ⟨v, hv⟩ : ∃ v : Nat, zV 1000000 (l.take i) = v := ⟨(zV 1000000 (l.take i)).toNat, by omega⟩
 rw [hx, hv]
 have : (v : Int) + (1000000 : Int) ^ i * (x : Int) = ((v + 1000000 ^ i * x : Nat) : Int) := by rw [Int.natCast_add, Int.natCast_mul, Int.natCast_pow]; rfl
 rw [this]
 simp only [Int.toNat_natCast]
theorem RL.end_ {l : List Int} {out : zp} (h : RL l l.length 0 out) : (∀ c ∈ out, zC c = true) ∧ zP out = (zV 1000000 l).toNat := by
 have e : out.drop (6 * l.length - 6 * l.length - 0) = out := by rw [show 6 * l.length - 6 * l.length - 0 = 0 by omega, List.drop_zero]
 have h1 := h.dg
 have h2 := h.val
 rw [e] at h1 h2
 rw [List.take_length, Nat.pow_zero, Nat.mod_one, Nat.mul_zero, Nat.add_zero] at h2
 exact ⟨h1, h2⟩
end Go.Ar
