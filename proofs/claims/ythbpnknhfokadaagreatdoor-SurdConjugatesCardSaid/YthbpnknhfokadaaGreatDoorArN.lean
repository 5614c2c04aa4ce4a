/- The reference's writing of limbs: six digits a limb, from the end. -/
import Derived.Test.YthbpnknhfokadaaGreatDoorArA
set_option linter.unusedSimpArgs false
set_option linter.unusedVariables false
namespace Go.Ar
open Go Go.Sx Go.Lib
set_option maxRecDepth 100000
structure jR (l : List Int) (i j : Nat) (out : zI) : Prop where
 len : out.length = 6 * l.length
 dg : ∀ c ∈ out.drop (6 * l.length - 6 * i - j), Zd c = true
 val : zc (out.drop (6 * l.length - 6 * i - j)) = (zv 1000000 (l.take i)).toNat + 1000000 ^ i * ((l.getD i 0).toNat % 10 ^ j)
theorem jR.start (l : List Int) : jR l 0 0 (List.replicate (6 * l.length) 0) := by
 have e : (List.replicate (6 * l.length) (0 : UInt8)).drop (6 * l.length - 6 * 0 - 0) = [] := List.drop_of_length_le (by simp)
 refine ⟨by simp, fun c hc => ?_, ?_⟩
 ·simp_all
 ·rw [e, List.take_zero, xG]; simp [zc, Nat.mod_one]
theorem Ox (l : zI) (z : Nat) (v : UInt8) (h : z < l.length) : (l.set z v).drop z = v :: l.drop (z + 1) := by
 rw [List.drop_eq_getElem_cons (by simpa using h), List.drop_set]
 simp
theorem jR.step {l : List Int} {i j : Nat} {out : zI} (h : jR l i j out) (hi : i < l.length) (hj : j < 6) :
  jR l i (j + 1) (out.set (6 * l.length - 6 * i - j - 1) (N7 ((l.getD i 0).toNat / 10 ^ j % 10))) := by
 have hd : (l.getD i 0).toNat / 10 ^ j % 10 < 10 := Nat.mod_lt _ (by omega)
 have hp : 6 * l.length - 6 * i - j - 1 < out.length := by rw [h.len]; omega
 have e1 : 6 * l.length - 6 * i - (j + 1) = 6 * l.length - 6 * i - j - 1 := by omega
 have e2 : 6 * l.length - 6 * i - j - 1 + 1 = 6 * l.length - 6 * i - j := by omega
 have ed := Ox out _ (N7 ((l.getD i 0).toNat / 10 ^ j % 10)) hp
 rw [e2] at ed
 refine ⟨by rw [List.length_set]; exact h.len, fun c hc => ?_, ?_⟩
 ·rw [e1, ed] at hc
  rcases List.mem_cons.1 hc with rfl | hc
  ·exact Uk hd
  ·exact h.dg c hc
 ·rw [e1, ed, xw, h.val, SS hd, List.length_drop, h.len, show 6 * l.length - (6 * l.length - 6 * i - j) = 6 * i + j by omega, Nat.pow_add, Nat.pow_mul,
   show (10 : Nat) ^ 6 = 1000000 from rfl, Nat.mod_pow_succ, Nat.mul_add]
  grind
theorem jR.end_ {l : List Int} {out : zI} (h : jR l l.length 0 out) : (∀ c ∈ out, Zd c = true) ∧ zc out = (zv 1000000 l).toNat := by
 have e : out.drop (6 * l.length - 6 * l.length - 0) = out := by rw [show 6 * l.length - 6 * l.length - 0 = 0 by omega, List.drop_zero]
 have h1 := h.dg
 have h2 := h.val
 simp_all
end Go.Ar
