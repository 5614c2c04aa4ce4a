/- The reference's writing of limbs: six digits a limb, from the end. -/
import Derived.Test.YtgpbohfbhfbelaaGreatDoorArA
set_option linter.unusedSimpArgs false
set_option linter.unusedVariables false
namespace Go.Ar
open Go Go.Sx Go.Lib
set_option maxRecDepth 100000
structure Lc (l : List Int) (i j : Nat) (out : zj) : Prop where
 len : out.length = 6 * l.length
 dg : ∀ c ∈ out.drop (6 * l.length - 6 * i - j), Zd c = true
 val : zc (out.drop (6 * l.length - 6 * i - j)) = (zt 1000000 (l.take i)).toNat + 1000000 ^ i * ((l.getD i 0).toNat % 10 ^ j)
theorem Lc.start (l : List Int) : Lc l 0 0 (List.replicate (6 * l.length) 0) := by
 have e : (List.replicate (6 * l.length) (0 : UInt8)).drop (6 * l.length - 6 * 0 - 0) = [] := List.drop_of_length_le (by simp)
 refine ⟨by simp, fun c hc => ?_, ?_⟩
 ·simp_all
 ·rw [e, List.take_zero, xH]; simp [zc, Nat.mod_one]
theorem nu (l : zj) (z : Nat) (v : UInt8) (h : z < l.length) : (l.set z v).drop z = v :: l.drop (z + 1) := by
 rw [List.drop_eq_getElem_cons (by simpa using h), List.drop_set]
 simp
theorem Lc.step {l : List Int} {i j : Nat} {out : zj} (h : Lc l i j out) (hi : i < l.length) (hj : j < 6) :
  Lc l i (j + 1) (out.set (6 * l.length - 6 * i - j - 1) (Mo ((l.getD i 0).toNat / 10 ^ j % 10))) := by
 have hd : (l.getD i 0).toNat / 10 ^ j % 10 < 10 := Nat.mod_lt _ (by omega)
 have hp : 6 * l.length - 6 * i - j - 1 < out.length := by rw [h.len]; omega
 have e1 : 6 * l.length - 6 * i - (j + 1) = 6 * l.length - 6 * i - j - 1 := by omega
 have e2 : 6 * l.length - 6 * i - j - 1 + 1 = 6 * l.length - 6 * i - j := by omega
 have ed := nu out _ (Mo ((l.getD i 0).toNat / 10 ^ j % 10)) hp
 rw [e2] at ed
 refine ⟨by rw [List.length_set]; exact h.len, fun c hc => ?_, ?_⟩
 ·rw [e1, ed] at hc
  rcases List.mem_cons.1 hc with rfl | hc
  ·exact tN hd
  ·exact h.dg c hc
 ·rw [e1, ed, xR, h.val, rf hd, List.length_drop, h.len, show 6 * l.length - (6 * l.length - 6 * i - j) = 6 * i + j by omega, Nat.pow_add, Nat.pow_mul,
   show (10 : Nat) ^ 6 = 1000000 from rfl, Nat.mod_pow_succ, Nat.mul_add]
  grind
theorem Lc.next {l : List Int} {i : Nat} {out : zj} (hl : ZR 1000000 l) (h : Lc l i 6 out) (hi : i < l.length) : Lc l (i + 1) 0 out := by
 have e1 : 6 * l.length - 6 * (i + 1) - 0 = 6 * l.length - 6 * i - 6 := by omega
 refine ⟨h.len, by rw [e1]; exact h.dg, ?_⟩
 have x1 := hl.get (by omega) i
 have v0 := zd (b := 1000000) (by omega) (hl.take i)
 rw [e1, h.val, Zs, Nat.pow_zero, Nat.mod_one, Nat.mul_zero, Nat.add_zero, Nat.mod_eq_of_lt (by omega)]
 grind
theorem Lc.end_ {l : List Int} {out : zj} (h : Lc l l.length 0 out) : (∀ c ∈ out, Zd c = true) ∧ zc out = (zt 1000000 l).toNat := by
 have e : out.drop (6 * l.length - 6 * l.length - 0) = out := by rw [show 6 * l.length - 6 * l.length - 0 = 0 by omega, List.drop_zero]
 have h1 := h.dg
 have h2 := h.val
 simp_all
end Go.Ar
