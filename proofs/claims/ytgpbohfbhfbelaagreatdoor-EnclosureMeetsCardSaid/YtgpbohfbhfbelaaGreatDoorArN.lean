/- The reference's writing of limbs: six digits a limb, from the end. -/
import Derived.Test.YtgpbohfbhfbelaaGreatDoorArA
set_option linter.unusedSimpArgs false
set_option linter.unusedVariables false
namespace Go.Ar
open Go Go.Sx Go.Lib
set_option maxRecDepth 100000
structure sA (l : List Int) (i j : Nat) (out : zL) : Prop where
 len : out.length = 6 * l.length
 dg : ∀ c ∈ out.drop (6 * l.length - 6 * i - j), Zs c = true
 val : zm (out.drop (6 * l.length - 6 * i - j)) = (zX 1000000 (l.take i)).toNat + 1000000 ^ i * ((l.getD i 0).toNat % 10 ^ j)
theorem sA.start (l : List Int) : sA l 0 0 (List.replicate (6 * l.length) 0) := by
 have e : (List.replicate (6 * l.length) (0 : UInt8)).drop (6 * l.length - 6 * 0 - 0) = [] := List.drop_of_length_le (by simp)
 refine ⟨by simp, fun c hc => ?_, ?_⟩
 ·simp_all
 ·rw [e, List.take_zero, yj]; simp [zm, Nat.mod_one]
theorem nq (l : zL) (z : Nat) (v : UInt8) (h : z < l.length) : (l.set z v).drop z = v :: l.drop (z + 1) := by
 rw [List.drop_eq_getElem_cons (by simpa using h), List.drop_set]
 simp
theorem sA.step {l : List Int} {i j : Nat} {out : zL} (h : sA l i j out) (hi : i < l.length) (hj : j < 6) :
  sA l i (j + 1) (out.set (6 * l.length - 6 * i - j - 1) (kX ((l.getD i 0).toNat / 10 ^ j % 10))) := by
 have hd : (l.getD i 0).toNat / 10 ^ j % 10 < 10 := Nat.mod_lt _ (by omega)
 have hp : 6 * l.length - 6 * i - j - 1 < out.length := by rw [h.len]; omega
 have e1 : 6 * l.length - 6 * i - (j + 1) = 6 * l.length - 6 * i - j - 1 := by omega
 have e2 : 6 * l.length - 6 * i - j - 1 + 1 = 6 * l.length - 6 * i - j := by omega
 have ed := nq out _ (kX ((l.getD i 0).toNat / 10 ^ j % 10)) hp
 rw [e2] at ed
 refine ⟨by rw [List.length_set]; exact h.len, fun c hc => ?_, ?_⟩
 ·rw [e1, ed] at hc
  rcases List.mem_cons.1 hc with rfl | hc
  ·exact tV hd
  ·exact h.dg c hc
 ·rw [e1, ed, YI, h.val, Rp hd, List.length_drop, h.len, show 6 * l.length - (6 * l.length - 6 * i - j) = 6 * i + j by omega, Nat.pow_add, Nat.pow_mul,
   show (10 : Nat) ^ 6 = 1000000 from rfl, Nat.mod_pow_succ, Nat.mul_add]
  grind
theorem sA.next {l : List Int} {i : Nat} {out : zL} (hl : z8 1000000 l) (h : sA l i 6 out) (hi : i < l.length) : sA l (i + 1) 0 out := by
 have e1 : 6 * l.length - 6 * (i + 1) - 0 = 6 * l.length - 6 * i - 6 := by omega
 refine ⟨h.len, by rw [e1]; exact h.dg, ?_⟩
 have x1 := hl.get (by omega) i
 have v0 := zK (b := 1000000) (by omega) (hl.take i)
 rw [e1, h.val, Zq, Nat.pow_zero, Nat.mod_one, Nat.mul_zero, Nat.add_zero, Nat.mod_eq_of_lt (by omega)]
 grind
theorem sA.end_ {l : List Int} {out : zL} (h : sA l l.length 0 out) : (∀ c ∈ out, Zs c = true) ∧ zm out = (zX 1000000 l).toNat := by
 have e : out.drop (6 * l.length - 6 * l.length - 0) = out := by rw [show 6 * l.length - 6 * l.length - 0 = 0 by omega, List.drop_zero]
 have h1 := h.dg
 have h2 := h.val
 simp_all
theorem Q6 {out : zL} {z : Nat} (hz : z < out.length) (h : out.getD z 0 = 48) : zm (out.drop (z + 1)) = zm (out.drop z) := by
 have e : out.drop z = out.getD z 0 :: out.drop (z + 1) := by
  rw [List.drop_eq_getElem_cons hz, List.getD_eq_getElem?_getD, List.getElem?_eq_getElem hz]; rfl
 rw [e, h, YI, show vZ 48 = 0 from rfl, Nat.zero_mul, Nat.zero_add]
theorem O4 {out : zL} {z n : Nat} (hd : ∀ c ∈ out, Zs c = true) (hz : z < out.length) (h : out.getD z 0 ≠ 48) (hv : zm (out.drop z) = n) : out.drop z = decDigits n := by
 have e : (out.drop z).getD 0 0 = out.getD z 0 := by simp [List.getD_eq_getElem?_getD]
 have hs : z6 (out.drop z) = true := Zx.2 ⟨by rw [List.length_drop]; omega, fun c hc => hd c (List.mem_of_mem_drop hc), fun _ => by rw [e]; exact h⟩
 rw [← hv, Zl hs]
end Go.Ar
