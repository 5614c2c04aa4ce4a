/- The reference's writing of limbs: six digits a limb, from the end. -/
import Derived.Test.YtdkpceodckdcfaaGreatDoorArI
set_option linter.unusedSimpArgs false
set_option linter.unusedVariables false
namespace Go.Ar
open Go Go.Sx Go.Lib
set_option maxRecDepth 100000
structure WrJ (l : List Int) (i j : Nat) (out : Str) : Prop where
 len : out.length = 6 * l.length
 dg : ∀ c ∈ out.drop (6 * l.length - 6 * i - j), isDg c = true
 val : decV (out.drop (6 * l.length - 6 * i - j)) = (valL 1000000 (l.take i)).toNat + 1000000 ^ i * ((l.getD i 0).toNat % 10 ^ j)
theorem WrJ.start (l : List Int) : WrJ l 0 0 (List.replicate (6 * l.length) 0) := by
 have e : (List.replicate (6 * l.length) (0 : UInt8)).drop (6 * l.length - 6 * 0 - 0) = [] := List.drop_of_length_le (by simp)
 refine ⟨by simp, fun c hc => ?_, ?_⟩
 ·rw [e] at hc; cases hc
 ·rw [e, List.take_zero, valL_nil]; simp [decV, Nat.mod_one]
theorem set_dropS (l : Str) (z : Nat) (v : UInt8) (h : z < l.length) : (l.set z v).drop z = v :: l.drop (z + 1) := by
 rw [List.drop_eq_getElem_cons (by simpa using h), List.drop_set]
 simp
theorem WrJ.step {l : List Int} {i j : Nat} {out : Str} (h : WrJ l i j out) (hi : i < l.length) (hj : j < 6) :
  WrJ l i (j + 1) (out.set (6 * l.length - 6 * i - j - 1) (dgC ((l.getD i 0).toNat / 10 ^ j % 10))) := by
 have hd : (l.getD i 0).toNat / 10 ^ j % 10 < 10 := Nat.mod_lt _ (by omega)
 have hp : 6 * l.length - 6 * i - j - 1 < out.length := by rw [h.len]; omega
 have e1 : 6 * l.length - 6 * i - (j + 1) = 6 * l.length - 6 * i - j - 1 := by omega
 have e2 : 6 * l.length - 6 * i - j - 1 + 1 = 6 * l.length - 6 * i - j := by omega
 have ed := set_dropS out _ (dgC ((l.getD i 0).toNat / 10 ^ j % 10)) hp
 rw [e2] at ed
 refine ⟨by rw [List.length_set]; exact h.len, fun c hc => ?_, ?_⟩
 ·rw [e1, ed] at hc
  rcases List.mem_cons.1 hc with rfl | hc
  ·exact isDg_dgC hd
  ·exact h.dg c hc
 ·rw [e1, ed, decV_cons, h.val, dgV_dgC hd, List.length_drop, h.len, show 6 * l.length - (6 * l.length - 6 * i - j) = 6 * i + j by omega, Nat.pow_add, Nat.pow_mul,
   show (10 : Nat) ^ 6 = 1000000 from rfl, Nat.mod_pow_succ, Nat.mul_add]
  have : (l.getD i 0).toNat / 10 ^ j % 10 * (1000000 ^ i * 10 ^ j) = 1000000 ^ i * (10 ^ j * ((l.getD i 0).toNat / 10 ^ j % 10)) := by
   rw [Nat.mul_comm, Nat.mul_assoc]
  omega
theorem WrJ.next {l : List Int} {i : Nat} {out : Str} (hl : InL 1000000 l) (h : WrJ l i 6 out) (hi : i < l.length) : WrJ l (i + 1) 0 out := by
 have e1 : 6 * l.length - 6 * (i + 1) - 0 = 6 * l.length - 6 * i - 6 := by omega
 refine ⟨h.len, by rw [e1]; exact h.dg, ?_⟩
 have x1 := hl.get (by omega) i
 have v0 := valL_nonneg (b := 1000000) (by omega) (hl.take i)
 rw [e1, h.val, valL_takeB, Nat.pow_zero, Nat.mod_one, Nat.mul_zero, Nat.add_zero, Nat.mod_eq_of_lt (by omega)]
 obtain ⟨x, hx⟩ : ∃ x : Nat, l.getD i 0 = x := ⟨(l.getD i 0).toNat, by omega⟩
 obtain ⟨v, hv⟩ : ∃ v : Nat, valL 1000000 (l.take i) = v := ⟨(valL 1000000 (l.take i)).toNat, by omega⟩
 rw [hx, hv]
 have : (v : Int) + (1000000 : Int) ^ i * (x : Int) = ((v + 1000000 ^ i * x : Nat) : Int) := by rw [Int.natCast_add, Int.natCast_mul, Int.natCast_pow]; rfl
 rw [this]
 simp only [Int.toNat_natCast]
theorem WrJ.end_ {l : List Int} {out : Str} (h : WrJ l l.length 0 out) : (∀ c ∈ out, isDg c = true) ∧ decV out = (valL 1000000 l).toNat := by
 have e : out.drop (6 * l.length - 6 * l.length - 0) = out := by rw [show 6 * l.length - 6 * l.length - 0 = 0 by omega, List.drop_zero]
 have h1 := h.dg
 have h2 := h.val
 rw [e] at h1 h2
 rw [List.take_length, Nat.pow_zero, Nat.mod_one, Nat.mul_zero, Nat.add_zero] at h2
 exact ⟨h1, h2⟩
theorem strip_zero {out : Str} {z : Nat} (hz : z < out.length) (h : out.getD z 0 = 48) : decV (out.drop (z + 1)) = decV (out.drop z) := by
 have e : out.drop z = out.getD z 0 :: out.drop (z + 1) := by
  rw [List.drop_eq_getElem_cons hz, List.getD_eq_getElem?_getD, List.getElem?_eq_getElem hz]; rfl
 rw [e, h, decV_cons, show dgV 48 = 0 from rfl, Nat.zero_mul, Nat.zero_add]
theorem strip_end {out : Str} {z n : Nat} (hd : ∀ c ∈ out, isDg c = true) (hz : z < out.length) (h : out.getD z 0 ≠ 48) (hv : decV (out.drop z) = n) : out.drop z = decDigits n := by
 have e : (out.drop z).getD 0 0 = out.getD z 0 := by simp [List.getD_eq_getElem?_getD]
 have hs : digS (out.drop z) = true := digS_iff.2 ⟨by rw [List.length_drop]; omega, fun c hc => hd c (List.mem_of_mem_drop hc), fun _ => by rw [e]; exact h⟩
 rw [← hv, decDigits_decV hs]
end Go.Ar
