/- The reference's reading of digits, six at a time. -/
import Derived.Test.YtdkpceodckdcfaaGreatDoorArI
set_option linter.unusedSimpArgs false
set_option linter.unusedVariables false
namespace Go.Ar
open Go Go.Sx Go.Lib
set_option maxRecDepth 100000
def nums (a : Str) (z : Nat) : Str := (a.take z).filter (· != 45)
theorem take_snocS {l : Str} {i : Nat} (h : i < l.length) : l.take (i + 1) = l.take i ++ [l.getD i 0] := by
 rw [List.take_add_one, List.getElem?_eq_getElem h, List.getD_eq_getElem?_getD, List.getElem?_eq_getElem h]; rfl
theorem nums_dg {a : Str} {z : Nat} (hz : z < a.length) (h : a.getD z 0 ≠ 45) : nums a (z + 1) = nums a z ++ [a.getD z 0] := by
 unfold nums
 rw [take_snocS hz, List.filter_append]
 congr 1
 rw [List.filter_cons, if_pos (bne_iff_ne.2 h)]; rfl
theorem nums_minus {a : Str} {z : Nat} (hz : z < a.length) (h : a.getD z 0 = 45) : nums a (z + 1) = nums a z := by
 unfold nums
 rw [take_snocS hz, List.filter_append, h]
 exact List.append_nil _
theorem nums_len (a : Str) (z : Nat) : (nums a z).length ≤ a.length := by
 unfold nums
 exact Nat.le_trans (List.length_filter_le _ _) (by rw [List.length_take]; omega)
theorem dg_not45 {c : UInt8} (h : isDg c = true) : c ≠ 45 := fun e => by subst e; exact absurd h (by decide)
theorem int_bytes {a : Str} (h : intB a = true) {i : Nat} (hi : i < a.length) (hn : a.getD i 0 ≠ 45) : isDg (a.getD i 0) = true := by
 by_cases hm : 0 < a.length ∧ a.getD 0 0 = 45
 ·by_cases e : i = 0
  ·subst e; exact absurd hm.2 hn
  ·exact ((intB_minus hm.1 hm.2).1 h).2.1 i (by omega) hi
 ·rw [(int_plain hm).1, digS_at] at h
  exact h.2.1 i hi
theorem nums_all {a : Str} (h : intB a = true) (z : Nat) : (nums a z).all isDg = true := by
 rw [List.all_eq_true]
 intro c hc
 unfold nums at hc
 rw [List.mem_filter, bne_iff_ne] at hc
 obtain ⟨i, hi, rfl⟩ := List.getElem_of_mem (List.mem_of_mem_take hc.1)
 have := int_bytes h hi
 rw [List.getD_eq_getElem?_getD, List.getElem?_eq_getElem hi] at this
 exact this hc.2
theorem filter_digs {l : Str} (h : ∀ c ∈ l, isDg c = true) : l.filter (· != 45) = l := List.filter_eq_self.2 fun c hc => bne_iff_ne.2 (dg_not45 (h c hc))
theorem nums_whole {a : Str} (h : intB a = true) : nums a a.length = if a.getD 0 0 = 45 then a.drop 1 else a := by
 unfold nums
 rw [List.take_length]
 by_cases hm : 0 < a.length ∧ a.getD 0 0 = 45
 ·rw [if_pos hm.2]
  obtain ⟨e, hi, _, _⟩ := int_minus hm.1 hm.2
  rw [h] at hi
  have hd : digS (a.drop 1) = true := by
   cases hx : digS (a.drop 1) with
   | true => rfl
   | false => rw [hx] at hi; cases hi
  conv => lhs; rw [e]
  rw [List.filter_cons, if_neg (by decide)]
  exact filter_digs (digS_iff.1 hd).2.1
 ·have hi := (int_plain hm).1
  rw [h] at hi
  have h0 : 0 < a.length := (digS_iff.1 hi.symm).1
  rw [if_neg fun e => hm ⟨h0, e⟩]
  exact filter_digs (digS_iff.1 hi.symm).2.1
theorem valI_nums {a : Str} (h : intB a = true) : valI a = if a.getD 0 0 = 45 then -(decV (nums a a.length) : Int) else (decV (nums a a.length) : Int) := by
 have h0 : 0 < a.length := by
  match a, h with
  | [], h => cases h
  | c :: r, _ => simp
 rw [nums_whole h]
 by_cases hm : a.getD 0 0 = 45
 ·rw [if_pos hm, if_pos hm, (int_minus h0 hm).2.2.2]
 ·rw [if_neg hm, if_neg hm, (int_plain fun e => hm e.2).2.2]
theorem nums_bound {a : Str} (h : intB a = true) (hl : a.length ≤ 17) (z : Nat) : (decV (nums a z) : Int) < 100000000000000000 := by
 have h1 := decV_lt (nums_all h z)
 have h2 := nums_len a z
 have h3 : 10 ^ (nums a z).length ≤ 10 ^ 17 := Nat.pow_le_pow_right (by decide) (by omega)
 have : decV (nums a z) < 10 ^ 17 := Nat.lt_of_lt_of_le h1 h3
 omega
structure RdL where
 k : Nat
 L : List Int
structure Rd6 (s : Str) (z : RdL) : Prop where
 le : 6 * z.k ≤ s.length + 5
 len : z.L.length = z.k
 in_ : InL 1000000 z.L
 val : valL 1000000 z.L = (decV (s.drop (s.length - 6 * z.k)) : Int)
theorem Rd6.start (s : Str) : Rd6 s ⟨0, []⟩ := ⟨by simp, rfl, .nil _, by rw [Nat.mul_zero, Nat.sub_zero, List.drop_length]; rfl⟩
def chunk (s : Str) (k i : Nat) : Str := (s.take i).drop (s.length - 6 * k - 6)
theorem chunk_step {s : Str} {k i : Nat} (hi : i < s.length) (h : s.length - 6 * k - 6 ≤ i) : chunk s k (i + 1) = chunk s k i ++ [s.getD i 0] := by
 unfold chunk
 rw [take_snocS hi, List.drop_append_of_le_length (by rw [List.length_take]; omega)]
theorem chunk_len {s : Str} {k i : Nat} (h1 : i ≤ s.length - 6 * k) : (chunk s k i).length ≤ 6 := by
 unfold chunk
 rw [List.length_drop, List.length_take]; omega
theorem chunk_dg {s : Str} (hs : ∀ c ∈ s, isDg c = true) (k i : Nat) : (chunk s k i).all isDg = true := by
 rw [List.all_eq_true]
 intro c hc
 exact hs c (List.mem_of_mem_take (List.mem_of_mem_drop hc))
theorem chunk_lt {s : Str} (hs : ∀ c ∈ s, isDg c = true) {k i : Nat} (h1 : i ≤ s.length - 6 * k) : (decV (chunk s k i) : Int) < 1000000 := by
 have h2 := decV_lt (chunk_dg hs k i)
 have h3 : 10 ^ (chunk s k i).length ≤ 10 ^ 6 := Nat.pow_le_pow_right (by decide) (chunk_len h1)
 have : decV (chunk s k i) < 10 ^ 6 := Nat.lt_of_lt_of_le h2 h3
 omega
theorem Rd6.step {s : Str} (hs : ∀ c ∈ s, isDg c = true) {z : RdL} (h : Rd6 s z) (hz : 6 * z.k < s.length) : Rd6 s ⟨z.k + 1, z.L ++ [(decV (chunk s z.k (s.length - 6 * z.k)) : Int)]⟩ := by
 refine ⟨by simp only; omega, by simp [h.len], h.in_.snoc (by omega) (chunk_lt hs (Nat.le_refl _)), ?_⟩
 show valL 1000000 (z.L ++ [_]) = (decV (s.drop (s.length - 6 * (z.k + 1))) : Int)
 rw [valL_snoc, h.val, h.len]
 have e : s.drop (s.length - 6 * (z.k + 1)) = chunk s z.k (s.length - 6 * z.k) ++ s.drop (s.length - 6 * z.k) := by
  unfold chunk
  rw [show s.length - 6 * (z.k + 1) = s.length - 6 * z.k - 6 by omega]
  have e1 := List.drop_append_of_le_length (l₁ := s.take (s.length - 6 * z.k)) (l₂ := s.drop (s.length - 6 * z.k)) (i := s.length - 6 * z.k - 6) (by rw [List.length_take]; omega)
  rwa [List.take_append_drop] at e1
 rw [e, decV_app, List.length_drop, show s.length - (s.length - 6 * z.k) = 6 * z.k by omega]
 have e2 : (1000000 : Int) ^ z.k = ((10 ^ (6 * z.k) : Nat) : Int) := by
  have e3 : 1000000 ^ z.k = 10 ^ (6 * z.k) := by rw [Nat.pow_mul]
  rw [← e3]
  exact (Int.natCast_pow 1000000 z.k).symm
 rw [e2]
 push_cast
 rw [Int.mul_comm]
 omega
theorem Rd6.end_ {s : Str} {z : RdL} (h : Rd6 s z) (hz : s.length ≤ 6 * z.k) : trimL z.L = limbs 1000000 (decV s) := by
 have hv := h.val
 rw [show s.length - 6 * z.k = 0 by omega, List.drop_zero] at hv
 have := trim_eq (b := 1000000) (by decide) h.in_
 rw [this]
 congr 1
 have hv' : valL ((1000000 : Nat) : Int) z.L = (decV s : Int) := hv
 rw [hv', Int.toNat_natCast]
end Go.Ar
