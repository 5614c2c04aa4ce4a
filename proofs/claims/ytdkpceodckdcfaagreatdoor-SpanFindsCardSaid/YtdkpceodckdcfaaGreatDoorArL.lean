/- The reference's reading of digits, six at a time. -/
import Derived.Test.YtdkpceodckdcfaaGreatDoorArI
set_option linter.unusedSimpArgs false
set_option linter.unusedVariables false
namespace Go.Ar
open Go Go.Sx Go.Lib
set_option maxRecDepth 100000
def nums (a : zh) (z : Nat) : zh := (a.take z).filter (· != 45)
theorem Xq {l : zh} {i : Nat} (h : i < l.length) : l.take (i + 1) = l.take i ++ [l.getD i 0] := by
 simp_all
theorem kU {a : zh} {z : Nat} (hz : z < a.length) (h : a.getD z 0 ≠ 45) : nums a (z + 1) = nums a z ++ [a.getD z 0] := by
 unfold nums
 rw [Xq hz, List.filter_append]
 simp_all
theorem Qv {a : zh} {z : Nat} (hz : z < a.length) (h : a.getD z 0 = 45) : nums a (z + 1) = nums a z := by
 unfold nums
 rw [Xq hz, List.filter_append, h]
 simp
theorem lM (a : zh) (z : Nat) : (nums a z).length ≤ a.length := by
 unfold nums
 grind
theorem Lj {c : UInt8} (h : Zm c = true) : c ≠ 45 := fun e => by subst e; exact absurd h (by decide)
theorem T6 {a : zh} (h : Zy a = true) {i : Nat} (hi : i < a.length) (hn : a.getD i 0 ≠ 45) : Zm (a.getD i 0) = true := by
 by_cases hm : 0 < a.length ∧ a.getD 0 0 = 45
 ·by_cases e : i = 0
  ·grind
  ·exact ((tk hm.1 hm.2).1 h).2.1 i (by omega) hi
 ·rw [(Yl hm).1, Wh] at h
  simp_all
theorem mh {a : zh} (h : Zy a = true) (z : Nat) : (nums a z).all Zm = true := by
 rw [List.all_eq_true]
 intro c hc
 unfold nums at hc
 rw [List.mem_filter, bne_iff_ne] at hc
 obtain ⟨i, hi, rfl⟩ := List.getElem_of_mem (List.mem_of_mem_take hc.1)
 have := T6 h hi
 simp_all
theorem uK {l : zh} (h : ∀ c ∈ l, Zm c = true) : l.filter (· != 45) = l := List.filter_eq_self.2 fun c hc => bne_iff_ne.2 (Lj (h c hc))
theorem Q5 {a : zh} (h : Zy a = true) : nums a a.length = if a.getD 0 0 = 45 then a.drop 1 else a := by
 unfold nums
 rw [List.take_length]
 by_cases hm : 0 < a.length ∧ a.getD 0 0 = 45
 ·rw [if_pos hm.2]
  obtain ⟨e, hi, _, _⟩ := xw hm.1 hm.2
  rw [h] at hi
  have hd : Zw (a.drop 1) = true := by
   grind
  conv => lhs; rw [e]
  rw [List.filter_cons, if_neg (by decide)]
  exact uK (ZX.1 hd).2.1
 ·have hi := (Yl hm).1
  rw [h] at hi
  have h0 : 0 < a.length := (ZX.1 hi.symm).1
  rw [if_neg fun e => hm ⟨h0, e⟩]
  exact uK (ZX.1 hi.symm).2.1
theorem ON {a : zh} (h : Zy a = true) : zt a = if a.getD 0 0 = 45 then -(zk (nums a a.length) : Int) else (zk (nums a a.length) : Int) := by
 have h0 : 0 < a.length := by
  match a, h with
  | [], h => cases h
  | c :: r, _ => simp
 rw [Q5 h]
 by_cases hm : a.getD 0 0 = 45
 ·rw [if_pos hm, if_pos hm, (xw h0 hm).2.2.2]
 ·rw [if_neg hm, if_neg hm, (Yl fun e => hm e.2).2.2]
theorem tn {a : zh} (h : Zy a = true) (hl : a.length ≤ 17) (z : Nat) : (zk (nums a z) : Int) < 100000000000000000 := by
 have h1 := Xh (mh h z)
 have h2 := lM a z
 have h3 : 10 ^ (nums a z).length ≤ 10 ^ 17 := Nat.pow_le_pow_right (by decide) (by omega)
 omega
structure yC where
 k : Nat
 L : List Int
structure P6 (s : zh) (z : yC) : Prop where
 le : 6 * z.k ≤ s.length + 5
 len : z.L.length = z.k
 in_ : Zv 1000000 z.L
 val : zW 1000000 z.L = (zk (s.drop (s.length - 6 * z.k)) : Int)
theorem P6.start (s : zh) : P6 s ⟨0, []⟩ := ⟨by simp, rfl, .nil _, by rw [Nat.mul_zero, Nat.sub_zero, List.drop_length]; rfl⟩
def YG (s : zh) (k i : Nat) : zh := (s.take i).drop (s.length - 6 * k - 6)
theorem tV {s : zh} {k i : Nat} (hi : i < s.length) (h : s.length - 6 * k - 6 ≤ i) : YG s k (i + 1) = YG s k i ++ [s.getD i 0] := by
 unfold YG
 rw [Xq hi, List.drop_append_of_le_length (by rw [List.length_take]; omega)]
theorem oa {s : zh} {k i : Nat} (h1 : i ≤ s.length - 6 * k) : (YG s k i).length ≤ 6 := by
 unfold YG
 grind
theorem N1 {s : zh} (hs : ∀ c ∈ s, Zm c = true) (k i : Nat) : (YG s k i).all Zm = true := by
 rw [List.all_eq_true]
 intro c hc
 exact hs c (List.mem_of_mem_take (List.mem_of_mem_drop hc))
theorem tY {s : zh} (hs : ∀ c ∈ s, Zm c = true) {k i : Nat} (h1 : i ≤ s.length - 6 * k) : (zk (YG s k i) : Int) < 1000000 := by
 have h2 := Xh (N1 hs k i)
 have h3 : 10 ^ (YG s k i).length ≤ 10 ^ 6 := Nat.pow_le_pow_right (by decide) (oa h1)
 omega
theorem P6.step {s : zh} (hs : ∀ c ∈ s, Zm c = true) {z : yC} (h : P6 s z) (hz : 6 * z.k < s.length) : P6 s ⟨z.k + 1, z.L ++ [(zk (YG s z.k (s.length - 6 * z.k)) : Int)]⟩ := by
 refine ⟨by simp only; omega, by simp [h.len], h.in_.snoc (by omega) (tY hs (Nat.le_refl _)), ?_⟩
 show zW 1000000 (z.L ++ [_]) = (zk (s.drop (s.length - 6 * (z.k + 1))) : Int)
 rw [Xy, h.val, h.len]
 have e : s.drop (s.length - 6 * (z.k + 1)) = YG s z.k (s.length - 6 * z.k) ++ s.drop (s.length - 6 * z.k) := by
  unfold YG
  rw [show s.length - 6 * (z.k + 1) = s.length - 6 * z.k - 6 by omega]
  have e1 := List.drop_append_of_le_length (l₁ := s.take (s.length - 6 * z.k)) (l₂ := s.drop (s.length - 6 * z.k)) (i := s.length - 6 * z.k - 6) (by rw [List.length_take]; omega)
  simp_all
 rw [e, Ue, List.length_drop, show s.length - (s.length - 6 * z.k) = 6 * z.k by omega]
 have e2 : (1000000 : Int) ^ z.k = ((10 ^ (6 * z.k) : Nat) : Int) := by
  have e3 : 1000000 ^ z.k = 10 ^ (6 * z.k) := by rw [Nat.pow_mul]
  grind
 grind
theorem P6.end_ {s : zh} {z : yC} (h : P6 s z) (hz : s.length ≤ 6 * z.k) : zm z.L = zw 1000000 (zk s) := by
 have hv := h.val
 rw [show s.length - 6 * z.k = 0 by omega, List.drop_zero] at hv
 have := YT (b := 1000000) (by decide) h.in_
 simp_all
end Go.Ar
