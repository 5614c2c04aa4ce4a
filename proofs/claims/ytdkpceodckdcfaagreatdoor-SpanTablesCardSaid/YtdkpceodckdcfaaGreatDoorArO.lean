/- Numbers as the reference reads them: the sign, what stands ahead of and behind the slash; small numbers. -/
import Derived.Test.YtdkpceodckdcfaaGreatDoorArA
import Derived.Test.YtdkpceodckdcfaaGreatDoorArL
set_option linter.unusedSimpArgs false
set_option linter.unusedVariables false
namespace Go.Ar
open Go Go.Sx Go.Lib
set_option maxRecDepth 100000
theorem SL {s : zp} {i : Nat} (h : i < s.length) : s.getD i 0 ∈ s := by
 rw [List.getD_eq_getElem?_getD, List.getElem?_eq_getElem h]
 exact List.getElem_mem h
theorem uh {s : zp} {c : UInt8} (h : c ∈ s) : ∃ i, i < s.length ∧ s.getD i 0 = c := by
 obtain ⟨i, hi, rfl⟩ := List.mem_iff_getElem.1 h
 exact ⟨i, hi, by rw [List.getD_eq_getElem?_getD, List.getElem?_eq_getElem hi]; rfl⟩
theorem getD_takeS {s : zp} {z i : Nat} (h : i < z) : (s.take z).getD i 0 = s.getD i 0 := by
 rw [List.getD_eq_getElem?_getD, List.getElem?_take, if_pos h, ← List.getD_eq_getElem?_getD]
theorem Q7 {s : zp} (h : ∀ i, i < s.length → s.getD i 0 ≠ 47) : zD s = false ∧ Zw s = s ∧ Ze s = [] := by
 have hs : zD s = false := SP fun c hc => by
  obtain ⟨i, hi, rfl⟩ := uh hc
  rw [bne_iff_ne]
  exact h i hi
 exact ⟨hs, W0 hs⟩
def YD (a : zp) : Bool := a.getD 0 0 == 45
def zo (a : zp) : zp := bif YD a then a.drop 1 else a
theorem sw (a : zp) : (YD a = true ∧ a = 45 :: zo a) ∨ (YD a = false ∧ zo a = a ∧ ¬ (0 < (Zw a).length ∧ (Zw a).getD 0 0 = 45)) := by
 unfold zo YD
 match a with
 | [] => exact .inr ⟨rfl, rfl, fun h => by cases h.1⟩
 | c :: r =>
  by_cases hc : c = 45
  ·subst hc; exact .inl ⟨rfl, rfl⟩
  ·have e : ((c :: r).getD 0 0 == (45 : UInt8)) = false := beq_eq_false_iff_ne.2 hc
   rw [e]
   refine .inr ⟨rfl, rfl, fun h => ?_⟩
   unfold Zw at h
   rw [List.takeWhile_cons] at h
   split at h
   ·exact hc h.2
   ·cases h.1
theorem QS (r : zp) : Zw (45 :: r) = 45 :: Zw r ∧ Ze (45 :: r) = Ze r ∧ zD (45 :: r) = zD r := by
 refine ⟨?_, ?_, ?_⟩
 ·unfold Zw; rw [List.takeWhile_cons, if_pos (by decide)]
 ·unfold Ze; rw [List.dropWhile_cons, if_pos (by decide)]
 ·unfold zD; rw [List.any_cons]; rfl
theorem YF (a : zp) : Zw a = (bif YD a then 45 :: Zw (zo a) else Zw (zo a)) ∧ Ze a = Ze (zo a) ∧ zD a = zD (zo a) ∧
  V8 (Zw a) = (ZH (Zw (zo a)) && !(YD a && Zw (zo a) == [48])) ∧ R4 (Zw a) = (Zw (zo a)).length ∧
  tQ a = (bif YD a then -(zP (Zw (zo a)) : Int) else (zP (Zw (zo a)) : Int)) ∧ tF a = (bif zD (zo a) then zP (Ze (zo a)) else 1) := by
 rcases sw a with ⟨h1, h2⟩ | ⟨h1, h2, h3⟩
 ·obtain ⟨c1, c2, c3⟩ := QS (zo a)
  rw [← h2] at c1 c2 c3
  unfold tQ tF
  rw [c1, c2, c3, h1]
  exact ⟨rfl, rfl, rfl, by show (ZH _ && _) = _; simp, rfl, rfl, rfl⟩
 ·obtain ⟨p1, p2, p3⟩ := sU h3
  unfold tQ tF
  rw [h1, h2, p1, p2, p3]
  exact ⟨rfl, rfl, rfl, by simp, rfl, rfl, rfl⟩
theorem RQ (a : zp) : (tQ a).natAbs = zP (Zw (zo a)) := by
 obtain ⟨_, _, _, _, _, h, _⟩ := YF a
 rw [h]
 cases YD a <;> simp
def XI (a : zp) : Bool := ZH (Zw (zo a)) && !(YD a && Zw (zo a) == [48]) && (!zD (zo a) || ZH (Ze (zo a)) && !(Ze (zo a) == [48]) && !(Ze (zo a) == [49]))
theorem wu (a : zp) : RO a = XI a := by
 obtain ⟨h1, h2, h3, h4, _⟩ := YF a
 unfold RO XI
 rw [h4, h2, h3]
theorem SB {a : zp} (h : XI a = false) : tC a = 11 := by
 unfold tC
 rw [wu, h]; rfl
theorem uJ {a : zp} (h : XI a = true) (hl : (Zw (zo a)).length ≤ 300 ∧ (Ze (zo a)).length ≤ 300) (hs : zD (zo a) = true) :
  tC a = bif Nat.beq (Nat.gcd (zP (Zw (zo a))) (zP (Ze (zo a)))) 1 then 0 else 11 := by
 obtain ⟨_, h2, _, _, h5, _, h7⟩ := YF a
 unfold tC
 rw [wu, h, h5, h2, RQ, h7, hs, show (Nat.blt 300 (Zw (zo a)).length || Nat.blt 300 (Ze (zo a)).length) = false by
  rw [Bool.or_eq_false_iff, Bool.eq_false_iff, Bool.eq_false_iff, Ne, Ne, Zz, Zz]; omega]
 rfl
theorem Rv {a : zp} (h : XI a = true) (hl : (Zw (zo a)).length ≤ 300) (hs : zD (zo a) = false) : tC a = 0 := by
 obtain ⟨_, h2, _, _, h5, _, h7⟩ := YF a
 have hd : Ze (zo a) = [] := (W0 hs).2
 unfold tC
 rw [wu, h, h5, h2, h7, hs, hd, show (Nat.blt 300 (Zw (zo a)).length || Nat.blt 300 ([] : zp).length) = false by
  rw [Bool.or_eq_false_iff, Bool.eq_false_iff, Bool.eq_false_iff, Ne, Ne, Zz, Zz]
  exact ⟨by omega, by decide⟩]
 simp only [cond_false, Nat.gcd_one_right]
 rfl
theorem Ty {s : zp} (h : ZH s = true) {k : Nat} (hl : s.length ≤ k) : zP s < 10 ^ k := by
 have h1 := Xg (l := s) (List.all_eq_true.2 (Zv.1 h).2.1)
 exact Nat.lt_of_lt_of_le h1 (Nat.pow_le_pow_right (by omega) hl)
end Go.Ar
