/- Numbers as the reference reads them: the sign, what stands ahead of and behind the slash; small numbers. -/
import Derived.Test.YtdkpceodckdcfaaGreatDoorArA
import Derived.Test.YtdkpceodckdcfaaGreatDoorArL
set_option linter.unusedSimpArgs false
set_option linter.unusedVariables false
namespace Go.Ar
open Go Go.Sx Go.Lib
set_option maxRecDepth 100000
theorem getD_mem {s : Str} {i : Nat} (h : i < s.length) : s.getD i 0 ∈ s := by
 rw [List.getD_eq_getElem?_getD, List.getElem?_eq_getElem h]
 exact List.getElem_mem h
theorem mem_getD {s : Str} {c : UInt8} (h : c ∈ s) : ∃ i, i < s.length ∧ s.getD i 0 = c := by
 obtain ⟨i, hi, rfl⟩ := List.mem_iff_getElem.1 h
 exact ⟨i, hi, by rw [List.getD_eq_getElem?_getD, List.getElem?_eq_getElem hi]; rfl⟩
theorem getD_takeS {s : Str} {z i : Nat} (h : i < z) : (s.take z).getD i 0 = s.getD i 0 := by
 rw [List.getD_eq_getElem?_getD, List.getElem?_take, if_pos h, ← List.getD_eq_getElem?_getD]
theorem cut_at {s : Str} {z : Nat} (hz : z < s.length) (h : ∀ i, i < z → s.getD i 0 ≠ 47) (e : s.getD z 0 = 47) :
  cutN s = s.take z ∧ cutD s = s.drop (z + 1) ∧ slashB s = true := by
 have e1 : s.take z ++ 47 :: s.drop (z + 1) = s := by
  conv => rhs; rw [← List.take_append_drop z s]
  congr 1
  rw [List.drop_eq_getElem_cons hz, ← e, List.getD_eq_getElem?_getD, List.getElem?_eq_getElem hz]; rfl
 have h1 : ∀ c ∈ s.take z, (c != 47) = true := by
  intro c hc
  obtain ⟨i, hi, rfl⟩ := mem_getD hc
  have hi' : i < z := by rw [List.length_take] at hi; omega
  rw [getD_takeS hi', bne_iff_ne]
  exact h i hi'
 have := cut_some (b := s.drop (z + 1)) h1
 rwa [e1] at this
theorem cut_no {s : Str} (h : ∀ i, i < s.length → s.getD i 0 ≠ 47) : slashB s = false ∧ cutN s = s ∧ cutD s = [] := by
 have hs : slashB s = false := no_slash fun c hc => by
  obtain ⟨i, hi, rfl⟩ := mem_getD hc
  rw [bne_iff_ne]
  exact h i hi
 exact ⟨hs, cut_none hs⟩
def minB (a : Str) : Bool := a.getD 0 0 == 45
def ownS (a : Str) : Str := bif minB a then a.drop 1 else a
theorem ownS_len (a : Str) : (ownS a).length ≤ a.length := by
 unfold ownS
 cases minB a <;> simp
theorem cutN_len (s : Str) : (cutN s).length ≤ s.length := by
 unfold cutN
 exact List.Sublist.length_le (List.takeWhile_sublist _)
theorem cutD_len (s : Str) : (cutD s).length ≤ s.length := by
 unfold cutD
 rw [List.length_drop]
 have := List.Sublist.length_le (List.dropWhile_sublist (· != (47 : UInt8)) (l := s))
 omega
theorem own_cases (a : Str) : (minB a = true ∧ a = 45 :: ownS a) ∨ (minB a = false ∧ ownS a = a ∧ ¬ (0 < (cutN a).length ∧ (cutN a).getD 0 0 = 45)) := by
 unfold ownS minB
 match a with
 | [] => exact .inr ⟨rfl, rfl, fun h => by cases h.1⟩
 | c :: r =>
  by_cases hc : c = 45
  ·subst hc; exact .inl ⟨rfl, rfl⟩
  ·have e : ((c :: r).getD 0 0 == (45 : UInt8)) = false := beq_eq_false_iff_ne.2 hc
   rw [e]
   refine .inr ⟨rfl, rfl, fun h => ?_⟩
   unfold cutN at h
   rw [List.takeWhile_cons] at h
   split at h
   ·exact hc h.2
   ·cases h.1
theorem cut_45 (r : Str) : cutN (45 :: r) = 45 :: cutN r ∧ cutD (45 :: r) = cutD r ∧ slashB (45 :: r) = slashB r := by
 refine ⟨?_, ?_, ?_⟩
 ·unfold cutN; rw [List.takeWhile_cons, if_pos (by decide)]
 ·unfold cutD; rw [List.dropWhile_cons, if_pos (by decide)]
 ·unfold slashB; rw [List.any_cons]; rfl
theorem own_parts (a : Str) : cutN a = (bif minB a then 45 :: cutN (ownS a) else cutN (ownS a)) ∧ cutD a = cutD (ownS a) ∧ slashB a = slashB (ownS a) ∧
  intB (cutN a) = (digS (cutN (ownS a)) && !(minB a && cutN (ownS a) == [48])) ∧ lenD (cutN a) = (cutN (ownS a)).length ∧
  ratN a = (bif minB a then -(decV (cutN (ownS a)) : Int) else (decV (cutN (ownS a)) : Int)) ∧ ratD a = (bif slashB (ownS a) then decV (cutD (ownS a)) else 1) := by
 rcases own_cases a with ⟨h1, h2⟩ | ⟨h1, h2, h3⟩
 ·obtain ⟨c1, c2, c3⟩ := cut_45 (ownS a)
  rw [← h2] at c1 c2 c3
  unfold ratN ratD
  rw [c1, c2, c3, h1]
  exact ⟨rfl, rfl, rfl, by show (digS _ && _) = _; simp, rfl, rfl, rfl⟩
 ·obtain ⟨p1, p2, p3⟩ := int_plain h3
  unfold ratN ratD
  rw [h1, h2, p1, p2, p3]
  exact ⟨rfl, rfl, rfl, by simp, rfl, rfl, rfl⟩
theorem ratN_abs (a : Str) : (ratN a).natAbs = decV (cutN (ownS a)) := by
 obtain ⟨_, _, _, _, _, h, _⟩ := own_parts a
 rw [h]
 cases minB a <;> simp
def formO (a : Str) : Bool := digS (cutN (ownS a)) && !(minB a && cutN (ownS a) == [48]) && (!slashB (ownS a) || digS (cutD (ownS a)) && !(cutD (ownS a) == [48]) && !(cutD (ownS a) == [49]))
theorem formB_own (a : Str) : formB a = formO a := by
 obtain ⟨h1, h2, h3, h4, _⟩ := own_parts a
 unfold formB formO
 rw [h4, h2, h3]
theorem ratE_bad {a : Str} (h : formO a = false) : ratE a = 11 := by
 unfold ratE
 rw [formB_own, h]; rfl
theorem ratE_long {a : Str} (h : formO a = true) (hl : 300 < (cutN (ownS a)).length ∨ 300 < (cutD (ownS a)).length) : ratE a = 4 := by
 obtain ⟨_, h2, _, _, h5, _⟩ := own_parts a
 unfold ratE
 rw [formB_own, h, h5, h2, show (Nat.blt 300 (cutN (ownS a)).length || Nat.blt 300 (cutD (ownS a)).length) = true by
  rw [Bool.or_eq_true, blt_iff, blt_iff]; exact hl]
 rfl
theorem ratE_gcd {a : Str} (h : formO a = true) (hl : (cutN (ownS a)).length ≤ 300 ∧ (cutD (ownS a)).length ≤ 300) (hs : slashB (ownS a) = true) :
  ratE a = bif Nat.beq (Nat.gcd (decV (cutN (ownS a))) (decV (cutD (ownS a)))) 1 then 0 else 11 := by
 obtain ⟨_, h2, _, _, h5, _, h7⟩ := own_parts a
 unfold ratE
 rw [formB_own, h, h5, h2, ratN_abs, h7, hs, show (Nat.blt 300 (cutN (ownS a)).length || Nat.blt 300 (cutD (ownS a)).length) = false by
  rw [Bool.or_eq_false_iff, Bool.eq_false_iff, Bool.eq_false_iff, Ne, Ne, blt_iff, blt_iff]; omega]
 rfl
theorem ratE_int {a : Str} (h : formO a = true) (hl : (cutN (ownS a)).length ≤ 300) (hs : slashB (ownS a) = false) : ratE a = 0 := by
 obtain ⟨_, h2, _, _, h5, _, h7⟩ := own_parts a
 have hd : cutD (ownS a) = [] := (cut_none hs).2
 unfold ratE
 rw [formB_own, h, h5, h2, h7, hs, hd, show (Nat.blt 300 (cutN (ownS a)).length || Nat.blt 300 ([] : Str).length) = false by
  rw [Bool.or_eq_false_iff, Bool.eq_false_iff, Bool.eq_false_iff, Ne, Ne, blt_iff, blt_iff]
  exact ⟨by omega, by decide⟩]
 simp only [cond_false, Nat.gcd_one_right]
 rfl
theorem decV_bound {s : Str} (h : digS s = true) {k : Nat} (hl : s.length ≤ k) : decV s < 10 ^ k := by
 have h1 := decV_lt (l := s) (List.all_eq_true.2 (digS_iff.1 h).2.1)
 exact Nat.lt_of_lt_of_le h1 (Nat.pow_le_pow_right (by omega) hl)
end Go.Ar
