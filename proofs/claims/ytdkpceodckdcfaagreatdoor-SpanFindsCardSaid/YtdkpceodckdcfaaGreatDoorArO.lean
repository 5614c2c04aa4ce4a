/- Numbers as the reference reads them: the sign, what stands ahead of and behind the slash; small numbers. -/
import Derived.Test.YtdkpceodckdcfaaGreatDoorArA
import Derived.Test.YtdkpceodckdcfaaGreatDoorArL
set_option linter.unusedSimpArgs false
set_option linter.unusedVariables false
namespace Go.Ar
open Go Go.Sx Go.Lib
set_option maxRecDepth 100000
theorem xh {s : zh} {i : Nat} (h : i < s.length) : s.getD i 0 ∈ s := by
 simp_all
theorem UK {s : zh} {c : UInt8} (h : c ∈ s) : ∃ i, i < s.length ∧ s.getD i 0 = c := by
 obtain ⟨i, hi, rfl⟩ := List.mem_iff_getElem.1 h
 exact ⟨i, hi, by rw [List.getD_eq_getElem?_getD, List.getElem?_eq_getElem hi]; rfl⟩
theorem getD_takeS {s : zh} {z i : Nat} (h : i < z) : (s.take z).getD i 0 = s.getD i 0 := by
 simp_all
theorem Nl {s : zh} {z : Nat} (hz : z < s.length) (h : ∀ i, i < z → s.getD i 0 ≠ 47) (e : s.getD z 0 = 47) :
  zO s = s.take z ∧ zG s = s.drop (z + 1) ∧ zJ s = true := by
 have e1 : s.take z ++ 47 :: s.drop (z + 1) = s := by
  conv => rhs; rw [← List.take_append_drop z s]
  congr 1
  rw [List.drop_eq_getElem_cons hz, ← e, List.getD_eq_getElem?_getD, List.getElem?_eq_getElem hz]; rfl
 have h1 : ∀ c ∈ s.take z, (c != 47) = true := by
  intro c hc
  obtain ⟨i, hi, rfl⟩ := UK hc
  grind
 have := TZ (b := s.drop (z + 1)) h1
 simp_all
theorem pK {s : zh} (h : ∀ i, i < s.length → s.getD i 0 ≠ 47) : zJ s = false ∧ zO s = s ∧ zG s = [] := by
 have hs : zJ s = false := R2 fun c hc => by
  obtain ⟨i, hi, rfl⟩ := UK hc
  simp_all
 exact ⟨hs, wX hs⟩
def zd (a : zh) : Bool := a.getD 0 0 == 45
def zR (a : zh) : zh := bif zd a then a.drop 1 else a
theorem X5 (a : zh) : (zR a).length ≤ a.length := by
 unfold zR
 grind
theorem Yy (s : zh) : (zO s).length ≤ s.length := by
 unfold zO
 exact List.Sublist.length_le (List.takeWhile_sublist _)
theorem U7 (s : zh) : (zG s).length ≤ s.length := by
 unfold zG
 rw [List.length_drop]
 have := List.Sublist.length_le (List.dropWhile_sublist (· != (47 : UInt8)) (l := s))
 omega
theorem sC (a : zh) : (zd a = true ∧ a = 45 :: zR a) ∨ (zd a = false ∧ zR a = a ∧ ¬ (0 < (zO a).length ∧ (zO a).getD 0 0 = 45)) := by
 unfold zR zd
 match a with
 | [] => exact .inr ⟨rfl, rfl, fun h => by cases h.1⟩
 | c :: r =>
  by_cases hc : c = 45
  ·simp_all
  ·have e : ((c :: r).getD 0 0 == (45 : UInt8)) = false := beq_eq_false_iff_ne.2 hc
   rw [e]
   refine .inr ⟨rfl, rfl, fun h => ?_⟩
   unfold zO at h
   rw [List.takeWhile_cons] at h
   grind
theorem Jt (r : zh) : zO (45 :: r) = 45 :: zO r ∧ zG (45 :: r) = zG r ∧ zJ (45 :: r) = zJ r := by
 refine ⟨?_, ?_, ?_⟩
 all_goals rfl
theorem Y1 (a : zh) : zO a = (bif zd a then 45 :: zO (zR a) else zO (zR a)) ∧ zG a = zG (zR a) ∧ zJ a = zJ (zR a) ∧
  Zy (zO a) = (Zw (zO (zR a)) && !(zd a && zO (zR a) == [48])) ∧ Xd (zO a) = (zO (zR a)).length ∧
  zL a = (bif zd a then -(zk (zO (zR a)) : Int) else (zk (zO (zR a)) : Int)) ∧ zP a = (bif zJ (zR a) then zk (zG (zR a)) else 1) := by
 rcases sC a with ⟨h1, h2⟩ | ⟨h1, h2, h3⟩
 ·obtain ⟨c1, c2, c3⟩ := Jt (zR a)
  rw [← h2] at c1 c2 c3
  unfold zL zP
  rw [c1, c2, c3, h1]
  exact ⟨rfl, rfl, rfl, by show (Zw _ && _) = _; simp, rfl, rfl, rfl⟩
 ·obtain ⟨p1, p2, p3⟩ := Yl h3
  unfold zL zP
  simp_all
theorem WT (a : zh) : (zL a).natAbs = zk (zO (zR a)) := by
 obtain ⟨_, _, _, _, _, h, _⟩ := Y1 a
 grind
def Xp (a : zh) : Bool := Zw (zO (zR a)) && !(zd a && zO (zR a) == [48]) && (!zJ (zR a) || Zw (zG (zR a)) && !(zG (zR a) == [48]) && !(zG (zR a) == [49]))
theorem X4 (a : zh) : ZF a = Xp a := by
 obtain ⟨h1, h2, h3, h4, _⟩ := Y1 a
 unfold ZF Xp
 simp_all
theorem Vm {a : zh} (h : Xp a = false) : zo a = 11 := by
 unfold zo
 rw [X4, h]; rfl
theorem sQ {a : zh} (h : Xp a = true) (hl : 300 < (zO (zR a)).length ∨ 300 < (zG (zR a)).length) : zo a = 4 := by
 obtain ⟨_, h2, _, _, h5, _⟩ := Y1 a
 unfold zo
 rw [X4, h, h5, h2, show (Nat.blt 300 (zO (zR a)).length || Nat.blt 300 (zG (zR a)).length) = true by
  simp_all]
 rfl
theorem Vn {a : zh} (h : Xp a = true) (hl : (zO (zR a)).length ≤ 300 ∧ (zG (zR a)).length ≤ 300) (hs : zJ (zR a) = true) :
  zo a = bif Nat.beq (Nat.gcd (zk (zO (zR a))) (zk (zG (zR a)))) 1 then 0 else 11 := by
 obtain ⟨_, h2, _, _, h5, _, h7⟩ := Y1 a
 unfold zo
 rw [X4, h, h5, h2, WT, h7, hs, show (Nat.blt 300 (zO (zR a)).length || Nat.blt 300 (zG (zR a)).length) = false by
  rw [Bool.or_eq_false_iff, Bool.eq_false_iff, Bool.eq_false_iff, Ne, Ne, zC, zC]; omega]
 rfl
theorem Ua {a : zh} (h : Xp a = true) (hl : (zO (zR a)).length ≤ 300) (hs : zJ (zR a) = false) : zo a = 0 := by
 obtain ⟨_, h2, _, _, h5, _, h7⟩ := Y1 a
 have hd : zG (zR a) = [] := (wX hs).2
 unfold zo
 rw [X4, h, h5, h2, h7, hs, hd, show (Nat.blt 300 (zO (zR a)).length || Nat.blt 300 ([] : zh).length) = false by
  rw [Bool.or_eq_false_iff, Bool.eq_false_iff, Bool.eq_false_iff, Ne, Ne, zC, zC]
  simp_all]
 simp
theorem yd {s : zh} (h : Zw s = true) {k : Nat} (hl : s.length ≤ k) : zk s < 10 ^ k := by
 have h1 := Xh (l := s) (List.all_eq_true.2 (ZX.1 h).2.1)
 exact Nat.lt_of_lt_of_le h1 (Nat.pow_le_pow_right (by omega) hl)
end Go.Ar
