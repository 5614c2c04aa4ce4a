/- Floors of rational numbers, and of their roots, in units. -/
import Derived.Test.YtgpbohfbhfbelaaGreatDoorArZ
import Derived.Test.YtgpbohfbhfbelaaGreatDoorArW
set_option linter.unusedSimpArgs false
set_option linter.unusedVariables false
namespace Go.Ar
open Go Go.Sx Go.Lib
def WV (q : Rat) : Int := q.num / (q.den : Int)
theorem iA (q : Rat) : (WV q : Rat) ≤ q ∧ q < (WV q : Rat) + 1 := by
 have hd : (0 : Rat) < (q.den : Rat) := Rat.natCast_pos.2 q.den_pos
 have e : q * (q.den : Rat) = (q.num : Rat) := by
  have e0 : q = (q.num : Rat) / ((q.den : Nat) : Rat) := by rw [← Rat.mkRat_eq_div, Rat.mkRat_self]
  grind
 have hz : (0 : Int) < (q.den : Int) := by have := q.den_pos; omega
 have h1 : WV q * (q.den : Int) ≤ q.num := Int.ediv_mul_le _ (by omega)
 have h2 : q.num < (WV q + 1) * (q.den : Int) := Int.lt_ediv_add_one_mul_self _ hz
 have h1' := Rat.intCast_le_intCast.2 h1
 have h2' := Rat.intCast_lt_intCast.2 h2
 rw [Rat.intCast_mul, Rat.intCast_natCast, ← e] at h1' h2'
 rw [Rat.intCast_add] at h2'
 have one : ((1 : Int) : Rat) = 1 := rfl
 rw [one] at h2'
 exact ⟨Rat.le_of_mul_le_mul_right h1' hd, Rat.lt_of_mul_lt_mul_right h2' (Rat.le_of_lt hd)⟩
theorem J4 {q : Rat} {z : Int} (h1 : (z : Rat) ≤ q) (h2 : q < (z : Rat) + 1) : WV q = z := by
 obtain ⟨a, b⟩ := iA q
 have one : ((1 : Int) : Rat) = 1 := rfl
 have c : (z : Rat) < ((WV q + 1 : Int) : Rat) := by rw [Rat.intCast_add, one]; grind
 have d : (WV q : Rat) < ((z + 1 : Int) : Rat) := by rw [Rat.intCast_add, one]; grind
 have c := Rat.intCast_lt_intCast.1 c
 have d := Rat.intCast_lt_intCast.1 d
 omega
theorem jn {n d : Int} (hd : 0 < d) : n.tmod d < 0 ∧ n.tdiv d - 1 = n / d ∨ 0 ≤ n.tmod d ∧ n.tdiv d = n / d := by
 have e := Int.mul_tdiv_add_tmod n d
 have hb : (n.tmod d).natAbs < d.natAbs := by
  rw [Int.natAbs_tmod]
  exact Nat.mod_lt _ (by omega)
 by_cases h : n.tmod d < 0
 ·refine .inl ⟨h, ?_⟩
  refine (Int.ediv_eq_iff_of_pos hd).2 ?_ |>.symm
  rw [Int.sub_mul, Int.mul_comm]
  omega
 ·refine .inr ⟨by omega, ?_⟩
  refine (Int.ediv_eq_iff_of_pos hd).2 ?_ |>.symm
  rw [Int.mul_comm]
  omega
def Io (q u : Rat) : Nat := Z7 (WV (q / (u * u))).toNat
def NM (q u : Rat) : Rat := (Io q u : Rat) * u
theorem eu {x : Int} (h : 0 ≤ x) : ((x.toNat : Nat) : Rat) = (x : Rat) := by
 rw [← Rat.intCast_natCast, Int.toNat_of_nonneg h]
theorem jQ {A B : Nat} (hB : 0 < B) : WV ((A : Rat) / (B : Rat)) = ((A / B : Nat) : Int) := by
 have hB' : (0 : Rat) < (B : Rat) := Rat.natCast_pos.2 hB
 have e : (A : Rat) / (B : Rat) * (B : Rat) = (A : Rat) := Rat.div_mul_cancel (Rat.ne_of_gt hB')
 have h1 := Rat.natCast_le_natCast.2 (Nat.div_mul_le_self A B)
 have h2 := Rat.natCast_lt_natCast.2 (Nat.lt_div_mul_add (a := A) hB)
 rw [Rat.natCast_mul, ← e] at h1
 rw [Rat.natCast_add, Rat.natCast_mul, ← e] at h2
 refine J4 ?_ ?_
 ·rw [Rat.intCast_natCast]
  exact Rat.le_of_mul_le_mul_right h1 hB'
 ·rw [Rat.intCast_natCast]
  refine Rat.lt_of_mul_lt_mul_right (c := (B : Rat)) ?_ (Rat.le_of_lt hB')
  grind
theorem Pa {q : Rat} (h : 0 ≤ q) : ∃ n : Nat, q.num = (n : Int) ∧ q = (n : Rat) / (q.den : Rat) := by
 have h0 := Rat.num_nonneg.2 h
 refine ⟨q.num.toNat, by omega, ?_⟩
 have e : q = (q.num : Rat) / ((q.den : Nat) : Rat) := by rw [← Rat.mkRat_eq_div, Rat.mkRat_self]
 rw [eu h0]
 exact e
theorem Ki {q u : Rat} {n m : Nat} (hn : q = (n : Rat) / (q.den : Rat)) (hm : u = (m : Rat) / (u.den : Rat)) (h0 : 0 < m) : Io q u = Z7 (n * (u.den * u.den) / (q.den * (m * m))) := by
 have d1 : ((q.den : Nat) : Rat) ≠ 0 := Rat.ne_of_gt (Rat.natCast_pos.2 q.den_pos)
 have d2 : ((u.den : Nat) : Rat) ≠ 0 := Rat.ne_of_gt (Rat.natCast_pos.2 u.den_pos)
 have d3 : ((m : Nat) : Rat) ≠ 0 := Rat.ne_of_gt (Rat.natCast_pos.2 h0)
 have hB : 0 < q.den * (m * m) := Nat.mul_pos q.den_pos (Nat.mul_pos h0 h0)
 have e : q / (u * u) = ((n * (u.den * u.den) : Nat) : Rat) / ((q.den * (m * m) : Nat) : Rat) := by
  rw [Rat.natCast_mul, Rat.natCast_mul, Rat.natCast_mul, Rat.natCast_mul]
  generalize ((q.den : Nat) : Rat) = D at *
  generalize ((u.den : Nat) : Rat) = E at *
  generalize (m : Rat) = M at *
  rw [hn, hm]
  grind
 unfold Io
 rw [e, jQ hB, Int.toNat_natCast]
end Go.Ar
