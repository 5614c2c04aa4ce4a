/- Roots of any numbers, by Newton's way. -/
import Derived.Test.YtgpbohfbhfbelaaGreatDoorArW
import Derived.Test.YtgpbohfbhfbelaaGreatDoorArO
set_option linter.unusedSimpArgs false
set_option linter.unusedVariables false
namespace Go.Ar
open Go Go.Sx Go.Lib
def Yk (n : Nat) : Nat := Xa n n
theorem V3 (n : Nat) : Yk n * Yk n ≤ n ∧ n < (Yk n + 1) * (Yk n + 1) := Wd n n (Nat.lt_pow_self (by decide))
theorem rF {n r : Nat} (h1 : r * r ≤ n) (h2 : n < (r + 1) * (r + 1)) : r = Yk n := by
 obtain ⟨s1, s2⟩ := V3 n
 have a := QQ (a := r) (b := Yk n + 1) (by omega)
 have b := QQ (a := Yk n) (b := r + 1) (by omega)
 omega
theorem mT {n : Nat} (h : 0 < n) : 0 < Yk n := Nat.pos_of_ne_zero fun e => by
 have := (V3 n).2
 rw [e] at this
 omega
theorem Ja {n z : Nat} (hz : 0 < z) (hn : n < (z + 1) * (z + 1)) (h0 : 0 < n) :
  (z ≤ (z + n / z) / 2 → z = Yk n) ∧ ((z + n / z) / 2 < z → 0 < (z + n / z) / 2 ∧ n < ((z + n / z) / 2 + 1) * ((z + n / z) / 2 + 1)) := by
 obtain ⟨s1, s2⟩ := V3 n
 have hg := ku (n := n) (r := z) (s := Yk n) hz s1
 have hp := mT h0
 refine ⟨fun h => rF (NT hz h) hn, fun _ => ⟨by omega, ?_⟩⟩
 exact Nat.lt_of_lt_of_le s2 (Nat.mul_le_mul (by omega) (by omega))
theorem Oq : ∀ k : Nat, zm (List.replicate k 48) = 0
 | 0 => rfl
 | k + 1 => by
  rw [List.replicate_succ, YI, Oq k]
  show vZ 48 * _ + 0 = 0
  rw [show vZ 48 = 0 from by decide, Nat.zero_mul]
theorem ju (k : Nat) : zC (49 :: List.replicate k 48) = true ∧ zV (49 :: List.replicate k 48) = ((10 ^ k : Nat) : Int) := by
 have hd : z6 (49 :: List.replicate k 48) = true := by
  refine Zx.2 ⟨by simp, fun c hc => ?_, ?_⟩
  ·rcases List.mem_cons.1 hc with rfl | hc
   ·decide
   ·rw [(List.mem_replicate.1 hc).2]; decide
  ·simp
 obtain ⟨h1, h2⟩ := XV hd
 refine ⟨h1, h2.trans ?_⟩
 rw [YI, Oq, List.length_replicate, show vZ 49 = 1 from by decide, Nat.one_mul, Nat.add_zero]
end Go.Ar

namespace Go.Ar
open Go Go.Sx Go.Lib
def Kf (q : Rat) : Int := q.num / (q.den : Int)
theorem kB {n d : Int} (hd : 0 < d) : n.tmod d < 0 ∧ n.tdiv d - 1 = n / d ∨ 0 ≤ n.tmod d ∧ n.tdiv d = n / d := by
 have e := Int.mul_tdiv_add_tmod n d
 have hb : (n.tmod d).natAbs < d.natAbs := by
  rw [Int.natAbs_tmod]
  exact Nat.mod_lt _ (by omega)
 by_cases h : n.tmod d < 0
 ·refine .inl ⟨h, ?_⟩
  refine (Int.ediv_eq_iff_of_pos hd).2 ?_ |>.symm
  rw [Int.sub_mul, Int.mul_comm]
  omega
 ·refine .inr ⟨by omega, ?_⟩
  refine (Int.ediv_eq_iff_of_pos hd).2 ?_ |>.symm
  rw [Int.mul_comm]
  omega
def Eh (q u : Rat) : Nat := Yk (Kf (q / (u * u))).toNat
end Go.Ar
