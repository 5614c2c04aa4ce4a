/- The reference's estimate of a limb of a quotient. -/
import Derived.Test.YtgpbohfbhfbelaaGreatDoorArA
set_option linter.unusedSimpArgs false
set_option linter.unusedVariables false
namespace Go.Ar
open Go Go.Sx Go.Lib
set_option maxRecDepth 100000
theorem XY {b n k : Nat} (hb : 2 ≤ b) (h : (n : Int) < (b : Int) ^ k) : (zT b n).length ≤ k := by
 by_cases h0 : n = 0
 ·subst h0; rw [Z3]; exact Nat.zero_le _
 ·have h1 := R4 hb h0
  refine Decidable.byContradiction fun hn => ?_
  have h2 : b ^ k ≤ b ^ ((zT b n).length - 1) := Nat.pow_le_pow_right (by omega) (by omega)
  grind
end Go.Ar
