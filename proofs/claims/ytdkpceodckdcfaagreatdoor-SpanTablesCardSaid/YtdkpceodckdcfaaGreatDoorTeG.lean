/- kingpostref01: reading, small integers. -/
import Derived.Test.YtdkpceodckdcfaaGreatDoorTeF
import Derived.Test.YtdkpceodckdcfaaGreatDoorArL
import Derived.Test.YtdkpceodckdcfaaGreatDoorArI
set_option linter.unusedSimpArgs false
set_option linter.unusedVariables false
namespace Go.Te
open Go Go.Sx Go.Proofs Go.Ar
set_option maxRecDepth 100000
set_option maxHeartbeats 4000000
end Go.Te

namespace Go.Te
open Go Go.Sx Go.Proofs Go.Ar
set_option maxRecDepth 100000
set_option maxHeartbeats 4000000
theorem To (n i j : Nat) (hj : j < 1) : zc (Ym (Value.int IntKind.i64 0) j) (AV.v (Value.int IntKind.i64 ((List.replicate n (0 : Int)).getD i 0))) := by
 obtain rfl : j = 0 := by omega
 rw [Wa]; exact zF rfl
theorem _root_.Go.Ar.MulK.fin {b : Int} {x y : List Int} {z k : Nat} {out : List Int} {c : Int} (h : MulK b x y z k out c) (hk : y.length ≤ k) (hk2 : k ≤ y.length + 1) (hc : c = 0) : sT b x y (z + 1) out := by
 subst hc
 refine ⟨h.len, h.in_, fun i hi => h.zero i (by omega) (by omega), ?_⟩
 have hv := h.val
 rw [Int.mul_zero, Int.add_zero, yr (x := y) hk] at hv
 rw [hv, ZY b x, Int.add_mul, Int.mul_assoc]
structure oq where
 out : List Int
 c : Int
structure ot where
 i : Nat
 out : List Int
structure oQ where
 k : Nat
 c : Int
 out : List Int
structure om where
 z : Nat
 q : List Int
 r : Int
end Go.Te
