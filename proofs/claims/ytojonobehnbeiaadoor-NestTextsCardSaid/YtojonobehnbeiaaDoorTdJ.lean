/- The example of the chapter: First and Exact at it. -/
import Derived.Test.YtojonobehnbeiaaDoorTdD
namespace Go.Td
open Go Go.Sx Go.Proofs
set_option maxRecDepth 100000
set_option maxHeartbeats 4000000

def pieces0 : List Cut := [⟨60, 120, 60, [0]⟩, ⟨60, 120, 50, [1]⟩, ⟨60, 120, 40, [2]⟩]
def usedA : List Used := [⟨0, [0, 2], [0, 60]⟩, ⟨0, [1], [0]⟩]
noncomputable def D0 : Tb := Tb.deepX Tryd.prog T2 [63, 49] 14
theorem D0_sound : TbSound Tryd.prog D0 := TbSound.deepX mixed T2_sound [63, 49] 14
theorem first_vc  : ((((True ∧ True) ∧ True) ∧ ((True ∧ True) ∧ (True ∧ True) ∧ True) ∧ True ∧ True ∧ True) ∧
 ((True ∧ True) ∧ True) ∧ ((True ∧ True) ∧ (True ∧ True) ∧ True) ∧ True ∧ True ∧ True) ∧
 ((True ∧ True) ∧ True) ∧ ((True ∧ True) ∧ (True ∧ True) ∧ True) ∧ True ∧ True ∧ True := by
  simp only [and_self]
theorem exact_vc  : (True ∧ True) ∧ True ∧ True := by
  simp only [and_self]
theorem first_C : PureCall Tryd.prog [] 9 [slE pieces0, slE [bar0], .i 0] (.tup 2 (listFn [slE usedA, .i 0])) :=
  pure_of_vcC mixed D0_sound chkSl_avM (Eq.mp (by kernel_rfl) first_vc : vcFnC Tryd.prog D0 9 .auto [slE pieces0, slE [bar0], .i 0] (chkSl usedA 0))
theorem exact_C : PureCall Tryd.prog [] 11 [slE pieces0, slE [bar0], .i 0] (.tup 2 (listFn [slE usedA, .i 0])) :=
  pure_of_vcC mixed D0_sound chkSl_avM (Eq.mp (by kernel_rfl) exact_vc : vcFnC Tryd.prog D0 11 .auto [slE pieces0, slE [bar0], .i 0] (chkSl usedA 0))
end Go.Td
