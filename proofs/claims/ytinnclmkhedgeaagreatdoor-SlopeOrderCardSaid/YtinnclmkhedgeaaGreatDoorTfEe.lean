import Derived.Test.YtinnclmkhedgeaaGreatDoorTfEd
set_option linter.unusedSimpArgs false
set_option linter.unusedVariables false
namespace Go.Proofs.YtinnclmkhedgeaaGreatDoor.slopeOrder
open Go Go.ChangeShapes Go.WideShapes Go.ChangeAt Go.RowKit
theorem Pa : (Rows.slopeOrderRow.inPlace == Tryz.pinned.checked.prog.inPlace 5) = true := by kernel_rfl
theorem Py : (Rows.slopeOrderRow.unfollowed == Tryz.pinned.checked.prog.unfollowed 5) = true := by kernel_rfl
theorem pA : (Rows.slopeOrderRow.recurses == Tryz.pinned.checked.prog.recurses 5) = true := by kernel_rfl
theorem Pk : (Rows.slopeOrderRow.named == Tryz.pinned.checked.prog.varsNamed 5) = true := by kernel_rfl
theorem closed : joinedFacts Tryz.pinned.checked.prog 5 Tryz.f5 (OpenSpec.ofChange Rows.slopeOrderSpec).bare Rows.slopeOrderRow = true := by
 unfold joinedFacts
 rw [Pa, Py, pA, Pk]
 kernel_rfl
theorem wrap : Tryz.f5.isWrapper Tryz.pinned.checked.prog Rows.slopeOrderRow.wrapper Rows.slopeOrderRow.mainSum := by
 unfold Func.isWrapper; first | (rw [if_pos (by decide +kernel)]; kernel_rfl) | (rw [if_neg (by decide +kernel)]; exact ⟨rfl, rfl⟩)
theorem U5 : Tryz.f5.isInstance Tryz.pinned.checked.prog Rows.slopeOrderRow.origin Rows.slopeOrderRow.targs := of_decide_eq_true (by kernel_rfl)
theorem named : Tryz.pinned.checked.prog.funcNamed Rows.slopeOrderRow.func = some 5 := by kernel_rfl
theorem said : Rows.SlopeOrderSaid :=
 OpenClaim.holds_of_cond 5 Tryz.f5 rfl rfl rfl rfl rfl rfl rfl ⟨rfl, rfl, rfl, rfl, rfl⟩ rfl rfl rfl rfl rfl named Tryz.func5 closed
  U5 wrap
  (fun os started H enc _ F => by rw [OpenClaim.pre_eq_preRow]; exact lifted os started H enc F)
end Go.Proofs.YtinnclmkhedgeaaGreatDoor.slopeOrder
