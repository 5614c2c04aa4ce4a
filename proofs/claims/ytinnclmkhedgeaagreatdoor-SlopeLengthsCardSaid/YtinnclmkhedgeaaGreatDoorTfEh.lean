import Derived.Test.YtinnclmkhedgeaaGreatDoorTfEg
set_option linter.unusedSimpArgs false
set_option linter.unusedVariables false
namespace Go.Proofs.YtinnclmkhedgeaaGreatDoor.slopeLengths
open Go Go.ChangeShapes Go.WideShapes Go.ChangeAt Go.RowKit
theorem Pa : (Rows.slopeLengthsRow.inPlace == Tryz.pinned.checked.prog.inPlace 9) = true := by kernel_rfl
theorem Py : (Rows.slopeLengthsRow.unfollowed == Tryz.pinned.checked.prog.unfollowed 9) = true := by kernel_rfl
theorem pA : (Rows.slopeLengthsRow.recurses == Tryz.pinned.checked.prog.recurses 9) = true := by kernel_rfl
theorem Pk : (Rows.slopeLengthsRow.named == Tryz.pinned.checked.prog.varsNamed 9) = true := by kernel_rfl
theorem closed : joinedFacts Tryz.pinned.checked.prog 9 Tryz.f9 (OpenSpec.ofChange Rows.slopeLengthsSpec).bare Rows.slopeLengthsRow = true := by
 unfold joinedFacts
 rw [Pa, Py, pA, Pk]
 kernel_rfl
theorem wrap : Tryz.f9.isWrapper Tryz.pinned.checked.prog Rows.slopeLengthsRow.wrapper Rows.slopeLengthsRow.mainSum := by
 unfold Func.isWrapper; first | (rw [if_pos (by decide +kernel)]; kernel_rfl) | (rw [if_neg (by decide +kernel)]; exact ⟨rfl, rfl⟩)
theorem U5 : Tryz.f9.isInstance Tryz.pinned.checked.prog Rows.slopeLengthsRow.origin Rows.slopeLengthsRow.targs := of_decide_eq_true (by kernel_rfl)
theorem named : Tryz.pinned.checked.prog.funcNamed Rows.slopeLengthsRow.func = some 9 := by kernel_rfl
theorem said : Rows.SlopeLengthsSaid :=
 OpenClaim.holds_of_cond 9 Tryz.f9 rfl rfl rfl rfl rfl rfl rfl ⟨rfl, rfl, rfl, rfl, rfl⟩ rfl rfl rfl rfl rfl named Tryz.func9 closed
  U5 wrap
  (fun os started H enc _ F => by rw [OpenClaim.pre_eq_preRow]; exact lifted os started H enc F)
end Go.Proofs.YtinnclmkhedgeaaGreatDoor.slopeLengths
