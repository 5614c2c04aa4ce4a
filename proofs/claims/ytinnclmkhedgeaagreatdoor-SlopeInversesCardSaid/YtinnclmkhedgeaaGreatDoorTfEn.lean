import Derived.Test.YtinnclmkhedgeaaGreatDoorTfEm
set_option linter.unusedSimpArgs false
set_option linter.unusedVariables false
namespace Go.Proofs.YtinnclmkhedgeaaGreatDoor.slopeInverses
open Go Go.ChangeShapes Go.WideShapes Go.ChangeAt Go.RowKit
theorem o8 : (Rows.slopeInversesRow.inPlace == Tryz.pinned.checked.prog.inPlace 8) = true := by kernel_rfl
theorem o9 : (Rows.slopeInversesRow.unfollowed == Tryz.pinned.checked.prog.unfollowed 8) = true := by kernel_rfl
theorem od : (Rows.slopeInversesRow.recurses == Tryz.pinned.checked.prog.recurses 8) = true := by kernel_rfl
theorem Oy : (Rows.slopeInversesRow.named == Tryz.pinned.checked.prog.varsNamed 8) = true := by kernel_rfl
theorem closed : joinedFacts Tryz.pinned.checked.prog 8 Tryz.f8 (OpenSpec.ofChange Rows.slopeInversesSpec).bare Rows.slopeInversesRow = true := by
 unfold joinedFacts
 rw [o8, o9, od, Oy]
 kernel_rfl
theorem wrap : Tryz.f8.isWrapper Tryz.pinned.checked.prog Rows.slopeInversesRow.wrapper Rows.slopeInversesRow.mainSum := by
 unfold Func.isWrapper; first | (rw [if_pos (by decide +kernel)]; kernel_rfl) | (rw [if_neg (by decide +kernel)]; exact ⟨rfl, rfl⟩)
theorem PV : Tryz.f8.isInstance Tryz.pinned.checked.prog Rows.slopeInversesRow.origin Rows.slopeInversesRow.targs := of_decide_eq_true (by kernel_rfl)
theorem named : Tryz.pinned.checked.prog.funcNamed Rows.slopeInversesRow.func = some 8 := by kernel_rfl
theorem said : Rows.SlopeInversesSaid :=
 OpenClaim.holds_of_cond 8 Tryz.f8 rfl rfl rfl rfl rfl rfl rfl ⟨rfl, rfl, rfl, rfl, rfl⟩ rfl rfl rfl rfl rfl named Tryz.func8 closed
  PV wrap
  (fun os started H enc _ F => by rw [OpenClaim.pre_eq_preRow]; exact lifted os started H enc F)
end Go.Proofs.YtinnclmkhedgeaaGreatDoor.slopeInverses
