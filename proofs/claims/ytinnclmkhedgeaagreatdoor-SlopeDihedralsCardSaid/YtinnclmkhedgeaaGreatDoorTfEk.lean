import Derived.Test.YtinnclmkhedgeaaGreatDoorTfEj
set_option linter.unusedSimpArgs false
set_option linter.unusedVariables false
namespace Go.Proofs.YtinnclmkhedgeaaGreatDoor.slopeDihedrals
open Go Go.ChangeShapes Go.WideShapes Go.ChangeAt Go.RowKit
theorem Pa : (Rows.slopeDihedralsRow.inPlace == Tryz.pinned.checked.prog.inPlace 7) = true := by kernel_rfl
theorem Py : (Rows.slopeDihedralsRow.unfollowed == Tryz.pinned.checked.prog.unfollowed 7) = true := by kernel_rfl
theorem pA : (Rows.slopeDihedralsRow.recurses == Tryz.pinned.checked.prog.recurses 7) = true := by kernel_rfl
theorem Pk : (Rows.slopeDihedralsRow.named == Tryz.pinned.checked.prog.varsNamed 7) = true := by kernel_rfl
theorem closed : joinedFacts Tryz.pinned.checked.prog 7 Tryz.f7 (OpenSpec.ofChange Rows.slopeDihedralsSpec).bare Rows.slopeDihedralsRow = true := by
 unfold joinedFacts
 rw [Pa, Py, pA, Pk]
 kernel_rfl
theorem wrap : Tryz.f7.isWrapper Tryz.pinned.checked.prog Rows.slopeDihedralsRow.wrapper Rows.slopeDihedralsRow.mainSum := by
 unfold Func.isWrapper; first | (rw [if_pos (by decide +kernel)]; kernel_rfl) | (rw [if_neg (by decide +kernel)]; exact ⟨rfl, rfl⟩)
theorem U5 : Tryz.f7.isInstance Tryz.pinned.checked.prog Rows.slopeDihedralsRow.origin Rows.slopeDihedralsRow.targs := of_decide_eq_true (by kernel_rfl)
theorem named : Tryz.pinned.checked.prog.funcNamed Rows.slopeDihedralsRow.func = some 7 := by kernel_rfl
theorem said : Rows.SlopeDihedralsSaid :=
 OpenClaim.holds_of_cond 7 Tryz.f7 rfl rfl rfl rfl rfl rfl rfl ⟨rfl, rfl, rfl, rfl, rfl⟩ rfl rfl rfl rfl rfl named Tryz.func7 closed
  U5 wrap
  (fun os started H enc _ F => by rw [OpenClaim.pre_eq_preRow]; exact lifted os started H enc F)
end Go.Proofs.YtinnclmkhedgeaaGreatDoor.slopeDihedrals
