import Derived.Test.YtinnclmkhedgeaaGreatDoorTfEa
set_option linter.unusedSimpArgs false
set_option linter.unusedVariables false
namespace Go.Proofs.YtinnclmkhedgeaaGreatDoor.slopeExchanges
open Go Go.ChangeShapes Go.WideShapes Go.ChangeAt Go.RowKit
theorem P0 : (Rows.slopeExchangesRow.inPlace == Tryz.pinned.checked.prog.inPlace 3) = true := by kernel_rfl
theorem P4 : (Rows.slopeExchangesRow.unfollowed == Tryz.pinned.checked.prog.unfollowed 3) = true := by kernel_rfl
theorem P2 : (Rows.slopeExchangesRow.recurses == Tryz.pinned.checked.prog.recurses 3) = true := by kernel_rfl
theorem P6 : (Rows.slopeExchangesRow.named == Tryz.pinned.checked.prog.varsNamed 3) = true := by kernel_rfl
theorem closed : joinedFacts Tryz.pinned.checked.prog 3 Tryz.f3 (OpenSpec.ofChange Rows.slopeExchangesSpec).bare Rows.slopeExchangesRow = true := by
 unfold joinedFacts
 rw [P0, P4, P2, P6]
 kernel_rfl
theorem wrap : Tryz.f3.isWrapper Tryz.pinned.checked.prog Rows.slopeExchangesRow.wrapper Rows.slopeExchangesRow.mainSum := by
 unfold Func.isWrapper; first | (rw [if_pos (by decide +kernel)]; kernel_rfl) | (rw [if_neg (by decide +kernel)]; exact ⟨rfl, rfl⟩)
theorem pE : Tryz.f3.isInstance Tryz.pinned.checked.prog Rows.slopeExchangesRow.origin Rows.slopeExchangesRow.targs := of_decide_eq_true (by kernel_rfl)
theorem named : Tryz.pinned.checked.prog.funcNamed Rows.slopeExchangesRow.func = some 3 := by kernel_rfl
theorem said : Rows.SlopeExchangesSaid :=
 OpenClaim.holds_of_cond 3 Tryz.f3 rfl rfl rfl rfl rfl rfl rfl ⟨rfl, rfl, rfl, rfl, rfl⟩ rfl rfl rfl rfl rfl named Tryz.func3 closed
  pE wrap
  (fun os started H enc _ F => by rw [OpenClaim.pre_eq_preRow]; exact lifted os started H enc F)
end Go.Proofs.YtinnclmkhedgeaaGreatDoor.slopeExchanges
