import Derived.Test.YtgpbohfbhfbelaaGreatDoorTkDa
set_option linter.unusedSimpArgs false
set_option linter.unusedVariables false
namespace Go.Proofs.YtgpbohfbhfbelaaGreatDoor.roundingShares
open Go Go.ChangeShapes Go.WideShapes Go.ChangeAt Go.RowKit
theorem w1 : OpenClaim.wfByText (OpenSpec.ofChange Rows.roundingSharesSpec) Rows.roundingSharesRow = true := by kernel_rfl
theorem w3 : true = Tryz.pinned.checked.prog.looks [] := by kernel_rfl
theorem w4 : false = Rows.roundingSharesRow.goesBy Tryz.pinned.checked.prog := by kernel_rfl
theorem Ei : Tryz.prog.wantsStandIn 48 = false := by kernel_rfl
theorem EJ : Tryz.prog.wantsStandIn 49 = false := by kernel_rfl
theorem card : Rows.RoundingSharesCardSaid :=
 Claim7.holds_tied_plain_at .later [] _ _ _ _ said (fun _ h => by cases h) w1 (fun _ h => by cases h) roundingShares_row_tie rfl ⟨rfl, rfl⟩ (by kernel_rfl) rfl (by
 intro f fn hf hfn
 obtain rfl : f = 5 := Option.some.inj (named.symm.trans hf) |>.symm
 obtain rfl : fn = Tryz.f5 := (Option.some.inj (Tryz.func5.symm.trans hfn)).symm
 refine ⟨w3, fun j t ht => ?_⟩
 rw [Tryz.params5] at ht
 have h : t = 48 ∨ t = 49 := by
  match j, ht with
  | 0, ht => exact .inl (Option.some.inj ht).symm
  | 1, ht => exact .inr (Option.some.inj ht).symm
  | j + 2, ht => simp at ht
 rcases h with rfl | rfl
 ·exact Ei
 ·exact EJ) w4
end Go.Proofs.YtgpbohfbhfbelaaGreatDoor.roundingShares
