import Derived.Test.YtgpbohfbhfbelaaGreatDoorTkWr
set_option linter.unusedSimpArgs false
set_option linter.unusedVariables false
namespace Go.Proofs.YtgpbohfbhfbelaaGreatDoor.enclosureMeets
open Go Go.ChangeShapes Go.WideShapes Go.ChangeAt Go.RowKit
theorem w1 : OpenClaim.wfByText (OpenSpec.ofChange Rows.enclosureMeetsSpec) Rows.enclosureMeetsRow = true := by kernel_rfl
theorem w3 : true = Tryz.pinned.checked.prog.looks [] := by kernel_rfl
theorem w4 : false = Rows.enclosureMeetsRow.goesBy Tryz.pinned.checked.prog := by kernel_rfl
theorem Eo : Tryz.prog.wantsStandIn 24 = false := by kernel_rfl
theorem EK : Tryz.prog.wantsStandIn 22 = false := by kernel_rfl
theorem card : Rows.EnclosureMeetsCardSaid :=
 Claim7.holds_tied_plain_at .later [] _ _ _ _ said (fun _ h => by cases h) w1 (fun _ h => by cases h) enclosureMeets_row_tie rfl ⟨rfl, rfl⟩ (by kernel_rfl) rfl (by
 intro f fn hf hfn
 obtain rfl : f = 3 := Option.some.inj (named.symm.trans hf) |>.symm
 obtain rfl : fn = Tryz.f3 := (Option.some.inj (Tryz.func3.symm.trans hfn)).symm
 refine ⟨w3, fun j t ht => ?_⟩
 rw [Tryz.params3] at ht
 have h : t = 24 ∨ t = 24 ∨ t = 22 := by
  match j, ht with
  | 0, ht => exact .inl (Option.some.inj ht).symm
  | 1, ht => exact .inr (.inl (Option.some.inj ht).symm)
  | 2, ht => exact .inr (.inr (Option.some.inj ht).symm)
  | j + 3, ht => simp at ht
 rcases h with rfl | rfl | rfl
 ·exact Eo
 ·exact Eo
 ·exact EK) w4
end Go.Proofs.YtgpbohfbhfbelaaGreatDoor.enclosureMeets
