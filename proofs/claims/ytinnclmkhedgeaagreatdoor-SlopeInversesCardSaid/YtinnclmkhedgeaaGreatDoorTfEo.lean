import Derived.Test.YtinnclmkhedgeaaGreatDoorTfEn
set_option linter.unusedSimpArgs false
set_option linter.unusedVariables false
namespace Go.Proofs.YtinnclmkhedgeaaGreatDoor.slopeInverses
open Go Go.ChangeShapes Go.WideShapes Go.ChangeAt Go.RowKit
theorem w1 : OpenClaim.wfByText (OpenSpec.ofChange Rows.slopeInversesSpec) Rows.slopeInversesRow = true := by kernel_rfl
theorem w3 : true = Tryz.pinned.checked.prog.looks [] := by kernel_rfl
theorem w4 : false = Rows.slopeInversesRow.goesBy Tryz.pinned.checked.prog := by kernel_rfl
theorem oE : Tryz.prog.wantsStandIn 48 = false := by kernel_rfl
theorem oq : Tryz.prog.wantsStandIn 5 = false := by kernel_rfl
theorem card : Rows.SlopeInversesCardSaid :=
 Claim7.holds_tied_plain_at .later [] _ _ _ _ said (fun _ h => by cases h) w1 (fun _ h => by cases h) slopeInverses_row_tie rfl ⟨rfl, rfl⟩ (by kernel_rfl) rfl (by
 intro f fn hf hfn
 obtain rfl : f = 8 := Option.some.inj (named.symm.trans hf) |>.symm
 obtain rfl : fn = Tryz.f8 := (Option.some.inj (Tryz.func8.symm.trans hfn)).symm
 refine ⟨w3, fun j t ht => ?_⟩
 rw [Tryz.params8] at ht
 have h : t = 48 ∨ t = 5 ∨ t = 5 := by
  match j, ht with
  | 0, ht => exact .inl (Option.some.inj ht).symm
  | 1, ht => exact .inr (.inl (Option.some.inj ht).symm)
  | 2, ht => exact .inr (.inr (Option.some.inj ht).symm)
  | j + 3, ht => simp at ht
 rcases h with rfl | rfl | rfl
 ·exact oE
 ·exact oq
 ·exact oq) w4
end Go.Proofs.YtinnclmkhedgeaaGreatDoor.slopeInverses
