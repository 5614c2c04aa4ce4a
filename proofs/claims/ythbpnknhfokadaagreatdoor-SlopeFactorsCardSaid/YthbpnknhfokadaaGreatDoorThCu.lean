import Derived.Test.YthbpnknhfokadaaGreatDoorThCs
set_option linter.unusedSimpArgs false
set_option linter.unusedVariables false
namespace Go.Proofs.YthbpnknhfokadaaGreatDoor.slopeFactors
open Go Go.ChangeShapes Go.WideShapes Go.ChangeAt Go.RowKit
theorem w1 : OpenClaim.wfByText (OpenSpec.ofChange Rows.slopeFactorsSpec) Rows.slopeFactorsRow = true := by kernel_rfl
theorem w3 : true = Tryz.pinned.checked.prog.looks [] := by kernel_rfl
theorem w4 : false = Rows.slopeFactorsRow.goesBy Tryz.pinned.checked.prog := by kernel_rfl
theorem gk : Tryz.prog.wantsStandIn 5 = false := by kernel_rfl
theorem card : Rows.SlopeFactorsCardSaid :=
 Claim7.holds_tied_plain_at .later [] _ _ _ _ said (fun _ h => by cases h) w1 (fun _ h => by cases h) slopeFactors_row_tie rfl ⟨rfl, rfl⟩ (by kernel_rfl) rfl (by
 intro f fn hf hfn
 obtain rfl : f = 10 := Option.some.inj (named.symm.trans hf) |>.symm
 obtain rfl : fn = Tryz.f10 := (Option.some.inj (Tryz.func10.symm.trans hfn)).symm
 refine ⟨w3, fun j t ht => ?_⟩
 rw [Tryz.params10] at ht
 have h : t = 5 ∨ t = 5 ∨ t = 5 ∨ t = 5 := by
  match j, ht with
  | 0, ht => exact .inl (Option.some.inj ht).symm
  | 1, ht => exact .inr (.inl (Option.some.inj ht).symm)
  | 2, ht => exact .inr (.inr (.inl (Option.some.inj ht).symm))
  | 3, ht => exact .inr (.inr (.inr (Option.some.inj ht).symm))
  | j + 4, ht => simp at ht
 rcases h with rfl | rfl | rfl | rfl
 ·exact gk
 ·exact gk
 ·exact gk
 ·exact gk) w4
end Go.Proofs.YthbpnknhfokadaaGreatDoor.slopeFactors
