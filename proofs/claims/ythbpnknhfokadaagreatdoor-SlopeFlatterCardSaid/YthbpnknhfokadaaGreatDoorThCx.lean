import Derived.Test.YthbpnknhfokadaaGreatDoorThCv
set_option linter.unusedSimpArgs false
set_option linter.unusedVariables false
namespace Go.Proofs.YthbpnknhfokadaaGreatDoor.slopeFlatter
open Go Go.ChangeShapes Go.WideShapes Go.ChangeAt Go.RowKit
theorem w1 : OpenClaim.wfByText (OpenSpec.ofChange Rows.slopeFlatterSpec) Rows.slopeFlatterRow = true := by kernel_rfl
theorem w3 : true = Tryz.pinned.checked.prog.looks [] := by kernel_rfl
theorem w4 : false = Rows.slopeFlatterRow.goesBy Tryz.pinned.checked.prog := by kernel_rfl
theorem gq : Tryz.prog.wantsStandIn 5 = false := by kernel_rfl
theorem card : Rows.SlopeFlatterCardSaid :=
 Claim7.holds_tied_plain_at .later [] _ _ _ _ said (fun _ h => by cases h) w1 (fun _ h => by cases h) slopeFlatter_row_tie rfl ⟨rfl, rfl⟩ (by kernel_rfl) rfl (by
 intro f fn hf hfn
 obtain rfl : f = 9 := Option.some.inj (named.symm.trans hf) |>.symm
 obtain rfl : fn = Tryz.f9 := (Option.some.inj (Tryz.func9.symm.trans hfn)).symm
 refine ⟨w3, fun j t ht => ?_⟩
 rw [Tryz.params9] at ht
 have h : t = 5 ∨ t = 5 ∨ t = 5 ∨ t = 5 := by
  match j, ht with
  | 0, ht => exact .inl (Option.some.inj ht).symm
  | 1, ht => exact .inr (.inl (Option.some.inj ht).symm)
  | 2, ht => exact .inr (.inr (.inl (Option.some.inj ht).symm))
  | 3, ht => exact .inr (.inr (.inr (Option.some.inj ht).symm))
  | j + 4, ht => simp at ht
 rcases h with rfl | rfl | rfl | rfl
 ·exact gq
 ·exact gq
 ·exact gq
 ·exact gq) w4
end Go.Proofs.YthbpnknhfokadaaGreatDoor.slopeFlatter
