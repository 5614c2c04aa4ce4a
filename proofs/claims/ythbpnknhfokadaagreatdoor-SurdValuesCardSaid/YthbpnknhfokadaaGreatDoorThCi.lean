import Derived.Test.YthbpnknhfokadaaGreatDoorThCf
set_option linter.unusedSimpArgs false
set_option linter.unusedVariables false
namespace Go.Proofs.YthbpnknhfokadaaGreatDoor.surdValues
open Go Go.ChangeShapes Go.WideShapes Go.ChangeAt Go.RowKit
theorem w1 : OpenClaim.wfByText (OpenSpec.ofChange Rows.surdValuesSpec) Rows.surdValuesRow = true := by kernel_rfl
theorem w3 : true = Tryz.pinned.checked.prog.looks [] := by kernel_rfl
theorem w4 : false = Rows.surdValuesRow.goesBy Tryz.pinned.checked.prog := by kernel_rfl
theorem IU : Tryz.prog.wantsStandIn 24 = false := by kernel_rfl
theorem card : Rows.SurdValuesCardSaid :=
 Claim7.holds_tied_plain_at .later [] _ _ _ _ said (fun _ h => by cases h) w1 (fun _ h => by cases h) surdValues_row_tie rfl ⟨rfl, rfl⟩ (by kernel_rfl) rfl (by
 intro f fn hf hfn
 obtain rfl : f = 7 := Option.some.inj (named.symm.trans hf) |>.symm
 obtain rfl : fn = Tryz.f7 := (Option.some.inj (Tryz.func7.symm.trans hfn)).symm
 refine ⟨w3, fun j t ht => ?_⟩
 rw [Tryz.params7] at ht
 have h : t = 24 := by
  match j, ht with
  | 0, ht => exact (Option.some.inj ht).symm
  | j + 1, ht => simp at ht
 subst h
 exact IU) w4
end Go.Proofs.YthbpnknhfokadaaGreatDoor.surdValues
