import Derived.Test.YtdkpceodckdcfaaGreatDoorTeEi
set_option linter.unusedSimpArgs false
set_option linter.unusedVariables false
namespace Go.Proofs.YtdkpceodckdcfaaGreatDoor.spanTables
open Go Go.ChangeShapes Go.WideShapes Go.ChangeAt Go.RowKit
theorem Pf : (Rows.spanTablesRow.inPlace == Tryz.pinned.checked.prog.inPlace 8) = true := by kernel_rfl
theorem PM : (Rows.spanTablesRow.unfollowed == Tryz.pinned.checked.prog.unfollowed 8) = true := by kernel_rfl
theorem PH : (Rows.spanTablesRow.recurses == Tryz.pinned.checked.prog.recurses 8) = true := by kernel_rfl
theorem PO : (Rows.spanTablesRow.named == Tryz.pinned.checked.prog.varsNamed 8) = true := by kernel_rfl
theorem closed : joinedFacts Tryz.pinned.checked.prog 8 Tryz.f8 (OpenSpec.ofChange Rows.spanTablesSpec).bare Rows.spanTablesRow = true := by
 unfold joinedFacts
 rw [Pf, PM, PH, PO]
 kernel_rfl
theorem wrap : Tryz.f8.isWrapper Tryz.pinned.checked.prog Rows.spanTablesRow.wrapper Rows.spanTablesRow.mainSum := by
 unfold Func.isWrapper; first | (rw [if_pos (by decide +kernel)]; kernel_rfl) | (rw [if_neg (by decide +kernel)]; exact ⟨rfl, rfl⟩)
theorem Wz : Tryz.f8.isInstance Tryz.pinned.checked.prog Rows.spanTablesRow.origin Rows.spanTablesRow.targs := of_decide_eq_true (by kernel_rfl)
theorem named : Tryz.pinned.checked.prog.funcNamed Rows.spanTablesRow.func = some 8 := by kernel_rfl
theorem said : Rows.SpanTablesSaid :=
 OpenClaim.holds_of_cond 8 Tryz.f8 rfl rfl rfl rfl rfl rfl rfl ⟨rfl, rfl, rfl, rfl, rfl⟩ rfl rfl rfl rfl rfl named Tryz.func8 closed
  Wz wrap
  (fun os started H enc _ F => by rw [OpenClaim.pre_eq_preRow]; exact lifted os started H enc F)
theorem card : Rows.SpanTablesCardSaid :=
 Claim7.holds_tied_plain_at .later [] _ _ _ _ said (fun _ h => by cases h) (by kernel_rfl) (fun _ h => by cases h) spanTables_row_tie rfl ⟨rfl, rfl⟩ (by kernel_rfl) rfl (by
 intro f fn hf hfn
 obtain rfl : f = 8 := Option.some.inj ((show Tryz.prog.funcNamed "kingpost/kingpostlaw53.SpanTables" = some 8 by kernel_rfl).symm.trans hf) |>.symm
 obtain rfl : fn = Tryz.f8 := (Option.some.inj (Tryz.func8.symm.trans hfn)).symm
 refine ⟨by kernel_rfl, fun j t ht => ?_⟩
 rw [Tryz.params8] at ht
 have h : t = 22 ∨ t = 9 := by
  match j, ht with
  | 0, ht => exact .inl (Option.some.inj ht).symm
  | 1, ht => exact .inr (Option.some.inj ht).symm
  | j + 2, ht => simp at ht
 rcases h with rfl | rfl
 ·exact (show Tryz.prog.wantsStandIn 22 = false by kernel_rfl)
 ·exact (show Tryz.prog.wantsStandIn 9 = false by kernel_rfl)) (by kernel_rfl)
end Go.Proofs.YtdkpceodckdcfaaGreatDoor.spanTables
