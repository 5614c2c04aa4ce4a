import Derived.Test.YtdkpceodckdcfaaGreatDoorTeEk
set_option linter.unusedSimpArgs false
set_option linter.unusedVariables false
namespace Go.Proofs.YtdkpceodckdcfaaGreatDoor.spanFinds
open Go Go.ChangeShapes Go.WideShapes Go.ChangeAt Go.RowKit
theorem ft : (Rows.spanFindsRow.inPlace == Tryz.pinned.checked.prog.inPlace 9) = true := by kernel_rfl
theorem fP : (Rows.spanFindsRow.unfollowed == Tryz.pinned.checked.prog.unfollowed 9) = true := by kernel_rfl
theorem fp : (Rows.spanFindsRow.recurses == Tryz.pinned.checked.prog.recurses 9) = true := by kernel_rfl
theorem fT : (Rows.spanFindsRow.named == Tryz.pinned.checked.prog.varsNamed 9) = true := by kernel_rfl
theorem closed : joinedFacts Tryz.pinned.checked.prog 9 Tryz.f9 (OpenSpec.ofChange Rows.spanFindsSpec).bare Rows.spanFindsRow = true := by
 unfold joinedFacts
 rw [ft, fP, fp, fT]
 kernel_rfl
theorem wrap : Tryz.f9.isWrapper Tryz.pinned.checked.prog Rows.spanFindsRow.wrapper Rows.spanFindsRow.mainSum := by
 unfold Func.isWrapper; first | (rw [if_pos (by decide +kernel)]; kernel_rfl) | (rw [if_neg (by decide +kernel)]; exact ⟨rfl, rfl⟩)
theorem Rq : Tryz.f9.isInstance Tryz.pinned.checked.prog Rows.spanFindsRow.origin Rows.spanFindsRow.targs := of_decide_eq_true (by kernel_rfl)
theorem named : Tryz.pinned.checked.prog.funcNamed Rows.spanFindsRow.func = some 9 := by kernel_rfl
theorem said : Rows.SpanFindsSaid :=
 OpenClaim.holds_of_cond 9 Tryz.f9 rfl rfl rfl rfl rfl rfl rfl ⟨rfl, rfl, rfl, rfl, rfl⟩ rfl rfl rfl rfl rfl named Tryz.func9 closed
  Rq wrap
  (fun os started H enc _ F => by rw [OpenClaim.pre_eq_preRow]; exact lifted os started H enc F)
theorem card : Rows.SpanFindsCardSaid :=
 Claim7.holds_tied_plain_at .later [] _ _ _ _ said (fun _ h => by cases h) (by kernel_rfl) (fun _ h => by cases h) spanFinds_row_tie rfl ⟨rfl, rfl⟩ (by kernel_rfl) rfl (by
 intro f fn hf hfn
 obtain rfl : f = 9 := Option.some.inj ((show Tryz.prog.funcNamed "kingpost/kingpostlaw53.SpanFinds" = some 9 by kernel_rfl).symm.trans hf) |>.symm
 obtain rfl : fn = Tryz.f9 := (Option.some.inj (Tryz.func9.symm.trans hfn)).symm
 refine ⟨by kernel_rfl, fun j t ht => ?_⟩
 rw [Tryz.params9] at ht
 have h : t = 25 ∨ t = 55 := by
  match j, ht with
  | 0, ht => exact .inl (Option.some.inj ht).symm
  | 1, ht => exact .inr (Option.some.inj ht).symm
  | j + 2, ht => simp at ht
 rcases h with rfl | rfl
 ·exact (show Tryz.prog.wantsStandIn 25 = false by kernel_rfl)
 ·exact (show Tryz.prog.wantsStandIn 55 = false by kernel_rfl)) (by kernel_rfl)
end Go.Proofs.YtdkpceodckdcfaaGreatDoor.spanFinds
