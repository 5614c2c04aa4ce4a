/- SpanRafters (kingpostlaw53) returns true for all arguments: the card. -/
import Derived.Test.YtdkpceodckdcfaaGreatDoorTeEe
namespace Go.Proofs.YtdkpceodckdcfaaGreatDoor.spanRafters
open Go Go.ChangeShapes Go.WideShapes Go.ChangeAt Go.RowKit
theorem k10 : (Rows.spanRaftersRow.inPlace == Tryz.pinned.checked.prog.inPlace 10) = true := by kernel_rfl
theorem k11 : (Rows.spanRaftersRow.unfollowed == Tryz.pinned.checked.prog.unfollowed 10) = true := by kernel_rfl
theorem k12 : (Rows.spanRaftersRow.recurses == Tryz.pinned.checked.prog.recurses 10) = true := by kernel_rfl
theorem k13 : (Rows.spanRaftersRow.named == Tryz.pinned.checked.prog.varsNamed 10) = true := by kernel_rfl
theorem closed : joinedFacts Tryz.pinned.checked.prog 10 Tryz.f10 (OpenSpec.ofChange Rows.spanRaftersSpec).bare Rows.spanRaftersRow = true := by
 unfold joinedFacts
 rw [k10, k11, k12, k13]
 kernel_rfl
theorem wrap : Tryz.f10.isWrapper Tryz.pinned.checked.prog Rows.spanRaftersRow.wrapper Rows.spanRaftersRow.mainSum := by
 unfold Func.isWrapper; first | (rw [if_pos (by decide +kernel)]; kernel_rfl) | (rw [if_neg (by decide +kernel)]; exact ⟨rfl, rfl⟩)
theorem inst : Tryz.f10.isInstance Tryz.pinned.checked.prog Rows.spanRaftersRow.origin Rows.spanRaftersRow.targs := of_decide_eq_true (by kernel_rfl)
theorem named : Tryz.pinned.checked.prog.funcNamed Rows.spanRaftersRow.func = some 10 := by kernel_rfl
theorem said : Rows.SpanRaftersSaid :=
 OpenClaim.holds_of_cond 10 Tryz.f10 rfl rfl rfl rfl rfl rfl rfl ⟨rfl, rfl, rfl, rfl, rfl⟩ rfl rfl rfl rfl rfl named Tryz.func10 closed
  inst wrap
  (fun os started H enc _ F => by rw [OpenClaim.pre_eq_preRow]; exact lifted os started H enc F)
theorem card : Rows.SpanRaftersCardSaid :=
 Claim7.holds_tied_plain_at .later [] _ _ _ _ said (fun _ h => by cases h) (by kernel_rfl) (fun _ h => by cases h) spanRafters_row_tie rfl ⟨rfl, rfl⟩ (by kernel_rfl) rfl (by
 intro f fn hf hfn
 obtain rfl : f = 10 := Option.some.inj ((show Tryz.prog.funcNamed "kingpost/kingpostlaw53.SpanRafters" = some 10 by kernel_rfl).symm.trans hf) |>.symm
 obtain rfl : fn = Tryz.f10 := (Option.some.inj (Tryz.func10.symm.trans hfn)).symm
 refine ⟨by kernel_rfl, fun j t ht => ?_⟩
 rw [Tryz.params10] at ht
 have h : t = 25 ∨ t = 55 := by
  match j, ht with
  | 0, ht => exact .inl (Option.some.inj ht).symm
  | 1, ht => exact .inr (Option.some.inj ht).symm
  | j + 2, ht => simp at ht
 rcases h with rfl | rfl
 · exact (show Tryz.prog.wantsStandIn 25 = false by kernel_rfl)
 · exact (show Tryz.prog.wantsStandIn 55 = false by kernel_rfl)) (by kernel_rfl)
end Go.Proofs.YtdkpceodckdcfaaGreatDoor.spanRafters
