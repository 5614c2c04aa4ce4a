/- The law's own functions: great. -/
import Derived.Test.YtojonobehnbeiaaGreatDoorTzCd
import Derived.Test.YtojonobehnbeiaaGreatDoorTzJ
set_option linter.unusedSimpArgs false
namespace Go.Tz
open Go Go.Sx Go.Proofs
set_option maxRecDepth 100000
set_option maxHeartbeats 4000000
def longC (c : Cut) : Bool := ltB 12 (c.ms.length : Int)
def g42 (l : List Cut) : Bool := l.any longC || ltB 12 (l.length : Int)
def g42_an (l : List Cut) : Ann :=
  .two .auto (.two (.two .auto (.one (.loop Nat (fun σ z => [(0, σ.tm 0), (3, .i z)]) (fun σ z => []) 0 (fun σ z => z ≤ l.length ∧ ∀ i, i < z → longC (l.getD i ⟨0, 0, 0, []⟩) = false) (fun σ z => l.length - z) .auto))) .auto)
theorem g42_vc (l : List Cut) : bndL [slX 4 l] → (∃ (z : Nat), ((z ≤ l.length ∧ ∀ (i : Nat), i < z → longC (List.getD l i (Cut.mk (0 : Int) (0 : Int) (0 : Int) [])) = false) ∧ avM (slX 4 l) (slX 4 l) ∧ IntKind.i64 = .i64 ∧ (0 : Int) = (z : Int)) ∧ True) ∧ ∀ (z : Nat), (z ≤ l.length ∧ ∀ (i : Nat), i < z → longC (List.getD l i (Cut.mk (0 : Int) (0 : Int) (0 : Int) [])) = false) → bsplit (ltB (z : Int) (l.length : Int)) (bsplit (DB.db ((0 : Int) ≤ (z : Int) ∧ (z : Int) < (l.length : Int))) (bsplit (ltB (12 : Int) (↑(List.length (Cut.ms (List.getD l (Int.toNat (z : Int)) Enc.dflt))) : Int)) (true =
 g42 l) (bsplit (DB.db (inK .i64 ((z : Int) + (1 : Int)))) (∃ (z' : Nat), (((z' ≤ l.length ∧ ∀ (i : Nat), i < z' → longC (List.getD l i (Cut.mk (0 : Int) (0 : Int) (0 : Int) [])) = false) ∧ l.length - z' < l.length - z) ∧ avM (slX 4 l) (slX 4 l) ∧ IntKind.i64 = .i64 ∧ (z : Int) + (1 : Int) = (z' : Int)) ∧ True) False)) False) (ltB (12 : Int) (l.length : Int) = g42 l) := by
  intro hb
  have e1 : (Enc.dflt : Cut) = ⟨0, 0, 0, []⟩ := rfl
  simp only [slX, slN, avM_refl, true_and, and_true, bsel_true, bsel_false, vc_own, bif_or, bif_and, vc_gdb, vc_db, vc_lt, vc_le, vc_ne, vc_eq, vc_tt, Int.toNat_natCast, Nat.zero_add, Nat.zero_le, Nat.sub_zero, agD_bar, agOk_bar, agD_bar', agOk_bar', agD_cut, agOk_cut, agD_cut', agOk_cut', agD_used, agOk_used, agD_used', agOk_used', int_i, Bool.or_true, cond_true, cond_false, e1]
  have hl : l.length ≤ 9223372036854775807 := hb.1
  refine ⟨⟨0, ⟨by omega, fun i hi => by omega⟩, rfl⟩, fun z ⟨z1, z2⟩ => ⟨fun hz => ⟨by omega, fun h => ?_, fun h => ⟨by simp only [inK]; omega, z + 1, ⟨⟨by omega, fun i hi => ?_⟩, by omega⟩, by omega⟩⟩, fun hz => ?_⟩⟩
  · have : l.any longC = true := List.any_eq_true.2 ⟨l.getD z ⟨0, 0, 0, []⟩, by rw [List.getD_eq_getElem?_getD, List.getElem?_eq_getElem (by omega)]; exact List.getElem_mem _, (ltB_iff _ _).2 h⟩
    unfold g42; rw [this]; rfl
  · by_cases e : i = z
    · rw [e]; unfold longC; rw [ltB_eq, decide_eq_false_iff_not]; omega
    · exact z2 i (by omega)
  · have : l.any longC = false := by
      rw [List.any_eq_false]
      intro x hx
      obtain ⟨i, hi, rfl⟩ := List.getElem_of_mem hx
      have := z2 i (by omega)
      rw [List.getD_eq_getElem?_getD, List.getElem?_eq_getElem hi, Option.getD_some] at this
      rw [this]; decide
    unfold g42; rw [this]; rfl
def longG (b : Bar) : Bool := ltB 20 (b.gs.length : Int)
def g43 (l : List Bar) : Bool := (ltB 6 (l.length : Int) && leB (l.length : Int) 64) || ltB 66 (l.length : Int) || l.any longG
def g43_an (l : List Bar) : Ann :=
  .two .auto (.two .auto (.two (.two .auto (.one (.loop Nat (fun σ z => [(0, σ.tm 0), (3, .i z)]) (fun σ z => []) 0 (fun σ z => z ≤ l.length ∧ ∀ i, i < z → longG (l.getD i ⟨0, 0, 0, 0, 0, []⟩) = false) (fun σ z => l.length - z) .auto))) .auto))
theorem g43_vc (l : List Bar) :
 let q1 := (!bsel true (ltB (6 : Int) (l.length : Int)) || bsel true (ltB (6 : Int) (l.length : Int))); let q3 := (bif ltB (6 : Int) (l.length : Int) then leB (l.length : Int) (64 : Int) else false); let q2 := (!bsel false q3 || bsel false q3); let q4 := (Bar.mk (0 : Int) (0 : Int) (0 : Int) (0 : Int) (0 : Int) []); bndL [slX 6 l] → bsplit q1 (bsplit q1 (bsplit (!ltB (6 : Int) (l.length : Int) || bsel true (ltB (6 : Int) (l.length : Int))) (bsplit q2 (bsplit q2 (bsplit ((!!bif ltB (6 : Int) (l.length : Int) then leB (l.length : Int) (64 : Int) else false) || bsel false q3) (bsplit (bif bif ltB
 (6 : Int) (l.length : Int) then leB (l.length : Int) (64 : Int) else false then true else ltB (66 : Int) (l.length : Int)) (true = g43 l) ((∃ (z : Nat), ((z ≤ l.length ∧ ∀ (i : Nat), i < z → longG (List.getD l i q4) = false) ∧ avM (slX 6 l) (slX 6 l) ∧ IntKind.i64 = .i64 ∧ (0 : Int) = (z : Int)) ∧ True) ∧ ∀ (z : Nat), (z ≤ l.length ∧ ∀ (i : Nat), i < z → longG (List.getD l i q4) = false) → bsplit (ltB (z : Int) (l.length : Int)) (bsplit (DB.db ((0 : Int) ≤ (z : Int) ∧ (z : Int) < (l.length : Int))) (bsplit (ltB (20 : Int) (↑(List.length (Bar.gs (List.getD l (Int.toNat (z : Int)) Enc.dflt))) :
 Int)) (true = g43 l) (bsplit (DB.db (inK .i64 ((z : Int) + (1 : Int)))) (∃ (z' : Nat), (((z' ≤ l.length ∧ ∀ (i : Nat), i < z' → longG (List.getD l i q4) = false) ∧ l.length - z' < l.length - z) ∧ avM (slX 6 l) (slX 6 l) ∧ IntKind.i64 = .i64 ∧ (z : Int) + (1 : Int) = (z' : Int)) ∧ True) False)) False) (false = g43 l))) False) False) False) False) False) False := by
  dsimp only
  intro hb
  have e2 : (Enc.dflt : Bar) = ⟨0, 0, 0, 0, 0, []⟩ := rfl
  simp only [slX, slN, avM_refl, true_and, and_true, bsel_true, bsel_false, vc_own, bif_or, bif_and, vc_gdb, vc_db, vc_lt, vc_le, vc_ne, vc_eq, vc_tt, Int.toNat_natCast, Nat.zero_add, Nat.zero_le, Nat.sub_zero, agD_bar, agOk_bar, agD_bar', agOk_bar', agD_cut, agOk_cut, agD_cut', agOk_cut', agD_used, agOk_used, agD_used', agOk_used', int_i, Bool.or_true, cond_true, cond_false, e2]
  have hl : l.length ≤ 9223372036854775807 := hb.1
  refine bsplit_iff.2 ⟨fun h => by unfold g43; rw [h]; rfl, fun h => ⟨⟨0, ⟨by omega, fun i hi => by omega⟩, rfl⟩, fun z ⟨z1, z2⟩ => ⟨fun hz => ⟨by omega, fun h2 => ?_, fun h2 => ⟨by simp only [inK]; omega, z + 1, ⟨⟨by omega, fun i hi => ?_⟩, by omega⟩, by omega⟩⟩, fun hz => ?_⟩⟩⟩
  · have : l.any longG = true := List.any_eq_true.2 ⟨l.getD z ⟨0, 0, 0, 0, 0, []⟩, by rw [List.getD_eq_getElem?_getD, List.getElem?_eq_getElem (by omega)]; exact List.getElem_mem _, (ltB_iff _ _).2 h2⟩
    unfold g43; rw [this, Bool.or_true]
  · by_cases e : i = z
    · rw [e]; unfold longG; rw [ltB_eq, decide_eq_false_iff_not]; omega
    · exact z2 i (by omega)
  · have : l.any longG = false := by
      rw [List.any_eq_false]
      intro x hx
      obtain ⟨i, hi, rfl⟩ := List.getElem_of_mem hx
      have := z2 i (by omega)
      rw [List.getD_eq_getElem?_getD, List.getElem?_eq_getElem hi, Option.getD_some] at this
      rw [this]; decide
    unfold g43; rw [this, h]; rfl
theorem g42_C (l : List Cut) : PureCall Tryz.prog [] 47 [slE l] (.b (g42 l)) :=
  pure_of_vc mixed tb0_sound (Eq.mp (by kernel_rfl) (g42_vc l) : vcFn Tryz.prog T0 47 (g42_an l) [slE l] (.b (g42 l)))
theorem g43_C (l : List Bar) : PureCall Tryz.prog [] 48 [slE l] (.b (g43 l)) :=
  pure_of_vc mixed tb0_sound (Eq.mp (by kernel_rfl) (g43_vc l) : vcFn Tryz.prog T0 48 (g43_an l) [slE l] (.b (g43 l)))
theorem gr_vc (ps : List Cut) (bs : List Bar) : bndL [slX 4 ps, slX 6 bs] → Wk [slX 4 ps] [slX 4 ps] ∧ bsplit (!bsel false (g42 ps) || bsel false (g42 ps)) ((bsel false (g42 ps) = true → Wk [slX 6 bs] [slX 6 bs]) ∧ bsplit (!!g42 ps || bsel false (g42 ps)) ((bif g42 ps then true else g43 bs) = (g42 ps || g43 bs)) False) False := by
  intro hb
  simp only [slX, slN, avM_refl, true_and, and_true, bsel_true, bsel_false, vc_own, bif_or, bif_and, vc_gdb, vc_db, vc_lt, vc_le, vc_ne, vc_eq, vc_tt, Int.toNat_natCast, Nat.zero_add, Nat.zero_le, Nat.sub_zero, agD_bar, agOk_bar, agD_bar', agOk_bar', agD_cut, agOk_cut, agD_cut', agOk_cut', agD_used, agOk_used, agD_used', agOk_used', int_i, Bool.or_true, cond_true, cond_false]
  exact ⟨Wk.refl _, fun _ => Wk.refl _⟩
theorem gr_C (ps : List Cut) (bs : List Bar) : PureCall Tryz.prog [] 21 [slE ps, slE bs] (.b (g42 ps || g43 bs)) :=
  pure_of_vc mixed (TbSound.plus (TbSound.plus tb0_sound (inst_T (g42_C ps))) (inst_T (g43_C bs))) (Eq.mp (by kernel_rfl) (gr_vc ps bs) : vcFn Tryz.prog ((T0.plus 47 (inst [slE ps] (.b (g42 ps)))).plus 48 (inst [slE bs] (.b (g43 bs)))) 21 .auto [slE ps, slE bs] (.b (g42 ps || g43 bs)))
end Go.Tz
