/- NestWaste's walk. -/
import Derived.Test.YtojonobehnbeiaaGreatDoorTzHa
import Derived.Test.YtojonobehnbeiaaGreatDoorTzGb
import Derived.Test.YtojonobehnbeiaaGreatDoorTzEw
set_option linter.unusedSimpArgs false
namespace Go.Tz
open Go Go.Sx Go.Proofs
set_option maxRecDepth 100000
set_option maxHeartbeats 4000000
theorem fineB_ok {ps : List Cut} {bs : List Bar} {k : Int} (hf : fineB ps bs k = true) : Askd ps bs k ∧ (splitL ps).length ≤ 6 ∧ barsE bs = 0 := by
  unfold fineB at hf
  simp only [Bool.and_eq_true, beq_iff_eq, leB_iff, Bool.not_eq_true'] at hf
  obtain ⟨⟨⟨⟨⟨⟨hgr, hs⟩, hn⟩, hm⟩, hB⟩, hk0⟩, hk1⟩ := hf
  have hC : cutsE ps = 0 := by
    unfold splitE at hs
    cases hc : cutsE ps == 0 with
    | true => exact eq_of_beq hc
    | false => rw [hc] at hs; cases hs
  have eC : splitC ps = splitL ps := by unfold splitC; rw [hC]; rfl
  rw [eC] at hn
  exact ⟨⟨hC, barsE_good hB, hk0, hk1, by omega, by omega⟩, by omega, hB⟩
theorem Askd.first {ps : List Cut} {bs : List Bar} {k : Int} (h : Askd ps bs k) (hE : frstE ps bs k = 0) : Nst (splitL ps) bs k (splitL ps).length (frstL ps bs k) ∧ (frstL ps bs k).length ≤ 8 := by
  obtain ⟨h1, h2⟩ := h.start
  have hL : frstL ps bs k = (firstF (splitL ps) bs k (splitL ps).length).getD [] := by unfold frstL; rw [hE, h2]; rfl
  have hn := h.n
  cases hf : firstF (splitL ps) bs k (splitL ps).length with
  | none => unfold frstE at hE; rw [h1, h2, hf] at hE; cases hE
  | some us =>
    rw [hf] at hL
    have hL : frstL ps bs k = us := hL
    rw [hL]
    have hfin := first_fin hf
    have hl := hfin.len
    exact ⟨hfin.nst (Nst.nil _ h.b _), by simp only [List.length_nil] at hl; omega⟩
theorem Askd.frst_ {ps : List Cut} {bs : List Bar} {k : Int} (h : Askd ps bs k) : frstE ps bs k = match firstF (splitL ps) bs k (splitL ps).length with | some _ => 0 | none => 22 := by
  obtain ⟨h1, h2⟩ := h.start
  unfold frstE
  rw [h1, h2]
  cases hf : firstF (splitL ps) bs k (splitL ps).length with
  | none => rfl
  | some us =>
    have hl := (first_fin hf).len
    have hn := h.n
    simp only [List.length_nil] at hl
    show (bif ltB 64 (us.length : Int) then (4 : Int) else 0) = 0
    rw [show ltB 64 (us.length : Int) = false by rw [Bool.eq_false_iff]; intro e; have := (ltB_iff _ _).1 e; omega]
    rfl
theorem Nst.waste {ps : List Cut} {bs : List Bar} {k : Int} {us : List Used} (h : Nst (splitL ps) bs k (splitL ps).length us) (hC : cutsE ps = 0) (hB : barsE bs = 0) (hl : us.length ≤ 64) : wasteE ps bs us = 0 ∧ wasteV ps bs us = sumW (splitL ps) bs us us.length := by
  have e : wasteE ps bs us = 0 := by
    rw [wasteE_any (by rw [hB, hC]; rfl) hl]
    rw [show us.any (badU bs.length (splitL ps).length) = false from ?_]; rfl
    rw [List.any_eq_false]
    intro u hu
    have hf := h.u u hu
    have hb := hf.bar
    rw [Bool.not_eq_true]
    unfold badU badK
    rw [Bool.or_eq_false_iff, Bool.or_eq_false_iff]
    refine ⟨⟨?_, ?_⟩, List.any_eq_false.2 fun p hp => ?_⟩
    · rw [Bool.eq_false_iff]; intro e; have := (ltB_iff _ _).1 e; omega
    · rw [Bool.eq_false_iff]; intro e; have := (leB_iff _ _).1 e; omega
    · have := hf.ps p hp
      rw [Bool.not_eq_true]
      unfold badP
      rw [Bool.or_eq_false_iff]
      constructor
      · rw [Bool.eq_false_iff]; intro e; have := (ltB_iff _ _).1 e; omega
      · rw [Bool.eq_false_iff]; intro e; have := (leB_iff _ _).1 e; omega
  exact ⟨e, by unfold wasteV; rw [e]; rfl⟩
theorem ps_len {u : Used} : ∀ {us : List Used}, u ∈ us → u.ps.length ≤ (us.flatMap (·.ps)).length
  | v :: us, h => by
    rw [List.flatMap_cons, List.length_append]
    rcases List.mem_cons.1 h with rfl | h
    · omega
    · have := ps_len h; omega
theorem Nst.fitU {A : List Cut} {B : List Bar} {k : Int} {n : Nat} {us : List Used} (h : Nst A B k n us) (hn : n ≤ 66) : fitU us = true := by
  unfold Tz.fitU
  rw [Bool.or_eq_true]
  refine Or.inr (List.all_eq_true.2 fun u hu => Nat.ble_eq_true_of_le ?_)
  have h1 := ps_len hu
  have h2 := h.perm.length_eq
  simp only [List.length_map, List.length_range] at h2
  omega
noncomputable def Twa (G : List (Nat × Obj)) (ps : List Cut) (bs : List Bar) (k : Int) : Tb :=
  ((((((tb0 G).plus 8 (inst [slE ps, slE bs, .i k] (.b (fineB ps bs k)))).plus 10 (inst [] (.b true))).plus 17 first_t).plus 19 total_t).plus 20 Waste_t)
theorem Twa_sound {G : List (Nat × Obj)} (hG : TabIn G) (ps : List Cut) (bs : List Bar) (k : Int) : TbSound Tryz.prog (Twa G ps bs k) :=
  (TbSound.plus (TbSound.plus (TbSound.plus (TbSound.plus (TbSound.plus tb0_sound (inst_T (PureCall.mono (fine_C ps bs k)))) (inst_T (awake_C hG))) (PureT.mono first_T)) (PureT.mono total_T)) (PureT.mono nWaste_T))
def lwaste_an (us : List Used) (bs : List Bar) : Ann :=
  .two .auto (.two .auto (.two .auto (.two .auto (.two .auto (.two .auto (.two .auto (.two (.two .auto (.one (.loop Nat (fun σ z => [(1, σ.tm 1), (8, σ.tm 8), (9, σ.tm 9), (10, σ.tm 10), (11, σ.tm 11), (43, σ.tm 43), (44, σ.tm 44), (12, .i (sumB bs us z)), (45, .i z)]) (fun σ z => []) 0 (fun σ z => z ≤ us.length) (fun σ z => us.length - z) .auto))) .auto)))))))
theorem lwaste_vc (G : List (Nat × Obj)) (ps : List Cut) (bs : List Bar) (k : Int) :
 let q1 := (slX 3 (frstL (slD (AV.xl false 4 (ps.length) fun i j => Enc.enc (List.getD ps i Enc.dflt) j)) (slD (AV.xl false 6 (bs.length) fun i j => Enc.enc (List.getD bs i Enc.dflt) j)) k)); let q2 := (usedOf q1); let q3 := (IntKind.i64 = .i64 ∧ totE (cutsOf (slX 4 ps)) = totE (cutsOf (slX 4 ps))); let q4 := (IntKind.i64 = .i64 ∧ totV (cutsOf (slX 4 ps)) = totV (cutsOf (slX 4 ps))); let q5 := (IntKind.i64 = .i64 ∧ wasteV (cutsOf (slX 4 ps)) (barsOf (slX 6 bs)) q2 = wasteV (cutsOf (slX 4 ps)) (barsOf (slX 6 bs)) q2); let q6 := (IntKind.i64 = .i64 ∧ wasteE (cutsOf (slX 4 ps)) (barsOf (slX 6 bs))
 q2 = wasteE (cutsOf (slX 4 ps)) (barsOf (slX 6 bs)) q2); let q9 := (frstL (slD (slX 4 ps)) (slD (slX 6 bs)) k); let q8 := (↑(List.length q9) : Int); let q7 := (IntKind.i64 = .i64 ∧ q8 = q8); let q15 := (bif totE (cutsOf (slX 4 ps)) == (0 : Int) then wasteE (cutsOf (slX 4 ps)) (barsOf (slX 6 bs)) q2 == (0 : Int) else false); let q18 := (wasteV (cutsOf (slX 4 ps)) (barsOf (slX 6 bs)) q2); let q17 := (bif bif totE (cutsOf (slX 4 ps)) == (0 : Int) then wasteE (cutsOf (slX 4 ps)) (barsOf (slX 6 bs)) q2 == (0 : Int) else false then leB (0 : Int) q18 else false); let q16 := (!bsel true q17 || bsel
 true q17); bndL [slX 4 ps, slX 6 bs, AV.v (Value.int .i64 k)] → Wk [slX 4 ps, slX 6 bs, AV.v (Value.int .i64 k)] [slX 4 ps, slX 6 bs, AV.v (Value.int .i64 k)] ∧ bsplit (!fineB ps bs k) (Wk [] [] ∧ true = true) (bsplit (slOk Cut (slX 4 ps)) (bsplit (slOk Bar (slX 6 bs)) (bsplit (frstE (slD (slX 4 ps)) (slD (slX 6 bs)) k != (0 : Int)) (Wk [] [] ∧ true = true) (bsplit (slOk Cut (slX 4 ps)) (bsplit (slOk Cut (slX 4 ps)) (bsplit (slOk Bar (slX 6 bs)) (bsplit (slOk Used q1) (bsplit (fitU q2) ((∃ (z : Nat), (z ≤ List.length (frstL ps bs k) ∧ avM (slX 6 bs) (slX 6 bs) ∧ q3 ∧ q4 ∧ q5 ∧ q6 ∧ avM q1 q1 ∧
 q7 ∧ (IntKind.i64 = .i64 ∧ (0 : Int) = sumB bs (frstL ps bs k) z) ∧ IntKind.i64 = .i64 ∧ (0 : Int) = (z : Int)) ∧ True) ∧ ∀ (z : Nat), let q13 := (List.getD q9 (Int.toNat (z : Int)) Enc.dflt); let q12 := (Used.bar q13); let q11 := (ltB q12 (0 : Int)); let q10 := (!bsel false q11 || bsel false q11); let q14 := (List.getD bs (Int.toNat q12) Enc.dflt); let q19 := (bif bif bif totE (cutsOf (slX 4 ps)) == (0 : Int) then wasteE (cutsOf (slX 4 ps)) (barsOf (slX 6 bs)) q2 == (0 : Int) else false then leB (0 : Int) q18 else false then wasteV (cutsOf (slX 4 ps)) (barsOf (slX 6 bs)) q2 == sumB bs (frstL
 ps bs k) z - totV (cutsOf (slX 4 ps)) else false); z ≤ List.length (frstL ps bs k) → bsplit (ltB (z : Int) q8) (bsplit (DB.db ((0 : Int) ≤ (z : Int) ∧ (z : Int) < q8)) (bsplit q10 (bsplit q10 (bsplit q10 (bsplit q10 (bsplit (!!ltB q12 (0 : Int) || bsel false q11) (bsplit (bif ltB q12 (0 : Int) then true else leB (bs.length : Int) q12) (false = true) (bsplit (DB.db ((0 : Int) ≤ Used.bar q13 ∧ Used.bar q13 < (bs.length : Int))) (bsplit (DB.db (inK .i64 (sumB bs (frstL ps bs k) z + Bar.l q14))) (bsplit (DB.db (inK .i64 ((z : Int) + (1 : Int)))) (∃ (z' : Nat), ((z' ≤ List.length (frstL ps bs k) ∧
 List.length (frstL ps bs k) - z' < List.length (frstL ps bs k) - z) ∧ avM (slX 6 bs) (slX 6 bs) ∧ q3 ∧ q4 ∧ q5 ∧ q6 ∧ avM q1 q1 ∧ q7 ∧ (IntKind.i64 = .i64 ∧ sumB bs (frstL ps bs k) z + Bar.l q14 = sumB bs (frstL ps bs k) z') ∧ IntKind.i64 = .i64 ∧ (z : Int) + (1 : Int) = (z' : Int)) ∧ True) False) False) False)) False) False) False) False) False) False) (bsplit (!bsel true (totE (cutsOf (slX 4 ps)) == (0 : Int)) || bsel true (totE (cutsOf (slX 4 ps)) == (0 : Int))) (bsplit (!totE (cutsOf (slX 4 ps)) == (0 : Int) || bsel true (totE (cutsOf (slX 4 ps)) == (0 : Int))) (bsplit (!bsel true q15 ||
 bsel true q15) (bsplit ((!bif totE (cutsOf (slX 4 ps)) == (0 : Int) then wasteE (cutsOf (slX 4 ps)) (barsOf (slX 6 bs)) q2 == (0 : Int) else false) || bsel true q15) (bsplit q16 (bsplit q16 (bsplit (!bsel true q17 || DB.db (inK .i64 (sumB bs (frstL ps bs k) z - totV (cutsOf (slX 4 ps))))) (bsplit q16 (bsplit q16 (bsplit ((!bif bif totE (cutsOf (slX 4 ps)) == (0 : Int) then wasteE (cutsOf (slX 4 ps)) (barsOf (slX 6 bs)) q2 == (0 : Int) else false then leB (0 : Int) q18 else false) || bsel true q17) ((bsel true q19 = true → Wk [] []) ∧ bsplit ((!bif bif bif totE (cutsOf (slX 4 ps)) == (0 : Int)
 then wasteE (cutsOf (slX 4 ps)) (barsOf (slX 6 bs)) q2 == (0 : Int) else false then leB (0 : Int) q18 else false then wasteV (cutsOf (slX 4 ps)) (barsOf (slX 6 bs)) q2 == sumB bs (frstL ps bs k) z - totV (cutsOf (slX 4 ps)) else false) || bsel true q19) ((bif bif bif bif totE (cutsOf (slX 4 ps)) == (0 : Int) then wasteE (cutsOf (slX 4 ps)) (barsOf (slX 6 bs)) q2 == (0 : Int) else false then leB (0 : Int) q18 else false then wasteV (cutsOf (slX 4 ps)) (barsOf (slX 6 bs)) q2 == sumB bs (frstL ps bs k) z - totV (cutsOf (slX 4 ps)) else false then true else false) = true) False) False) False)
 False) False) False) False) False) False) False) False)) False) False) False) False) False)) False) False) := by
  dsimp only
  have e0 : (Enc.dflt : Int) = 0 := rfl
  have e1 : (Enc.dflt : Cut) = c0 := rfl
  have e2 : (Enc.dflt : Bar) = b0 := rfl
  have e3 : (Enc.dflt : Used) = u0 := rfl
  intro hb
  simp only [slX, slN, avM_refl, true_and, and_true, bsel_true, bsel_false, vc_own, bif_or, bif_and, vc_gdb, vc_db, vc_lt, vc_le, vc_ne, vc_eq, vc_tt, Int.toNat_natCast, Nat.zero_add, Nat.zero_le, Nat.sub_zero, agD_bar, agOk_bar, agD_bar', agOk_bar', agD_cut, agOk_cut, agD_cut', agOk_cut', agD_used, agOk_used, agD_used', agOk_used', int_i, Bool.or_true, cond_true, cond_false, okC, okC', deC, deC', okB, deB, okB', deB', okIn, okIn', deI, deI', okU, okU', deU, deU', okBl, deBl, okUl, deUl, deIo, cutsOf_sl, deUo, okBf, deBf, deBo, e0, e1, e2, e3, ltB_nat, pred_nat]
  refine ⟨Wk.refl _, bsplit_iff.2 ⟨fun _ => Wk.refl _, fun hg => ⟨fun _ => Wk.refl _, fun hE => ?_⟩⟩⟩
  simp only [Bool.not_eq_false'] at hg
  obtain ⟨hA, hn, hB⟩ := fineB_ok hg
  obtain ⟨hN, hl⟩ := hA.first hE
  generalize frstL ps bs k = us at *
  obtain ⟨w1, w2⟩ := hN.waste hA.c hB (by omega)
  obtain ⟨v1, v2⟩ := nst_waste hN
  have t1 : totE ps = 0 := by unfold totE; rw [hA.c]; rfl
  have t2 : totV ps = totZ ps ps.length := by unfold totV; rw [hA.c]; rfl
  have tz := totZ_le hA.c ps.length (Nat.le_refl _)
  have hps := (cutsE_ok hA.c).1
  have hS : ∀ z, z ≤ us.length → 0 ≤ sumB bs us z ∧ sumB bs us z ≤ 65536 * (z : Int) := by
    intro z
    induction z with
    | zero => intro _; simp [sumB]
    | succ z ih =>
      intro hz
      have h1 := ih (by omega)
      have hf := (hN.u _ (mem_getD (us := us) (i := z) (by omega))).bar
      have h2 := bar_l hB hf.1 hf.2
      have e : us.getD z u0 = usedAt us z := rfl
      rw [e] at h2
      unfold sumB
      omega
  rw [hN.fitU (by omega), vc_tt]
  refine ⟨⟨0, Nat.zero_le _, rfl, rfl⟩, fun z hz => ⟨fun hlt => ?_, fun hge => ?_⟩⟩
  · have hf := (hN.u _ (mem_getD (us := us) (i := z) (by omega))).bar
    have h2 := hS (z + 1) (by omega)
    refine ⟨⟨by omega, hlt⟩, ?_⟩
    rw [show (ltB (us.getD z u0).bar 0 || leB (bs.length : Int) (us.getD z u0).bar) = false by
      rw [Bool.or_eq_false_iff]
      constructor
      · rw [Bool.eq_false_iff]; intro e; have := (ltB_iff _ _).1 e; omega
      · rw [Bool.eq_false_iff]; intro e; have := (leB_iff _ _).1 e; omega, vc_ff]
    have e : sumB bs us z + (bs.getD (us.getD z u0).bar.toNat b0).l = sumB bs us (z + 1) := rfl
    rw [e]
    exact ⟨hf, ⟨by omega, by omega⟩, ⟨by omega, by omega⟩, z + 1, ⟨by omega, by omega⟩, rfl, rfl⟩
  · have e : z = us.length := by omega
    have h2 := hS z hz
    subst e
    rw [t1, w1, w2, t2]
    have q : (((0 : Int) == 0) && ((0 : Int) == 0) && leB 0 (sumW (splitL ps) bs us us.length) && sumW (splitL ps) bs us us.length == sumB bs us us.length - totZ ps ps.length && true) = true := by
      rw [← v2, (leB_iff _ _).2 v1]; simp
    exact ⟨fun _ => ⟨by omega, by omega⟩, fun _ => Wk.refl _, q⟩
theorem lwaste_C {G : List (Nat × Obj)} (hG : TabIn G) (ps : List Cut) (bs : List Bar) (k : Int) : PureCall Tryz.prog G 5 [slE ps, slE bs, .i k] (.b true) :=
  pure_of_vc mixed (Twa_sound hG ps bs k) (Eq.mp (by kernel_rfl) (lwaste_vc G ps bs k) : vcFn Tryz.prog (Twa G ps bs k) 5 (lwaste_an (frstL ps bs k) bs) [slE ps, slE bs, .i k] (.b true))
end Go.Tz
