/- A nest, as the search makes it, is one that nest.Check lets through. -/
import Derived.Test.YtojonobehnbeiaaGreatDoorTzHa
import Derived.Test.YtojonobehnbeiaaGreatDoorTzCc
import Derived.Test.YtojonobehnbeiaaGreatDoorTzEx
import Derived.Test.YtojonobehnbeiaaGreatDoorTzGb
import Derived.Test.YtojonobehnbeiaaGreatDoorTzEw
import Derived.Test.YtojonobehnbeiaaGreatDoorTzEe
namespace Go.Tz
open Go Go.Sx Go.Proofs
set_option maxRecDepth 100000
theorem seenU_flat (l : List Used) : ∀ z, z ≤ l.length → seenU l z = (l.take z).flatMap (·.ps)
  | 0, _ => rfl
  | z + 1, h => by
    unfold seenU
    rw [seenU_flat l z (by omega), used_snoc (by omega)]
    simp
theorem range_nodup (n : Nat) : ((List.range n).map fun i : Nat => (i : Int)).Nodup := by
  rw [List.nodup_iff_pairwise_ne, List.pairwise_map]
  exact List.nodup_range.imp fun h e => h (Int.ofNat.inj e)
theorem Nst.nodup {A : List Cut} {B : List Bar} {k : Int} {n : Nat} {us : List Used} (h : Nst A B k n us) : (us.flatMap (·.ps)).Nodup := h.perm.symm.nodup (range_nodup n)
theorem Nst.fresh {A : List Cut} {B : List Bar} {k : Int} {n : Nat} {us : List Used} (h : Nst A B k n us) {z : Nat} (hz : z < us.length) : (usedAt us z).ps.any (memI (seenU us z)) = false := by
  rw [List.any_eq_false]
  intro p hp hm
  have e : us.flatMap (·.ps) = (us.take (z + 1)).flatMap (·.ps) ++ (us.drop (z + 1)).flatMap (·.ps) := by rw [← List.flatMap_append, List.take_append_drop]
  have h1 := h.nodup
  rw [e] at h1
  have h2 := (List.nodup_append.1 h1).1
  rw [used_snoc hz, List.flatMap_append] at h2
  have h3 := (List.nodup_append.1 h2).2.2 p (by rw [← seenU_flat us z (by omega)]; exact memI_iff.1 hm) p (by simpa using hp)
  exact h3 rfl
theorem usedN_take (us : List Used) (z : Nat) (k : Int) : usedN (us.take z) k ≤ usedN us k := by
  unfold usedN
  exact (List.take_sublist z us).countP_le
theorem FitU.kind {A : List Cut} {B : List Bar} {k : Int} {u : Used} (h : FitU A B k A.length u) : kindE A B u = 0 := by
  have hb := h.bar
  unfold kindE
  rw [show (ltB u.bar 0 || leB (B.length : Int) u.bar) = false by
    rw [Bool.or_eq_false_iff]
    constructor
    · rw [Bool.eq_false_iff]; intro e; have := (ltB_iff _ _).1 e; omega
    · rw [Bool.eq_false_iff]; intro e; have := (leB_iff _ _).1 e; omega]
  rw [show Nat.beq u.ps.length 0 = false by
    rw [Bool.eq_false_iff]; intro e
    exact h.ne (List.length_eq_zero_iff.1 (Nat.eq_of_beq_eq_true e))]
  simp only [cond_false]
  refine firstN_none fun i hi => ?_
  have hg : ∀ j, ∀ hj : j < u.ps.length, u.ps.getD j 0 = u.ps[j] := fun j hj => by rw [List.getD_eq_getElem?_getD, List.getElem?_eq_getElem hj]; rfl
  have hp := h.ps _ (List.getElem_mem hi)
  have hs := h.sect _ (List.getElem_mem hi)
  unfold pcE
  rw [hg i hi]
  rw [show (ltB u.ps[i] 0 || leB (A.length : Int) u.ps[i]) = false by
    rw [Bool.or_eq_false_iff]
    constructor
    · rw [Bool.eq_false_iff]; intro e; have := (ltB_iff _ _).1 e; omega
    · rw [Bool.eq_false_iff]; intro e; have := (leB_iff _ _).1 e; omega]
  rw [show (Nat.blt 0 i && leB u.ps[i] (u.ps.getD (i - 1) 0)) = false by
    rw [Bool.eq_false_iff]
    intro e
    rw [Bool.and_eq_true] at e
    have h0 := (blt_iff _ _).1 e.1
    rw [hg (i - 1) (by omega)] at e
    have h1 := (leB_iff _ _).1 e.2
    have := List.pairwise_iff_getElem.1 h.asc (i - 1) i (by omega) hi (by omega)
    omega]
  rw [show sectB (A.getD (u.ps[i]).toNat ⟨0, 0, 0, []⟩) (barAt B u) = true from hs]
  rfl
theorem Nst.one {A : List Cut} {B : List Bar} {k : Int} {us : List Used} (h : Nst A B k A.length us) {z : Nat} (hz : z < us.length) : oneE A B k us z = 0 := by
  have hf := h.u _ (mem_getD (us := us) (i := z) hz)
  have hf : FitU A B k A.length (usedAt us z) := hf
  rw [one_n hf.kind (h.fresh hz) hf.ok hf.at_.symm]
  have hb := hf.bar
  have h1 := usedN_take us (z + 1) (usedAt us z).bar
  have h2 := h.cnt (usedAt us z).bar.toNat (by omega)
  rw [Int.toNat_of_nonneg hb.1] at h2
  have e : B.getD (usedAt us z).bar.toNat b0 = barAt B (usedAt us z) := rfl
  rw [e] at h2
  rw [show ltB (barAt B (usedAt us z)).n (usedN (us.take (z + 1)) (usedAt us z).bar) = false by
    rw [Bool.eq_false_iff]; intro e; have := (ltB_iff _ _).1 e; omega]
  rfl
theorem sumP_flat (us : List Used) : sumP us us.length = (us.flatMap (·.ps)).length := by
  have := seen_len us us.length
  rw [seenU_flat us _ (Nat.le_refl _), List.take_length] at this
  exact this.symm
theorem Nst.check {ps : List Cut} {bs : List Bar} {k : Int} {us : List Used} (hs : startE ps bs k = 0) (h : Nst (startL ps bs k) bs k (startL ps bs k).length us) (hl : us.length ≤ 64) : checkE ps bs k us = 0 := by
  unfold checkE
  rw [hs, show Nat.blt 64 us.length = false from Bool.eq_false_iff.2 fun e => by have := (blt_iff _ _).1 e; omega]
  rw [firstN_none fun i hi => h.one hi]
  rw [sumP_flat, h.perm.length_eq]
  rw [show Nat.blt ((List.range (startL ps bs k).length).map fun i : Nat => (i : Int)).length (startL ps bs k).length = false from Bool.eq_false_iff.2 fun e => by have := (blt_iff _ _).1 e; simp at this]
  rfl
end Go.Tz

/- NestWaste's walk. -/
set_option linter.unusedSimpArgs false
namespace Go.Tz
open Go Go.Sx Go.Proofs
set_option maxRecDepth 100000
set_option maxHeartbeats 4000000
theorem fineB_ok {ps : List Cut} {bs : List Bar} {k : Int} (hf : fineB ps bs k = true) : Askd ps bs k ∧ (splitL ps).length ≤ 6 ∧ barsE bs = 0 := by
  unfold fineB at hf
  simp only [Bool.and_eq_true, beq_iff_eq, leB_iff, Bool.not_eq_true'] at hf
  obtain ⟨⟨⟨⟨⟨⟨hgr, hs⟩, hn⟩, hm⟩, hB⟩, hk0⟩, hk1⟩ := hf
  have hC : cutsE ps = 0 := by
    unfold splitE at hs
    cases hc : cutsE ps == 0 with
    | true => exact eq_of_beq hc
    | false => rw [hc] at hs; cases hs
  have eC : splitC ps = splitL ps := by unfold splitC; rw [hC]; rfl
  rw [eC] at hn
  exact ⟨⟨hC, barsE_good hB, hk0, hk1, by omega, by omega⟩, by omega, hB⟩
theorem Askd.first {ps : List Cut} {bs : List Bar} {k : Int} (h : Askd ps bs k) (hE : frstE ps bs k = 0) : Nst (splitL ps) bs k (splitL ps).length (frstL ps bs k) ∧ (frstL ps bs k).length ≤ 8 := by
  obtain ⟨h1, h2⟩ := h.start
  have hL : frstL ps bs k = (firstF (splitL ps) bs k (splitL ps).length).getD [] := by unfold frstL; rw [hE, h2]; rfl
  have hn := h.n
  cases hf : firstF (splitL ps) bs k (splitL ps).length with
  | none => unfold frstE at hE; rw [h1, h2, hf] at hE; cases hE
  | some us =>
    rw [hf] at hL
    have hL : frstL ps bs k = us := hL
    rw [hL]
    have hfin := first_fin hf
    have hl := hfin.len
    exact ⟨hfin.nst (Nst.nil _ h.b _), by simp only [List.length_nil] at hl; omega⟩
theorem Nst.waste {ps : List Cut} {bs : List Bar} {k : Int} {us : List Used} (h : Nst (splitL ps) bs k (splitL ps).length us) (hC : cutsE ps = 0) (hB : barsE bs = 0) (hl : us.length ≤ 64) : wasteE ps bs us = 0 ∧ wasteV ps bs us = sumW (splitL ps) bs us us.length := by
  have e : wasteE ps bs us = 0 := by
    rw [wasteE_any (by rw [hB, hC]; rfl) hl]
    rw [show us.any (badU bs.length (splitL ps).length) = false from ?_]; rfl
    rw [List.any_eq_false]
    intro u hu
    have hf := h.u u hu
    have hb := hf.bar
    rw [Bool.not_eq_true]
    unfold badU badK
    rw [Bool.or_eq_false_iff, Bool.or_eq_false_iff]
    refine ⟨⟨?_, ?_⟩, List.any_eq_false.2 fun p hp => ?_⟩
    · rw [Bool.eq_false_iff]; intro e; have := (ltB_iff _ _).1 e; omega
    · rw [Bool.eq_false_iff]; intro e; have := (leB_iff _ _).1 e; omega
    · have := hf.ps p hp
      rw [Bool.not_eq_true]
      unfold badP
      rw [Bool.or_eq_false_iff]
      constructor
      · rw [Bool.eq_false_iff]; intro e; have := (ltB_iff _ _).1 e; omega
      · rw [Bool.eq_false_iff]; intro e; have := (leB_iff _ _).1 e; omega
  exact ⟨e, by unfold wasteV; rw [e]; rfl⟩
theorem ps_len {u : Used} : ∀ {us : List Used}, u ∈ us → u.ps.length ≤ (us.flatMap (·.ps)).length
  | v :: us, h => by
    rw [List.flatMap_cons, List.length_append]
    rcases List.mem_cons.1 h with rfl | h
    · omega
    · have := ps_len h; omega
theorem Nst.fitU {A : List Cut} {B : List Bar} {k : Int} {n : Nat} {us : List Used} (h : Nst A B k n us) (hn : n ≤ 66) : fitU us = true := by
  unfold Tz.fitU
  rw [Bool.or_eq_true]
  refine Or.inr (List.all_eq_true.2 fun u hu => Nat.ble_eq_true_of_le ?_)
  have h1 := ps_len hu
  have h2 := h.perm.length_eq
  simp only [List.length_map, List.length_range] at h2
  omega
noncomputable def Twa (G : List (Nat × Obj)) (ps : List Cut) (bs : List Bar) (k : Int) : Tb :=
  ((((((tb0 G).plus 8 (inst [slE ps, slE bs, .i k] (.b (fineB ps bs k)))).plus 10 (inst [] (.b true))).plus 17 first_t).plus 19 total_t).plus 20 Waste_t)
theorem Twa_sound {G : List (Nat × Obj)} (hG : TabIn G) (ps : List Cut) (bs : List Bar) (k : Int) : TbSound Tryz.prog (Twa G ps bs k) :=
  (TbSound.plus (TbSound.plus (TbSound.plus (TbSound.plus (TbSound.plus tb0_sound (inst_T (PureCall.mono (fine_C ps bs k)))) (inst_T (awake_C hG))) (PureT.mono first_T)) (PureT.mono total_T)) (PureT.mono nWaste_T))
def lwaste_an (us : List Used) (bs : List Bar) : Ann :=
  .two .auto (.two .auto (.two .auto (.two .auto (.two .auto (.two .auto (.two .auto (.two (.two .auto (.one (.loop Nat (fun σ z => [(1, σ.tm 1), (8, σ.tm 8), (9, σ.tm 9), (10, σ.tm 10), (11, σ.tm 11), (43, σ.tm 43), (44, σ.tm 44), (12, .i (sumB bs us z)), (45, .i z)]) (fun σ z => []) 0 (fun σ z => z ≤ us.length) (fun σ z => us.length - z) .auto))) .auto)))))))
theorem lwaste_vc (G : List (Nat × Obj)) (ps : List Cut) (bs : List Bar) (k : Int) :
 let q1 := (slX 3 (frstL (slD (AV.xl false 4 (ps.length) fun i j => Enc.enc (List.getD ps i Enc.dflt) j)) (slD (AV.xl false 6 (bs.length) fun i j => Enc.enc (List.getD bs i Enc.dflt) j)) k)); let q2 := (usedOf q1); let q3 := (IntKind.i64 = .i64 ∧ totE (cutsOf (slX 4 ps)) = totE (cutsOf (slX 4 ps))); let q4 := (IntKind.i64 = .i64 ∧ totV (cutsOf (slX 4 ps)) = totV (cutsOf (slX 4 ps))); let q5 := (IntKind.i64 = .i64 ∧ wasteV (cutsOf (slX 4 ps)) (barsOf (slX 6 bs)) q2 = wasteV (cutsOf (slX 4 ps)) (barsOf (slX 6 bs)) q2); let q6 := (IntKind.i64 = .i64 ∧ wasteE (cutsOf (slX 4 ps)) (barsOf (slX 6 bs))
 q2 = wasteE (cutsOf (slX 4 ps)) (barsOf (slX 6 bs)) q2); let q9 := (frstL (slD (slX 4 ps)) (slD (slX 6 bs)) k); let q8 := (↑(List.length q9) : Int); let q7 := (IntKind.i64 = .i64 ∧ q8 = q8); let q15 := (bif totE (cutsOf (slX 4 ps)) == (0 : Int) then wasteE (cutsOf (slX 4 ps)) (barsOf (slX 6 bs)) q2 == (0 : Int) else false); let q18 := (wasteV (cutsOf (slX 4 ps)) (barsOf (slX 6 bs)) q2); let q17 := (bif bif totE (cutsOf (slX 4 ps)) == (0 : Int) then wasteE (cutsOf (slX 4 ps)) (barsOf (slX 6 bs)) q2 == (0 : Int) else false then leB (0 : Int) q18 else false); let q16 := (!bsel true q17 || bsel
 true q17); bndL [slX 4 ps, slX 6 bs, AV.v (Value.int .i64 k)] → Wk [slX 4 ps, slX 6 bs, AV.v (Value.int .i64 k)] [slX 4 ps, slX 6 bs, AV.v (Value.int .i64 k)] ∧ bsplit (!fineB ps bs k) (Wk [] [] ∧ true = true) (bsplit (slOk Cut (slX 4 ps)) (bsplit (slOk Bar (slX 6 bs)) (bsplit (frstE (slD (slX 4 ps)) (slD (slX 6 bs)) k != (0 : Int)) (Wk [] [] ∧ true = true) (bsplit (slOk Cut (slX 4 ps)) (bsplit (slOk Cut (slX 4 ps)) (bsplit (slOk Bar (slX 6 bs)) (bsplit (slOk Used q1) (bsplit (fitU q2) ((∃ (z : Nat), (z ≤ List.length (frstL ps bs k) ∧ avM (slX 6 bs) (slX 6 bs) ∧ q3 ∧ q4 ∧ q5 ∧ q6 ∧ avM q1 q1 ∧
 q7 ∧ (IntKind.i64 = .i64 ∧ (0 : Int) = sumB bs (frstL ps bs k) z) ∧ IntKind.i64 = .i64 ∧ (0 : Int) = (z : Int)) ∧ True) ∧ ∀ (z : Nat), let q13 := (List.getD q9 (Int.toNat (z : Int)) Enc.dflt); let q12 := (Used.bar q13); let q11 := (ltB q12 (0 : Int)); let q10 := (!bsel false q11 || bsel false q11); let q14 := (List.getD bs (Int.toNat q12) Enc.dflt); let q19 := (bif bif bif totE (cutsOf (slX 4 ps)) == (0 : Int) then wasteE (cutsOf (slX 4 ps)) (barsOf (slX 6 bs)) q2 == (0 : Int) else false then leB (0 : Int) q18 else false then wasteV (cutsOf (slX 4 ps)) (barsOf (slX 6 bs)) q2 == sumB bs (frstL
 ps bs k) z - totV (cutsOf (slX 4 ps)) else false); z ≤ List.length (frstL ps bs k) → bsplit (ltB (z : Int) q8) (bsplit (DB.db ((0 : Int) ≤ (z : Int) ∧ (z : Int) < q8)) (bsplit q10 (bsplit q10 (bsplit q10 (bsplit q10 (bsplit (!!ltB q12 (0 : Int) || bsel false q11) (bsplit (bif ltB q12 (0 : Int) then true else leB (bs.length : Int) q12) (false = true) (bsplit (DB.db ((0 : Int) ≤ Used.bar q13 ∧ Used.bar q13 < (bs.length : Int))) (bsplit (DB.db (inK .i64 (sumB bs (frstL ps bs k) z + Bar.l q14))) (bsplit (DB.db (inK .i64 ((z : Int) + (1 : Int)))) (∃ (z' : Nat), ((z' ≤ List.length (frstL ps bs k) ∧
 List.length (frstL ps bs k) - z' < List.length (frstL ps bs k) - z) ∧ avM (slX 6 bs) (slX 6 bs) ∧ q3 ∧ q4 ∧ q5 ∧ q6 ∧ avM q1 q1 ∧ q7 ∧ (IntKind.i64 = .i64 ∧ sumB bs (frstL ps bs k) z + Bar.l q14 = sumB bs (frstL ps bs k) z') ∧ IntKind.i64 = .i64 ∧ (z : Int) + (1 : Int) = (z' : Int)) ∧ True) False) False) False)) False) False) False) False) False) False) (bsplit (!bsel true (totE (cutsOf (slX 4 ps)) == (0 : Int)) || bsel true (totE (cutsOf (slX 4 ps)) == (0 : Int))) (bsplit (!totE (cutsOf (slX 4 ps)) == (0 : Int) || bsel true (totE (cutsOf (slX 4 ps)) == (0 : Int))) (bsplit (!bsel true q15 ||
 bsel true q15) (bsplit ((!bif totE (cutsOf (slX 4 ps)) == (0 : Int) then wasteE (cutsOf (slX 4 ps)) (barsOf (slX 6 bs)) q2 == (0 : Int) else false) || bsel true q15) (bsplit q16 (bsplit q16 (bsplit (!bsel true q17 || DB.db (inK .i64 (sumB bs (frstL ps bs k) z - totV (cutsOf (slX 4 ps))))) (bsplit q16 (bsplit q16 (bsplit ((!bif bif totE (cutsOf (slX 4 ps)) == (0 : Int) then wasteE (cutsOf (slX 4 ps)) (barsOf (slX 6 bs)) q2 == (0 : Int) else false then leB (0 : Int) q18 else false) || bsel true q17) ((bsel true q19 = true → Wk [] []) ∧ bsplit ((!bif bif bif totE (cutsOf (slX 4 ps)) == (0 : Int)
 then wasteE (cutsOf (slX 4 ps)) (barsOf (slX 6 bs)) q2 == (0 : Int) else false then leB (0 : Int) q18 else false then wasteV (cutsOf (slX 4 ps)) (barsOf (slX 6 bs)) q2 == sumB bs (frstL ps bs k) z - totV (cutsOf (slX 4 ps)) else false) || bsel true q19) ((bif bif bif bif totE (cutsOf (slX 4 ps)) == (0 : Int) then wasteE (cutsOf (slX 4 ps)) (barsOf (slX 6 bs)) q2 == (0 : Int) else false then leB (0 : Int) q18 else false then wasteV (cutsOf (slX 4 ps)) (barsOf (slX 6 bs)) q2 == sumB bs (frstL ps bs k) z - totV (cutsOf (slX 4 ps)) else false then true else false) = true) False) False) False)
 False) False) False) False) False) False) False) False)) False) False) False) False) False)) False) False) := by
  dsimp only
  have e0 : (Enc.dflt : Int) = 0 := rfl
  have e1 : (Enc.dflt : Cut) = c0 := rfl
  have e2 : (Enc.dflt : Bar) = b0 := rfl
  have e3 : (Enc.dflt : Used) = u0 := rfl
  intro hb
  simp only [slX, slN, avM_refl, true_and, and_true, bsel_true, bsel_false, vc_own, bif_or, bif_and, vc_gdb, vc_db, vc_lt, vc_le, vc_ne, vc_eq, vc_tt, Int.toNat_natCast, Nat.zero_add, Nat.zero_le, Nat.sub_zero, agD_bar, agOk_bar, agD_bar', agOk_bar', agD_cut, agOk_cut, agD_cut', agOk_cut', agD_used, agOk_used, agD_used', agOk_used', int_i, Bool.or_true, cond_true, cond_false, okC, okC', deC, deC', okB, deB, okB', deB', okIn, okIn', deI, deI', okU, okU', deU, deU', okBl, deBl, okUl, deUl, deIo, cutsOf_sl, deUo, okBf, deBf, deBo, e0, e1, e2, e3, ltB_nat, pred_nat]
  refine ⟨Wk.refl _, bsplit_iff.2 ⟨fun _ => Wk.refl _, fun hg => ⟨fun _ => Wk.refl _, fun hE => ?_⟩⟩⟩
  simp only [Bool.not_eq_false'] at hg
  obtain ⟨hA, hn, hB⟩ := fineB_ok hg
  obtain ⟨hN, hl⟩ := hA.first hE
  generalize frstL ps bs k = us at *
  obtain ⟨w1, w2⟩ := hN.waste hA.c hB (by omega)
  obtain ⟨v1, v2⟩ := nst_waste hN
  have t1 : totE ps = 0 := by unfold totE; rw [hA.c]; rfl
  have t2 : totV ps = totZ ps ps.length := by unfold totV; rw [hA.c]; rfl
  have tz := totZ_le hA.c ps.length (Nat.le_refl _)
  have hps := (cutsE_ok hA.c).1
  have hS : ∀ z, z ≤ us.length → 0 ≤ sumB bs us z ∧ sumB bs us z ≤ 65536 * (z : Int) := by
    intro z
    induction z with
    | zero => intro _; simp [sumB]
    | succ z ih =>
      intro hz
      have h1 := ih (by omega)
      have hf := (hN.u _ (mem_getD (us := us) (i := z) (by omega))).bar
      have h2 := bar_l hB hf.1 hf.2
      have e : us.getD z u0 = usedAt us z := rfl
      rw [e] at h2
      unfold sumB
      omega
  rw [hN.fitU (by omega), vc_tt]
  refine ⟨⟨0, Nat.zero_le _, rfl, rfl⟩, fun z hz => ⟨fun hlt => ?_, fun hge => ?_⟩⟩
  · have hf := (hN.u _ (mem_getD (us := us) (i := z) (by omega))).bar
    have h2 := hS (z + 1) (by omega)
    refine ⟨⟨by omega, hlt⟩, ?_⟩
    rw [show (ltB (us.getD z u0).bar 0 || leB (bs.length : Int) (us.getD z u0).bar) = false by
      rw [Bool.or_eq_false_iff]
      constructor
      · rw [Bool.eq_false_iff]; intro e; have := (ltB_iff _ _).1 e; omega
      · rw [Bool.eq_false_iff]; intro e; have := (leB_iff _ _).1 e; omega, vc_ff]
    have e : sumB bs us z + (bs.getD (us.getD z u0).bar.toNat b0).l = sumB bs us (z + 1) := rfl
    rw [e]
    exact ⟨hf, ⟨by omega, by omega⟩, ⟨by omega, by omega⟩, z + 1, ⟨by omega, by omega⟩, rfl, rfl⟩
  · have e : z = us.length := by omega
    have h2 := hS z hz
    subst e
    rw [t1, w1, w2, t2]
    have q : (((0 : Int) == 0) && ((0 : Int) == 0) && leB 0 (sumW (splitL ps) bs us us.length) && sumW (splitL ps) bs us us.length == sumB bs us us.length - totZ ps ps.length && true) = true := by
      rw [← v2, (leB_iff _ _).2 v1]; simp
    exact ⟨fun _ => ⟨by omega, by omega⟩, fun _ => Wk.refl _, q⟩
theorem lwaste_C {G : List (Nat × Obj)} (hG : TabIn G) (ps : List Cut) (bs : List Bar) (k : Int) : PureCall Tryz.prog G 5 [slE ps, slE bs, .i k] (.b true) :=
  pure_of_vc mixed (Twa_sound hG ps bs k) (Eq.mp (by kernel_rfl) (lwaste_vc G ps bs k) : vcFn Tryz.prog (Twa G ps bs k) 5 (lwaste_an (frstL ps bs k) bs) [slE ps, slE bs, .i k] (.b true))
end Go.Tz

/- NestSound's walk. -/
set_option linter.unusedSimpArgs false
namespace Go.Tz
open Go Go.Sx Go.Proofs
set_option maxRecDepth 100000
set_option maxHeartbeats 4000000
theorem Askd.frst_ {ps : List Cut} {bs : List Bar} {k : Int} (h : Askd ps bs k) : frstE ps bs k = match firstF (splitL ps) bs k (splitL ps).length with | some _ => 0 | none => 22 := by
  obtain ⟨h1, h2⟩ := h.start
  unfold frstE
  rw [h1, h2]
  cases hf : firstF (splitL ps) bs k (splitL ps).length with
  | none => rfl
  | some us =>
    have hl := (first_fin hf).len
    have hn := h.n
    simp only [List.length_nil] at hl
    show (bif ltB 64 (us.length : Int) then (4 : Int) else 0) = 0
    rw [show ltB 64 (us.length : Int) = false by rw [Bool.eq_false_iff]; intro e; have := (ltB_iff _ _).1 e; omega]
    rfl
theorem Askd.both {ps : List Cut} {bs : List Bar} {k : Int} (h : Askd ps bs k) (he : frstE ps bs k = 0) : exactE ps bs k = 0 := by
  rw [h.frst_] at he
  cases hf : firstF (splitL ps) bs k (splitL ps).length with
  | none => rw [hf] at he; cases he
  | some us =>
    have := ((best_ok (A := splitL ps) (k := k) h.b).all us (first_fin hf)).1
    rw [h.exact_, this]; rfl
theorem Askd.frst_check {ps : List Cut} {bs : List Bar} {k : Int} (h : Askd ps bs k) (he : frstE ps bs k = 0) : checkE ps bs k (frstL ps bs k) = 0 := by
  obtain ⟨h1, h2⟩ := h.start
  obtain ⟨n1, n2⟩ := h.first he
  rw [← h2] at n1
  exact n1.check h1 (by omega)
theorem Askd.exact_check {ps : List Cut} {bs : List Bar} {k : Int} (h : Askd ps bs k) (he : exactE ps bs k = 0) : checkE ps bs k (exactL ps bs k) = 0 := by
  obtain ⟨h1, h2⟩ := h.start
  obtain ⟨_, e2, _, _⟩ := h.found (h.zero he)
  obtain ⟨b1, _, _⟩ := best_found h.b (h.zero he)
  have hl := b1.len
  have hn := h.n
  simp only [List.length_nil] at hl
  rw [e2]
  refine Nst.check h1 ?_ (by omega)
  rw [h2]
  exact b1.nst (Nst.nil _ h.b _)
noncomputable def Tso (G : List (Nat × Obj)) (ps : List Cut) (bs : List Bar) (k : Int) : Tb :=
  ((((((tb0 G).plus 8 (inst [slE ps, slE bs, .i k] (.b (fineB ps bs k)))).plus 10 (inst [] (.b true))).plus 17 first_t).plus 11 exact_t).plus 27 nchk_t)
theorem Tso_sound {G : List (Nat × Obj)} (hG : TabIn G) (ps : List Cut) (bs : List Bar) (k : Int) : TbSound Tryz.prog (Tso G ps bs k) :=
  (TbSound.plus (TbSound.plus (TbSound.plus (TbSound.plus (TbSound.plus tb0_sound (inst_T (PureCall.mono (fine_C ps bs k)))) (inst_T (awake_C hG))) (PureT.mono first_T)) (PureT.mono exact_T)) (PureT.mono ncheck_T))
theorem sound_vc (G : List (Nat × Obj)) (ps : List Cut) (bs : List Bar) (k : Int) :
 let q2 := (frstE (slD (slX 4 ps)) (slD (slX 6 bs)) k != (0 : Int)); let q1 := (!bsel true q2 || bsel true q2); let q4 := (frstE (slD (slX 4 ps)) (slD (slX 6 bs)) k != (22 : Int)); let q3 := (!(bsel true q2 && bsel false q4) || bsel true q2 && bsel false q4); let q8 := (List.length (frstL (slD (slX 4 ps)) (slD (slX 6 bs)) k)); let q7 := (↑q8 : Int); let q6 := (bif frstE (slD (slX 4 ps)) (slD (slX 6 bs)) k != (0 : Int) then bif frstE (slD (slX 4 ps)) (slD (slX 6 bs)) k != (22 : Int) then true else ltB (0 : Int) q7 else false); let q5 := (!bsel false q6 || bsel false q6); let q11 := (exactE (slD
 (slX 4 ps)) (slD (slX 6 bs)) k != (0 : Int)); let q10 := (bsel false q6 && bsel true q11); let q9 := (!q10 || bsel false q6 && bsel true q11); let q13 := (exactE (slD (slX 4 ps)) (slD (slX 6 bs)) k != (22 : Int)); let q12 := (!(bsel false q6 && bsel true q11 && bsel false q13) || bsel false q6 && bsel true q11 && bsel false q13); let q16 := (List.length (exactL (slD (slX 4 ps)) (slD (slX 6 bs)) k)); let q15 := (↑q16 : Int); let q14 := (bif exactE (slD (slX 4 ps)) (slD (slX 6 bs)) k != (22 : Int) then true else ltB (0 : Int) q15); let q18 := (frstE (slD (slX 4 ps)) (slD (slX 6 bs)) k == (0 :
 Int)); let q17 := (!bsel true q18 || bsel true q18); let q22 := (AV.xl false 4 (ps.length) fun i j => Enc.enc (List.getD ps i Enc.dflt) j); let q21 := (slD q22); let q23 := (slD (AV.xl false 6 (bs.length) fun i j => Enc.enc (List.getD bs i Enc.dflt) j)); let q20 := (frstL q21 q23 k); let q19 := (slX 3 q20); let q26 := (usedOf q19); let q25 := (bif frstE (slD (slX 4 ps)) (slD (slX 6 bs)) k == (0 : Int) then checkE (cutsOf (slX 4 ps)) (slD (slX 6 bs)) k q26 != (0 : Int) else false); let q24 := (!bsel false q25 || bsel false q25); let q27 := (bif frstE (slD (slX 4 ps)) (slD (slX 6 bs)) k == (0 :
 Int) then checkE (cutsOf (slX 4 ps)) (slD (slX 6 bs)) k (usedOf (AV.xl false 3 q8 fun i j => Enc.enc (List.getD q20 i Enc.dflt) j)) != (0 : Int) else false); let q28 := (exactE (slD (slX 4 ps)) (slD (slX 6 bs)) k == (0 : Int)); let q29 := (bsel false q25 && bsel true q28); let q30 := (!q29 || bsel false q25 && bsel true q28); let q32 := (cutsOf q22); let q33 := (usedOf (AV.xl false 3 (List.length q20) fun i j => Enc.enc (List.getD q20 i Enc.dflt) j)); let q31 := (bif frstE q21 q23 k == (0 : Int) then checkE q32 q23 k q33 != (0 : Int) else false); let q35 := (exactE q21 q23 k == (0 : Int)); let
 q34 := (bsel false q31 && bsel true q35); let q36 := (exactL q21 q23 k); bndL [slX 4 ps, slX 6 bs, AV.v (Value.int .i64 k)] → Wk [slX 4 ps, slX 6 bs, AV.v (Value.int .i64 k)] [slX 4 ps, slX 6 bs, AV.v (Value.int .i64 k)] ∧ bsplit (!fineB ps bs k) (Wk [] [] ∧ true = true) (bsplit (slOk Cut (slX 4 ps)) (bsplit (slOk Bar (slX 6 bs)) (bsplit (slOk Cut (slX 4 ps)) (bsplit (slOk Bar (slX 6 bs)) (bsplit q1 (bsplit q1 (bsplit q3 (bsplit q3 (bsplit q1 (bsplit (!bsel true q2 || (!!frstE (slD (slX 4 ps)) (slD (slX 6 bs)) k != (22 : Int) || bsel true q2 && bsel false q4)) (bsplit (!frstE (slD (slX 4 ps))
 (slD (slX 6 bs)) k != (0 : Int) || bsel true q2) (bsplit q5 (bsplit q5 (bsplit q9 (bsplit q9 (bsplit q12 (bsplit q12 (bsplit q9 (bsplit (!q10 || (!!exactE (slD (slX 4 ps)) (slD (slX 6 bs)) k != (22 : Int) || bsel false q6 && bsel true q11 && bsel false q13)) (bsplit q9 (bsplit (!(bsel false q6 && bsel true q11 && bsel false q14) || bsel false q6 && bsel true q11 && bsel false q14) (bsplit q9 (bsplit (!q10 || ((!!bif exactE (slD (slX 4 ps)) (slD (slX 6 bs)) k != (22 : Int) then true else ltB (0 : Int) q15) || bsel false q6 && bsel true q11 && bsel false q14)) (bsplit q5 (bsplit (!bsel false q6
 || (!exactE (slD (slX 4 ps)) (slD (slX 6 bs)) k != (0 : Int) || bsel false q6 && bsel true q11)) (bsplit ((!!bif frstE (slD (slX 4 ps)) (slD (slX 6 bs)) k != (0 : Int) then bif frstE (slD (slX 4 ps)) (slD (slX 6 bs)) k != (22 : Int) then true else ltB (0 : Int) q7 else false) || bsel false q6) (bsplit (bif bif frstE (slD (slX 4 ps)) (slD (slX 6 bs)) k != (0 : Int) then bif frstE (slD (slX 4 ps)) (slD (slX 6 bs)) k != (22 : Int) then true else ltB (0 : Int) q7 else false then true else bif exactE (slD (slX 4 ps)) (slD (slX 6 bs)) k != (0 : Int) then bif bif exactE (slD (slX 4 ps)) (slD (slX 6
 bs)) k != (22 : Int) then true else ltB (0 : Int) q15 then true else frstE (slD (slX 4 ps)) (slD (slX 6 bs)) k == (0 : Int) else false) (false = true) (bsplit q17 (bsplit q17 (bsplit q17 (bsplit q17 (bsplit (!bsel true q18 || slOk Cut (slX 4 ps)) (bsplit (!bsel true q18 || slOk Bar (slX 6 bs)) (bsplit (!bsel true q18 || slOk Used q19) (bsplit q17 (bsplit (!frstE (slD (slX 4 ps)) (slD (slX 6 bs)) k == (0 : Int) || bsel true q18) (bsplit q24 (bsplit q24 (bsplit (!(bsel false q27 && bsel true q28) || bsel false q25 && bsel true q28) (bsplit (!q29 || bsel false q27 && bsel true q28) (bsplit q30
 (bsplit q30 (bsplit (!(bsel false (bif frstE q21 q23 k == (0 : Int) then checkE (cutsOf (slX 4 ps)) (slD (slX 6 bs)) k q26 != (0 : Int) else false) && bsel true q28) || slOk Cut (slX 4 ps)) (bsplit (!(bsel false q31 && bsel true q28) || slOk Bar (slX 6 bs)) (bsplit (!q34 || slOk Used (AV.xl false 3 q16 fun i j => Enc.enc (List.getD q36 i Enc.dflt) j)) (bsplit (!q34 || bsel false q31 && bsel true q35) (bsplit (!bsel false q31 || bsel false q31) (bsplit (!bsel false q31 || (!exactE q21 q23 k == (0 : Int) || bsel false q31 && bsel true q35)) (bsplit ((!!bif frstE q21 q23 k == (0 : Int) then checkE
 q32 q23 k q33 != (0 : Int) else false) || bsel false q31) (bsplit (bif bif frstE q21 q23 k == (0 : Int) then checkE q32 q23 k q33 != (0 : Int) else false then true else bif exactE q21 q23 k == (0 : Int) then checkE q32 q23 k (usedOf (AV.xl false 3 (List.length q36) fun i j => Enc.enc (List.getD q36 i Enc.dflt) j)) != (0 : Int) else false) (false = true) (Wk [] [] ∧ true = true)) False) False) False) False) False) False) False) False) False) False) False) False) False) False) False) False) False) False) False) False) False) False)) False) False) False) False) False) False) False) False) False)
 False) False) False) False) False) False) False) False) False) False) False) False) False) False) False) False) False) := by
  dsimp only
  have e0 : (Enc.dflt : Int) = 0 := rfl
  have e1 : (Enc.dflt : Cut) = c0 := rfl
  have e2 : (Enc.dflt : Bar) = b0 := rfl
  have e3 : (Enc.dflt : Used) = u0 := rfl
  intro hb
  simp only [slX, slN, avM_refl, true_and, and_true, bsel_true, bsel_false, vc_own, bif_or, bif_and, vc_gdb, vc_db, vc_lt, vc_le, vc_ne, vc_eq, vc_tt, Int.toNat_natCast, Nat.zero_add, Nat.zero_le, Nat.sub_zero, agD_bar, agOk_bar, agD_bar', agOk_bar', agD_cut, agOk_cut, agD_cut', agOk_cut', agD_used, agOk_used, agD_used', agOk_used', int_i, Bool.or_true, cond_true, cond_false, okC, okC', deC, deC', okB, deB, okB', deB', okIn, okIn', deI, deI', okU, okU', deU, deU', okBl, deBl, okUl, deUl, deIo, cutsOf_sl, deUo, okBf, deBf, deBo, e0, e1, e2, e3, ltB_nat, pred_nat]
  refine ⟨Wk.refl _, bsplit_iff.2 ⟨fun _ => Wk.refl _, fun hg => ?_⟩⟩
  simp only [Bool.not_eq_false'] at hg
  obtain ⟨hA, hn, hB⟩ := fineB_ok hg
  have hF : frstE ps bs k = 0 ∨ frstE ps bs k = 22 ∧ (frstL ps bs k).length = 0 := by
    rw [hA.frst_]
    cases hf : firstF (splitL ps) bs k (splitL ps).length with
    | some us => exact .inl rfl
    | none =>
      refine .inr ⟨rfl, ?_⟩
      have e : frstE ps bs k = 22 := by rw [hA.frst_, hf]
      unfold frstL
      rw [e]; rfl
  have hX : exactE ps bs k = 0 ∨ exactE ps bs k = 22 ∧ (exactL ps bs k).length = 0 := by
    cases hf : (bestF (splitL ps) bs k).found with
    | true => exact .inl (by rw [hA.exact_, hf]; rfl)
    | false =>
      have e : exactE ps bs k = 22 := by rw [hA.exact_, hf]; rfl
      exact .inr ⟨e, by unfold exactL; rw [e]; rfl⟩
  rcases hF with hF | ⟨hF, hF2⟩
  · rw [hF, hA.both hF, hA.frst_check hF, hA.exact_check (hA.both hF)]
    exact Wk.refl _
  · rw [hF, hF2]
    rcases hX with hX | ⟨hX, hX2⟩
    · rw [hX, hA.exact_check hX]
      exact Wk.refl _
    · rw [hX, hX2]
      exact Wk.refl _
theorem sound_C {G : List (Nat × Obj)} (hG : TabIn G) (ps : List Cut) (bs : List Bar) (k : Int) : PureCall Tryz.prog G 7 [slE ps, slE bs, .i k] (.b true) :=
  pure_of_vc mixed (Tso_sound hG ps bs k) (Eq.mp (by kernel_rfl) (sound_vc G ps bs k) : vcFn Tryz.prog (Tso G ps bs k) 7 .auto [slE ps, slE bs, .i k] (.b true))
end Go.Tz
