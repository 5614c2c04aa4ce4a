/- NestScales' walk. -/
import Derived.Test.YtojonobehnbeiaaGreatDoorTzIa
import Derived.Test.YtojonobehnbeiaaGreatDoorTzHc
import Derived.Test.YtojonobehnbeiaaGreatDoorTzEe
set_option linter.unusedSimpArgs false
namespace Go.Tz
open Go Go.Sx Go.Proofs
set_option maxRecDepth 100000
set_option maxHeartbeats 4000000
theorem dear_good {bs : List Bar} {K : Int} (h : GoodB bs) (h0 : 0 < K) (h1 : K ≤ 256) (hc : ∀ b ∈ bs, b.c ≤ 1048576) : GoodB (dearL K bs) := by
  intro b hb
  obtain ⟨a, ha, rfl⟩ := List.mem_map.1 hb
  refine barE_dear (h a ha) h0 ?_
  have c1 := hc a ha
  have c0 := (barE_gaps (h a ha)).2.2.2.2.2.2.2.2.1
  calc a.c * K ≤ 1048576 * K := Int.mul_le_mul_of_nonneg_right c1 (by omega)
    _ ≤ 1073741824 := by omega
theorem Askd.dear {ps : List Cut} {bs : List Bar} {k K : Int} (h : Askd ps bs k) (h' : GoodB (dearL K bs)) : Askd ps (dearL K bs) k := ⟨h.c, h', h.k0, h.k1, h.n, by rw [dear_len]; exact h.m⟩
theorem frst_dear {ps : List Cut} {bs : List Bar} {k K : Int} (h : Askd ps bs k) (h' : GoodB (dearL K bs)) (hK : 0 < K) : frstE ps (dearL K bs) k = frstE ps bs k ∧ frstL ps (dearL K bs) k = frstL ps bs k := by
  have g := h.dear h'
  have e : frstE ps (dearL K bs) k = frstE ps bs k := by rw [g.frst_, h.frst_, firstF_dear h.b h' hK]
  refine ⟨e, ?_⟩
  unfold frstL
  rw [e, g.start.2, h.start.2, firstF_dear h.b h' hK]
theorem exact_dear {ps : List Cut} {bs : List Bar} {k K : Int} (h : Askd ps bs k) (h' : GoodB (dearL K bs)) (hK : 0 < K) : exactE ps (dearL K bs) k = exactE ps bs k ∧ exactL ps (dearL K bs) k = exactL ps bs k := by
  have g := h.dear h'
  have s := bestF_dear (A := splitL ps) (k := k) h.b h' hK
  have e : exactE ps (dearL K bs) k = exactE ps bs k := by rw [g.exact_, h.exact_, s.found]
  refine ⟨e, ?_⟩
  unfold exactL
  rw [e, g.start.2, h.start.2, s.best]
theorem Askd.cost {ps : List Cut} {bs : List Bar} {k : Int} (h : Askd ps bs k) : costE bs (exactL ps bs k) = 0 ∧ costV bs (exactL ps bs k) = costU bs (exactL ps bs k) := by
  cases hf : (bestF (splitL ps) bs k).found with
  | true =>
    obtain ⟨_, e2, e3, e4⟩ := h.found hf
    exact ⟨e3, by rw [e4, e2]⟩
  | false =>
    have e : exactE ps bs k = 22 := by rw [h.exact_, hf]; rfl
    have e2 : exactL ps bs k = [] := by unfold exactL; rw [e]; rfl
    have e3 : costE bs [] = 0 := by unfold costE; rw [good_barsE h.b (by have := h.m; omega)]; rfl
    rw [e2]
    exact ⟨e3, by unfold costV; rw [e3]; rfl⟩
theorem Askd.cost_le {ps : List Cut} {bs : List Bar} {k : Int} (h : Askd ps bs k) : 0 ≤ costU bs (exactL ps bs k) ∧ costU bs (exactL ps bs k) ≤ 8589934592 := by
  cases hf : (bestF (splitL ps) bs k).found with
  | true =>
    obtain ⟨_, e2, _, _⟩ := h.found hf
    obtain ⟨b1, _, b3⟩ := best_found h.b hf
    have hl := b1.len
    have hn := h.n
    simp only [List.length_nil] at hl
    rw [e2]
    obtain ⟨q1, q2⟩ := costU_bound h.b (us := (bestF (splitL ps) bs k).best) fun u hu => ⟨(b3 u hu).1, (b3 u hu).2.1⟩
    exact ⟨q1, by omega⟩
  | false =>
    have e : exactE ps bs k = 22 := by rw [h.exact_, hf]; rfl
    have e2 : exactL ps bs k = [] := by unfold exactL; rw [e]; rfl
    rw [e2]
    exact ⟨Int.le_refl _, (by omega : (0 : Int) ≤ 8589934592)⟩
theorem cost_dear {ps : List Cut} {bs : List Bar} {k K : Int} (h : Askd ps bs k) (h' : GoodB (dearL K bs)) (hK : 0 < K) : costE (dearL K bs) (exactL ps bs k) = 0 ∧ costV (dearL K bs) (exactL ps bs k) = costV bs (exactL ps bs k) * K := by
  obtain ⟨_, e⟩ := exact_dear h h' hK
  obtain ⟨a1, a2⟩ := (h.dear h').cost
  rw [e] at a1 a2
  exact ⟨a1, by rw [a2, h.cost.2, costU_dear]⟩
def same_t : List AV → Option (List Cond × AV)
  | [x, y] => some ([.b (slOk Used x), .b (slOk Used y)], .b (decide (usedOf x = usedOf y)))
  | _ => none
theorem same_T : PureT Tryz.prog [] 18 same_t := by
  intro xs ps r h hp
  unfold same_t at h
  split at h
  · cases h
    exact weaken (ys := [_, _]) ⟨slE_sound (hp _ List.mem_cons_self), slE_sound (hp _ (List.mem_cons_of_mem _ List.mem_cons_self)), trivial⟩ (same_C _ _)
  · cases h
def dearK (b : Bar) : Bool := ltB 1048576 b.c
theorem dearP_vc (b : Bar) : bndL [AV.agg 6 (Enc.enc b)] → ltB (1048576 : Int) (Bar.c b) = dearK b := by
  intro hb
  rfl
def dearP_t : List AV → Option (List Cond × AV)
  | [x] => some ([.b (agOk Bar x)], .b (dearK (agD x)))
  | _ => none
theorem dearP_T : PureT Tryz.prog [] 16 dearP_t := by
  intro xs ps r h hp
  unfold dearP_t at h
  split at h
  · rename_i x
    cases h
    exact weaken (ys := [agE (agD (α := Bar) x)]) ⟨agE_sound (hp _ List.mem_cons_self), trivial⟩
      (pure_of_vc mixed tb0_sound (Eq.mp (by kernel_rfl) (dearP_vc (agD x)) : vcFn Tryz.prog T0 16 .auto [agE (agD (α := Bar) x)] (.b (dearK (agD x)))))
  · cases h
def fnD : AV := .fn (.func 16) 0 (fun _ => .junk) 0 (fun _ => .junk)
theorem idxD_vc (l : List Bar) :
 let q1 := (AV.fn (Fn.func (16 : FuncId)) 0 (fun (x : Nat) => AV.junk) 0 fun (x : Nat) => AV.junk); let q2 := (IntKind.i64 = .i64 ∧ (l.length : Int) = (l.length : Int)); bndL [slX 6 l, fnD] → (∃ (z : Nat), ((z ≤ l.length ∧ idxF dearK (List.drop z l) z = idxF dearK l 0) ∧ avM (slX 6 l) (slX 6 l) ∧ avM q1 q1 ∧ avM (slX 6 l) (slX 6 l) ∧ q2 ∧ IntKind.i64 = .i64 ∧ (0 : Int) = (z : Int)) ∧ True) ∧ ∀ (z : Nat), let q3 := (AV.agg 6 fun (i : Nat) => Enc.enc (List.getD l (Int.toNat (z : Int)) Enc.dflt) (0 + i)); z ≤ l.length ∧ idxF dearK (List.drop z l) z = idxF dearK l 0 → bsplit (ltB (z : Int) (l.length
 : Int)) (bsplit (DB.db ((0 : Int) ≤ (z : Int) ∧ (z : Int) < (l.length : Int))) (bsplit (agOk Bar q3) (bsplit (dearK (agD q3)) (IntKind.i64 = .i64 ∧ (z : Int) = idxF dearK l 0) (bsplit (DB.db (inK .i64 ((z : Int) + (1 : Int)))) (∃ (z' : Nat), (((z' ≤ l.length ∧ idxF dearK (List.drop z' l) z' = idxF dearK l 0) ∧ l.length - z' < l.length - z) ∧ avM (slX 6 l) (slX 6 l) ∧ avM q1 q1 ∧ avM (slX 6 l) (slX 6 l) ∧ q2 ∧ IntKind.i64 = .i64 ∧ (z : Int) + (1 : Int) = (z' : Int)) ∧ True) False)) False) False) (IntKind.i64 = .i64 ∧ (-1 : Int) = idxF dearK l 0) := by
  dsimp only
  intro hb
  have hl : l.length ≤ 9223372036854775807 := hb.1.1
  have e2 : (Enc.dflt : Bar) = b0 := rfl
  simp only [slX, slN, avM_refl, true_and, and_true, bsel_true, bsel_false, vc_own, bif_or, bif_and, vc_gdb, vc_db, vc_lt, vc_le, vc_ne, vc_eq, vc_tt, Int.toNat_natCast, Nat.zero_add, Nat.zero_le, Nat.sub_zero, agD_bar, agOk_bar, agD_bar', agOk_bar', agD_cut, agOk_cut, agD_cut', agOk_cut', agD_used, agOk_used, agD_used', agOk_used', int_i, Bool.or_true, cond_true, cond_false, okC, okC', deC, deC', okB, deB, okB', deB', okIn, okIn', deI, deI', okU, okU', deU, deU', okBl, deBl, okUl, deUl, deIo, cutsOf_sl, deBo', e2]
  refine ⟨⟨0, ⟨by omega, rfl⟩, rfl⟩, fun z ⟨h1, h2⟩ => ⟨fun hz => ⟨by omega, (bsplit_iff (t := dearK (l.getD z b0))).2 ⟨fun hp => ?_, fun hp => ?_⟩⟩, fun hz => ?_⟩⟩
  · rw [getD_drop (d := b0) (by omega), idxF, hp] at h2; exact h2
  · rw [getD_drop (d := b0) (by omega), idxF, hp] at h2
    exact ⟨by simp only [inK]; omega, z + 1, ⟨⟨by omega, h2⟩, by omega⟩, by omega⟩
  · rw [show z = l.length by omega, List.drop_length] at h2; exact h2
theorem idxD_C (l : List Bar) : PureCall Tryz.prog [] 39 [slE l, fnD] (.i (idxF dearK l 0)) :=
  pure_of_vc mixed (TbSound.plus tb0_sound dearP_T) (Eq.mp (by kernel_rfl) (idxD_vc l) : vcFn Tryz.prog (T0.plus 16 dearP_t) 39 (idx_an l dearK) [slE l, fnD] (.i (idxF dearK l 0)))
theorem conD_vc (l : List Bar) : bndL [AV.xl false 6 (l.length) fun i j => Enc.enc (List.getD l i Enc.dflt) j, fnD] → Wk [AV.xl false 6 (l.length) fun i j => Enc.enc (List.getD l i Enc.dflt) j, AV.fn (Fn.func (16 : FuncId)) 0 (fun (x : Nat) => AV.junk) 0 fun (x : Nat) => AV.junk] [AV.xl false 6 (l.length) fun i j => Enc.enc (List.getD l i Enc.dflt) j, fnD] ∧ leB (0 : Int) (idxF dearK l 0) = List.any l dearK := by
  intro hb
  exact ⟨Wk.refl _, idxF_any _ _ _⟩
theorem conD_C (l : List Bar) : PureCall Tryz.prog [] 15 [slE l, fnD] (.b (l.any dearK)) :=
  pure_of_vc mixed (TbSound.plus tb0_sound (inst_T (idxD_C _))) (Eq.mp (by kernel_rfl) (conD_vc l) : vcFn Tryz.prog (T0.plus 39 (inst [slE l, fnD] (.i (idxF dearK l 0)))) 15 .auto [slE l, fnD] (.b (l.any dearK)))
def dearZ (K : Int) (bs : List Bar) (z i : Nat) : Bar := if i < z then dearB K (bs.getD i b0) else bs.getD i b0
noncomputable def Tscl (G : List (Nat × Obj)) (ps : List Cut) (bs : List Bar) (k : Int) : Tb :=
  (((((((((tb0 G).plus 8 (inst [slE ps, slE bs, .i k] (.b (fineB ps bs k)))).plus 10 (inst [] (.b true))).plus 15 (inst [slE bs, fnD] (.b (bs.any dearK)))).plus 17 first_t).plus 11 exact_t).plus 18 same_t).plus 12 Cost_t).plusF 13 (clone_t 26 6 64))
theorem Tscl_sound {G : List (Nat × Obj)} (hG : TabIn G) (ps : List Cut) (bs : List Bar) (k : Int) : TbSound Tryz.prog (Tscl G ps bs k) :=
  TbSound.plusF (TbSound.plus (TbSound.plus (TbSound.plus (TbSound.plus (TbSound.plus (TbSound.plus (TbSound.plus tb0_sound (inst_T (PureCall.mono (fine_C ps bs k)))) (inst_T (awake_C hG))) (inst_T (PureCall.mono (conD_C bs)))) (PureT.mono first_T)) (PureT.mono exact_T)) (PureT.mono same_T)) (PureT.mono nCost_T)) (FreshT.mono cloneB_T)
def scales_an (bs : List Bar) (by_ : Int) : Ann :=
  .two .auto (.two .auto (.two .auto (.two .auto (.two (.two .auto (.one (.loop Nat (fun σ z => [(0, σ.tm 0), (1, σ.tm 1), (2, σ.tm 2), (9, σ.tm 9), (10, σ.tm 10), (38, σ.tm 38), (39, .i z)]) (fun σ z => [(0, .arr 26 6 bs.length fun i j => Enc.enc (dearZ (1 + by_) bs z i) j)]) 0 (fun σ z => z ≤ bs.length) (fun σ z => bs.length - z) .auto))) .auto))))
theorem scales_vc (G : List (Nat × Obj)) (ps : List Cut) (bs : List Bar) (k : Int) (by_ : Int) (h0 : 0 ≤ by_) (h1 : by_ < 256) :
 let q1 := (IntKind.i64 = .i64 ∧ (1 : Int) + by_ = (1 : Int) + by_); let q2 := (nat_lit 0 = 0 ∧ 0 = 0 ∧ bs.length = bs.length); let q3 := (IntKind.i64 = .i64 ∧ (bs.length : Int) = (bs.length : Int)); let q14 := (slD (AV.xl false 4 (ps.length) fun i j => Enc.enc (List.getD ps i Enc.dflt) j)); let q16 := (AV.xl false 6 (bs.length) fun i j => Enc.enc (List.getD bs i Enc.dflt) j); let q15 := (slD q16); let q13 := (slX 3 (frstL q14 q15 k)); let q22 := (exactL q14 q15 k); let q21 := (slX 3 q22); let q26 := (usedOf q21); let q25 := (costE (barsOf (slX 6 bs)) q26 == (0 : Int)); let q31 := (barsOf q16);
 let q32 := (usedOf (AV.xl false 3 (List.length q22) fun i j => Enc.enc (List.getD q22 i Enc.dflt) j)); bndL [slX 4 ps, slX 6 bs, AV.v (Value.int .i64 k), AV.v (Value.int IntKind.u8 by_)] → Wk [slX 4 ps, slX 6 bs, AV.v (Value.int .i64 k)] [slX 4 ps, slX 6 bs, AV.v (Value.int .i64 k)] ∧ bsplit (!bsel false !fineB ps bs k || bsel false !fineB ps bs k) (((bsel false !fineB ps bs k) = true → Wk [slX 6 bs, AV.fn (Fn.func 16) 0 (fun (x : Nat) => AV.junk) 0 fun (x : Nat) => AV.junk] [slX 6 bs, fnD]) ∧ bsplit (!!!fineB ps bs k || bsel false !fineB ps bs k) (bsplit (bif !fineB ps bs k then true else
 List.any bs dearK) (Wk [] [] ∧ true = true) (bsplit (DB.db (inK .i64 by_)) (bsplit (DB.db (inK .i64 ((1 : Int) + by_))) (bsplit (DB.db (bs.length * 64 ≤ 140737488355328)) ((∃ (z : Nat), (z ≤ bs.length ∧ avM (slX 4 ps) (slX 4 ps) ∧ avM (slX 6 bs) (slX 6 bs) ∧ (IntKind.i64 = .i64 ∧ k = k) ∧ q1 ∧ q2 ∧ q3 ∧ IntKind.i64 = .i64 ∧ (0 : Int) = (z : Int)) ∧ (26 : TypeId) = 26 ∧ 6 = 6 ∧ bs.length = bs.length ∧ ∀ (i j : Nat), i < bs.length → j < 6 → avM (Enc.enc (List.getD bs i Enc.dflt) j) (Enc.enc (dearZ ((1 : Int) + by_) bs z i) j)) ∧ ∀ (z : Nat), let q4 := (DB.db ((0 : Int) ≤ (z : Int) ∧ (z : Int) <
 (bs.length : Int))); let q5 := (Bar.c (dearZ ((1 : Int) + by_) bs z (0 + Int.toNat (z : Int))) * ((1 : Int) + by_)); let q7 := (AV.xl false 6 (bs.length) fun i j => Enc.enc (dearZ ((1 : Int) + by_) bs z (0 + i)) j); let q6 := (slOk Bar q7); let q10 := (slD q7); let q9 := (frstE (slD (slX 4 ps)) (slD (slX 6 bs)) k != frstE (slD (slX 4 ps)) q10 k); let q8 := (!bsel false q9 || bsel false q9); let q12 := (bif frstE (slD (slX 4 ps)) (slD (slX 6 bs)) k != frstE (slD (slX 4 ps)) q10 k then true else exactE (slD (slX 4 ps)) (slD (slX 6 bs)) k != exactE (slD (slX 4 ps)) q10 k); let q11 := (!bsel false
 q12 || bsel false q12); let q17 := (slX 3 (frstL q14 q10 k)); let q20 := (usedOf q13 = usedOf q17); let q19 := (bif bif frstE (slD (slX 4 ps)) (slD (slX 6 bs)) k != frstE (slD (slX 4 ps)) q10 k then true else exactE (slD (slX 4 ps)) (slD (slX 6 bs)) k != exactE (slD (slX 4 ps)) q10 k then true else !decide q20); let q18 := (!bsel false q19 || bsel false q19); let q24 := (exactL q14 q10 k); let q23 := (slX 3 q24); let q28 := (barsOf q7); let q29 := (usedOf q23); let q27 := (bif costE (barsOf (slX 6 bs)) q26 == (0 : Int) then costE q28 q29 == (0 : Int) else false); let q30 := (bif costE q31 q32
 == (0 : Int) then costE q28 q29 == (0 : Int) else false); let q34 := (usedOf (AV.xl false 3 (List.length q24) fun i j => Enc.enc (List.getD q24 i Enc.dflt) j)); let q33 := (bif costE q31 q32 == (0 : Int) then costE q28 q34 == (0 : Int) else false); let q35 := (bif bif costE q31 q32 == (0 : Int) then costE q28 q34 == (0 : Int) else false then costV q28 q34 == ((1 : Int) + by_) * costV q31 q32 else false); z ≤ bs.length → bsplit (ltB (z : Int) (bs.length : Int)) (bsplit q4 (bsplit (DB.db (inK .i64 q5)) (bsplit q4 (bsplit (DB.db (inK .i64 ((z : Int) + (1 : Int)))) (∃ (z' : Nat), ((z' ≤ bs.length ∧
 bs.length - z' < bs.length - z) ∧ avM (slX 4 ps) (slX 4 ps) ∧ avM (slX 6 bs) (slX 6 bs) ∧ (IntKind.i64 = .i64 ∧ k = k) ∧ q1 ∧ q2 ∧ q3 ∧ IntKind.i64 = .i64 ∧ (z : Int) + (1 : Int) = (z' : Int)) ∧ 26 = 26 ∧ 6 = 6 ∧ bs.length = bs.length ∧ ∀ (i j : Nat), i < bs.length → j < 6 → avM (if i = 0 + Int.toNat (z : Int) ∧ 4 ≤ j ∧ j < 5 then AV.v (Value.int .i64 q5) else Enc.enc (dearZ ((1 : Int) + by_) bs z i) j) (Enc.enc (dearZ ((1 : Int) + by_) bs z' i) j)) False) False) False) False) (bsplit (slOk Cut (slX 4 ps)) (bsplit (slOk Bar (slX 6 bs)) (bsplit (slOk Cut (slX 4 ps)) (bsplit q6 (bsplit (slOk Cut
 (slX 4 ps)) (bsplit (slOk Bar (slX 6 bs)) (bsplit (slOk Cut (slX 4 ps)) (bsplit q6 (bsplit q8 (bsplit q8 (bsplit (!!frstE (slD (slX 4 ps)) (slD (slX 6 bs)) k != frstE (slD (slX 4 ps)) q10 k || bsel false q9) (bsplit q11 (bsplit q11 (bsplit (!bsel false q12 || slOk Used q13) (bsplit (!bsel false q12 || slOk Used q17) (bsplit q11 (bsplit ((!!bif frstE (slD (slX 4 ps)) (slD (slX 6 bs)) k != frstE (slD (slX 4 ps)) q10 k then true else exactE (slD (slX 4 ps)) (slD (slX 6 bs)) k != exactE (slD (slX 4 ps)) q10 k) || bsel false q12) (bsplit q18 (bsplit q18 (bsplit (!bsel false q19 || slOk Used q21)
 (bsplit (!bsel false q19 || slOk Used q23) (bsplit q18 (bsplit ((!!bif bif frstE (slD (slX 4 ps)) (slD (slX 6 bs)) k != frstE (slD (slX 4 ps)) q10 k then true else exactE (slD (slX 4 ps)) (slD (slX 6 bs)) k != exactE (slD (slX 4 ps)) q10 k then true else !decide q20) || bsel false q19) (bsplit (bif bif bif frstE (slD (slX 4 ps)) (slD (slX 6 bs)) k != frstE (slD (slX 4 ps)) q10 k then true else exactE (slD (slX 4 ps)) (slD (slX 6 bs)) k != exactE (slD (slX 4 ps)) q10 k then true else !decide q20 then true else !decide (usedOf q21 = usedOf q23)) (false = true) (bsplit (slOk Bar (slX 6 bs))
 (bsplit (slOk Used q21) (bsplit q6 (bsplit (slOk Used q23) (bsplit (!bsel true q25 || bsel true q25) (bsplit (!costE (barsOf (slX 6 bs)) q26 == (0 : Int) || bsel true q25) (bsplit (!bsel true q27 || bsel true (bif costE (barsOf (slX 6 bs)) q26 == (0 : Int) then costE q28 (usedOf (AV.xl false 3 (List.length (exactL (slD (slX 4 ps)) q10 k)) fun i j => Enc.enc (List.getD q24 i Enc.dflt) j)) == (0 : Int) else false)) (bsplit (!bsel true q27 || bsel true q27) (bsplit (!bsel true q27 || DB.db (inK .i64 (((1 : Int) + by_) * costV (barsOf (slX 6 bs)) q26))) (bsplit (!bsel true q30 || bsel true q27)
 (bsplit (!bsel true q33 || bsel true q30) (bsplit ((!bif costE q31 q32 == (0 : Int) then costE q28 q34 == (0 : Int) else false) || bsel true q33) ((bsel true q35 = true → Wk [] []) ∧ bsplit ((!bif bif costE q31 q32 == (0 : Int) then costE q28 q34 == (0 : Int) else false then costV q28 q34 == ((1 : Int) + by_) * costV q31 q32 else false) || bsel true q35) ((bif bif bif costE q31 q32 == (0 : Int) then costE q28 q34 == (0 : Int) else false then costV q28 q34 == ((1 : Int) + by_) * costV q31 q32 else false then true else false) = true) False) False) False) False) False) False) False) False) False)
 False) False) False) False)) False) False) False) False) False) False) False) False) False) False) False) False) False) False) False) False) False) False) False) False) False) False) False)) False) False) False)) False) False := by
  dsimp only
  have e0 : (Enc.dflt : Int) = 0 := rfl
  have e1 : (Enc.dflt : Cut) = c0 := rfl
  have e2 : (Enc.dflt : Bar) = b0 := rfl
  have e3 : (Enc.dflt : Used) = u0 := rfl
  intro hb
  simp only [row_one]
  simp only [slX, slN, avM_refl, true_and, and_true, bsel_true, bsel_false, vc_own, bif_or, bif_and, vc_gdb, vc_db, vc_lt, vc_le, vc_ne, vc_eq, vc_tt, Int.toNat_natCast, Nat.zero_add, Nat.zero_le, Nat.sub_zero, agD_bar, agOk_bar, agD_bar', agOk_bar', agD_cut, agOk_cut, agD_cut', agOk_cut', agD_used, agOk_used, agD_used', agOk_used', int_i, Bool.or_true, cond_true, cond_false, okC, okC', deC, deC', okB, deB, okB', deB', okIn, okIn', deI, deI', okU, okU', deU, deU', okBl, deBl, okUl, deUl, deIo, cutsOf_sl, deUo, okBf, deBf, deBo, e0, e1, e2, e3, ltB_nat, pred_nat]
  refine ⟨Wk.refl _, fun _ => Wk.refl _, bsplit_iff.2 ⟨fun _ => Wk.refl _, fun hg => ?_⟩⟩
  rw [Bool.or_eq_false_iff, Bool.not_eq_false'] at hg
  obtain ⟨hg, hd⟩ := hg
  obtain ⟨hA, hn, hB⟩ := fineB_ok hg
  have hc : ∀ b ∈ bs, b.c ≤ 1048576 := fun b hb => by
    rw [List.any_eq_false] at hd
    have := hd b hb
    unfold dearK at this
    rw [ltB_iff] at this
    omega
  have hm := hA.m
  have h' := dear_good (K := 1 + by_) hA.b (by omega) (by omega) hc
  have hC : ∀ z, z < bs.length → inK .i64 ((bs.getD z b0).c * (1 + by_)) := fun z hz => by
    have c1 := hc _ (getD_memB hz)
    have c0 := (barE_gaps (hA.b _ (getD_memB hz))).2.2.2.2.2.2.2.2.1
    have e1 : 0 ≤ (bs.getD z b0).c * (1 + by_) := Int.mul_nonneg c0 (by omega)
    have e2 : (bs.getD z b0).c * (1 + by_) ≤ 1048576 * (1 + by_) := Int.mul_le_mul_of_nonneg_right c1 (by omega)
    exact ⟨by omega, by omega⟩
  refine ⟨⟨by omega, by omega⟩, ⟨by omega, by omega⟩, by omega, ⟨0, ⟨Nat.zero_le _, rfl⟩, fun i j _ _ => ?_⟩, fun z hz => ⟨fun hlt => ⟨⟨by omega, hlt⟩, ?_, ⟨by omega, hlt⟩, ⟨by omega, by omega⟩, z + 1, ⟨⟨by omega, by omega⟩, by omega⟩, fun i j hi hj => ?_⟩, fun hge => ?_⟩⟩
  · unfold dearZ; rw [if_neg (Nat.not_lt_zero _)]; exact avM_refl _
  · unfold dearZ; rw [if_neg (Nat.lt_irrefl _)]; exact hC z (by omega)
  · by_cases e : i = z
    · subst e
      rw [show dearZ (1 + by_) bs i i = bs.getD i b0 by unfold dearZ; rw [if_neg (Nat.lt_irrefl _)], show dearZ (1 + by_) bs (i + 1) i = dearB (1 + by_) (bs.getD i b0) by unfold dearZ; rw [if_pos (Nat.lt_succ_self _)]]
      match j, hj with
      | 0, _ => rw [if_neg (by omega)]; exact avM_refl _
      | 1, _ => rw [if_neg (by omega)]; exact avM_refl _
      | 2, _ => rw [if_neg (by omega)]; exact avM_refl _
      | 3, _ => rw [if_neg (by omega)]; exact avM_refl _
      | 4, _ => rw [if_pos ⟨rfl, by decide, by decide⟩]; exact avM_refl _
      | 5, _ => rw [if_neg (by omega)]; exact avM_refl _
    · rw [if_neg fun h => e h.1, show dearZ (1 + by_) bs (z + 1) i = dearZ (1 + by_) bs z i by
        unfold dearZ
        by_cases h : i < z
        · rw [if_pos h, if_pos (by omega)]
        · rw [if_neg h, if_neg (by omega)]]
      exact avM_refl _
  · have e : z = bs.length := by omega
    subst e
    obtain ⟨t1, t2⟩ := sl_of (α := Bar) (f := false) (len := bs.length) (els := fun i j => Enc.enc (dearZ (1 + by_) bs bs.length i) j) (fun i => dearZ (1 + by_) bs bs.length i) fun _ _ => rfl
    have t3 : listOf bs.length (fun i => dearZ (1 + by_) bs bs.length i) = dearL (1 + by_) bs := listOf_ext (dear_len _ _) fun i hi => by
      have hi' : i < bs.length := by rw [dear_len] at hi; exact hi
      unfold dearZ
      rw [if_pos hi', ← dear_getD, List.getD_eq_getElem?_getD, List.getElem?_eq_getElem hi]; rfl
    have tO : slOk Bar (AV.xl false 6 bs.length fun i j => Enc.enc (dearZ (1 + by_) bs bs.length i) j) = true := t1
    have tD : slD (α := Bar) (AV.xl false 6 bs.length fun i j => Enc.enc (dearZ (1 + by_) bs bs.length i) j) = dearL (1 + by_) bs := t2.trans t3
    have tD' : barsOf (AV.xl false 6 bs.length fun i j => Enc.enc (dearZ (1 + by_) bs bs.length i) j) = dearL (1 + by_) bs := tD
    obtain ⟨f1, f2⟩ := frst_dear hA h' (by omega)
    obtain ⟨x1, x2⟩ := exact_dear hA h' (by omega)
    obtain ⟨y1, y2⟩ := cost_dear hA h' (by omega)
    obtain ⟨c1, c2⟩ := hA.cost
    have c3 := hA.cost_le
    rw [← c2] at c3
    simp only [tO, tD, tD', vc_tt, f1, f2, x1, x2, y1, y2, c1, bne_self_eq_false, Bool.or_false, decide_true, Bool.not_true, vc_ff]
    have e : costV bs (exactL ps bs k) * (1 + by_) = (1 + by_) * costV bs (exactL ps bs k) := Int.mul_comm _ _
    refine ⟨fun _ => ?_, fun _ => Wk.refl _, ?_⟩
    · have e1 : 0 ≤ costV bs (exactL ps bs k) * (1 + by_) := Int.mul_nonneg c3.1 (by omega)
      have e2 : costV bs (exactL ps bs k) * (1 + by_) ≤ 8589934592 * (1 + by_) := Int.mul_le_mul_of_nonneg_right c3.2 (by omega)
      rw [← e]
      exact ⟨by omega, by omega⟩
    · rw [e]; simp
theorem scales_C {G : List (Nat × Obj)} (hG : TabIn G) (ps : List Cut) (bs : List Bar) (k : Int) (by_ : Int) (h0 : 0 ≤ by_) (h1 : by_ < 256) : PureCall Tryz.prog G 4 [slE ps, slE bs, .i k, .v (.int .u8 by_)] (.b true) :=
  pure_of_vc mixed (Tscl_sound hG ps bs k) (Eq.mp (by kernel_rfl) (scales_vc G ps bs k by_ h0 h1) : vcFn Tryz.prog (Tscl G ps bs k) 4 (scales_an bs by_) [slE ps, slE bs, .i k, .v (.int .u8 by_)] (.b true))
end Go.Tz
