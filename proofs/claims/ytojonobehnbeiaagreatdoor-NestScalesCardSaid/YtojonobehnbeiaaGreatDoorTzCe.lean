/- nest.Waste, kingpostref45.Waste. -/
import Derived.Test.YtojonobehnbeiaaGreatDoorTzCd
set_option linter.unusedSimpArgs false
namespace Go.Tz
open Go Go.Sx Go.Proofs
set_option maxRecDepth 100000
set_option maxHeartbeats 4000000
def badP (n : Nat) (m : Int) : Bool := ltB m 0 || leB (n : Int) m
theorem wasteP_vc (m : Int) (l : List Cut) :
 let q1 := (!bsel false (ltB m (0 : Int)) || bsel false (ltB m (0 : Int))); bndL [AV.v (Value.int .i64 m), AV.xq 1 (fun (x : Nat) => slX 4 l) 0] → bsplit q1 (bsplit q1 (bsplit q1 (bsplit (!!ltB m (0 : Int) || bsel false (ltB m (0 : Int))) ((bif ltB m (0 : Int) then true else leB (l.length : Int) m) = badP (l.length) m) False) False) False) False := by
  dsimp only
  intro hb
  simp only [slX, slN, avM_refl, true_and, and_true, bsel_true, bsel_false, vc_own, bif_or, bif_and, vc_gdb, vc_db, vc_lt, vc_le, vc_ne, vc_eq, vc_tt, Int.toNat_natCast, Nat.zero_add, Nat.zero_le, Nat.sub_zero, agD_bar, agOk_bar, agD_bar', agOk_bar', agD_cut, agOk_cut, agD_cut', agOk_cut', agD_used, agOk_used, agD_used', agOk_used', int_i, Bool.or_true, cond_true, cond_false]
  rfl
def wasteP_t : List AV → Option (List Cond × AV)
  | [.v (.int .i64 m), .xq 1 cells 0] => some ([.b (slOk Cut (cells 0))], .b (badP (cutsOf (cells 0)).length m))
  | _ => none
theorem wasteP_T : PureT Tryz.prog [] 46 wasteP_t := by
  intro xs ps r h hp
  unfold wasteP_t at h
  split at h
  · rename_i m cells
    cases h
    exact weaken (ys := [.i m, .xq 1 (fun _ => slE (cutsOf (cells 0))) 0]) ⟨avM_refl _, ⟨rfl, rfl, slE_sound (hp _ List.mem_cons_self)⟩, trivial⟩
      (pure_of_vc mixed tb0_sound (Eq.mp (by kernel_rfl) (wasteP_vc m (cutsOf (cells 0))) : vcFn Tryz.prog T0 46 .auto [.i m, .xq 1 (fun _ => slE (cutsOf (cells 0))) 0] (.b (badP (cutsOf (cells 0)).length m))))
  · cases h
def fnW (l : List Cut) : AV := .fn (.func 46) 0 (fun _ => .junk) 1 (fun _ => .xq 1 (fun _ => slE l) 0)
theorem idxW_vc (l : List Int) (all : List Cut) :
 let q1 := (AV.fn (Fn.func (46 : FuncId)) 0 (fun (x : Nat) => AV.junk) 1 fun (x : Nat) => AV.xq 1 (fun (x : Nat) => slX 4 all) 0); let q2 := (IntKind.i64 = .i64 ∧ (l.length : Int) = (l.length : Int)); bndL [slN l, AV.fn (Fn.func (46 : FuncId)) 0 (fun (x : Nat) => AV.junk) 1 fun (x : Nat) => AV.xq 1 (fun (x : Nat) => slX 4 all) 0] → (∃ (z : Nat), ((z ≤ l.length ∧ idxF (badP (all.length)) (List.drop z l) z = idxF (badP (all.length)) l 0) ∧ avM (slN l) (slN l) ∧ avM q1 q1 ∧ avM (slN l) (slN l) ∧ q2 ∧ IntKind.i64 = .i64 ∧ (0 : Int) = (z : Int)) ∧ True) ∧ ∀ (z : Nat), z ≤ l.length ∧ idxF (badP
 (all.length)) (List.drop z l) z = idxF (badP (all.length)) l 0 → bsplit (ltB (z : Int) (l.length : Int)) (bsplit (DB.db ((0 : Int) ≤ (z : Int) ∧ (z : Int) < (l.length : Int))) (bsplit (slOk Cut (slX 4 all)) (bsplit (badP (List.length (cutsOf (slX 4 all))) (List.getD l (Int.toNat (z : Int)) Enc.dflt)) (IntKind.i64 = .i64 ∧ (z : Int) = idxF (badP (all.length)) l 0) (bsplit (DB.db (inK .i64 ((z : Int) + (1 : Int)))) (∃ (z' : Nat), (((z' ≤ l.length ∧ idxF (badP (all.length)) (List.drop z' l) z' = idxF (badP (all.length)) l 0) ∧ l.length - z' < l.length - z) ∧ avM (slN l) (slN l) ∧ avM q1 q1 ∧ avM
 (slN l) (slN l) ∧ q2 ∧ IntKind.i64 = .i64 ∧ (z : Int) + (1 : Int) = (z' : Int)) ∧ True) False)) False) False) (IntKind.i64 = .i64 ∧ (-1 : Int) = idxF (badP (all.length)) l 0) := by
  dsimp only
  intro hb
  have hl : l.length ≤ 9223372036854775807 := hb.1.1
  have e0 : (Enc.dflt : Int) = 0 := rfl
  have e1 : (Enc.dflt : Cut) = ⟨0, 0, 0, []⟩ := rfl
  simp only [slX, slN, avM_refl, true_and, and_true, bsel_true, bsel_false, vc_own, bif_or, bif_and, vc_gdb, vc_db, vc_lt, vc_le, vc_ne, vc_eq, vc_tt, Int.toNat_natCast, Nat.zero_add, Nat.zero_le, Nat.sub_zero, agD_bar, agOk_bar, agD_bar', agOk_bar', agD_cut, agOk_cut, agD_cut', agOk_cut', agD_used, agOk_used, agD_used', agOk_used', int_i, Bool.or_true, cond_true, cond_false, okC, okC', deC, deC', okB, deB, okB', deB', okIn, okIn', deI, deI', okU, okU', deU, deU', okBl, deBl, okUl, deUl, deIo, cutsOf_sl, e0, e1]
  refine ⟨⟨0, ⟨by omega, rfl⟩, rfl⟩, fun z ⟨h1, h2⟩ => ⟨fun hz => ⟨by omega, (bsplit_iff (t := badP all.length (l.getD z 0))).2 ⟨fun hp => ?_, fun hp => ?_⟩⟩, fun hz => ?_⟩⟩
  · rw [getD_drop (d := 0) (by omega), idxF, hp] at h2; exact h2
  · rw [getD_drop (d := 0) (by omega), idxF, hp] at h2
    exact ⟨by simp only [inK]; omega, z + 1, ⟨⟨by omega, h2⟩, by omega⟩, by omega⟩
  · rw [show z = l.length by omega, List.drop_length] at h2; exact h2
theorem idxW_C (l : List Int) (all : List Cut) : PureCall Tryz.prog [] 82 [slE l, fnW all] (.i (idxF (badP all.length) l 0)) :=
  pure_of_vc mixed (TbSound.plus tb0_sound wasteP_T) (Eq.mp (by kernel_rfl) (idxW_vc l all) : vcFn Tryz.prog (T0.plus 46 wasteP_t) 82 (idx_an l (badP all.length)) [slE l, fnW all] (.i (idxF (badP all.length) l 0)))
theorem conW_vc (l : List Int) (all : List Cut) : bndL [AV.xl false 1 (l.length) fun i j => AV.v (Value.int .i64 (List.getD l i Enc.dflt)), AV.fn (Fn.func (46 : FuncId)) 0 (fun (x : Nat) => AV.junk) 1 fun (x : Nat) => AV.xq 1 (fun (x : Nat) => AV.xl false 4 (all.length) fun i j => Enc.enc (List.getD all i Enc.dflt) j) 0] → Wk [AV.xl false 1 (l.length) fun i j => AV.v (Value.int .i64 (List.getD l i Enc.dflt)), AV.fn (Fn.func (46 : FuncId)) 0 (fun (x : Nat) => AV.junk) 1 fun (x : Nat) => AV.xq 1 (fun (x : Nat) => AV.xl false 4 (all.length) fun i j => Enc.enc (List.getD all i Enc.dflt) j) 0]
 [AV.xl false 1 (l.length) fun i j => AV.v (Value.int .i64 (List.getD l i Enc.dflt)), AV.fn (Fn.func (46 : FuncId)) 0 (fun (x : Nat) => AV.junk) 1 fun (x : Nat) => AV.xq 1 (fun (x : Nat) => AV.xl false 4 (all.length) fun i j => Enc.enc (List.getD all i Enc.dflt) j) 0] ∧ leB (0 : Int) (idxF (badP (all.length)) l 0) = List.any l (badP (all.length)) := by
  intro hb
  exact ⟨Wk.refl _, idxF_any _ _ _⟩
def conW_t : List AV → Option (List Cond × AV)
  | [x, .fn (.func f) nf a nc c] =>
    match c 0 with
    | .xq 1 cells 0 => bif Nat.beq f 46 && Nat.beq nf 0 && Nat.beq nc 1 then some ([.b (slOk Int x), .b (slOk Cut (cells 0))], .b ((intsOf x).any (badP (cutsOf (cells 0)).length))) else none
    | _ => none
  | _ => none
theorem conW_T : PureT Tryz.prog [] 45 conW_t := by
  intro xs ps r h hp
  unfold conW_t at h
  split at h
  · rename_i x f nf a nc c
    split at h
    · rename_i cells hc0
      cases hc : Nat.beq f 46 && Nat.beq nf 0 && Nat.beq nc 1 with
      | false => rw [hc] at h; cases h
      | true =>
        rw [hc] at h
        cases h
        simp only [Bool.and_eq_true] at hc
        obtain rfl := Nat.eq_of_beq_eq_true hc.1.1
        obtain rfl := Nat.eq_of_beq_eq_true hc.1.2
        obtain rfl := Nat.eq_of_beq_eq_true hc.2
        have h1 : slOk Int x = true := hp _ List.mem_cons_self
        have h2 : slOk Cut (cells 0) = true := hp _ (List.mem_cons_of_mem _ List.mem_cons_self)
        refine weaken (ys := [slE (intsOf x), fnW (cutsOf (cells 0))]) ⟨slE_sound h1, ⟨rfl, rfl, rfl, trivial, ?_⟩, trivial⟩
          (pure_of_vc mixed (TbSound.plus tb0_sound (inst_T (idxW_C _ _))) (Eq.mp (by kernel_rfl) (conW_vc (intsOf x) (cutsOf (cells 0))) : vcFn Tryz.prog (T0.plus 82 (inst [slE (intsOf x), fnW (cutsOf (cells 0))] (.i (idxF (badP (cutsOf (cells 0)).length) (intsOf x) 0)))) 45 .auto [slE (intsOf x), fnW (cutsOf (cells 0))] (.b ((intsOf x).any (badP (cutsOf (cells 0)).length)))))
        show avM (c 0) _
        rw [hc0]
        exact ⟨rfl, rfl, slE_sound h2⟩
    · cases h
  · cases h
def sumL (all : List Cut) (ns : List Int) : Nat → Int
  | 0 => 0
  | y + 1 => sumL all ns y + (all.getD (ns.getD y 0).toNat ⟨0, 0, 0, []⟩).l
def sumW (all : List Cut) (bs : List Bar) (l : List Used) : Nat → Int
  | 0 => 0
  | z + 1 => sumW all bs l z + (barAt bs (usedAt l z)).l - sumL all (usedAt l z).ps (usedAt l z).ps.length
def badU (n m : Nat) (u : Used) : Bool := badK n u || u.ps.any (badP m)
def wasteE (ps : List Cut) (bs : List Bar) (l : List Used) : Int :=
  bif barsE bs != 0 || cutsE ps != 0 then 1 else bif Nat.blt 64 l.length then 4 else bif l.any (badU bs.length (splitL ps).length) then 2 else 0
def wasteV (ps : List Cut) (bs : List Bar) (l : List Used) : Int := bif wasteE ps bs l == 0 then sumW (splitL ps) bs l l.length else 0
def fitU (l : List Used) : Bool := Nat.blt 64 l.length || l.all fun u => Nat.ble u.ps.length 66
theorem pieceE_l {c : Cut} (h : pieceE c = 0) : 1 ≤ c.l ∧ c.l ≤ 1048576 := by
  unfold pieceE at h
  cases h1 : ltB c.w 1 || ltB 1000 c.w || ltB c.d 1 || ltB 1000 c.d || ltB c.l 1 || ltB 1048576 c.l with
  | true => rw [h1] at h; cases h
  | false =>
    simp only [Bool.or_eq_false_iff, ltB_eq, decide_eq_false_iff_not] at h1
    omega
theorem split_l {ps : List Cut} (h : cutsE ps = 0) {n : Int} (h0 : 0 ≤ n) (hn : n < (splitL ps).length) : 1 ≤ ((splitL ps).getD n.toNat ⟨0, 0, 0, []⟩).l ∧ ((splitL ps).getD n.toNat ⟨0, 0, 0, []⟩).l ≤ 1048576 := by
  have hm : (splitL ps).getD n.toNat ⟨0, 0, 0, []⟩ ∈ splitL ps := by
    rw [List.getD_eq_getElem?_getD, List.getElem?_eq_getElem (by omega)]
    exact List.getElem_mem _
  obtain ⟨c, hc, hc2⟩ := List.mem_flatMap.1 ((splitL_perm ps).subset hm)
  obtain ⟨m, _, e⟩ := List.mem_map.1 hc2
  rw [← e]
  obtain ⟨i, hi, rfl⟩ := List.getElem_of_mem hc
  have := pieceE_l ((cutsE_ok h).2 i hi)
  rw [List.getD_eq_getElem?_getD, List.getElem?_eq_getElem hi] at this
  exact this
theorem badP_ok {n : Nat} {m : Int} (h : badP n m = false) : 0 ≤ m ∧ m < n := by
  unfold badP at h
  rw [Bool.or_eq_false_iff, ltB_eq, leB_eq, decide_eq_false_iff_not, decide_eq_false_iff_not] at h
  omega
theorem badU_ok {n m : Nat} {u : Used} (h : badU n m u = false) : 0 ≤ u.bar ∧ u.bar < n ∧ ∀ i, i < u.ps.length → badP m (u.ps.getD i 0) = false := by
  unfold badU badK at h
  rw [Bool.or_eq_false_iff, Bool.or_eq_false_iff, ltB_eq, leB_eq, decide_eq_false_iff_not, decide_eq_false_iff_not, List.any_eq_false] at h
  refine ⟨by omega, by omega, fun i hi => ?_⟩
  have := h.2 (u.ps.getD i 0) (by rw [List.getD_eq_getElem?_getD, List.getElem?_eq_getElem hi]; exact List.getElem_mem hi)
  simpa using this
theorem sumL_le {ps : List Cut} (h : cutsE ps = 0) {ns : List Int} : ∀ {y : Nat}, (∀ i, i < y → badP (splitL ps).length (ns.getD i 0) = false) → 0 ≤ sumL (splitL ps) ns y ∧ sumL (splitL ps) ns y ≤ 1048576 * y
  | 0, _ => by simp [sumL]
  | y + 1, hb => by
    have h1 := sumL_le h (y := y) fun i hi => hb i (by omega)
    have h2 := badP_ok (hb y (by omega))
    have h3 := split_l h h2.1 h2.2
    show 0 ≤ sumL (splitL ps) ns y + _ ∧ sumL (splitL ps) ns y + _ ≤ _
    omega
theorem fit_at {l : List Used} (hf : fitU l = true) (hl : l.length ≤ 64) {z : Nat} (hz : z < l.length) : (usedAt l z).ps.length ≤ 66 := by
  unfold fitU at hf
  rw [show Nat.blt 64 l.length = false by rw [Bool.eq_false_iff]; intro h; have := (blt_iff _ _).1 h; omega, Bool.false_or, List.all_eq_true] at hf
  exact Nat.le_of_ble_eq_true (hf (usedAt l z) (by unfold usedAt; rw [List.getD_eq_getElem?_getD, List.getElem?_eq_getElem hz]; exact List.getElem_mem _))
theorem bar_l {bs : List Bar} (hB : barsE bs = 0) {u : Used} (h0 : 0 ≤ u.bar) (h1 : u.bar < bs.length) : 1 ≤ (barAt bs u).l ∧ (barAt bs u).l ≤ 65536 := by
  obtain ⟨_, h2, h3, _⟩ := barE_gaps (barsE_at hB h0 h1)
  exact ⟨h2, h3⟩
theorem sumW_le {ps : List Cut} {bs : List Bar} {l : List Used} (hc : cutsE ps = 0) (hB : barsE bs = 0) (hf : fitU l = true) (hl : l.length ≤ 64) :
    ∀ z, z ≤ l.length → (∀ i, i < z → badU bs.length (splitL ps).length (usedAt l i) = false) → -(69206016 * (z : Int)) ≤ sumW (splitL ps) bs l z ∧ sumW (splitL ps) bs l z ≤ 65536 * z
  | 0, _, _ => by simp [sumW]
  | z + 1, hz, h => by
    have h1 := sumW_le hc hB hf hl z (by omega) fun i hi => h i (by omega)
    obtain ⟨b1, b2, b3⟩ := badU_ok (h z (by omega))
    have h2 := sumL_le hc b3
    have h3 := fit_at hf hl (show z < l.length by omega)
    have h4 := bar_l hB b1 b2
    rw [show sumW (splitL ps) bs l (z + 1) = sumW (splitL ps) bs l z + (barAt bs (usedAt l z)).l - sumL (splitL ps) (usedAt l z).ps (usedAt l z).ps.length from rfl]
    omega
theorem waste_any {l : List Used} {p : Used → Bool} {z : Nat} (hz : z < l.length) (h : p (usedAt l z) = true) : l.any p = true :=
  List.any_eq_true.2 ⟨usedAt l z, by unfold usedAt; rw [List.getD_eq_getElem?_getD, List.getElem?_eq_getElem hz]; exact List.getElem_mem _, h⟩
theorem waste_none {l : List Used} {p : Used → Bool} (h : ∀ i, i < l.length → p (usedAt l i) = false) : l.any p = false := by
  rw [List.any_eq_false]
  intro x hx
  obtain ⟨i, hi, rfl⟩ := List.getElem_of_mem hx
  have := h i hi
  unfold usedAt at this
  rw [List.getD_eq_getElem?_getD, List.getElem?_eq_getElem hi, Option.getD_some] at this
  rw [this]; decide
section
variable {ps : List Cut} {bs : List Bar} {l : List Used}
theorem wasteE_one (h : (barsE bs != 0 || cutsE ps != 0) = true) : wasteE ps bs l = 1 := by unfold wasteE; rw [h]; rfl
theorem wasteE_len (h : (barsE bs != 0 || cutsE ps != 0) = false) (h2 : 64 < l.length) : wasteE ps bs l = 4 := by unfold wasteE; rw [h, (blt_iff _ _).2 h2]; rfl
theorem wasteE_any (h : (barsE bs != 0 || cutsE ps != 0) = false) (h2 : l.length ≤ 64) : wasteE ps bs l = bif l.any (badU bs.length (splitL ps).length) then 2 else 0 := by
  unfold wasteE
  rw [h, show Nat.blt 64 l.length = false by rw [Bool.eq_false_iff]; intro h; have := (blt_iff _ _).1 h; omega]; rfl
theorem waste_bad {e : Int} (h : wasteE ps bs l = e) (h2 : e ≠ 0) : 0 = wasteV ps bs l ∧ e = wasteE ps bs l := by
  unfold wasteV
  rw [h, beq_eq_false_iff_ne.2 h2]
  exact ⟨rfl, rfl⟩
end
def waste_an (ps : List Cut) (bs : List Bar) (l : List Used) : Ann :=
  .two .auto (.two .auto (.two .auto (.two .auto (.two .auto (.two .auto (.two (.two .auto (.one (.loop Nat (fun σ z => [(1, σ.tm 1), (8, σ.tm 8), (34, σ.tm 34), (35, σ.tm 35), (10, .i (sumW (splitL ps) bs l z)), (36, .i z)]) (fun σ z => []) 0 (fun σ z => z ≤ l.length ∧ ∀ i, i < z → badU bs.length (splitL ps).length (usedAt l i) = false) (fun σ z => l.length - z) (.two .auto (.two .auto (.two (.one (.two .auto (.two .auto (.two .auto (.two .auto (.one (.loop Nat (fun σ z => [(1, σ.tm 1), (8, σ.tm 8), (34, σ.tm 34), (35, σ.tm 35), (36, σ.tm 36), (65, σ.tm 65), (66, σ.tm 66), (10, .i (sumW (splitL ps) bs l (AV.int (σ.tm 36)).toNat + (barAt bs (usedAt l (AV.int (σ.tm 36)).toNat)).l - sumL (splitL ps) (usedAt l (AV.int (σ.tm 36)).toNat).ps z)), (67, .i z)]) (fun σ z => []) 0 (fun σ z => z ≤ (usedAt l (AV.int (σ.tm 36)).toNat).ps.length) (fun σ z => (usedAt l (AV.int (σ.tm 36)).toNat).ps.length - z) .auto))))))) .auto)))))) .auto))))))
def Tnw : Tb := (((T0.plus 34 bars_t).plus 36 cuts_t).plus 14 split_t).plus 45 conW_t
theorem Tnw_sound : TbSound Tryz.prog Tnw := TbSound.plus (TbSound.plus (TbSound.plus (TbSound.plus tb0_sound stockC_T) cutK_T) cutS_T) conW_T
theorem waste_vc (ps : List Cut) (bs : List Bar) (l : List Used) (hf : fitU l = true) :
 let q1 := (!bsel false (barsE (slD (slX 6 bs)) != (0 : Int)) || bsel false (barsE (slD (slX 6 bs)) != (0 : Int))); let q2 := (True ∧ IntKind.i64 = .i64 ∧ (0 : Int) = wasteV ps bs l); let q3 := (IntKind.i64 = .i64 ∧ (l.length : Int) = (l.length : Int)); let q5 := (splitC (cutsOf (AV.xl false 4 (ps.length) fun i j => Enc.enc (List.getD ps i Enc.dflt) j))); let q4 := (slX 4 q5); let q22 := (22 = 22 ∧ 1 = 1 ∧ avM q4 q4); bndL [slX 4 ps, slX 6 bs, slX 3 l] → bsplit (slOk Bar (slX 6 bs)) (bsplit q1 (bsplit (!bsel false (barsE (slD (slX 6 bs)) != (0 : Int)) || slOk Cut (slX 4 ps)) (bsplit q1 (bsplit
 (!!barsE (slD (slX 6 bs)) != (0 : Int) || bsel false (barsE (slD (slX 6 bs)) != (0 : Int))) (bsplit (bif barsE (slD (slX 6 bs)) != (0 : Int) then true else cutsE (slD (slX 4 ps)) != (0 : Int)) (2 = List.length [AV.v (Value.int .i64 (0 : Int)), AV.v (Value.int .i64 (1 : Int))] ∧ q2 ∧ IntKind.i64 = .i64 ∧ (1 : Int) = wasteE ps bs l) (bsplit (slOk Cut (slX 4 ps)) (bsplit (splitE (cutsOf (slX 4 ps)) != (0 : Int)) (2 = List.length [AV.v (Value.int .i64 (0 : Int)), AV.v (Value.int .i64 (splitE (cutsOf (slX 4 ps))))] ∧ q2 ∧ IntKind.i64 = .i64 ∧ splitE (cutsOf (slX 4 ps)) = wasteE ps bs l) (bsplit (ltB
 (64 : Int) (l.length : Int)) (2 = List.length [AV.v (Value.int .i64 (0 : Int)), AV.v (Value.int .i64 (4 : Int))] ∧ q2 ∧ IntKind.i64 = .i64 ∧ (4 : Int) = wasteE ps bs l) ((∃ (z : Nat), ((z ≤ l.length ∧ ∀ (i : Nat), i < z → badU (bs.length) (List.length (splitL ps)) (usedAt l i) = false) ∧ avM (slX 6 bs) (slX 6 bs) ∧ (nat_lit 0 = 0 ∧ 0 = 0) ∧ avM (slX 3 l) (slX 3 l) ∧ q3 ∧ (IntKind.i64 = .i64 ∧ (0 : Int) = sumW (splitL ps) bs l z) ∧ IntKind.i64 = .i64 ∧ (0 : Int) = (z : Int)) ∧ 22 = 22 ∧ 1 = 1 ∧ avM q4 q4) ∧ ∀ (z : Nat), let q9 := (List.getD l (Int.toNat (z : Int)) Enc.dflt); let q8 := (Used.bar
 q9); let q7 := (ltB q8 (0 : Int)); let q6 := (!bsel false q7 || bsel false q7); let q11 := (bif ltB q8 (0 : Int) then true else leB (bs.length : Int) q8); let q10 := (!bsel false q11 || bsel false q11); let q13 := (Used.ps q9); let q12 := (slN q13); let q14 := (List.getD bs (Int.toNat q8) Enc.dflt); let q17 := (Int.toNat (AV.int (AV.v (Value.int .i64 (z : Int))))); let q16 := (usedAt l q17); let q15 := (Used.ps q16); let q18 := (IntKind.i64 = .i64 ∧ (z : Int) = (z : Int)); let q20 := (↑(List.length q13) : Int); let q19 := (IntKind.i64 = .i64 ∧ q20 = q20); let q21 := (barAt bs q16); let q23 :=
 ((IntKind.i64 = .i64 ∧ Used.bar q9 = Used.bar q9) ∧ avM q12 q12); let q24 := (slN (Used.at_ q9)); (z ≤ l.length ∧ ∀ (i : Nat), i < z → badU (bs.length) (List.length (splitL ps)) (usedAt l i) = false) → bsplit (ltB (z : Int) (l.length : Int)) (bsplit (DB.db ((0 : Int) ≤ (z : Int) ∧ (z : Int) < (l.length : Int))) (bsplit q6 (bsplit q6 (bsplit q6 (bsplit q6 (bsplit (!!ltB q8 (0 : Int) || bsel false q7) (bsplit q10 (bsplit q10 (bsplit q10 (bsplit (!bsel false q11 || slOk Int q12) (bsplit (!bsel false q11 || slOk Cut q4) (bsplit ((!!bif ltB q8 (0 : Int) then true else leB (bs.length : Int) q8) ||
 bsel false q11) (bsplit (bif bif ltB q8 (0 : Int) then true else leB (bs.length : Int) q8 then true else List.any (intsOf q12) (badP (List.length (cutsOf q4)))) (2 = List.length [AV.v (Value.int .i64 (0 : Int)), AV.v (Value.int .i64 (2 : Int))] ∧ q2 ∧ IntKind.i64 = .i64 ∧ (2 : Int) = wasteE ps bs l) (bsplit (DB.db ((0 : Int) ≤ Used.bar q9 ∧ Used.bar q9 < (bs.length : Int))) (bsplit (DB.db (inK .i64 (sumW (splitL ps) bs l z + Bar.l q14))) ((∃ (z_1 : Nat), (z_1 ≤ List.length q15 ∧ avM (slX 6 bs) (slX 6 bs) ∧ (nat_lit 0 = 0 ∧ 0 = 0) ∧ avM (slX 3 l) (slX 3 l) ∧ q3 ∧ q18 ∧ avM q12 q12 ∧ q19 ∧
 (IntKind.i64 = .i64 ∧ sumW (splitL ps) bs l z + Bar.l q14 = sumW (splitL ps) bs l q17 + Bar.l q21 - sumL (splitL ps) q15 z_1) ∧ IntKind.i64 = .i64 ∧ (0 : Int) = (z_1 : Int)) ∧ q22 ∧ 50 = 50 ∧ 3 = 3 ∧ q23 ∧ avM q24 q24) ∧ ∀ (z_1 : Nat), let q25 := (Int.toNat (List.getD q13 (Int.toNat (z_1 : Int)) Enc.dflt)); z_1 ≤ List.length q15 → bsplit (ltB (z_1 : Int) q20) (bsplit (DB.db ((0 : Int) ≤ (z_1 : Int) ∧ (z_1 : Int) < q20)) (bsplit (DB.db ((0 : Int) ≤ List.getD q13 (Int.toNat (z_1 : Int)) Enc.dflt ∧ List.getD q13 (Int.toNat (z_1 : Int)) Enc.dflt < (↑(List.length (splitC (cutsOf (slX 4 ps)))) :
 Int))) (bsplit (DB.db (inK .i64 (sumW (splitL ps) bs l q17 + Bar.l q21 - sumL (splitL ps) q15 z_1 - Cut.l (List.getD (splitC (cutsOf (slX 4 ps))) q25 Enc.dflt)))) (bsplit (DB.db (inK .i64 ((z_1 : Int) + (1 : Int)))) (∃ (z' : Nat), ((z' ≤ List.length q15 ∧ List.length q15 - z' < List.length q15 - z_1) ∧ avM (slX 6 bs) (slX 6 bs) ∧ (nat_lit 0 = 0 ∧ 0 = 0) ∧ avM (slX 3 l) (slX 3 l) ∧ q3 ∧ q18 ∧ avM q12 q12 ∧ q19 ∧ (IntKind.i64 = .i64 ∧ sumW (splitL ps) bs l q17 + Bar.l q21 - sumL (splitL ps) q15 z_1 - Cut.l (List.getD q5 q25 Enc.dflt) = sumW (splitL ps) bs l q17 + Bar.l q21 - sumL (splitL ps) q15
 z') ∧ IntKind.i64 = .i64 ∧ (z_1 : Int) + (1 : Int) = (z' : Int)) ∧ q22 ∧ 50 = 50 ∧ 3 = 3 ∧ q23 ∧ avM q24 q24) False) False) False) False) (bsplit (DB.db (inK .i64 ((z : Int) + (1 : Int)))) (∃ (z' : Nat), (((z' ≤ l.length ∧ ∀ (i : Nat), i < z' → badU (bs.length) (List.length (splitL ps)) (usedAt l i) = false) ∧ l.length - z' < l.length - z) ∧ avM (slX 6 bs) (slX 6 bs) ∧ (nat_lit 0 = 0 ∧ 0 = 0) ∧ avM (slX 3 l) (slX 3 l) ∧ q3 ∧ (IntKind.i64 = .i64 ∧ sumW (splitL ps) bs l q17 + Bar.l q21 - sumL (splitL ps) q15 z_1 = sumW (splitL ps) bs l z') ∧ IntKind.i64 = .i64 ∧ (z : Int) + (1 : Int) = (z' :
 Int)) ∧ 22 = 22 ∧ 1 = 1 ∧ avM q4 q4) False)) False) False)) False) False) False) False) False) False) False) False) False) False) False) False) (2 = List.length [AV.v (Value.int .i64 (sumW (splitL ps) bs l z)), AV.v (Value.int .i64 (0 : Int))] ∧ (True ∧ IntKind.i64 = .i64 ∧ sumW (splitL ps) bs l z = wasteV ps bs l) ∧ IntKind.i64 = .i64 ∧ (0 : Int) = wasteE ps bs l)))) False)) False) False) False) False) False := by
  dsimp only
  intro hb
  have e0 : (Enc.dflt : Int) = 0 := rfl
  have e1 : (Enc.dflt : Cut) = ⟨0, 0, 0, []⟩ := rfl
  have e2 : (Enc.dflt : Bar) = ⟨0, 0, 0, 0, 0, []⟩ := rfl
  have e3 : (Enc.dflt : Used) = ⟨0, [], []⟩ := rfl
  simp only [slX, slN, avM_refl, true_and, and_true, bsel_true, bsel_false, vc_own, bif_or, bif_and, vc_gdb, vc_db, vc_lt, vc_le, vc_ne, vc_eq, vc_tt, Int.toNat_natCast, Nat.zero_add, Nat.zero_le, Nat.sub_zero, agD_bar, agOk_bar, agD_bar', agOk_bar', agD_cut, agOk_cut, agD_cut', agOk_cut', agD_used, agOk_used, agD_used', agOk_used', int_i, Bool.or_true, cond_true, cond_false, okC, okC', deC, deC', okB, deB, okB', deB', okIn, okIn', deI, deI', okU, okU', deU, deU', okBl, deBl, okUl, deUl, deIo, cutsOf_sl, deBo, deUo, e0, e1, e2, e3]
  have hu : ∀ z, l.getD z ⟨0, [], []⟩ = usedAt l z := fun _ => rfl
  have hbr : ∀ z, bs.getD (usedAt l z).bar.toNat ⟨0, 0, 0, 0, 0, []⟩ = barAt bs (usedAt l z) := fun _ => rfl
  have hcut : cutsOf (AV.xl false 4 ps.length fun i j => Enc.enc (ps.getD i Enc.dflt) j) = ps := slD_slE ps
  simp only [hu, hbr]
  refine bsplit_iff.2 ⟨fun h1 => ⟨rfl, waste_bad (wasteE_one h1) (by decide)⟩, fun h1 => ?_⟩
  have h1' := h1
  rw [Bool.or_eq_false_iff, bne_eq_false_iff_eq, bne_eq_false_iff_eq] at h1'
  obtain ⟨hB, hc⟩ := h1'
  have eS : splitC ps = splitL ps := by unfold splitC; rw [hc]; rfl
  have eE : splitE ps = 0 := by unfold splitE; rw [hc]; rfl
  rw [eS, eE]
  refine ⟨fun h => absurd rfl h, fun _ => ⟨fun h => ⟨rfl, waste_bad (wasteE_len h1 (by omega)) (by decide)⟩, fun hl => ⟨⟨0, ⟨by omega, fun i hi => by omega⟩, rfl, rfl⟩, fun z ⟨z1, z2⟩ => ⟨fun hz => ⟨by omega, bsplit_iff.2 ⟨fun hbad => ⟨rfl, waste_bad ?_ (by decide)⟩, fun hbad => ?_⟩⟩, fun hz => ?_⟩⟩⟩⟩
  · rw [wasteE_any h1 (by omega), waste_any (z := z) (by omega) hbad]; rfl
  · have hu' : badU bs.length (splitL ps).length (usedAt l z) = false := hbad
    obtain ⟨b1, b2, b3⟩ := badU_ok hu'
    have w1 := sumW_le hc hB hf (by omega) z (by omega) z2
    have w2 := fit_at hf (by omega) (show z < l.length by omega)
    have w3 := bar_l hB b1 b2
    refine ⟨⟨b1, b2⟩, by simp only [inK]; omega, ⟨0, by omega, by simp [sumL], rfl⟩, fun y hy => ⟨fun hyl => ?_, fun hyl => ?_⟩⟩
    · have b4 := badP_ok (b3 y (by omega))
      have w4 := sumL_le hc (y := y) fun i hi => b3 i (by omega)
      have w5 := split_l hc b4.1 b4.2
      have w6 : sumL (splitL ps) (usedAt l z).ps (y + 1) = sumL (splitL ps) (usedAt l z).ps y + ((splitL ps).getD ((usedAt l z).ps.getD y 0).toNat ⟨0, 0, 0, []⟩).l := rfl
      refine ⟨by omega, b4, vc_db.2 ⟨?_, by simp only [inK]; omega, y + 1, ⟨by omega, by omega⟩, by rw [w6]; omega, by omega⟩⟩
      rw [hcut, eS]
      show inK IntKind.i64 (sumW (splitL ps) bs l z + (barAt bs (usedAt l z)).l - sumL (splitL ps) (usedAt l z).ps y - ((splitL ps).getD ((usedAt l z).ps.getD y 0).toNat ⟨0, 0, 0, []⟩).l)
      simp only [inK]; omega
    · exact ⟨by simp only [inK]; omega, z + 1, ⟨⟨by omega, fun i hi => by
        by_cases e : i = z
        · rw [e]; exact hu'
        · exact z2 i (by omega)⟩, by omega⟩, by rw [show y = (usedAt l z).ps.length by omega]; rfl, by omega⟩
  · have e : wasteE ps bs l = 0 := by rw [wasteE_any h1 (by omega), waste_none fun i hi => z2 i (by omega)]; rfl
    have e4 : wasteV ps bs l = sumW (splitL ps) bs l l.length := by unfold wasteV; rw [e]; rfl
    rw [e, e4, show z = l.length by omega]
    exact ⟨rfl, rfl, rfl⟩
def rwaste_an (ps : List Cut) (bs : List Bar) (l : List Used) : Ann :=
  .two .auto (.two .auto (.two .auto (.two .auto (.two .auto (.two (.two .auto (.one (.loop Nat (fun σ z => [(1, σ.tm 1), (2, σ.tm 2), (8, σ.tm 8), (10, .i (sumW (splitL ps) bs l z)), (11, .i z)]) (fun σ z => []) 0 (fun σ z => z ≤ l.length ∧ ∀ i, i < z → badU bs.length (splitL ps).length (usedAt l i) = false) (fun σ z => l.length - z) (.two .auto (.two (.one (.two .auto (.two .auto (.two .auto (.one (.loop Nat (fun σ z => [(1, σ.tm 1), (2, σ.tm 2), (8, σ.tm 8), (11, σ.tm 11), (10, .i (sumW (splitL ps) bs l (AV.int (σ.tm 11)).toNat + (barAt bs (usedAt l (AV.int (σ.tm 11)).toNat)).l - sumL (splitL ps) (usedAt l (AV.int (σ.tm 11)).toNat).ps z)), (12, .i z)]) (fun σ z => []) 0 (fun σ z => z ≤ (usedAt l (AV.int (σ.tm 11)).toNat).ps.length ∧ ∀ i, i < z → badP (splitL ps).length ((usedAt l (AV.int (σ.tm 11)).toNat).ps.getD i 0) = false) (fun σ z => (usedAt l (AV.int (σ.tm 11)).toNat).ps.length - z) .auto)))))) .auto))))) .auto)))))
def Trw : Tb := ((T0.plus 9 bars_t).plus 50 cuts_t).plus 29 split_t
theorem Trw_sound : TbSound Tryz.prog Trw := TbSound.plus (TbSound.plus (TbSound.plus tb0_sound refC_T) refK_T) refS_T
theorem rwaste_vc (ps : List Cut) (bs : List Bar) (l : List Used) (hf : fitU l = true) :
 let q1 := (!bsel false (cutsE (slD (slX 4 ps)) != (0 : Int)) || bsel false (cutsE (slD (slX 4 ps)) != (0 : Int))); let q2 := (True ∧ IntKind.i64 = .i64 ∧ (0 : Int) = wasteV ps bs l); let q4 := (splitC (cutsOf (AV.xl false 4 (ps.length) fun i j => Enc.enc (List.getD ps i Enc.dflt) j))); let q3 := (slX 4 q4); let q11 := (2 = List.length [AV.v (Value.int .i64 (0 : Int)), AV.v (Value.int .i64 (2 : Int))] ∧ q2 ∧ IntKind.i64 = .i64 ∧ (2 : Int) = wasteE ps bs l); let q23 := (↑(List.length (splitC (cutsOf (slX 4 ps)))) : Int); bndL [slX 4 ps, slX 6 bs, slX 3 l] → bsplit (slOk Cut (slX 4 ps)) (bsplit q1
 (bsplit (!bsel false (cutsE (slD (slX 4 ps)) != (0 : Int)) || slOk Bar (slX 6 bs)) (bsplit q1 (bsplit (!!cutsE (slD (slX 4 ps)) != (0 : Int) || bsel false (cutsE (slD (slX 4 ps)) != (0 : Int))) (bsplit (bif cutsE (slD (slX 4 ps)) != (0 : Int) then true else barsE (slD (slX 6 bs)) != (0 : Int)) (2 = List.length [AV.v (Value.int .i64 (0 : Int)), AV.v (Value.int .i64 (1 : Int))] ∧ q2 ∧ IntKind.i64 = .i64 ∧ (1 : Int) = wasteE ps bs l) (bsplit (ltB (64 : Int) (l.length : Int)) (2 = List.length [AV.v (Value.int .i64 (0 : Int)), AV.v (Value.int .i64 (4 : Int))] ∧ q2 ∧ IntKind.i64 = .i64 ∧ (4 : Int) =
 wasteE ps bs l) (bsplit (slOk Cut (slX 4 ps)) ((∃ (z : Nat), ((z ≤ l.length ∧ ∀ (i : Nat), i < z → badU (bs.length) (List.length (splitL ps)) (usedAt l i) = false) ∧ avM (slX 6 bs) (slX 6 bs) ∧ avM (slX 3 l) (slX 3 l) ∧ avM q3 q3 ∧ (IntKind.i64 = .i64 ∧ (0 : Int) = sumW (splitL ps) bs l z) ∧ IntKind.i64 = .i64 ∧ (0 : Int) = (z : Int)) ∧ True) ∧ ∀ (z : Nat), let q6 := ((0 : Int) ≤ (z : Int) ∧ (z : Int) < (l.length : Int)); let q5 := (DB.db q6); let q10 := (List.getD l (Int.toNat (z : Int)) Enc.dflt); let q9 := (Used.bar q10); let q8 := (ltB q9 (0 : Int)); let q7 := (!bsel false q8 || bsel false
 q8); let q12 := (List.getD bs (Int.toNat q9) Enc.dflt); let q15 := (Int.toNat (AV.int (AV.v (Value.int .i64 (z : Int))))); let q14 := (usedAt l q15); let q13 := (Used.ps q14); let q16 := (IntKind.i64 = .i64 ∧ (z : Int) = (z : Int)); let q17 := (barAt bs q14); let q19 := (Used.ps q10); let q18 := (↑(List.length q19) : Int); (z ≤ l.length ∧ ∀ (i : Nat), i < z → badU (bs.length) (List.length (splitL ps)) (usedAt l i) = false) → bsplit (ltB (z : Int) (l.length : Int)) (bsplit q5 (bsplit q7 (bsplit q7 (bsplit (!bsel false q8 || DB.db q6) (bsplit q7 (bsplit q7 (bsplit q7 (bsplit q7 (bsplit q7 (bsplit
 (!!ltB q9 (0 : Int) || bsel false q8) (bsplit (bif ltB q9 (0 : Int) then true else leB (bs.length : Int) q9) q11 (bsplit q5 (bsplit (DB.db ((0 : Int) ≤ Used.bar q10 ∧ Used.bar q10 < (bs.length : Int))) (bsplit (DB.db (inK .i64 (sumW (splitL ps) bs l z + Bar.l q12))) ((∃ (z_1 : Nat), ((z_1 ≤ List.length q13 ∧ ∀ (i : Nat), i < z_1 → badP (List.length (splitL ps)) (List.getD q13 i (0 : Int)) = false) ∧ avM (slX 6 bs) (slX 6 bs) ∧ avM (slX 3 l) (slX 3 l) ∧ avM q3 q3 ∧ q16 ∧ (IntKind.i64 = .i64 ∧ sumW (splitL ps) bs l z + Bar.l q12 = sumW (splitL ps) bs l q15 + Bar.l q17 - sumL (splitL ps) q13 z_1)
 ∧ IntKind.i64 = .i64 ∧ (0 : Int) = (z_1 : Int)) ∧ True) ∧ ∀ (z_1 : Nat), let q22 := (List.getD q19 (Int.toNat (z_1 : Int)) Enc.dflt); let q21 := (ltB q22 (0 : Int)); let q20 := (!bsel false q21 || bsel false q21); let q24 := (Int.toNat q22); (z_1 ≤ List.length q13 ∧ ∀ (i : Nat), i < z_1 → badP (List.length (splitL ps)) (List.getD q13 i (0 : Int)) = false) → bsplit q5 (bsplit (ltB (z_1 : Int) q18) (bsplit q5 (bsplit (DB.db ((0 : Int) ≤ (z_1 : Int) ∧ (z_1 : Int) < q18)) (bsplit q20 (bsplit q20 (bsplit q20 (bsplit (!!ltB q22 (0 : Int) || bsel false q21) (bsplit (bif ltB q22 (0 : Int) then true
 else leB q23 q22) q11 (bsplit (DB.db ((0 : Int) ≤ List.getD q19 (Int.toNat (z_1 : Int)) Enc.dflt ∧ List.getD q19 (Int.toNat (z_1 : Int)) Enc.dflt < q23)) (bsplit (DB.db (inK .i64 (sumW (splitL ps) bs l q15 + Bar.l q17 - sumL (splitL ps) q13 z_1 - Cut.l (List.getD (splitC (cutsOf (slX 4 ps))) q24 Enc.dflt)))) (bsplit (DB.db (inK .i64 ((z_1 : Int) + (1 : Int)))) (∃ (z' : Nat), (((z' ≤ List.length q13 ∧ ∀ (i : Nat), i < z' → badP (List.length (splitL ps)) (List.getD q13 i (0 : Int)) = false) ∧ List.length q13 - z' < List.length q13 - z_1) ∧ avM (slX 6 bs) (slX 6 bs) ∧ avM (slX 3 l) (slX 3 l) ∧ avM
 q3 q3 ∧ q16 ∧ (IntKind.i64 = .i64 ∧ sumW (splitL ps) bs l q15 + Bar.l q17 - sumL (splitL ps) q13 z_1 - Cut.l (List.getD q4 q24 Enc.dflt) = sumW (splitL ps) bs l q15 + Bar.l q17 - sumL (splitL ps) q13 z') ∧ IntKind.i64 = .i64 ∧ (z_1 : Int) + (1 : Int) = (z' : Int)) ∧ True) False) False) False)) False) False) False) False) False) False) (bsplit (DB.db (inK .i64 ((z : Int) + (1 : Int)))) (∃ (z' : Nat), (((z' ≤ l.length ∧ ∀ (i : Nat), i < z' → badU (bs.length) (List.length (splitL ps)) (usedAt l i) = false) ∧ l.length - z' < l.length - z) ∧ avM (slX 6 bs) (slX 6 bs) ∧ avM (slX 3 l) (slX 3 l) ∧ avM
 q3 q3 ∧ (IntKind.i64 = .i64 ∧ sumW (splitL ps) bs l q15 + Bar.l q17 - sumL (splitL ps) q13 z_1 = sumW (splitL ps) bs l z') ∧ IntKind.i64 = .i64 ∧ (z : Int) + (1 : Int) = (z' : Int)) ∧ True) False)) False) False) False) False)) False) False) False) False) False) False) False) False) False) False) (2 = List.length [AV.v (Value.int .i64 (sumW (splitL ps) bs l z)), AV.v (Value.int .i64 (0 : Int))] ∧ (True ∧ IntKind.i64 = .i64 ∧ sumW (splitL ps) bs l z = wasteV ps bs l) ∧ IntKind.i64 = .i64 ∧ (0 : Int) = wasteE ps bs l)) False))) False) False) False) False) False := by
  dsimp only
  intro hb
  have e0 : (Enc.dflt : Int) = 0 := rfl
  have e1 : (Enc.dflt : Cut) = ⟨0, 0, 0, []⟩ := rfl
  have e2 : (Enc.dflt : Bar) = ⟨0, 0, 0, 0, 0, []⟩ := rfl
  have e3 : (Enc.dflt : Used) = ⟨0, [], []⟩ := rfl
  simp only [slX, slN, avM_refl, true_and, and_true, bsel_true, bsel_false, vc_own, bif_or, bif_and, vc_gdb, vc_db, vc_lt, vc_le, vc_ne, vc_eq, vc_tt, Int.toNat_natCast, Nat.zero_add, Nat.zero_le, Nat.sub_zero, agD_bar, agOk_bar, agD_bar', agOk_bar', agD_cut, agOk_cut, agD_cut', agOk_cut', agD_used, agOk_used, agD_used', agOk_used', int_i, Bool.or_true, cond_true, cond_false, okC, okC', deC, deC', okB, deB, okB', deB', okIn, okIn', deI, deI', okU, okU', deU, deU', okBl, deBl, okUl, deUl, deIo, cutsOf_sl, deBo, deUo, e0, e1, e2, e3]
  have hu : ∀ z, l.getD z ⟨0, [], []⟩ = usedAt l z := fun _ => rfl
  have hbr : ∀ z, bs.getD (usedAt l z).bar.toNat ⟨0, 0, 0, 0, 0, []⟩ = barAt bs (usedAt l z) := fun _ => rfl
  have hcut : cutsOf (AV.xl false 4 ps.length fun i j => Enc.enc (ps.getD i Enc.dflt) j) = ps := slD_slE ps
  simp only [hu, hbr]
  rw [Bool.or_comm]
  refine bsplit_iff.2 ⟨fun h1 => ⟨rfl, waste_bad (wasteE_one h1) (by decide)⟩, fun h1 => ?_⟩
  have h1' := h1
  rw [Bool.or_eq_false_iff, bne_eq_false_iff_eq, bne_eq_false_iff_eq] at h1'
  obtain ⟨hB, hc⟩ := h1'
  have eS : splitC ps = splitL ps := by unfold splitC; rw [hc]; rfl
  rw [eS]
  refine ⟨fun h => ⟨rfl, waste_bad (wasteE_len h1 (by omega)) (by decide)⟩, fun hl => ⟨⟨0, ⟨by omega, fun i hi => by omega⟩, rfl, rfl⟩, fun z ⟨z1, z2⟩ => ⟨fun hz => ⟨by omega, fun _ => by omega, bsplit_iff.2 ⟨fun hbad => ⟨rfl, waste_bad ?_ (by decide)⟩, fun hbad => ?_⟩⟩, fun hz => ?_⟩⟩⟩
  · rw [wasteE_any h1 (by omega), waste_any (p := badU bs.length (splitL ps).length) (z := z) (by omega) (by unfold badU; rw [show badK bs.length (usedAt l z) = true from hbad]; rfl)]; rfl
  · have hk : badK bs.length (usedAt l z) = false := hbad
    rw [Bool.or_eq_false_iff, ltB_eq, leB_eq, decide_eq_false_iff_not, decide_eq_false_iff_not] at hbad
    have b1 : 0 ≤ (usedAt l z).bar := by omega
    have b2 : (usedAt l z).bar < bs.length := by omega
    have w1 := sumW_le hc hB hf (by omega) z (by omega) z2
    have w2 := fit_at hf (by omega) (show z < l.length by omega)
    have w3 := bar_l hB b1 b2
    refine ⟨by omega, ⟨b1, b2⟩, by simp only [inK]; omega, ⟨0, ⟨by omega, fun i hi => by omega⟩, by simp [sumL], rfl⟩, fun y ⟨hy, b3⟩ => ⟨by omega, fun hyl => ⟨by omega, by omega, bsplit_iff.2 ⟨fun hbp => ⟨rfl, waste_bad ?_ (by decide)⟩, fun hbp => ?_⟩⟩, fun hyl => ?_⟩⟩
    · rw [wasteE_any h1 (by omega), waste_any (p := badU bs.length (splitL ps).length) (z := z) (by omega) (by unfold badU; rw [any_at (l := (usedAt l z).ps) (p := badP (splitL ps).length) (i := y) (by omega) hbp, Bool.or_true])]; rfl
    · have hp' : badP (splitL ps).length ((usedAt l z).ps.getD y 0) = false := hbp
      have b4 := badP_ok hp'
      have w4 := sumL_le hc b3
      have w5 := split_l hc b4.1 b4.2
      have w6 : sumL (splitL ps) (usedAt l z).ps (y + 1) = sumL (splitL ps) (usedAt l z).ps y + ((splitL ps).getD ((usedAt l z).ps.getD y 0).toNat ⟨0, 0, 0, []⟩).l := rfl
      refine ⟨b4, vc_db.2 ⟨?_, by simp only [inK]; omega, y + 1, ⟨⟨by omega, fun i hi => ?_⟩, by omega⟩, by rw [w6]; omega, by omega⟩⟩
      · rw [hcut, eS]
        show inK IntKind.i64 (sumW (splitL ps) bs l z + (barAt bs (usedAt l z)).l - sumL (splitL ps) (usedAt l z).ps y - ((splitL ps).getD ((usedAt l z).ps.getD y 0).toNat ⟨0, 0, 0, []⟩).l)
        simp only [inK]; omega
      · by_cases e : i = y
        · rw [e]; exact hp'
        · exact b3 i (by omega)
    · have hu' : badU bs.length (splitL ps).length (usedAt l z) = false := by
        unfold badU
        rw [hk, any_none fun i hi => b3 i (by omega)]; rfl
      exact ⟨by simp only [inK]; omega, z + 1, ⟨⟨by omega, fun i hi => by
        by_cases e : i = z
        · rw [e]; exact hu'
        · exact z2 i (by omega)⟩, by omega⟩, by rw [show y = (usedAt l z).ps.length by omega]; rfl, by omega⟩
  · have e : wasteE ps bs l = 0 := by rw [wasteE_any h1 (by omega), waste_none fun i hi => z2 i (by omega)]; rfl
    have e4 : wasteV ps bs l = sumW (splitL ps) bs l l.length := by unfold wasteV; rw [e]; rfl
    rw [e, e4, show z = l.length by omega]
    exact ⟨rfl, rfl, rfl⟩
def Waste_t : List AV → Option (List Cond × AV)
  | [x, y, z] => some ([.b (slOk Cut x), .b (slOk Bar y), .b (slOk Used z), .b (fitU (usedOf z))], .tup 2 (listFn [.i (wasteV (cutsOf x) (barsOf y) (usedOf z)), .i (wasteE (cutsOf x) (barsOf y) (usedOf z))]))
  | _ => none
theorem nWaste_T : PureT Tryz.prog [] 20 Waste_t := by
  intro xs ps r h hp
  unfold Waste_t at h
  split at h
  · rename_i x y z
    cases h
    have h4 : fitU (usedOf z) = true := hp _ (List.mem_cons_of_mem _ (List.mem_cons_of_mem _ (List.mem_cons_of_mem _ List.mem_cons_self)))
    exact weaken (ys := [_, _, _]) ⟨slE_sound (hp _ List.mem_cons_self), slE_sound (hp _ (List.mem_cons_of_mem _ List.mem_cons_self)), slE_sound (hp _ (List.mem_cons_of_mem _ (List.mem_cons_of_mem _ List.mem_cons_self))), trivial⟩
      (pure_of_vc mixed Tnw_sound (Eq.mp (by kernel_rfl) (waste_vc (cutsOf x) (barsOf y) (usedOf z) h4) : vcFn Tryz.prog Tnw 20 (waste_an (cutsOf x) (barsOf y) (usedOf z)) [slE (cutsOf x), slE (barsOf y), slE (usedOf z)] (.tup 2 (listFn [.i (wasteV (cutsOf x) (barsOf y) (usedOf z)), .i (wasteE (cutsOf x) (barsOf y) (usedOf z))]))))
  · cases h
theorem rWaste_T : PureT Tryz.prog [] 24 Waste_t := by
  intro xs ps r h hp
  unfold Waste_t at h
  split at h
  · rename_i x y z
    cases h
    have h4 : fitU (usedOf z) = true := hp _ (List.mem_cons_of_mem _ (List.mem_cons_of_mem _ (List.mem_cons_of_mem _ List.mem_cons_self)))
    exact weaken (ys := [_, _, _]) ⟨slE_sound (hp _ List.mem_cons_self), slE_sound (hp _ (List.mem_cons_of_mem _ List.mem_cons_self)), slE_sound (hp _ (List.mem_cons_of_mem _ (List.mem_cons_of_mem _ List.mem_cons_self))), trivial⟩
      (pure_of_vc mixed Trw_sound (Eq.mp (by kernel_rfl) (rwaste_vc (cutsOf x) (barsOf y) (usedOf z) h4) : vcFn Tryz.prog Trw 24 (rwaste_an (cutsOf x) (barsOf y) (usedOf z)) [slE (cutsOf x), slE (barsOf y), slE (usedOf z)] (.tup 2 (listFn [.i (wasteV (cutsOf x) (barsOf y) (usedOf z)), .i (wasteE (cutsOf x) (barsOf y) (usedOf z))]))))
  · cases h
end Go.Tz
