/- nest.Cost, kingpostref45.Cost. -/
import Derived.Test.YtojonobehnbeiaaGreatDoorTzCz
set_option linter.unusedSimpArgs false
namespace Go.Tz
open Go Go.Sx Go.Proofs
set_option maxRecDepth 100000
set_option maxHeartbeats 4000000
def badK (n : Nat) (u : Used) : Bool := ltB u.bar 0 || leB (n : Int) u.bar
def barsOf (x : AV) : List Bar := slD x
theorem deBo (f : Bool) (l : List Bar) : barsOf (AV.xl f 6 l.length fun i j => Enc.enc (l.getD i ⟨0, 0, 0, 0, 0, []⟩) j) = l := slD_slE l
theorem deBo' (f : Bool) (l : List Bar) : barsOf (AV.xl f 6 l.length fun i j => Enc.enc (l.getD i Enc.dflt) j) = l := slD_slE l
theorem kindP_vc (u : Used) (bs : List Bar) :
 let q1 := (!bsel false (ltB (Used.bar u) (0 : Int)) || bsel false (ltB (Used.bar u) (0 : Int))); bndL [AV.agg 3 (Enc.enc u), AV.xq 1 (fun (x : Nat) => slX 6 bs) 0] → bsplit q1 (bsplit q1 (bsplit q1 (bsplit q1 (bsplit (!!ltB (Used.bar u) (0 : Int) || bsel false (ltB (Used.bar u) (0 : Int))) ((bif ltB (Used.bar u) (0 : Int) then true else leB (bs.length : Int) (Used.bar u)) = badK (bs.length) u) False) False) False) False) False := by
  dsimp only
  intro hb
  simp only [slX, slN, avM_refl, true_and, and_true, bsel_true, bsel_false, vc_own, bif_or, bif_and, vc_gdb, vc_db, vc_lt, vc_le, vc_ne, vc_eq, vc_tt, Int.toNat_natCast, Nat.zero_add, Nat.zero_le, Nat.sub_zero, agD_bar, agOk_bar, agD_bar', agOk_bar', agD_cut, agOk_cut, agD_cut', agOk_cut', agD_used, agOk_used, agD_used', agOk_used', int_i, Bool.or_true, cond_true, cond_false]
  rfl
def kindP_t : List AV → Option (List Cond × AV)
  | [x, .xq 1 cells 0] => some ([.b (agOk Used x), .b (slOk Bar (cells 0))], .b (badK (barsOf (cells 0)).length (agD x)))
  | _ => none
theorem kindP_T : PureT Tryz.prog [] 72 kindP_t := by
  intro xs ps r h hp
  unfold kindP_t at h
  split at h
  · rename_i x cells
    cases h
    exact weaken (ys := [agE (agD (α := Used) x), .xq 1 (fun _ => slE (barsOf (cells 0))) 0]) ⟨agE_sound (hp _ List.mem_cons_self), ⟨rfl, rfl, slE_sound (hp _ (List.mem_cons_of_mem _ List.mem_cons_self))⟩, trivial⟩
      (pure_of_vc mixed tb0_sound (Eq.mp (by kernel_rfl) (kindP_vc (agD x) (barsOf (cells 0))) : vcFn Tryz.prog T0 72 .auto [agE (agD (α := Used) x), .xq 1 (fun _ => slE (barsOf (cells 0))) 0] (.b (badK (barsOf (cells 0)).length (agD x)))))
  · cases h
def fnK (bs : List Bar) : AV := .fn (.func 72) 0 (fun _ => .junk) 1 (fun _ => .xq 1 (fun _ => slE bs) 0)
theorem idxK_vc (l : List Used) (bs : List Bar) :
 let q1 := (AV.fn (Fn.func (72 : FuncId)) 0 (fun (x : Nat) => AV.junk) 1 fun (x : Nat) => AV.xq 1 (fun (x : Nat) => slX 6 bs) 0); let q2 := (IntKind.i64 = .i64 ∧ (l.length : Int) = (l.length : Int)); bndL [slX 3 l, AV.fn (Fn.func (72 : FuncId)) 0 (fun (x : Nat) => AV.junk) 1 fun (x : Nat) => AV.xq 1 (fun (x : Nat) => slX 6 bs) 0] → (∃ (z : Nat), ((z ≤ l.length ∧ idxF (badK (bs.length)) (List.drop z l) z = idxF (badK (bs.length)) l 0) ∧ avM (slX 3 l) (slX 3 l) ∧ avM q1 q1 ∧ avM (slX 3 l) (slX 3 l) ∧ q2 ∧ IntKind.i64 = .i64 ∧ (0 : Int) = (z : Int)) ∧ True) ∧ ∀ (z : Nat), let q3 := (AV.agg 3 fun (i
 : Nat) => Enc.enc (List.getD l (Int.toNat (z : Int)) Enc.dflt) (0 + i)); z ≤ l.length ∧ idxF (badK (bs.length)) (List.drop z l) z = idxF (badK (bs.length)) l 0 → bsplit (ltB (z : Int) (l.length : Int)) (bsplit (DB.db ((0 : Int) ≤ (z : Int) ∧ (z : Int) < (l.length : Int))) (bsplit (agOk Used q3) (bsplit (slOk Bar (slX 6 bs)) (bsplit (badK (List.length (barsOf (slX 6 bs))) (agD q3)) (IntKind.i64 = .i64 ∧ (z : Int) = idxF (badK (bs.length)) l 0) (bsplit (DB.db (inK .i64 ((z : Int) + (1 : Int)))) (∃ (z' : Nat), (((z' ≤ l.length ∧ idxF (badK (bs.length)) (List.drop z' l) z' = idxF (badK (bs.length))
 l 0) ∧ l.length - z' < l.length - z) ∧ avM (slX 3 l) (slX 3 l) ∧ avM q1 q1 ∧ avM (slX 3 l) (slX 3 l) ∧ q2 ∧ IntKind.i64 = .i64 ∧ (z : Int) + (1 : Int) = (z' : Int)) ∧ True) False)) False) False) False) (IntKind.i64 = .i64 ∧ (-1 : Int) = idxF (badK (bs.length)) l 0) := by
  dsimp only
  intro hb
  have hl : l.length ≤ 9223372036854775807 := hb.1.1
  have e3 : (Enc.dflt : Used) = ⟨0, [], []⟩ := rfl
  simp only [slX, slN, avM_refl, true_and, and_true, bsel_true, bsel_false, vc_own, bif_or, bif_and, vc_gdb, vc_db, vc_lt, vc_le, vc_ne, vc_eq, vc_tt, Int.toNat_natCast, Nat.zero_add, Nat.zero_le, Nat.sub_zero, agD_bar, agOk_bar, agD_bar', agOk_bar', agD_cut, agOk_cut, agD_cut', agOk_cut', agD_used, agOk_used, agD_used', agOk_used', int_i, Bool.or_true, cond_true, cond_false, okC, okC', deC, deC', okB, deB, okB', deB', okIn, okIn', deI, deI', okU, okU', deU, deU', okBl, deBl, okUl, deUl, deIo, cutsOf_sl, deBo', e3]
  refine ⟨⟨0, ⟨by omega, rfl⟩, rfl⟩, fun z ⟨h1, h2⟩ => ⟨fun hz => ⟨by omega, (bsplit_iff (t := badK bs.length (l.getD z ⟨0, [], []⟩))).2 ⟨fun hp => ?_, fun hp => ?_⟩⟩, fun hz => ?_⟩⟩
  · rw [getD_drop (d := ⟨0, [], []⟩) (by omega), idxF, hp] at h2; exact h2
  · rw [getD_drop (d := ⟨0, [], []⟩) (by omega), idxF, hp] at h2
    exact ⟨by simp only [inK]; omega, z + 1, ⟨⟨by omega, h2⟩, by omega⟩, by omega⟩
  · rw [show z = l.length by omega, List.drop_length] at h2; exact h2
theorem idxK_C (l : List Used) (bs : List Bar) : PureCall Tryz.prog [] 85 [slE l, fnK bs] (.i (idxF (badK bs.length) l 0)) :=
  pure_of_vc mixed (TbSound.plus tb0_sound kindP_T) (Eq.mp (by kernel_rfl) (idxK_vc l bs) : vcFn Tryz.prog (T0.plus 72 kindP_t) 85 (idx_an l (badK bs.length)) [slE l, fnK bs] (.i (idxF (badK bs.length) l 0)))
theorem conK_vc (l : List Used) (bs : List Bar) : bndL [AV.xl false 3 (l.length) fun i j => Enc.enc (List.getD l i Enc.dflt) j, AV.fn (Fn.func (72 : FuncId)) 0 (fun (x : Nat) => AV.junk) 1 fun (x : Nat) => AV.xq 1 (fun (x : Nat) => AV.xl false 6 (bs.length) fun i j => Enc.enc (List.getD bs i Enc.dflt) j) 0] → Wk [AV.xl false 3 (l.length) fun i j => Enc.enc (List.getD l i Enc.dflt) j, AV.fn (Fn.func (72 : FuncId)) 0 (fun (x : Nat) => AV.junk) 1 fun (x : Nat) => AV.xq 1 (fun (x : Nat) => AV.xl false 6 (bs.length) fun i j => Enc.enc (List.getD bs i Enc.dflt) j) 0] [AV.xl false 3 (l.length) fun i j
 => Enc.enc (List.getD l i Enc.dflt) j, AV.fn (Fn.func (72 : FuncId)) 0 (fun (x : Nat) => AV.junk) 1 fun (x : Nat) => AV.xq 1 (fun (x : Nat) => AV.xl false 6 (bs.length) fun i j => Enc.enc (List.getD bs i Enc.dflt) j) 0] ∧ leB (0 : Int) (idxF (badK (bs.length)) l 0) = List.any l (badK (bs.length)) := by
  intro hb
  exact ⟨Wk.refl _, idxF_any _ _ _⟩
def conK_t : List AV → Option (List Cond × AV)
  | [x, .fn (.func f) nf a nc c] =>
    match c 0 with
    | .xq 1 cells 0 => bif Nat.beq f 72 && Nat.beq nf 0 && Nat.beq nc 1 then some ([.b (slOk Used x), .b (slOk Bar (cells 0))], .b ((usedOf x).any (badK (barsOf (cells 0)).length))) else none
    | _ => none
  | _ => none
theorem conK_T : PureT Tryz.prog [] 51 conK_t := by
  intro xs ps r h hp
  unfold conK_t at h
  split at h
  · rename_i x f nf a nc c
    split at h
    · rename_i cells hc0
      cases hc : Nat.beq f 72 && Nat.beq nf 0 && Nat.beq nc 1 with
      | false => rw [hc] at h; cases h
      | true =>
        rw [hc] at h
        cases h
        simp only [Bool.and_eq_true] at hc
        obtain rfl := Nat.eq_of_beq_eq_true hc.1.1
        obtain rfl := Nat.eq_of_beq_eq_true hc.1.2
        obtain rfl := Nat.eq_of_beq_eq_true hc.2
        have h1 : slOk Used x = true := hp _ List.mem_cons_self
        have h2 : slOk Bar (cells 0) = true := hp _ (List.mem_cons_of_mem _ List.mem_cons_self)
        refine weaken (ys := [slE (usedOf x), fnK (barsOf (cells 0))]) ⟨slE_sound h1, ⟨rfl, rfl, rfl, trivial, ?_⟩, trivial⟩
          (pure_of_vc mixed (TbSound.plus tb0_sound (inst_T (idxK_C _ _))) (Eq.mp (by kernel_rfl) (conK_vc (usedOf x) (barsOf (cells 0))) : vcFn Tryz.prog (T0.plus 85 (inst [slE (usedOf x), fnK (barsOf (cells 0))] (.i (idxF (badK (barsOf (cells 0)).length) (usedOf x) 0)))) 51 .auto [slE (usedOf x), fnK (barsOf (cells 0))] (.b ((usedOf x).any (badK (barsOf (cells 0)).length)))))
        show avM (c 0) _
        rw [hc0]
        exact ⟨rfl, rfl, slE_sound h2⟩
    · cases h
  · cases h
def kindsE (bs : List Bar) (l : List Used) : Int := bif Nat.blt 64 l.length then 4 else bif l.any (badK bs.length) then 2 else 0
theorem kinds_vc (bs : List Bar) (l : List Used) : bndL [slX 6 bs, slX 3 l] → bsplit (ltB (64 : Int) (l.length : Int)) (IntKind.i64 = .i64 ∧ (4 : Int) = kindsE bs l) (bsplit (slOk Used (slX 3 l)) (bsplit (slOk Bar (slX 6 bs)) (bsplit (List.any (usedOf (slX 3 l)) (badK (List.length (barsOf (slX 6 bs))))) (IntKind.i64 = .i64 ∧ (2 : Int) = kindsE bs l) (IntKind.i64 = .i64 ∧ (0 : Int) = kindsE bs l)) False) False) := by
  intro hb
  have e2 : (Enc.dflt : Bar) = ⟨0, 0, 0, 0, 0, []⟩ := rfl
  have e3 : (Enc.dflt : Used) = ⟨0, [], []⟩ := rfl
  simp only [slX, slN, avM_refl, true_and, and_true, bsel_true, bsel_false, vc_own, bif_or, bif_and, vc_gdb, vc_db, vc_lt, vc_le, vc_ne, vc_eq, vc_tt, Int.toNat_natCast, Nat.zero_add, Nat.zero_le, Nat.sub_zero, agD_bar, agOk_bar, agD_bar', agOk_bar', agD_cut, agOk_cut, agD_cut', agOk_cut', agD_used, agOk_used, agD_used', agOk_used', int_i, Bool.or_true, cond_true, cond_false, okC, okC', deC, deC', okB, deB, okB', deB', okIn, okIn', deI, deI', okU, okU', deU, deU', okBl, deBl, okUl, deUl, deIo, cutsOf_sl, deBo, deUo, e2, e3]
  refine ⟨fun h => by unfold kindsE; rw [(blt_iff _ _).2 (by omega)]; rfl, fun h => ?_⟩
  have e : kindsE bs l = bif l.any (badK bs.length) then 2 else 0 := by
    unfold kindsE
    rw [show Nat.blt 64 l.length = false by rw [Bool.eq_false_iff]; intro h; have := (blt_iff _ _).1 h; omega]
    rfl
  rw [e]
  cases l.any (badK bs.length) <;> exact rfl
theorem kinds_C (bs : List Bar) (l : List Used) : PureCall Tryz.prog [] 35 [slE bs, slE l] (.i (kindsE bs l)) :=
  pure_of_vc mixed (TbSound.plus tb0_sound conK_T) (Eq.mp (by kernel_rfl) (kinds_vc bs l) : vcFn Tryz.prog (T0.plus 51 conK_t) 35 .auto [slE bs, slE l] (.i (kindsE bs l)))
theorem kindsE_ok {bs : List Bar} {l : List Used} (h : kindsE bs l = 0) : l.length ≤ 64 ∧ ∀ i, i < l.length → 0 ≤ (usedAt l i).bar ∧ (usedAt l i).bar < bs.length := by
  unfold kindsE at h
  cases h1 : Nat.blt 64 l.length with
  | true => rw [h1] at h; cases h
  | false =>
  rw [h1] at h
  cases h2 : l.any (badK bs.length) with
  | true => rw [h2] at h; cases h
  | false =>
  have : ¬ 64 < l.length := fun hh => by rw [(blt_iff _ _).2 hh] at h1; cases h1
  refine ⟨by omega, fun i hi => ?_⟩
  rw [List.any_eq_false] at h2
  have := h2 (usedAt l i) (by unfold usedAt; rw [List.getD_eq_getElem?_getD, List.getElem?_eq_getElem hi]; exact List.getElem_mem hi)
  unfold badK at this
  rw [Bool.not_eq_true, Bool.or_eq_false_iff, ltB_eq, leB_eq, decide_eq_false_iff_not, decide_eq_false_iff_not] at this
  omega
theorem firstE_all {l : List Bar} (h : firstE barE l = 0) : ∀ b ∈ l, barE b = 0 := by
  induction l with
  | nil => intro b hb; cases hb
  | cons a l ih =>
    unfold firstE at h
    intro b hb
    cases hc : barE a != 0 with
    | true => rw [hc] at h; rw [bne_iff_ne] at hc; exact absurd h hc
    | false =>
      rw [hc] at h
      rcases List.mem_cons.1 hb with rfl | hb
      · simpa using hc
      · exact ih h b hb
theorem barsE_at {bs : List Bar} (h : barsE bs = 0) {u : Used} (h1 : 0 ≤ u.bar) (h2 : u.bar < bs.length) : barE (barAt bs u) = 0 := by
  unfold barsE at h
  cases hc : Nat.blt 64 bs.length with
  | true => rw [hc] at h; cases h
  | false =>
    rw [hc] at h
    refine firstE_all h _ ?_
    unfold barAt
    rw [List.getD_eq_getElem?_getD, List.getElem?_eq_getElem (by omega)]
    exact List.getElem_mem _
def sumC (bs : List Bar) (l : List Used) : Nat → Int
  | 0 => 0
  | z + 1 => sumC bs l z + (barAt bs (usedAt l z)).c
def costE (bs : List Bar) (l : List Used) : Int := bif barsE bs != 0 then 1 else kindsE bs l
def costV (bs : List Bar) (l : List Used) : Int := bif costE bs l == 0 then sumC bs l l.length else 0
theorem sumC_le {bs : List Bar} {l : List Used} (hB : barsE bs = 0) (hk : kindsE bs l = 0) : ∀ z, z ≤ l.length → 0 ≤ sumC bs l z ∧ sumC bs l z ≤ 1073741824 * z
  | 0, _ => by simp [sumC]
  | z + 1, hz => by
    have h1 := sumC_le hB hk z (by omega)
    have h2 := (kindsE_ok hk).2 z (by omega)
    obtain ⟨_, _, _, _, _, _, _, _, h3, h4⟩ := barE_gaps (barsE_at hB h2.1 h2.2)
    show 0 ≤ sumC bs l z + _ ∧ sumC bs l z + _ ≤ _
    omega
def cost_an (bs : List Bar) (l : List Used) : Ann :=
  .two .auto (.two .auto (.two .auto (.two .auto (.two (.two .auto (.one (.loop Nat (fun σ z => [(0, σ.tm 0), (19, σ.tm 19), (20, σ.tm 20), (7, .i (sumC bs l z)), (21, .i z)]) (fun σ z => []) 0 (fun σ z => z ≤ l.length) (fun σ z => l.length - z) .auto))) .auto))))
theorem cost_vc (bs : List Bar) (l : List Used) : bndL [slX 6 bs, slX 3 l] → bsplit (slOk Bar (slX 6 bs)) (bsplit (barsE (slD (slX 6 bs)) != (0 : Int)) (2 = List.length [AV.v (Value.int .i64 (0 : Int)), AV.v (Value.int .i64 (1 : Int))] ∧ (True ∧ IntKind.i64 = .i64 ∧ (0 : Int) = costV bs l) ∧ IntKind.i64 = .i64 ∧ (1 : Int) = costE bs l) (Wk [slX 6 bs, slX 3 l] [slX 6 bs, slX 3 l] ∧ bsplit (kindsE bs l != (0 : Int)) (2 = List.length [AV.v (Value.int .i64 (0 : Int)), AV.v (Value.int .i64 (kindsE bs l))] ∧ (True ∧ IntKind.i64 = .i64 ∧ (0 : Int) = costV bs l) ∧ IntKind.i64 = .i64 ∧ kindsE bs l =
 costE bs l) ((∃ (z : Nat), (z ≤ l.length ∧ avM (slX 6 bs) (slX 6 bs) ∧ avM (slX 3 l) (slX 3 l) ∧ (IntKind.i64 = .i64 ∧ (l.length : Int) = (l.length : Int)) ∧ (IntKind.i64 = .i64 ∧ (0 : Int) = sumC bs l z) ∧ IntKind.i64 = .i64 ∧ (0 : Int) = (z : Int)) ∧ True) ∧ ∀ (z : Nat), z ≤ l.length → bsplit (ltB (z : Int) (l.length : Int)) (bsplit (DB.db ((0 : Int) ≤ (z : Int) ∧ (z : Int) < (l.length : Int))) (bsplit (DB.db ((0 : Int) ≤ Used.bar (List.getD l (Int.toNat (z : Int)) Enc.dflt) ∧ Used.bar (List.getD l (Int.toNat (z : Int)) Enc.dflt) < (bs.length : Int))) (bsplit (DB.db (inK .i64 (sumC bs l z +
 Bar.c (List.getD bs (Int.toNat (Used.bar (List.getD l (Int.toNat (z : Int)) Enc.dflt))) Enc.dflt)))) (bsplit (DB.db (inK .i64 ((z : Int) + (1 : Int)))) (∃ (z' : Nat), ((z' ≤ l.length ∧ l.length - z' < l.length - z) ∧ avM (slX 6 bs) (slX 6 bs) ∧ avM (slX 3 l) (slX 3 l) ∧ (IntKind.i64 = .i64 ∧ (l.length : Int) = (l.length : Int)) ∧ (IntKind.i64 = .i64 ∧ sumC bs l z + Bar.c (List.getD bs (Int.toNat (Used.bar (List.getD l (Int.toNat (z : Int)) Enc.dflt))) Enc.dflt) = sumC bs l z') ∧ IntKind.i64 = .i64 ∧ (z : Int) + (1 : Int) = (z' : Int)) ∧ True) False) False) False) False) (2 = List.length [AV.v
 (Value.int .i64 (sumC bs l z)), AV.v (Value.int .i64 (0 : Int))] ∧ (True ∧ IntKind.i64 = .i64 ∧ sumC bs l z = costV bs l) ∧ IntKind.i64 = .i64 ∧ (0 : Int) = costE bs l)))) False := by
  intro hb
  have e2 : (Enc.dflt : Bar) = ⟨0, 0, 0, 0, 0, []⟩ := rfl
  have e3 : (Enc.dflt : Used) = ⟨0, [], []⟩ := rfl
  simp only [slX, slN, avM_refl, true_and, and_true, bsel_true, bsel_false, vc_own, bif_or, bif_and, vc_gdb, vc_db, vc_lt, vc_le, vc_ne, vc_eq, vc_tt, Int.toNat_natCast, Nat.zero_add, Nat.zero_le, Nat.sub_zero, agD_bar, agOk_bar, agD_bar', agOk_bar', agD_cut, agOk_cut, agD_cut', agOk_cut', agD_used, agOk_used, agD_used', agOk_used', int_i, Bool.or_true, cond_true, cond_false, okC, okC', deC, deC', okB, deB, okB', deB', okIn, okIn', deI, deI', okU, okU', deU, deU', okBl, deBl, okUl, deUl, deIo, cutsOf_sl, e2, e3]
  refine ⟨fun h => ?_, fun hB => ⟨Wk.refl _, fun h => ?_, fun hk => ?_⟩⟩
  · have e : costE bs l = 1 := by unfold costE; rw [bne_iff_ne.2 h]; rfl
    unfold costV
    rw [e]
    exact ⟨rfl, rfl, rfl⟩
  · have e : costE bs l = kindsE bs l := by unfold costE; rw [hB]; rfl
    unfold costV
    rw [e, beq_eq_false_iff_ne.2 h]
    exact ⟨rfl, rfl, rfl⟩
  have e : costE bs l = 0 := by unfold costE; rw [hB, hk]; rfl
  have e4 : costV bs l = sumC bs l l.length := by unfold costV; rw [e]; rfl
  rw [e, e4]
  refine ⟨⟨0, by omega, rfl, rfl⟩, fun z hz => ⟨fun hlt => ?_, fun hge => ?_⟩⟩
  · have h2 := (kindsE_ok hk).2 z (by omega)
    have h3 := sumC_le hB hk (z + 1) (by omega)
    have h4 := (kindsE_ok hk).1
    have h5 : sumC bs l (z + 1) = sumC bs l z + (bs.getD (l.getD z ⟨0, [], []⟩).bar.toNat ⟨0, 0, 0, 0, 0, []⟩).c := rfl
    rw [← h5]
    exact ⟨by omega, h2, by simp only [inK]; omega, by simp only [inK]; omega, z + 1, by omega, rfl, by omega⟩
  · rw [show z = l.length by omega]
    exact ⟨rfl, rfl, rfl⟩
def rcost_an (bs : List Bar) (l : List Used) : Ann :=
  .two .auto (.two .auto (.two (.two .auto (.one (.loop Nat (fun σ z => [(0, σ.tm 0), (1, σ.tm 1), (5, .i (sumC bs l z)), (6, .i z)]) (fun σ z => []) 0 (fun σ z => z ≤ l.length) (fun σ z => l.length - z) .auto))) .auto))
theorem rcost_vc (bs : List Bar) (l : List Used) (hB : barsE bs = 0) (hk : kindsE bs l = 0) : bndL [slX 6 bs, slX 3 l] → (∃ (z : Nat), (z ≤ l.length ∧ avM (slX 6 bs) (slX 6 bs) ∧ avM (slX 3 l) (slX 3 l) ∧ (IntKind.i64 = .i64 ∧ (0 : Int) = sumC bs l z) ∧ IntKind.i64 = .i64 ∧ (0 : Int) = (z : Int)) ∧ True) ∧ ∀ (z : Nat), z ≤ l.length → bsplit (ltB (z : Int) (l.length : Int)) (bsplit (DB.db ((0 : Int) ≤ (z : Int) ∧ (z : Int) < (l.length : Int))) (bsplit (DB.db ((0 : Int) ≤ Used.bar (List.getD l (Int.toNat (z : Int)) Enc.dflt) ∧ Used.bar (List.getD l (Int.toNat (z : Int)) Enc.dflt) < (bs.length :
 Int))) (bsplit (DB.db (inK .i64 (sumC bs l z + Bar.c (List.getD bs (Int.toNat (Used.bar (List.getD l (Int.toNat (z : Int)) Enc.dflt))) Enc.dflt)))) (bsplit (DB.db (inK .i64 ((z : Int) + (1 : Int)))) (∃ (z' : Nat), ((z' ≤ l.length ∧ l.length - z' < l.length - z) ∧ avM (slX 6 bs) (slX 6 bs) ∧ avM (slX 3 l) (slX 3 l) ∧ (IntKind.i64 = .i64 ∧ sumC bs l z + Bar.c (List.getD bs (Int.toNat (Used.bar (List.getD l (Int.toNat (z : Int)) Enc.dflt))) Enc.dflt) = sumC bs l z') ∧ IntKind.i64 = .i64 ∧ (z : Int) + (1 : Int) = (z' : Int)) ∧ True) False) False) False) False) (IntKind.i64 = .i64 ∧ sumC bs l z =
 sumC bs l (l.length)) := by
  intro hb
  have e2 : (Enc.dflt : Bar) = ⟨0, 0, 0, 0, 0, []⟩ := rfl
  have e3 : (Enc.dflt : Used) = ⟨0, [], []⟩ := rfl
  simp only [slX, slN, avM_refl, true_and, and_true, bsel_true, bsel_false, vc_own, bif_or, bif_and, vc_gdb, vc_db, vc_lt, vc_le, vc_ne, vc_eq, vc_tt, Int.toNat_natCast, Nat.zero_add, Nat.zero_le, Nat.sub_zero, agD_bar, agOk_bar, agD_bar', agOk_bar', agD_cut, agOk_cut, agD_cut', agOk_cut', agD_used, agOk_used, agD_used', agOk_used', int_i, Bool.or_true, cond_true, cond_false, okC, okC', deC, deC', okB, deB, okB', deB', okIn, okIn', deI, deI', okU, okU', deU, deU', okBl, deBl, okUl, deUl, deIo, cutsOf_sl, e2, e3]
  refine ⟨⟨0, by omega, rfl, rfl⟩, fun z hz => ⟨fun hlt => ?_, fun hge => ?_⟩⟩
  · have h2 := (kindsE_ok hk).2 z (by omega)
    have h3 := sumC_le hB hk (z + 1) (by omega)
    have h4 := (kindsE_ok hk).1
    have h5 : sumC bs l (z + 1) = sumC bs l z + (bs.getD (l.getD z ⟨0, [], []⟩).bar.toNat ⟨0, 0, 0, 0, 0, []⟩).c := rfl
    rw [← h5]
    exact ⟨by omega, h2, by simp only [inK]; omega, by simp only [inK]; omega, z + 1, by omega, rfl, by omega⟩
  · rw [show z = l.length by omega]
def cost_t : List AV → Option (List Cond × AV)
  | [x, y] => some ([.b (slOk Bar x), .b (slOk Used y), .b (barsE (barsOf x) == 0 && kindsE (barsOf x) (usedOf y) == 0)], .i (sumC (barsOf x) (usedOf y) (usedOf y).length))
  | _ => none
theorem rcost_T : PureT Tryz.prog [] 49 cost_t := by
  intro xs ps r h hp
  unfold cost_t at h
  split at h
  · rename_i x y
    cases h
    have h3 : (barsE (barsOf x) == 0 && kindsE (barsOf x) (usedOf y) == 0) = true := hp _ (List.mem_cons_of_mem _ (List.mem_cons_of_mem _ List.mem_cons_self))
    rw [Bool.and_eq_true, beq_iff_eq, beq_iff_eq] at h3
    exact weaken (ys := [_, _]) ⟨slE_sound (hp _ List.mem_cons_self), slE_sound (hp _ (List.mem_cons_of_mem _ List.mem_cons_self)), trivial⟩
      (pure_of_vc mixed tb0_sound (Eq.mp (by kernel_rfl) (rcost_vc (barsOf x) (usedOf y) h3.1 h3.2) : vcFn Tryz.prog T0 49 (rcost_an (barsOf x) (usedOf y)) [slE (barsOf x), slE (usedOf y)] (.i (sumC (barsOf x) (usedOf y) (usedOf y).length))))
  · cases h
def rCost_an (bs : List Bar) (l : List Used) : Ann :=
  .two .auto (.two .auto (.two .auto (.two (.two .auto (.one (.loop Nat (fun σ z => [(0, σ.tm 0), (1, σ.tm 1), (6, .i z)]) (fun σ z => []) 0 (fun σ z => z ≤ l.length ∧ ∀ i, i < z → badK bs.length (usedAt l i) = false) (fun σ z => l.length - z) .auto))) .auto)))
theorem rCost_vc (bs : List Bar) (l : List Used) :
 let q1 := (True ∧ IntKind.i64 = .i64 ∧ (0 : Int) = costV bs l); bndL [slX 6 bs, slX 3 l] → bsplit (slOk Bar (slX 6 bs)) (bsplit (barsE (slD (slX 6 bs)) != (0 : Int)) (2 = List.length [AV.v (Value.int .i64 (0 : Int)), AV.v (Value.int .i64 (1 : Int))] ∧ q1 ∧ IntKind.i64 = .i64 ∧ (1 : Int) = costE bs l) (bsplit (ltB (64 : Int) (l.length : Int)) (2 = List.length [AV.v (Value.int .i64 (0 : Int)), AV.v (Value.int .i64 (4 : Int))] ∧ q1 ∧ IntKind.i64 = .i64 ∧ (4 : Int) = costE bs l) ((∃ (z : Nat), ((z ≤ l.length ∧ ∀ (i : Nat), i < z → badK (bs.length) (usedAt l i) = false) ∧ avM (slX 6 bs) (slX 6 bs) ∧
 avM (slX 3 l) (slX 3 l) ∧ IntKind.i64 = .i64 ∧ (0 : Int) = (z : Int)) ∧ True) ∧ ∀ (z : Nat), let q2 := ((0 : Int) ≤ (z : Int) ∧ (z : Int) < (l.length : Int)); let q5 := (Used.bar (List.getD l (Int.toNat (z : Int)) Enc.dflt)); let q4 := (ltB q5 (0 : Int)); let q3 := (!bsel false q4 || bsel false q4); (z ≤ l.length ∧ ∀ (i : Nat), i < z → badK (bs.length) (usedAt l i) = false) → bsplit (ltB (z : Int) (l.length : Int)) (bsplit (DB.db q2) (bsplit q3 (bsplit q3 (bsplit (!bsel false q4 || DB.db q2) (bsplit q3 (bsplit q3 (bsplit q3 (bsplit q3 (bsplit q3 (bsplit (!!ltB q5 (0 : Int) || bsel false q4)
 (bsplit (bif ltB q5 (0 : Int) then true else leB (bs.length : Int) q5) (2 = List.length [AV.v (Value.int .i64 (0 : Int)), AV.v (Value.int .i64 (2 : Int))] ∧ q1 ∧ IntKind.i64 = .i64 ∧ (2 : Int) = costE bs l) (bsplit (DB.db (inK .i64 ((z : Int) + (1 : Int)))) (∃ (z' : Nat), (((z' ≤ l.length ∧ ∀ (i : Nat), i < z' → badK (bs.length) (usedAt l i) = false) ∧ l.length - z' < l.length - z) ∧ avM (slX 6 bs) (slX 6 bs) ∧ avM (slX 3 l) (slX 3 l) ∧ IntKind.i64 = .i64 ∧ (z : Int) + (1 : Int) = (z' : Int)) ∧ True) False)) False) False) False) False) False) False) False) False) False) False) (bsplit (slOk Bar
 (slX 6 bs)) (bsplit (slOk Used (slX 3 l)) (bsplit (barsE (barsOf (slX 6 bs)) == (0 : Int) && kindsE (barsOf (slX 6 bs)) (usedOf (slX 3 l)) == (0 : Int)) (2 = List.length [AV.v (Value.int .i64 (sumC (barsOf (slX 6 bs)) (usedOf (slX 3 l)) (List.length (usedOf (slX 3 l))))), AV.v (Value.int .i64 (0 : Int))] ∧ (True ∧ IntKind.i64 = .i64 ∧ sumC (barsOf (slX 6 bs)) (usedOf (slX 3 l)) (List.length (usedOf (slX 3 l))) = costV bs l) ∧ IntKind.i64 = .i64 ∧ (0 : Int) = costE bs l) False) False) False)))) False := by
  dsimp only
  intro hb
  have e2 : (Enc.dflt : Bar) = ⟨0, 0, 0, 0, 0, []⟩ := rfl
  have e3 : (Enc.dflt : Used) = ⟨0, [], []⟩ := rfl
  simp only [slX, slN, avM_refl, true_and, and_true, bsel_true, bsel_false, vc_own, bif_or, bif_and, vc_gdb, vc_db, vc_lt, vc_le, vc_ne, vc_eq, vc_tt, Int.toNat_natCast, Nat.zero_add, Nat.zero_le, Nat.sub_zero, agD_bar, agOk_bar, agD_bar', agOk_bar', agD_cut, agOk_cut, agD_cut', agOk_cut', agD_used, agOk_used, agD_used', agOk_used', int_i, Bool.or_true, cond_true, cond_false, okC, okC', deC, deC', okB, deB, okB', deB', okIn, okIn', deI, deI', okU, okU', deU, deU', okBl, deBl, okUl, deUl, deIo, cutsOf_sl, deBo, deUo, e2, e3]
  have hu : ∀ z, l.getD z ⟨0, [], []⟩ = usedAt l z := fun _ => rfl
  simp only [hu]
  refine ⟨fun h => ?_, fun hB => ⟨fun h => ?_, fun hl => ⟨⟨0, ⟨by omega, fun i hi => by omega⟩, rfl⟩, fun z ⟨z1, z2⟩ => ⟨fun hlt => ⟨by omega, fun _ => by omega, bsplit_iff.2 ⟨fun hbad => ?_, fun hbad => ⟨by simp only [inK]; omega, z + 1, ⟨⟨by omega, fun i hi => ?_⟩, by omega⟩, by omega⟩⟩⟩, fun hge => ?_⟩⟩⟩⟩
  · have e : costE bs l = 1 := by unfold costE; rw [bne_iff_ne.2 h]; rfl
    unfold costV
    rw [e]
    exact ⟨rfl, rfl, rfl⟩
  · have e : costE bs l = 4 := by unfold costE kindsE; rw [hB, (blt_iff _ _).2 (by omega)]; rfl
    unfold costV
    rw [e]
    exact ⟨rfl, rfl, rfl⟩
  · have hany : l.any (badK bs.length) = true := List.any_eq_true.2 ⟨usedAt l z, by unfold usedAt; rw [List.getD_eq_getElem?_getD, List.getElem?_eq_getElem (by omega)]; exact List.getElem_mem _, hbad⟩
    have e : costE bs l = 2 := by
      unfold costE kindsE
      rw [hB, hany, show Nat.blt 64 l.length = false by rw [Bool.eq_false_iff]; intro h; have := (blt_iff _ _).1 h; omega]
      rfl
    unfold costV
    rw [e]
    exact ⟨rfl, rfl, rfl⟩
  · by_cases e : i = z
    · rw [e]; exact hbad
    · exact z2 i (by omega)
  · have hany : l.any (badK bs.length) = false := by
      rw [List.any_eq_false]
      intro x hx
      obtain ⟨i, hi, rfl⟩ := List.getElem_of_mem hx
      have := z2 i (by omega)
      unfold usedAt at this
      rw [List.getD_eq_getElem?_getD, List.getElem?_eq_getElem hi, Option.getD_some] at this
      rw [this]; decide
    have hk : kindsE bs l = 0 := by
      unfold kindsE
      rw [hany, show Nat.blt 64 l.length = false by rw [Bool.eq_false_iff]; intro h; have := (blt_iff _ _).1 h; omega]
      rfl
    have e : costE bs l = 0 := by unfold costE; rw [hB, hk]; rfl
    have e4 : costV bs l = sumC bs l l.length := by unfold costV; rw [e]; rfl
    rw [e, e4, hB, hk]
    exact ⟨rfl, rfl, rfl⟩
def Cost_t : List AV → Option (List Cond × AV)
  | [x, y] => some ([.b (slOk Bar x), .b (slOk Used y)], .tup 2 (listFn [.i (costV (barsOf x) (usedOf y)), .i (costE (barsOf x) (usedOf y))]))
  | _ => none
theorem nCost_T : PureT Tryz.prog [] 12 Cost_t := by
  intro xs ps r h hp
  unfold Cost_t at h
  split at h
  · rename_i x y
    cases h
    exact weaken (ys := [_, _]) ⟨slE_sound (hp _ List.mem_cons_self), slE_sound (hp _ (List.mem_cons_of_mem _ List.mem_cons_self)), trivial⟩
      (pure_of_vc mixed (TbSound.plus (TbSound.plus tb0_sound stockC_T) (inst_T (kinds_C (barsOf x) (usedOf y)))) (Eq.mp (by kernel_rfl) (cost_vc (barsOf x) (usedOf y)) : vcFn Tryz.prog ((T0.plus 34 bars_t).plus 35 (inst [slE (barsOf x), slE (usedOf y)] (.i (kindsE (barsOf x) (usedOf y))))) 12 (cost_an (barsOf x) (usedOf y)) [slE (barsOf x), slE (usedOf y)] (.tup 2 (listFn [.i (costV (barsOf x) (usedOf y)), .i (costE (barsOf x) (usedOf y))]))))
  · cases h
theorem rCost_T : PureT Tryz.prog [] 23 Cost_t := by
  intro xs ps r h hp
  unfold Cost_t at h
  split at h
  · rename_i x y
    cases h
    exact weaken (ys := [_, _]) ⟨slE_sound (hp _ List.mem_cons_self), slE_sound (hp _ (List.mem_cons_of_mem _ List.mem_cons_self)), trivial⟩
      (pure_of_vc mixed (TbSound.plus (TbSound.plus tb0_sound refC_T) rcost_T) (Eq.mp (by kernel_rfl) (rCost_vc (barsOf x) (usedOf y)) : vcFn Tryz.prog ((T0.plus 9 bars_t).plus 49 cost_t) 23 (rCost_an (barsOf x) (usedOf y)) [slE (barsOf x), slE (usedOf y)] (.tup 2 (listFn [.i (costV (barsOf x) (usedOf y)), .i (costE (barsOf x) (usedOf y))]))))
  · cases h
end Go.Tz
