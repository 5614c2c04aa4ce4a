/- cutlist.Check: the error of a list of pieces. -/
import Derived.Test.YtojonobehnbeiaaGreatDoorTzM
set_option linter.unusedSimpArgs false
namespace Go.Tz
open Go Go.Sx Go.Proofs
set_option maxRecDepth 100000
set_option maxHeartbeats 2000000
theorem pOutF_vc (n : Int) : bndL [AV.v (Value.int .i64 n)] → bsplit (!bsel false (ltB n (0 : Int)) || bsel false (ltB n (0 : Int))) (bsplit (!!ltB n (0 : Int) || bsel false (ltB n (0 : Int))) ((bif ltB n (0 : Int) then true else leB (512 : Int) n) = pOut n) False) False := by
  intro _
  simp only [slX, slN, avM_refl, true_and, and_true, bsel_true, bsel_false, vc_own, bif_or, bif_and, vc_gdb, vc_db, vc_lt, vc_le, vc_ne, vc_eq, vc_tt, Int.toNat_natCast, Nat.zero_add, Nat.zero_le, Nat.sub_zero, agD_bar, agOk_bar, agD_bar', agOk_bar', agD_cut, agOk_cut, agD_cut', agOk_cut', agD_used, agOk_used, agD_used', agOk_used', int_i, Bool.or_true, cond_true, cond_false]
  rfl
def pOut_t : List AV → Option (List Cond × AV)
  | [.v (.int .i64 n)] => some ([], .b (pOut n))
  | _ => none
theorem pOut_T : PureT Tryz.prog [] 74 pOut_t := by
  intro xs ps r h _
  unfold pOut_t at h
  split at h
  · rename_i n
    cases h
    exact pure_of_vc mixed tb0_sound (Eq.mp (by kernel_rfl) (pOutF_vc n) : vcFn Tryz.prog T0 74 .auto [.i n] (.b (pOut n)))
  · cases h
theorem idxO_vc (l : List Int) :
 let q1 := (AV.xl false 1 (l.length) fun i j => AV.v (Value.int .i64 (List.getD l i Enc.dflt))); let q2 := (AV.fn (Fn.func (74 : FuncId)) 0 (fun (x : Nat) => AV.junk) 0 fun (x : Nat) => AV.junk); let q3 := (IntKind.i64 = .i64 ∧ (l.length : Int) = (l.length : Int)); bndL [AV.xl false 1 (l.length) fun i j => AV.v (Value.int .i64 (List.getD l i Enc.dflt)), AV.fn (Fn.func (74 : FuncId)) 0 (fun (x : Nat) => AV.junk) 0 fun (x : Nat) => AV.junk] → (∃ (z : Nat), ((z ≤ l.length ∧ idxF pOut (List.drop z l) z = idxF pOut l 0) ∧ avM q1 q1 ∧ avM q2 q2 ∧ avM q1 q1 ∧ q3 ∧ IntKind.i64 = .i64 ∧ (0 : Int) = (z :
 Int)) ∧ True) ∧ ∀ (z : Nat), z ≤ l.length ∧ idxF pOut (List.drop z l) z = idxF pOut l 0 → bsplit (ltB (z : Int) (l.length : Int)) (bsplit (DB.db ((0 : Int) ≤ (z : Int) ∧ (z : Int) < (l.length : Int))) (bsplit (pOut (List.getD l (Int.toNat (z : Int)) Enc.dflt)) (IntKind.i64 = .i64 ∧ (z : Int) = idxF pOut l 0) (bsplit (DB.db (inK .i64 ((z : Int) + (1 : Int)))) (∃ (z' : Nat), (((z' ≤ l.length ∧ idxF pOut (List.drop z' l) z' = idxF pOut l 0) ∧ l.length - z' < l.length - z) ∧ avM q1 q1 ∧ avM q2 q2 ∧ avM q1 q1 ∧ q3 ∧ IntKind.i64 = .i64 ∧ (z : Int) + (1 : Int) = (z' : Int)) ∧ True) False)) False)
 (IntKind.i64 = .i64 ∧ (-1 : Int) = idxF pOut l 0) := by
  dsimp only
  intro hb
  have hl : l.length ≤ 9223372036854775807 := hb.1.1
  simp only [avM_refl, true_and, and_true, Int.toNat_natCast, vc_lt]
  refine ⟨⟨0, by simp⟩, fun z ⟨h1, h2⟩ => ⟨fun hz => vc_db.2 ⟨by omega, (bsplit_iff (t := pOut (l.getD z Enc.dflt))).2 ⟨fun hp => ?_, fun hp => ?_⟩⟩, fun hz => ?_⟩⟩
  · rw [getD_drop (d := Enc.dflt) (by omega), idxF, hp] at h2; exact h2
  · rw [getD_drop (d := Enc.dflt) (by omega), idxF, hp] at h2
    refine vc_db.2 ⟨by simp only [inK]; omega, z + 1, ⟨⟨by omega, h2⟩, by omega⟩, by omega⟩
  · rw [show z = l.length by omega, List.drop_length] at h2; exact h2
theorem idxO_C (l : List Int) : PureCall Tryz.prog [] 82 [slE l, fn0 74] (.i (idxF pOut l 0)) :=
  pure_of_vc mixed (TbSound.plus tb0_sound pOut_T) (Eq.mp (by kernel_rfl) (idxO_vc l) : vcFn Tryz.prog (T0.plus 74 pOut_t) 82 (idx_an l pOut) [slE l, fn0 74] (.i (idxF pOut l 0)))
theorem conO_vc (l : List Int) : bndL [AV.xl false 1 (l.length) fun i j => AV.v (Value.int .i64 (List.getD l i Enc.dflt)), AV.fn (Fn.func (74 : FuncId)) 0 (fun (x : Nat) => AV.junk) 0 fun (x : Nat) => AV.junk] → Wk [AV.xl false 1 (l.length) fun i j => AV.v (Value.int .i64 (List.getD l i Enc.dflt)), AV.fn (Fn.func (74 : FuncId)) 0 (fun (x : Nat) => AV.junk) 0 fun (x : Nat) => AV.junk] [AV.xl false 1 (l.length) fun i j => AV.v (Value.int .i64 (List.getD l i Enc.dflt)), AV.fn (Fn.func (74 : FuncId)) 0 (fun (x : Nat) => AV.junk) 0 fun (x : Nat) => AV.junk] ∧ leB (0 : Int) (idxF pOut l 0) = List.any
 l pOut := by
  intro hb
  exact ⟨Wk.refl _, idxF_any _ _ _⟩
theorem conO_C (l : List Int) : PureCall Tryz.prog [] 45 [slE l, fn0 74] (.b (l.any pOut)) :=
  pure_of_vc mixed (TbSound.plus tb0_sound (inst_T (idxO_C l))) (Eq.mp (by kernel_rfl) (conO_vc l) : vcFn Tryz.prog (T0.plus 82 (inst [slE l, fn0 74] (.i (idxF pOut l 0)))) 45 .auto [slE l, fn0 74] (.b (l.any pOut)))
def conO_t : List AV → Option (List Cond × AV)
  | [x, .fn (.func f) nf a nc b] => bif Nat.beq f 74 && Nat.beq nf 0 && Nat.beq nc 0 then some ([.b (slOk Int x)], .b ((slD (α := Int) x).any pOut)) else none
  | _ => none
theorem conO_T : PureT Tryz.prog [] 45 conO_t := by
  intro xs ps r h hp
  unfold conO_t at h
  split at h
  · rename_i x f nf a nc b
    cases hc : Nat.beq f 74 && Nat.beq nf 0 && Nat.beq nc 0 with
    | false => rw [hc] at h; cases h
    | true =>
      rw [hc] at h
      cases h
      simp only [Bool.and_eq_true] at hc
      obtain rfl := Nat.eq_of_beq_eq_true hc.1.1
      obtain rfl := Nat.eq_of_beq_eq_true hc.1.2
      obtain rfl := Nat.eq_of_beq_eq_true hc.2
      refine weaken (ys := [_, _]) ⟨slE_sound (hp _ List.mem_cons_self), ?_, trivial⟩ (conO_C (slD x))
      exact ⟨rfl, rfl, rfl, trivial, trivial⟩
  · cases h
def Tck2 : Tb := (((T0.plus 73 outside_t).plus 75 asc_t).plus 38 orderC_t).plus 45 conO_t
theorem Tck2_sound : TbSound Tryz.prog Tck2 := TbSound.plus (TbSound.plus (TbSound.plus (TbSound.plus tb0_sound outside_T) asc_T) orderC_T) conO_T
theorem allI_sl (l : List Int) : allI l.length (fun i j => AV.v (Value.int IntKind.i64 (l.getD i 0))) = true := allN_of fun i _ => rfl
theorem asc_lt {l : List Int} (ha : ascL l = true) {i j : Nat} (hij : i < j) (hj : j < l.length) : l.getD i 0 < l.getD j 0 := by
  induction j with
  | zero => omega
  | succ j ih =>
    have h2 := of_decide_eq_true (allN_true ha j (by omega))
    by_cases e : i = j
    · rw [e]; exact h2
    · have := ih (by omega) (by omega)
      omega
theorem memB_asc {l : List Int} (ha : ascL l = true) (h0 : ∀ i, i < l.length → 0 ≤ l.getD i 0) {y : Nat} (hy : y < l.length) : memB (l.take y) (l.getD y 0).toNat = false := by
  unfold memB
  rw [List.any_eq_false]
  intro x hx
  obtain ⟨i, hi, rfl⟩ := List.getElem_of_mem hx
  have hi' : i < y := by simp at hi; omega
  have h1 := asc_lt ha hi' hy
  have h2 := h0 y hy
  have e : (l.take y)[i] = l.getD i 0 := by
    rw [List.getElem_take, List.getD_eq_getElem?_getD, List.getElem?_eq_getElem (by omega)]; rfl
  rw [e, beq_iff_eq]
  omega
theorem pieceE_rng {c : Cut} (h : (ltB c.w 1 || ltB 1000 c.w || ltB c.d 1 || ltB 1000 c.d || ltB c.l 1 || ltB 1048576 c.l) = true) : pieceE c = 2 := by unfold pieceE; rw [h]; rfl
theorem pieceE_empty {c : Cut} (h : (ltB c.w 1 || ltB 1000 c.w || ltB c.d 1 || ltB 1000 c.d || ltB c.l 1 || ltB 1048576 c.l) = false) (h2 : c.ms.length = 0) : pieceE c = 5 := by unfold pieceE; rw [h, h2]; rfl
theorem pieceE_out {c : Cut} (h : (ltB c.w 1 || ltB 1000 c.w || ltB c.d 1 || ltB 1000 c.d || ltB c.l 1 || ltB 1048576 c.l) = false) (h2 : c.ms.length ≠ 0) (h3 : c.ms.any pOut = true) : pieceE c = 2 := by
  unfold pieceE
  rw [h, show Nat.beq c.ms.length 0 = false from (beq_cases c.ms.length 0).elim (fun h => absurd h.2 (by omega)) fun h => h.1, h3]; rfl
theorem pieceE_asc {c : Cut} (h : (ltB c.w 1 || ltB 1000 c.w || ltB c.d 1 || ltB 1000 c.d || ltB c.l 1 || ltB 1048576 c.l) = false) (h2 : c.ms.length ≠ 0) (h3 : c.ms.any pOut = false) : pieceE c = bif ascL c.ms then 0 else 10 := by
  unfold pieceE
  rw [h, show Nat.beq c.ms.length 0 = false from (beq_cases c.ms.length 0).elim (fun h => absurd h.2 (by omega)) fun h => h.1, h3]; rfl
theorem or_six (a b c d e f : Bool) : (a || b || (c || d) || (e || f)) = (a || b || c || d || e || f) := by simp only [Bool.or_assoc]
def seenC (s : List Int) : OB := .arr 110 1 512 fun i _ => .b (memB s i)
def cutK_an (l : List Cut) : Ann :=
  .two .auto (.two .auto (.two .auto (.two (.two .auto (.one (.loop Nat (fun σ z => [(0, σ.tm 0), (3, σ.tm 3), (12, σ.tm 12), (13, σ.tm 13), (14, .i z)]) (fun σ z => [(0, seenC (seenAt l z))]) 0 (fun σ z => z ≤ l.length ∧ ∀ i, i < z → cutE l i = 0) (fun σ z => l.length - z) (.two .auto (.two .auto (.two (.one (.two .auto (.two .auto (.two .auto (.one (.loop Nat (fun σ z => [(0, σ.tm 0), (3, σ.tm 3), (12, σ.tm 12), (13, σ.tm 13), (14, σ.tm 14), (62, σ.tm 62), (63, σ.tm 63), (64, .i z)]) (fun σ z => [(0, seenC (seenAt l (AV.int (σ.tm 14)).toNat ++ (cutNow l (σ.tm 14)).ms.take z))]) 0 (fun σ z => z ≤ (cutNow l (σ.tm 14)).ms.length ∧ ∀ i, i < z → memB (seenAt l (AV.int (σ.tm 14)).toNat) ((cutNow l (σ.tm 14)).ms.getD i 0).toNat = false) (fun σ z => (cutNow l (σ.tm 14)).ms.length - z) .auto)))))) .auto)))))) .auto)))
theorem cutK_vc (l : List Cut) :
 let q1 := (IntKind.i64 = .i64 ∧ (l.length : Int) = (l.length : Int)); let q10 := (IntKind.i64 = .i64 ∧ (2 : Int) = cutsE l); let q23 := (fun i j => Enc.enc (List.getD l i Enc.dflt) j); let q24 := (Value.agg #[Value.int .i64 (0 : Int), Value.int .i64 (0 : Int), Value.int .i64 (0 : Int), Value.slice (Non Addr) 0 0]); bndL [slX 4 l] → bsplit (ltB (512 : Int) (l.length : Int)) (IntKind.i64 = .i64 ∧ (4 : Int) = cutsE l) ((∃ (z : Nat), ((z ≤ l.length ∧ ∀ (i : Nat), i < z → cutE l i = (0 : Int)) ∧ avM (slX 4 l) (slX 4 l) ∧ (nat_lit 0 = 0 ∧ 0 = 0 ∧ 0 = 0) ∧ avM (slX 4 l) (slX 4 l) ∧ q1 ∧ IntKind.i64 =
 .i64 ∧ (0 : Int) = (z : Int)) ∧ (110 : TypeId) = 110 ∧ 1 = 1 ∧ 512 = 512 ∧ ∀ (i j : Nat), i < 512 → j < 1 → avM (if 0 ≤ i ∧ i < 512 then AV.v (Value.bool false) else AV.v (Value.bool false)) (AV.v (Value.bool (memB (seenAt l z) i)))) ∧ ∀ (z : Nat), let q5 := (List.getD l (Int.toNat (z : Int)) Enc.dflt); let q4 := (Cut.w q5); let q3 := (ltB q4 (1 : Int) || ltB (1000 : Int) q4); let q2 := (!bsel false q3 || bsel false q3); let q8 := (Cut.d q5); let q7 := (bif ltB q4 (1 : Int) || ltB (1000 : Int) q4 then true else ltB q8 (1 : Int) || ltB (1000 : Int) q8); let q6 := (!bsel false q7 || bsel false
 q7); let q9 := (Cut.l q5); let q13 := (Cut.ms q5); let q12 := (List.length q13); let q11 := (↑q12 : Int); let q14 := (slN q13); let q16 := (!bsel false !ascB q12 fun (i : Nat) => AV.int (AV.v (Value.int .i64 (List.getD q13 i Enc.dflt)))); let q15 := (q16 || bsel false !ascB q12 fun (i : Nat) => AV.int (AV.v (Value.int .i64 (List.getD q13 i Enc.dflt)))); let q19 := (bsel false !ascB q12 fun (i : Nat) => AV.int (AV.v (Value.int .i64 (List.getD q13 i Enc.dflt)))); let q18 := (q19 && bsel true (ltB (0 : Int) (z : Int))); let q17 := (!q18 || q19 && bsel true (ltB (0 : Int) (z : Int))); let q21 :=
 (List.getD l (Int.toNat ((z : Int) - (1 : Int))) Enc.dflt); let q20 := (AV.agg 4 fun (i : Nat) => Enc.enc q21 (0 + i)); let q22 := (AV.agg 4 fun (i : Nat) => if 0 ≤ 0 + i ∧ 0 + i < 4 then q23 (Int.toNat (z : Int)) (0 + (0 + i - 0)) else zcell q24 (0 + i)); let q25 := (Cut.ms (cutNow l (AV.v (Value.int .i64 (z : Int))))); let q27 := (Int.toNat (AV.int (AV.v (Value.int .i64 (z : Int))))); let q26 := (seenAt l q27); let q28 := (IntKind.i64 = .i64 ∧ (z : Int) = (z : Int)); let q29 := (IntKind.i64 = .i64 ∧ q11 = q11); let q30 := (((IntKind.i64 = .i64 ∧ Cut.w q5 = Cut.w q5) ∧ IntKind.i64 = .i64 ∧
 Cut.d q5 = Cut.d q5) ∧ IntKind.i64 = .i64 ∧ Cut.l q5 = Cut.l q5); let q34 := (AV.xl false 1 q12 fun i j => AV.v (Value.int .i64 (List.getD q13 i Enc.dflt))); (z ≤ l.length ∧ ∀ (i : Nat), i < z → cutE l i = (0 : Int)) → bsplit (ltB (z : Int) (l.length : Int)) (bsplit (DB.db ((0 : Int) ≤ (z : Int) ∧ (z : Int) < (l.length : Int))) (bsplit q2 (bsplit q2 (bsplit (!!q3 || bsel false q3) (bsplit q6 (bsplit q6 (bsplit ((!!bif ltB q4 (1 : Int) || ltB (1000 : Int) q4 then true else ltB q8 (1 : Int) || ltB (1000 : Int) q8) || bsel false q7) (bsplit (bif bif ltB q4 (1 : Int) || ltB (1000 : Int) q4 then
 true else ltB q8 (1 : Int) || ltB (1000 : Int) q8 then true else ltB q9 (1 : Int) || ltB (1048576 : Int) q9) q10 (bsplit (q11 == (0 : Int)) (IntKind.i64 = .i64 ∧ (5 : Int) = cutsE l) (bsplit (slOk Int q14) (bsplit (List.any (slD q14) pOut) q10 (bsplit (allI q12 fun i j => AV.v (Value.int .i64 (List.getD q13 i Enc.dflt))) (bsplit q15 (bsplit q15 (bsplit q17 (bsplit (!q18 || DB.db (inK .i64 ((z : Int) - (1 : Int)))) (bsplit q17 (bsplit q17 (bsplit (!q18 || DB.db ((0 : Int) ≤ (z : Int) - (1 : Int) ∧ (z : Int) - (1 : Int) < (l.length : Int))) (bsplit q17 (bsplit q17 (bsplit q17 (bsplit (!q18 ||
 agOk Cut q20) (bsplit (!q18 || agOk Cut q22) (bsplit (!q18 || Nat.blt 0 (List.length (Cut.ms (agD q20)))) (bsplit (!q18 || Nat.blt 0 (List.length (Cut.ms (agD q22)))) (bsplit q17 (bsplit q15 (bsplit (q16 || (!ltB (0 : Int) (z : Int) || q19 && bsel true (ltB (0 : Int) (z : Int)))) (bsplit ((!!!ascB q12 fun (i : Nat) => AV.int (AV.v (Value.int .i64 (List.getD q13 i Enc.dflt)))) || bsel false !ascB q12 fun (i : Nat) => AV.int (AV.v (Value.int .i64 (List.getD q13 i Enc.dflt)))) (bsplit (bif !ascB q12 fun (i : Nat) => AV.int (AV.v (Value.int .i64 (List.getD q13 i Enc.dflt))) then true else bif ltB
 (0 : Int) (z : Int) then leB (0 : Int) (orderC (agD (AV.agg 4 fun (i : Nat) => Enc.enc q21 (0 + i))) (agD (AV.agg 4 fun (i : Nat) => if 0 ≤ 0 + i ∧ 0 + i < 4 then q23 (Int.toNat (z : Int)) (0 + (0 + i - 0)) else zcell q24 (0 + i)))) else false) (IntKind.i64 = .i64 ∧ (10 : Int) = cutsE l) ((∃ (z_1 : Nat), ((z_1 ≤ List.length q25 ∧ ∀ (i : Nat), i < z_1 → memB q26 (Int.toNat (List.getD q25 i (0 : Int))) = false) ∧ avM (slX 4 l) (slX 4 l) ∧ (nat_lit 0 = 0 ∧ 0 = 0 ∧ 0 = 0) ∧ avM (slX 4 l) (slX 4 l) ∧ q1 ∧ q28 ∧ avM q14 q14 ∧ q29 ∧ IntKind.i64 = .i64 ∧ (0 : Int) = (z_1 : Int)) ∧ (110 = 110 ∧ 1 = 1 ∧
 512 = 512 ∧ ∀ (i j : Nat), i < 512 → j < 1 → memB (seenAt l z) i = memB (seenAt l q27 ++ List.take z_1 q25) i) ∧ 69 = 69 ∧ 4 = 4 ∧ q30 ∧ avM q14 q14) ∧ ∀ (z_1 : Nat), let q31 := (DB.db ((0 : Int) ≤ List.getD q13 (Int.toNat (z_1 : Int)) Enc.dflt ∧ List.getD q13 (Int.toNat (z_1 : Int)) Enc.dflt < (↑512 : Int))); let q32 := (seenAt l q27 ++ List.take z_1 q25); let q33 := (List.getD q13 (Int.toNat (z_1 : Int)) Enc.dflt); (z_1 ≤ List.length q25 ∧ ∀ (i : Nat), i < z_1 → memB q26 (Int.toNat (List.getD q25 i (0 : Int))) = false) → bsplit (ltB (z_1 : Int) q11) (bsplit (DB.db ((0 : Int) ≤ (z_1 : Int) ∧
 (z_1 : Int) < q11)) (bsplit q31 (bsplit (memB q32 (0 + Int.toNat q33)) (IntKind.i64 = .i64 ∧ (7 : Int) = cutsE l) (bsplit q31 (bsplit (DB.db (inK .i64 ((z_1 : Int) + (1 : Int)))) (∃ (z' : Nat), (((z' ≤ List.length q25 ∧ ∀ (i : Nat), i < z' → memB q26 (Int.toNat (List.getD q25 i (0 : Int))) = false) ∧ List.length q25 - z' < List.length q25 - z_1) ∧ avM (slX 4 l) (slX 4 l) ∧ (nat_lit 0 = 0 ∧ 0 = 0 ∧ 0 = 0) ∧ avM (slX 4 l) (slX 4 l) ∧ q1 ∧ q28 ∧ avM q34 q34 ∧ q29 ∧ IntKind.i64 = .i64 ∧ (z_1 : Int) + (1 : Int) = (z' : Int)) ∧ (110 = 110 ∧ 1 = 1 ∧ 512 = 512 ∧ ∀ (i j : Nat), i < 512 → j < 1 → avM (if
 i = 0 + Int.toNat q33 ∧ 0 ≤ j ∧ j < 1 then AV.v (Value.bool true) else AV.v (Value.bool (memB q32 i))) (AV.v (Value.bool (memB (seenAt l q27 ++ List.take z' q25) i)))) ∧ 69 = 69 ∧ 4 = 4 ∧ q30 ∧ avM q14 q14) False) False)) False) False) (bsplit (DB.db (inK .i64 ((z : Int) + (1 : Int)))) (∃ (z' : Nat), (((z' ≤ l.length ∧ ∀ (i : Nat), i < z' → cutE l i = (0 : Int)) ∧ l.length - z' < l.length - z) ∧ avM (slX 4 l) (slX 4 l) ∧ (nat_lit 0 = 0 ∧ 0 = 0 ∧ 0 = 0) ∧ avM (slX 4 l) (slX 4 l) ∧ q1 ∧ IntKind.i64 = .i64 ∧ (z : Int) + (1 : Int) = (z' : Int)) ∧ 110 = 110 ∧ 1 = 1 ∧ 512 = 512 ∧ ∀ (i j : Nat), i <
 512 → j < 1 → memB q32 i = memB (seenAt l z') i) False))) False) False) False) False) False) False) False) False) False) False) False) False) False) False) False) False) False) False) False)) False))) False) False) False) False) False) False) False) (IntKind.i64 = .i64 ∧ (0 : Int) = cutsE l)) := by
  dsimp only
  intro hb
  have hl : l.length ≤ 9223372036854775807 := hb.1
  have e0 : (Enc.dflt : Int) = 0 := rfl
  have e1 : (Enc.dflt : Cut) = ⟨0, 0, 0, []⟩ := rfl
  simp only [slX, slN, avM_refl, true_and, and_true, bsel_true, bsel_false, vc_own, bif_or, bif_and, vc_gdb, vc_db, vc_lt, vc_le, vc_ne, vc_eq, vc_tt, Int.toNat_natCast, Nat.zero_add, Nat.zero_le, Nat.sub_zero, agD_bar, agOk_bar, agD_bar', agOk_bar', agD_cut, agOk_cut, agD_cut', agOk_cut', agD_used, agOk_used, agD_used', agOk_used', int_i, Bool.or_true, cond_true, cond_false, cutNow, e0, e1, ltB_nat, pred_nat, or_six]
  refine ⟨fun h => ?_, fun hle => ⟨⟨0, ⟨⟨by omega, fun i hi => by omega⟩, rfl⟩, fun i j hi hj => by rw [if_pos hi]; exact avM_of_eq rfl⟩, fun z ⟨hz, hi⟩ => ⟨fun hlt => ⟨⟨by omega, by omega⟩, ?_⟩, fun hge => ?_⟩⟩⟩
  · unfold cutsE; rw [(blt_iff _ _).2 (by omega)]; rfl
  · have hat : ∀ v, cutE l z = v → v ≠ 0 → v = cutsE l := fun v hv hv0 => by rw [cutsE_at (z := z) (by omega) (by omega) hi (by rw [hv]; exact hv0), hv]
    have hz0 : z - 1 < l.length := by omega
    have hsucc := seenAt_succ l z
    have hseen : ∀ i, pieceE (l.getD z ⟨0, 0, 0, []⟩) = 0 → _ := fun i h => @cutE_seen l z i h
    have hnone := @cutE_none l z
    have hord := @cutE_ord l z
    have hpc := @cutE_piece l z
    generalize l.getD z ⟨0, 0, 0, []⟩ = c at *
    have hbad : ∀ v, pieceE c = v → v ≠ 0 → v = cutsE l := fun v hv hv0 => hat v (by rw [hpc (by rw [hv]; exact hv0), hv]) hv0
    refine bsplit_iff.2 ⟨fun h1 => hbad 2 (pieceE_rng h1) (by decide), fun h1 => ⟨fun h2 => hbad 5 (pieceE_empty h1 (by omega)) (by decide), fun h2 => vc_b.2 ⟨slOk_slE c.ms, ?_⟩⟩⟩
    have e2 : (slD (α := Int) (AV.xl false 1 c.ms.length fun i j => AV.v (Value.int IntKind.i64 (c.ms.getD i 0)))) = c.ms := slD_slE c.ms
    rw [e2]
    refine bsplit_iff.2 ⟨fun h3 => hbad 2 (pieceE_out h1 (by omega) h3) (by decide), fun h3 => vc_b.2 ⟨allI_sl c.ms, ?_⟩⟩
    have hp := pieceE_asc h1 (by omega) h3
    have ea : (ascB c.ms.length fun i => c.ms.getD i 0) = ascL c.ms := rfl
    rw [ea]
    have hbz : ∀ {X : Bool}, (!!X && Nat.blt 0 z) = true → 0 < z := fun h => by
      rw [Bool.and_eq_true] at h
      exact (blt_iff _ _).1 h.2
    refine ⟨fun h => by have := hbz h; simp only [inK]; omega, fun h => by have := hbz h; omega, vc_grd.2 ⟨fun h => ?_, vc_grd.2 ⟨fun h => (blt_iff _ _).2 (by omega), ?_⟩⟩⟩
    · have := hbz h
      exact (blt_iff _ _).2 (pieceE_ok (cutE_zero (hi (z - 1) (by omega)))).1
    rw [show (!!!ascL c.ms || (!Nat.blt 0 z || !!ascL c.ms && Nat.blt 0 z)) = true by cases ascL c.ms <;> cases Nat.blt 0 z <;> rfl, orderC_neg]
    refine bsplit_iff.2 ⟨fun _ => bsplit_iff.2 ⟨fun h => ?_, fun h => ?_⟩, fun h => by cases h⟩
    · cases h4 : ascL c.ms with
      | false => exact hbad 10 (by rw [hp, h4]; rfl) (by decide)
      | true =>
        rw [h4] at h hp
        exact hat 10 (hord hp h) (by decide)
    · rw [Bool.or_eq_false_iff, Bool.not_eq_false'] at h
      obtain ⟨h4, h5⟩ := h
      rw [h4] at hp
      have hok := pieceE_ok (c := c) hp
      have hms := asc_len hok.2.1 hok.2.2
      refine ⟨⟨0, ⟨⟨by omega, fun i hi => by omega⟩, rfl⟩, fun i j _ _ => by rw [List.take_zero, List.append_nil]⟩, fun y ⟨hy, hs⟩ => ⟨fun hyl => ⟨⟨by omega, by omega⟩, hok.2.1 y (by omega), bsplit_iff.2 ⟨fun hm => ?_, fun hm => ⟨hok.2.1 y (by omega), by simp only [inK]; omega, y + 1, ⟨⟨⟨by omega, fun i hi' => ?_⟩, by omega⟩, by omega⟩, fun i j _ hj => ?_⟩⟩⟩, fun hyl => ⟨by simp only [inK]; omega, z + 1, ⟨⟨⟨by omega, fun i hi' => ?_⟩, by omega⟩, by omega⟩, fun i j _ _ => ?_⟩⟩⟩
      · rw [memB_app, memB_asc h4 (fun i hi => (hok.2.1 i hi).1) (by omega), Bool.or_false] at hm
        exact hat 7 (hseen y hp h5 (by omega) hm) (by decide)
      · rw [memB_app, Bool.or_eq_false_iff] at hm
        by_cases e : i = y
        · rw [e]; exact hm.1
        · exact hs i (by omega)
      · rw [memB_take (by omega) (hok.2.1 y (by omega)).1]
        by_cases e : i = (c.ms.getD y 0).toNat
        · rw [if_pos ⟨e, hj⟩, if_pos e]; exact avM_refl _
        · rw [if_neg fun h => e h.1, if_neg e]; exact avM_refl _
      · by_cases e : i = z
        · rw [e]; exact hnone hp h5 fun i hi' => hs i (by omega)
        · exact hi i (by omega)
      · rw [hsucc, List.take_of_length_le (by omega)]
  · rw [cutsE_none (by omega) fun i hi' => hi i (by omega)]
def cuts_t : List AV → Option (List Cond × AV)
  | [x] => some ([.b (slOk Cut x)], .i (cutsE (slD x)))
  | _ => none
theorem cutK_T : PureT Tryz.prog [] 36 cuts_t := by
  intro xs ps r h hp
  unfold cuts_t at h
  split at h
  · rename_i x
    cases h
    exact weaken (ys := [_]) ⟨slE_sound (hp _ List.mem_cons_self), trivial⟩ (pure_of_vc mixed Tck2_sound (Eq.mp (by kernel_rfl) (cutK_vc (slD x)) : vcFn Tryz.prog Tck2 36 (cutK_an (slD x)) [slE (slD x)] (.i (cutsE (slD x)))))
  · cases h
theorem refK_T : PureT Tryz.prog [] 50 cuts_t := by
  intro xs ps r h hp
  unfold cuts_t at h
  split at h
  · rename_i x
    cases h
    exact weaken (ys := [_]) ⟨slE_sound (hp _ List.mem_cons_self), trivial⟩ (pure_of_vc mixed Trk_sound (Eq.mp (by kernel_rfl) (refK_vc (slD x)) : vcFn Tryz.prog Trk 50 (refK_an (slD x)) [slE (slD x)] (.i (cutsE (slD x)))))
  · cases h
def bars_t : List AV → Option (List Cond × AV)
  | [x] => some ([.b (slOk Bar x)], .i (barsE (slD x)))
  | _ => none
theorem stockC_T : PureT Tryz.prog [] 34 bars_t := by
  intro xs ps r h hp
  unfold bars_t at h
  split at h
  · rename_i x
    cases h
    exact weaken (ys := [_]) ⟨slE_sound (hp _ List.mem_cons_self), trivial⟩ (pure_of_vc mixed Tsc_sound (Eq.mp (by kernel_rfl) (stockC_vc (slD x)) : vcFn Tryz.prog Tsc 34 (stockC_an (slD x)) [slE (slD x)] (.i (barsE (slD x)))))
  · cases h
theorem refC_T : PureT Tryz.prog [] 9 bars_t := by
  intro xs ps r h hp
  unfold bars_t at h
  split at h
  · rename_i x
    cases h
    exact weaken (ys := [_]) ⟨slE_sound (hp _ List.mem_cons_self), trivial⟩ (pure_of_vc mixed Trc_sound (Eq.mp (by kernel_rfl) (refC_vc (slD x)) : vcFn Tryz.prog Trc 9 (refC_an (slD x)) [slE (slD x)] (.i (barsE (slD x)))))
  · cases h
end Go.Tz
