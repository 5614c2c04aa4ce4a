/- Small functions of the checks of a nest. -/
import Derived.Test.YtojonobehnbeiaaGreatDoorTzCz
set_option linter.unusedSimpArgs false
namespace Go.Tz
open Go Go.Sx Go.Proofs
set_option maxRecDepth 100000
set_option maxHeartbeats 2000000
theorem sectR_vc (c : Cut) (b : Bar) :
 let q1 := (!bsel true (Cut.w c == Bar.w b) || bsel true (Cut.w c == Bar.w b)); bndL [AV.agg 4 (Enc.enc c), AV.agg 6 (Enc.enc b)] → bsplit q1 (bsplit q1 (bsplit q1 (bsplit q1 (bsplit (!Cut.w c == Bar.w b || bsel true (Cut.w c == Bar.w b)) ((bif Cut.w c == Bar.w b then Cut.d c == Bar.d b else false) = sectB c b) False) False) False) False) False := by
  dsimp only
  intro hb
  simp only [slX, slN, avM_refl, true_and, and_true, bsel_true, bsel_false, vc_own, bif_or, bif_and, vc_gdb, vc_db, vc_lt, vc_le, vc_ne, vc_eq, vc_tt, Int.toNat_natCast, Nat.zero_add, Nat.zero_le, Nat.sub_zero, agD_bar, agOk_bar, agD_bar', agOk_bar', agD_cut, agOk_cut, agD_cut', agOk_cut', agD_used, agOk_used, agD_used', agOk_used', int_i, Bool.or_true, cond_true, cond_false]
  rfl
def eql_an (l m : List Int) : Ann :=
  .two .auto (.two .auto (.two (.two .auto (.one (.loop Nat (fun σ z => [(0, σ.tm 0), (1, σ.tm 1), (12, σ.tm 12), (13, .i z)]) (fun σ z => []) 0 (fun σ z => z ≤ l.length ∧ ∀ i, i < z → l.getD i 0 = m.getD i 0) (fun σ z => l.length - z) .auto))) .auto))
theorem eql_vc (l m : List Int) : bndL [slN l, slN m] → bsplit ((l.length : Int) != (m.length : Int)) (false = decide (l = m)) ((∃ (z : Nat), ((z ≤ l.length ∧ ∀ (i : Nat), i < z → List.getD l i (0 : Int) = List.getD m i (0 : Int)) ∧ avM (slN l) (slN l) ∧ avM (slN m) (slN m) ∧ (IntKind.i64 = .i64 ∧ (l.length : Int) = (l.length : Int)) ∧ IntKind.i64 = .i64 ∧ (0 : Int) = (z : Int)) ∧ True) ∧ ∀ (z : Nat), (z ≤ l.length ∧ ∀ (i : Nat), i < z → List.getD l i (0 : Int) = List.getD m i (0 : Int)) → bsplit (ltB (z : Int) (l.length : Int)) (bsplit (DB.db ((0 : Int) ≤ (z : Int) ∧ (z : Int) < (l.length :
 Int))) (bsplit (DB.db ((0 : Int) ≤ (z : Int) ∧ (z : Int) < (m.length : Int))) (bsplit (List.getD l (Int.toNat (z : Int)) Enc.dflt != List.getD m (Int.toNat (z : Int)) Enc.dflt) (false = decide (l = m)) (bsplit (DB.db (inK .i64 ((z : Int) + (1 : Int)))) (∃ (z' : Nat), (((z' ≤ l.length ∧ ∀ (i : Nat), i < z' → List.getD l i (0 : Int) = List.getD m i (0 : Int)) ∧ l.length - z' < l.length - z) ∧ avM (slN l) (slN l) ∧ avM (slN m) (slN m) ∧ (IntKind.i64 = .i64 ∧ (l.length : Int) = (l.length : Int)) ∧ IntKind.i64 = .i64 ∧ (z : Int) + (1 : Int) = (z' : Int)) ∧ True) False)) False) False) (true = decide
 (l = m))) := by
  intro hb
  have e0 : (Enc.dflt : Int) = 0 := rfl
  simp only [slX, slN, avM_refl, true_and, and_true, bsel_true, bsel_false, vc_own, bif_or, bif_and, vc_gdb, vc_db, vc_lt, vc_le, vc_ne, vc_eq, vc_tt, Int.toNat_natCast, Nat.zero_add, Nat.zero_le, Nat.sub_zero, agD_bar, agOk_bar, agD_bar', agOk_bar', agD_cut, agOk_cut, agD_cut', agOk_cut', agD_used, agOk_used, agD_used', agOk_used', int_i, Bool.or_true, cond_true, cond_false, okC, okC', deC, deC', okB, deB, okB', deB', okIn, okIn', deI, deI', okU, okU', deU, deU', okBl, deBl, okUl, deUl, deIo, cutsOf_sl, e0]
  have hl : l.length ≤ 9223372036854775807 := hb.1.1
  refine ⟨fun hne => ?_, fun heq => ⟨⟨0, ⟨by omega, fun i hi => by omega⟩, rfl⟩, fun z ⟨h1, h2⟩ => ⟨fun hz => ⟨by omega, by omega, fun hn => ?_, fun he => ⟨by simp only [inK]; omega, z + 1, ⟨⟨by omega, fun i hi => ?_⟩, by omega⟩, by omega⟩⟩, fun hz => ?_⟩⟩⟩
  · rw [Eq.comm, decide_eq_false_iff_not]
    rintro rfl
    exact hne rfl
  · rw [Eq.comm, decide_eq_false_iff_not]
    rintro rfl
    exact hn rfl
  · by_cases e : i = z
    · rw [e]; exact he
    · exact h2 i (by omega)
  · rw [Eq.comm, decide_eq_true_eq]
    apply List.ext_getElem (by omega)
    intro i h3 h4
    have := h2 i (by omega)
    simpa [List.getD_eq_getElem?_getD, h3, h4] using this
def idxB_an (l : List Bool) (b : Bool) : Ann :=
  .two .auto (.two (.two .auto (.one (.loop Nat (fun σ z => [(0, σ.tm 0), (1, σ.tm 1), (7, σ.tm 7), (8, .i z)]) (fun σ z => []) 0 (fun σ z => z ≤ l.length ∧ idxF (fun x => b == x) (l.drop z) z = idxF (fun x => b == x) l 0) (fun σ z => l.length - z) .auto))) .auto)
theorem idxB2_vc (l : List Bool) (b : Bool) : bndL [AV.xl false 1 (l.length) fun i j => AV.v (Value.bool (List.getD l i Enc.dflt)), AV.v (Value.bool b)] → (∃ (z : Nat), ((z ≤ l.length ∧ idxF (fun (x : Bool) => b == x) (List.drop z l) z = idxF (fun (x : Bool) => b == x) l 0) ∧ avM (AV.xl false 1 (l.length) fun i j => AV.v (Value.bool (List.getD l i Enc.dflt))) (AV.xl false 1 (l.length) fun i j => AV.v (Value.bool (List.getD l i Enc.dflt))) ∧ b = b ∧ (IntKind.i64 = .i64 ∧ (l.length : Int) = (l.length : Int)) ∧ IntKind.i64 = .i64 ∧ (0 : Int) = (z : Int)) ∧ True) ∧ ∀ (z : Nat), z ≤ l.length ∧ idxF
 (fun (x : Bool) => b == x) (List.drop z l) z = idxF (fun (x : Bool) => b == x) l 0 → bsplit (ltB (z : Int) (l.length : Int)) (bsplit (DB.db ((0 : Int) ≤ (z : Int) ∧ (z : Int) < (l.length : Int))) (bsplit (b == List.getD l (Int.toNat (z : Int)) Enc.dflt) (IntKind.i64 = .i64 ∧ (z : Int) = idxF (fun (x : Bool) => b == x) l 0) (bsplit (DB.db (inK .i64 ((z : Int) + (1 : Int)))) (∃ (z' : Nat), (((z' ≤ l.length ∧ idxF (fun (x : Bool) => b == x) (List.drop z' l) z' = idxF (fun (x : Bool) => b == x) l 0) ∧ l.length - z' < l.length - z) ∧ avM (AV.xl false 1 (l.length) fun i j => AV.v (Value.bool
 (List.getD l i Enc.dflt))) (AV.xl false 1 (l.length) fun i j => AV.v (Value.bool (List.getD l i Enc.dflt))) ∧ b = b ∧ (IntKind.i64 = .i64 ∧ (l.length : Int) = (l.length : Int)) ∧ IntKind.i64 = .i64 ∧ (z : Int) + (1 : Int) = (z' : Int)) ∧ True) False)) False) (IntKind.i64 = .i64 ∧ (-1 : Int) = idxF (fun (x : Bool) => b == x) l 0) := by
  intro hb
  simp only [slX, slN, avM_refl, true_and, and_true, bsel_true, bsel_false, vc_own, bif_or, bif_and, vc_gdb, vc_db, vc_lt, vc_le, vc_ne, vc_eq, vc_tt, Int.toNat_natCast, Nat.zero_add, Nat.zero_le, Nat.sub_zero, agD_bar, agOk_bar, agD_bar', agOk_bar', agD_cut, agOk_cut, agD_cut', agOk_cut', agD_used, agOk_used, agD_used', agOk_used', int_i, Bool.or_true, cond_true, cond_false, okC, okC', deC, deC', okB, deB, okB', deB', okIn, okIn', deI, deI', okU, okU', deU, deU', okBl, deBl, okUl, deUl, deIo, cutsOf_sl]
  have hl : l.length ≤ 9223372036854775807 := hb.1.1
  refine ⟨⟨0, ⟨by omega, rfl⟩, rfl⟩, fun z ⟨h1, h2⟩ => ⟨fun hz => ⟨by omega, bsplit_iff.2 ⟨fun hp => ?_, fun hp => ?_⟩⟩, fun hz => ?_⟩⟩
  · rw [getD_drop (d := Enc.dflt) (by omega), idxF, hp] at h2; exact h2
  · rw [getD_drop (d := Enc.dflt) (by omega), idxF, hp] at h2
    exact ⟨by simp only [inK]; omega, z + 1, ⟨⟨by omega, h2⟩, by omega⟩, by omega⟩
  · rw [show z = l.length by omega, List.drop_length] at h2; exact h2
def has_an (l : List Int) (n : Int) : Ann :=
  .two .auto (.two (.two .auto (.one (.loop Nat (fun σ z => [(0, σ.tm 0), (1, σ.tm 1), (5, .i z)]) (fun σ z => []) 0 (fun σ z => z ≤ l.length ∧ ∀ i, i < z → l.getD i 0 ≠ n) (fun σ z => l.length - z) .auto))) .auto)
def hasB (l : List Int) (n : Int) : Bool := l.any fun m => m == n
theorem has_vc (l : List Int) (n : Int) : bndL [slN l, AV.v (Value.int .i64 n)] → (∃ (z : Nat), ((z ≤ l.length ∧ ∀ (i : Nat), i < z → List.getD l i (0 : Int) ≠ n) ∧ avM (slN l) (slN l) ∧ (IntKind.i64 = .i64 ∧ n = n) ∧ IntKind.i64 = .i64 ∧ (0 : Int) = (z : Int)) ∧ True) ∧ ∀ (z : Nat), (z ≤ l.length ∧ ∀ (i : Nat), i < z → List.getD l i (0 : Int) ≠ n) → bsplit (ltB (z : Int) (l.length : Int)) (bsplit (DB.db ((0 : Int) ≤ (z : Int) ∧ (z : Int) < (l.length : Int))) (bsplit (List.getD l (Int.toNat (z : Int)) Enc.dflt == n) (true = hasB l n) (bsplit (DB.db (inK .i64 ((z : Int) + (1 : Int)))) (∃ (z' :
 Nat), (((z' ≤ l.length ∧ ∀ (i : Nat), i < z' → List.getD l i (0 : Int) ≠ n) ∧ l.length - z' < l.length - z) ∧ avM (slN l) (slN l) ∧ (IntKind.i64 = .i64 ∧ n = n) ∧ IntKind.i64 = .i64 ∧ (z : Int) + (1 : Int) = (z' : Int)) ∧ True) False)) False) (false = hasB l n) := by
  intro hb
  have e0 : (Enc.dflt : Int) = 0 := rfl
  simp only [slX, slN, avM_refl, true_and, and_true, bsel_true, bsel_false, vc_own, bif_or, bif_and, vc_gdb, vc_db, vc_lt, vc_le, vc_ne, vc_eq, vc_tt, Int.toNat_natCast, Nat.zero_add, Nat.zero_le, Nat.sub_zero, agD_bar, agOk_bar, agD_bar', agOk_bar', agD_cut, agOk_cut, agD_cut', agOk_cut', agD_used, agOk_used, agD_used', agOk_used', int_i, Bool.or_true, cond_true, cond_false, okC, okC', deC, deC', okB, deB, okB', deB', okIn, okIn', deI, deI', okU, okU', deU, deU', okBl, deBl, okUl, deUl, deIo, cutsOf_sl, e0]
  have hl : l.length ≤ 9223372036854775807 := hb.1.1
  refine ⟨⟨0, ⟨by omega, fun i hi => by omega⟩, rfl⟩, fun z ⟨h1, h2⟩ => ⟨fun hz => ⟨by omega, fun he => ?_, fun hne => ⟨by simp only [inK]; omega, z + 1, ⟨⟨by omega, fun i hi => ?_⟩, by omega⟩, by omega⟩⟩, fun hz => ?_⟩⟩
  · exact (any_at (l := l) (p := fun m => m == n) (i := z) (by omega) (beq_iff_eq.2 he)).symm
  · by_cases e : i = z
    · rw [e]; exact hne
    · exact h2 i (by omega)
  · exact (any_none (l := l) (p := fun m => m == n) fun i hi => beq_eq_false_iff_ne.2 (h2 i (by omega))).symm
def used_an (l : List Used) (n k : Int) : Ann :=
  .two .auto (.two .auto (.two (.two .auto (.one (.loop Nat (fun σ z => [(0, σ.tm 0), (1, σ.tm 1), (2, σ.tm 2), (7, .i (usedN (l.take z) k)), (8, .i z)]) (fun σ z => []) 0 (fun σ z => z ≤ n.toNat) (fun σ z => n.toNat - z) .auto))) .auto))
theorem used_vc (l : List Used) (n k : Int) (h0 : 0 ≤ n) (hn : n ≤ l.length) (hl : l.length < 1000000000) : bndL [slX 3 l, AV.v (Value.int .i64 n), AV.v (Value.int .i64 k)] → (∃ (z : Nat), (z ≤ Int.toNat n ∧ avM (slX 3 l) (slX 3 l) ∧ (IntKind.i64 = .i64 ∧ n = n) ∧ (IntKind.i64 = .i64 ∧ k = k) ∧ (IntKind.i64 = .i64 ∧ (0 : Int) = (↑(usedN (List.take z l) k) : Int)) ∧ IntKind.i64 = .i64 ∧ (0 : Int) = (z : Int)) ∧ True) ∧ ∀ (z : Nat), z ≤ Int.toNat n → bsplit (ltB (z : Int) n) (bsplit (DB.db ((0 : Int) ≤ (z : Int) ∧ (z : Int) < (l.length : Int))) (bsplit (Used.bar (List.getD l (Int.toNat (z : Int))
 Enc.dflt) == k) (bsplit (DB.db (inK .i64 ((↑(usedN (List.take z l) k) : Int) + (1 : Int)))) (bsplit (DB.db (inK .i64 ((z : Int) + (1 : Int)))) (∃ (z' : Nat), ((z' ≤ Int.toNat n ∧ Int.toNat n - z' < Int.toNat n - z) ∧ avM (slX 3 l) (slX 3 l) ∧ (IntKind.i64 = .i64 ∧ n = n) ∧ (IntKind.i64 = .i64 ∧ k = k) ∧ (IntKind.i64 = .i64 ∧ (↑(usedN (List.take z l) k) : Int) + (1 : Int) = (↑(usedN (List.take z' l) k) : Int)) ∧ IntKind.i64 = .i64 ∧ (z : Int) + (1 : Int) = (z' : Int)) ∧ True) False) False) (bsplit (DB.db (inK .i64 ((z : Int) + (1 : Int)))) (∃ (z' : Nat), ((z' ≤ Int.toNat n ∧ Int.toNat n - z' <
 Int.toNat n - z) ∧ avM (slX 3 l) (slX 3 l) ∧ (IntKind.i64 = .i64 ∧ n = n) ∧ (IntKind.i64 = .i64 ∧ k = k) ∧ (IntKind.i64 = .i64 ∧ (↑(usedN (List.take z l) k) : Int) = (↑(usedN (List.take z' l) k) : Int)) ∧ IntKind.i64 = .i64 ∧ (z : Int) + (1 : Int) = (z' : Int)) ∧ True) False)) False) (IntKind.i64 = .i64 ∧ (↑(usedN (List.take z l) k) : Int) = (↑(usedN (List.take (Int.toNat n) l) k) : Int)) := by
  intro hb
  have e0 : (Enc.dflt : Used) = ⟨0, [], []⟩ := rfl
  simp only [slX, slN, avM_refl, true_and, and_true, bsel_true, bsel_false, vc_own, bif_or, bif_and, vc_gdb, vc_db, vc_lt, vc_le, vc_ne, vc_eq, vc_tt, Int.toNat_natCast, Nat.zero_add, Nat.zero_le, Nat.sub_zero, agD_bar, agOk_bar, agD_bar', agOk_bar', agD_cut, agOk_cut, agD_cut', agOk_cut', agD_used, agOk_used, agD_used', agOk_used', int_i, Bool.or_true, cond_true, cond_false, okC, okC', deC, deC', okB, deB, okB', deB', okIn, okIn', deI, deI', okU, okU', deU, deU', okBl, deBl, okUl, deUl, deIo, cutsOf_sl, e0]
  have h3 : ∀ z, z < l.length → usedN (l.take (z + 1)) k = usedN (l.take z) k + if (l.getD z ⟨0, [], []⟩).bar = k then 1 else 0 := fun z hz => by
    rw [take_snoc (d := ⟨0, [], []⟩) hz]
    unfold usedN
    rw [List.countP_append, List.countP_cons, List.countP_nil]
    simp
  have h4 : ∀ z, usedN (l.take z) k ≤ l.length := fun z => Nat.le_trans List.countP_le_length (by simp; omega)
  refine ⟨⟨0, by omega, rfl, rfl⟩, fun z hz => ⟨fun hlt => ⟨by omega, fun he => ?_, fun he => ?_⟩, fun hge => ?_⟩⟩
  · have := h3 z (by omega)
    rw [if_pos he] at this
    have := h4 z
    exact ⟨by simp only [inK]; omega, by simp only [inK]; omega, z + 1, by omega, by omega, by omega⟩
  · have := h3 z (by omega)
    rw [if_neg he] at this
    exact ⟨by simp only [inK]; omega, z + 1, by omega, by omega, by omega⟩
  · rw [show z = n.toNat by omega]
theorem sectR_T : PureT Tryz.prog [] 90 sect_t := by
  intro xs ps r h hp
  unfold sect_t at h
  split at h
  · rename_i x y
    cases h
    exact weaken (ys := [_, _]) ⟨agE_sound (hp _ List.mem_cons_self), agE_sound (hp _ (List.mem_cons_of_mem _ List.mem_cons_self)), trivial⟩
      (pure_of_vc mixed tb0_sound (Eq.mp (by kernel_rfl) (sectR_vc (agD x) (agD y)) : vcFn Tryz.prog T0 90 .auto [agE (agD (α := Cut) x), agE (agD (α := Bar) y)] (.b (sectB (agD x) (agD y)))))
  · cases h
def eql_t : List AV → Option (List Cond × AV)
  | [x, y] => some ([.b (slOk Int x), .b (slOk Int y)], .b (decide (intsOf x = intsOf y)))
  | _ => none
theorem eql_T : PureT Tryz.prog [] 62 eql_t := by
  intro xs ps r h hp
  unfold eql_t at h
  split at h
  · rename_i x y
    cases h
    exact weaken (ys := [_, _]) ⟨slE_sound (hp _ List.mem_cons_self), slE_sound (hp _ (List.mem_cons_of_mem _ List.mem_cons_self)), trivial⟩
      (pure_of_vc mixed tb0_sound (Eq.mp (by kernel_rfl) (eql_vc (slD x) (slD y)) : vcFn Tryz.prog T0 62 (eql_an (slD x) (slD y)) [slE (slD (α := Int) x), slE (slD (α := Int) y)] (.b (decide (intsOf x = intsOf y)))))
  · cases h
def hasI_t : List AV → Option (List Cond × AV)
  | [x, .v (.int .i64 n)] => some ([.b (slOk Int x)], .b (hasB (slD x) n))
  | _ => none
theorem has_T : PureT Tryz.prog [] 91 hasI_t := by
  intro xs ps r h hp
  unfold hasI_t at h
  split at h
  · rename_i x n
    cases h
    exact weaken (ys := [_, _]) ⟨slE_sound (hp _ List.mem_cons_self), avM_refl _, trivial⟩
      (pure_of_vc mixed tb0_sound (Eq.mp (by kernel_rfl) (has_vc (slD x) n) : vcFn Tryz.prog T0 91 (has_an (slD x) n) [slE (slD x), .i n] (.b (hasB (slD x) n))))
  · cases h
def used_t : List AV → Option (List Cond × AV)
  | [x, .v (.int .i64 n), .v (.int .i64 k)] => some ([.b (slOk Used x), .b (leB 0 n && leB n (usedOf x).length && Nat.blt (usedOf x).length 1000000000)], .i (usedN ((usedOf x).take n.toNat) k))
  | _ => none
theorem used_T : PureT Tryz.prog [] 93 used_t := by
  intro xs ps r h hp
  unfold used_t at h
  split at h
  · rename_i x n k
    cases h
    have h3 : (leB 0 n && leB n (usedOf x).length && Nat.blt (usedOf x).length 1000000000) = true := hp _ (List.mem_cons_of_mem _ List.mem_cons_self)
    rw [Bool.and_eq_true, Bool.and_eq_true, leB_iff, leB_iff, blt_iff] at h3
    exact weaken (ys := [_, _, _]) ⟨slE_sound (hp _ List.mem_cons_self), avM_refl _, avM_refl _, trivial⟩
      (pure_of_vc mixed tb0_sound (Eq.mp (by kernel_rfl) (used_vc (usedOf x) n k h3.1.1 h3.1.2 h3.2) : vcFn Tryz.prog T0 93 (used_an (usedOf x) n k) [slE (usedOf x), .i n, .i k] (.i (usedN ((usedOf x).take n.toNat) k))))
  · cases h
theorem idxBb_C (l : List Bool) (b : Bool) : PureCall Tryz.prog [] 89 [slE l, .b b] (.i (idxF (fun x => b == x) l 0)) :=
  pure_of_vc mixed tb0_sound (Eq.mp (by kernel_rfl) (idxB2_vc l b) : vcFn Tryz.prog T0 89 (idxB_an l b) [slE l, .b b] (.i (idxF (fun x => b == x) l 0)))
instance : LawEnc Bool := ⟨fun _ => rfl, fun _ => rfl⟩
def hasBB (l : List Bool) (b : Bool) : Bool := l.any fun x => b == x
theorem conBb_vc (l : List Bool) (b : Bool) : bndL [AV.xl false 1 (l.length) fun i j => AV.v (Value.bool (List.getD l i Enc.dflt)), AV.v (Value.bool b)] → Wk [AV.xl false 1 (l.length) fun i j => AV.v (Value.bool (List.getD l i Enc.dflt)), AV.v (Value.bool b)] [AV.xl false 1 (l.length) fun i j => AV.v (Value.bool (List.getD l i Enc.dflt)), AV.v (Value.bool b)] ∧ leB (0 : Int) (idxF (fun (x : Bool) => b == x) l 0) = hasBB l b := by
  intro hb
  exact ⟨Wk.refl _, idxF_any _ _ _⟩
def conBb_t : List AV → Option (List Cond × AV)
  | [x, .v (.bool b)] => some ([.b (slOk Bool x)], .b (hasBB (boolsOf x) b))
  | _ => none
theorem conBb_T : PureT Tryz.prog [] 63 conBb_t := by
  intro xs ps r h hp
  unfold conBb_t at h
  split at h
  · rename_i x b
    cases h
    exact weaken (ys := [_, _]) ⟨slE_sound (hp _ List.mem_cons_self), avM_refl _, trivial⟩
      (pure_of_vc mixed (TbSound.plus tb0_sound (inst_T (idxBb_C (boolsOf x) b))) (Eq.mp (by kernel_rfl) (conBb_vc (boolsOf x) b) : vcFn Tryz.prog (T0.plus 89 (inst [slE (boolsOf x), .b b] (.i (idxF (fun x => b == x) (boolsOf x) 0)))) 63 .auto [slE (boolsOf x), .b b] (.b (hasBB (boolsOf x) b))))
  · cases h
def pcE (all : List Cut) (b : Bar) (ps : List Int) (i : Nat) : Int :=
  bif ltB (ps.getD i 0) 0 || leB (all.length : Int) (ps.getD i 0) then 2
  else bif Nat.blt 0 i && leB (ps.getD i 0) (ps.getD (i - 1) 0) then 10
  else bif !sectB (all.getD (ps.getD i 0).toNat ⟨0, 0, 0, []⟩) b then 8 else 0
def kindE (all : List Cut) (bs : List Bar) (u : Used) : Int :=
  bif ltB u.bar 0 || leB (bs.length : Int) u.bar then 2
  else bif Nat.beq u.ps.length 0 then 5
  else firstN (pcE all (barAt bs u) u.ps) u.ps.length 0
def kind_an (all : List Cut) (bs : List Bar) (u : Used) : Ann :=
  .two .auto (.two .auto (.two .auto (.two (.two .auto (.one (.loop Nat (fun σ z => [(0, σ.tm 0), (1, σ.tm 1), (5, σ.tm 5), (24, σ.tm 24), (25, σ.tm 25), (26, .i z)]) (fun σ z => []) 0 (fun σ z => z ≤ u.ps.length ∧ ∀ i, i < z → pcE all (barAt bs u) u.ps i = 0) (fun σ z => u.ps.length - z) .auto))) .auto)))
theorem kind_vc (all : List Cut) (bs : List Bar) (u : Used) :
 let q1 := (!bsel false (ltB (Used.bar u) (0 : Int)) || bsel false (ltB (Used.bar u) (0 : Int))); let q2 := (IntKind.i64 = .i64 ∧ (2 : Int) = kindE all bs u); let q3 := (IntKind.i64 = .i64 ∧ (↑(List.length (Used.ps u)) : Int) = (↑(List.length (Used.ps u)) : Int)); let q4 := ((IntKind.i64 = .i64 ∧ Used.bar u = Used.bar u) ∧ avM (slN (Used.ps u)) (slN (Used.ps u))); let q10 := (AV.agg 6 fun (i : Nat) => Enc.enc (List.getD bs (Int.toNat (Used.bar u)) Enc.dflt) (0 + i)); bndL [slX 4 all, slX 6 bs, AV.agg 3 (Enc.enc u)] → bsplit q1 (bsplit q1 (bsplit q1 (bsplit q1 (bsplit (!!ltB (Used.bar u) (0 :
 Int) || bsel false (ltB (Used.bar u) (0 : Int))) (bsplit (bif ltB (Used.bar u) (0 : Int) then true else leB (bs.length : Int) (Used.bar u)) q2 (bsplit ((↑(List.length (Used.ps u)) : Int) == (0 : Int)) (IntKind.i64 = .i64 ∧ (5 : Int) = kindE all bs u) ((∃ (z : Nat), ((z ≤ List.length (Used.ps u) ∧ ∀ (i : Nat), i < z → pcE all (barAt bs u) (Used.ps u) i = (0 : Int)) ∧ avM (slX 4 all) (slX 4 all) ∧ avM (slX 6 bs) (slX 6 bs) ∧ (nat_lit 0 = 0 ∧ 0 = 0) ∧ avM (slN (Used.ps u)) (slN (Used.ps u)) ∧ q3 ∧ IntKind.i64 = .i64 ∧ (0 : Int) = (z : Int)) ∧ 50 = 50 ∧ 3 = 3 ∧ q4 ∧ avM (slN (Used.at_ u)) (slN
 (Used.at_ u))) ∧ ∀ (z : Nat), let q7 := (List.getD (Used.ps u) (Int.toNat (z : Int)) Enc.dflt); let q6 := (ltB q7 (0 : Int)); let q5 := (!bsel false q6 || bsel false q6); let q8 := (!bsel true (ltB (0 : Int) (z : Int)) || bsel true (ltB (0 : Int) (z : Int))); let q9 := (AV.agg 4 fun (i : Nat) => Enc.enc (List.getD all (Int.toNat q7) Enc.dflt) (0 + i)); (z ≤ List.length (Used.ps u) ∧ ∀ (i : Nat), i < z → pcE all (barAt bs u) (Used.ps u) i = (0 : Int)) → bsplit (ltB (z : Int) (↑(List.length (Used.ps u)) : Int)) (bsplit (DB.db ((0 : Int) ≤ (z : Int) ∧ (z : Int) < (↑(List.length (Used.ps u)) :
 Int))) (bsplit q5 (bsplit q5 (bsplit q5 (bsplit (!!ltB q7 (0 : Int) || bsel false q6) (bsplit (bif ltB q7 (0 : Int) then true else leB (all.length : Int) q7) q2 (bsplit q8 (bsplit q8 (bsplit (!bsel true (ltB (0 : Int) (z : Int)) || DB.db (inK .i64 ((z : Int) - (1 : Int)))) (bsplit q8 (bsplit q8 (bsplit (!bsel true (ltB (0 : Int) (z : Int)) || DB.db ((0 : Int) ≤ (z : Int) - (1 : Int) ∧ (z : Int) - (1 : Int) < (↑(List.length (Used.ps u)) : Int))) (bsplit q8 (bsplit q8 (bsplit q8 (bsplit (!ltB (0 : Int) (z : Int) || bsel true (ltB (0 : Int) (z : Int))) (bsplit (bif ltB (0 : Int) (z : Int) then leB
 q7 (List.getD (Used.ps u) (Int.toNat ((z : Int) - (1 : Int))) Enc.dflt) else false) (IntKind.i64 = .i64 ∧ (10 : Int) = kindE all bs u) (bsplit (DB.db ((0 : Int) ≤ List.getD (Used.ps u) (Int.toNat (z : Int)) Enc.dflt ∧ List.getD (Used.ps u) (Int.toNat (z : Int)) Enc.dflt < (all.length : Int))) (bsplit (DB.db ((0 : Int) ≤ Used.bar u ∧ Used.bar u < (bs.length : Int))) (bsplit (agOk Cut q9) (bsplit (agOk Bar q10) (bsplit (!sectB (agD q9) (agD q10)) (IntKind.i64 = .i64 ∧ (8 : Int) = kindE all bs u) (bsplit (DB.db (inK .i64 ((z : Int) + (1 : Int)))) (∃ (z' : Nat), (((z' ≤ List.length (Used.ps u) ∧ ∀
 (i : Nat), i < z' → pcE all (barAt bs u) (Used.ps u) i = (0 : Int)) ∧ List.length (Used.ps u) - z' < List.length (Used.ps u) - z) ∧ avM (slX 4 all) (slX 4 all) ∧ avM (slX 6 bs) (slX 6 bs) ∧ (nat_lit 0 = 0 ∧ 0 = 0) ∧ avM (slN (Used.ps u)) (slN (Used.ps u)) ∧ q3 ∧ IntKind.i64 = .i64 ∧ (z : Int) + (1 : Int) = (z' : Int)) ∧ 50 = 50 ∧ 3 = 3 ∧ q4 ∧ avM (slN (Used.at_ u)) (slN (Used.at_ u))) False)) False) False) False) False)) False) False) False) False) False) False) False) False) False) False)) False) False) False) False) False) (IntKind.i64 = .i64 ∧ (0 : Int) = kindE all bs u)))) False) False)
 False) False) False := by
  dsimp only
  intro hb
  have e0 : (Enc.dflt : Int) = 0 := rfl
  have e1 : (Enc.dflt : Cut) = ⟨0, 0, 0, []⟩ := rfl
  have e2 : (Enc.dflt : Bar) = ⟨0, 0, 0, 0, 0, []⟩ := rfl
  simp only [slX, slN, avM_refl, true_and, and_true, bsel_true, bsel_false, vc_own, bif_or, bif_and, vc_gdb, vc_db, vc_lt, vc_le, vc_ne, vc_eq, vc_tt, Int.toNat_natCast, Nat.zero_add, Nat.zero_le, Nat.sub_zero, agD_bar, agOk_bar, agD_bar', agOk_bar', agD_cut, agOk_cut, agD_cut', agOk_cut', agD_used, agOk_used, agD_used', agOk_used', int_i, Bool.or_true, cond_true, cond_false, okC, okC', deC, deC', okB, deB, okB', deB', okIn, okIn', deI, deI', okU, okU', deU, deU', okBl, deBl, okUl, deUl, deIo, cutsOf_sl, e0, e1, e2, ltB_nat, pred_nat]
  have hl : u.ps.length ≤ 9223372036854775807 := (allB_at hb.2.2 1 (by omega)).1
  refine bsplit_iff.2 ⟨fun h1 => by unfold kindE; rw [h1]; rfl, fun h1 => ⟨fun h2 => ?_, fun h2 => ?_⟩⟩
  · unfold kindE; rw [h1, show u.ps.length = 0 by omega]; rfl
  have hk : kindE all bs u = firstN (pcE all (barAt bs u) u.ps) u.ps.length 0 := by
    unfold kindE
    rw [h1, show Nat.beq u.ps.length 0 = false from (beq_cases u.ps.length 0).elim (fun h => absurd h.2 (by omega)) fun h => h.1]
    rfl
  have hbar : 0 ≤ u.bar ∧ u.bar < bs.length := by
    rw [Bool.or_eq_false_iff, ltB_eq, leB_eq, decide_eq_false_iff_not, decide_eq_false_iff_not] at h1
    omega
  refine ⟨⟨0, ⟨by omega, fun i hi => by omega⟩, rfl⟩, fun z ⟨z1, z2⟩ => ⟨fun hz => ⟨by omega, bsplit_iff.2 ⟨fun c1 => ?_, fun c1 => ⟨fun h => by have := (blt_iff _ _).1 h; simp only [inK]; omega, fun h => by have := (blt_iff _ _).1 h; omega, bsplit_iff.2 ⟨fun c2 => ?_, fun c2 => ⟨?_, hbar, bsplit_iff.2 ⟨fun c3 => ?_, fun c3 => ⟨by simp only [inK]; omega, z + 1, ⟨⟨by omega, fun i hi => ?_⟩, by omega⟩, by omega⟩⟩⟩⟩⟩⟩⟩, fun hz => ?_⟩⟩
  · have e : pcE all (barAt bs u) u.ps z = 2 := by unfold pcE; rw [c1]; rfl
    rw [hk, firstN_at (k := z) (by omega) z2 (by rw [e]; decide), e]
  · have e : pcE all (barAt bs u) u.ps z = 10 := by unfold pcE; rw [c1, c2]; rfl
    rw [hk, firstN_at (k := z) (by omega) z2 (by rw [e]; decide), e]
  · rw [Bool.or_eq_false_iff, ltB_eq, leB_eq, decide_eq_false_iff_not, decide_eq_false_iff_not] at c1
    omega
  · have e : pcE all (barAt bs u) u.ps z = 8 := by unfold pcE; rw [c1, c2, show barAt bs u = bs.getD u.bar.toNat ⟨0, 0, 0, 0, 0, []⟩ from rfl, c3]; rfl
    rw [hk, firstN_at (k := z) (by omega) z2 (by rw [e]; decide), e]
  · by_cases e : i = z
    · rw [e]; unfold pcE; rw [c1, c2, show barAt bs u = bs.getD u.bar.toNat ⟨0, 0, 0, 0, 0, []⟩ from rfl, c3]; rfl
    · exact z2 i (by omega)
  · rw [hk, firstN_none fun i hi => z2 i (by omega)]
def kind_t : List AV → Option (List Cond × AV)
  | [x, y, z] => some ([.b (slOk Cut x), .b (slOk Bar y), .b (agOk Used z)], .i (kindE (slD x) (slD y) (agD z)))
  | _ => none
theorem kind_T : PureT Tryz.prog [] 59 kind_t := by
  intro xs ps r h hp
  unfold kind_t at h
  split at h
  · rename_i x y z
    cases h
    exact weaken (ys := [_, _, _]) ⟨slE_sound (hp _ List.mem_cons_self), slE_sound (hp _ (List.mem_cons_of_mem _ List.mem_cons_self)), agE_sound (hp _ (List.mem_cons_of_mem _ (List.mem_cons_of_mem _ List.mem_cons_self))), trivial⟩
      (pure_of_vc mixed (TbSound.plus tb0_sound sectA_T) (Eq.mp (by kernel_rfl) (kind_vc (slD x) (slD y) (agD z)) : vcFn Tryz.prog (T0.plus 80 sect_t) 59 (kind_an (slD x) (slD y) (agD z)) [slE (slD x), slE (slD y), agE (agD z)] (.i (kindE (slD x) (slD y) (agD z)))))
  · cases h
theorem kindE_ok {all : List Cut} {bs : List Bar} {u : Used} (h : kindE all bs u = 0) :
    0 ≤ u.bar ∧ u.bar < bs.length ∧ 0 < u.ps.length ∧ inL all u.ps = true ∧ ascL u.ps = true := by
  unfold kindE at h
  cases c1 : ltB u.bar 0 || leB (bs.length : Int) u.bar with
  | true => rw [c1] at h; cases h
  | false =>
  rw [c1] at h
  cases c2 : Nat.beq u.ps.length 0 with
  | true => rw [c2] at h; cases h
  | false =>
  rw [c2] at h
  rw [Bool.or_eq_false_iff, ltB_eq, leB_eq, decide_eq_false_iff_not, decide_eq_false_iff_not] at c1
  have c3 := Nat.ne_of_beq_eq_false c2
  have hp : ∀ i, i < u.ps.length → 0 ≤ u.ps.getD i 0 ∧ u.ps.getD i 0 < all.length ∧ (0 < i → u.ps.getD (i - 1) 0 < u.ps.getD i 0) := fun i hi => by
    have := firstN_all (z := 0) h i hi
    rw [Nat.zero_add] at this
    unfold pcE at this
    cases d1 : ltB (u.ps.getD i 0) 0 || leB (all.length : Int) (u.ps.getD i 0) with
    | true => rw [d1] at this; cases this
    | false =>
    rw [d1] at this
    cases d2 : Nat.blt 0 i && leB (u.ps.getD i 0) (u.ps.getD (i - 1) 0) with
    | true => rw [d2] at this; cases this
    | false =>
    rw [Bool.or_eq_false_iff, ltB_eq, leB_eq, decide_eq_false_iff_not, decide_eq_false_iff_not] at d1
    refine ⟨by omega, by omega, fun h0 => ?_⟩
    rw [(blt_iff _ _).2 h0, Bool.true_and, leB_eq, decide_eq_false_iff_not] at d2
    omega
  refine ⟨by omega, by omega, by omega, ?_, allN_of fun i hi => decide_eq_true ?_⟩
  · unfold inL
    rw [List.all_eq_true]
    intro x hx
    obtain ⟨i, hi, rfl⟩ := List.getElem_of_mem hx
    have := hp i hi
    rw [List.getD_eq_getElem?_getD, List.getElem?_eq_getElem hi, Option.getD_some] at this
    rw [Bool.and_eq_true, leB_iff, ltB_iff]
    omega
  · have := (hp (i + 1) (by omega)).2.2 (by omega)
    simpa using this
def seesAt (x : AV) (n : Nat) : Bool := (slD (α := Bool) x).getD n false
theorem sees_vc (n : Int) (l : List Bool) (h0 : 0 ≤ n) (hn : n < l.length) : bndL [AV.v (Value.int .i64 n), AV.xq 1 (fun (x : Nat) => AV.xl false 1 (l.length) fun i j => AV.v (Value.bool (List.getD l i Enc.dflt))) 0] → bsplit (DB.db ((0 : Int) ≤ n ∧ n < (l.length : Int))) (List.getD l (Int.toNat n) Enc.dflt = List.getD l (Int.toNat n) false) False := by
  intro hb
  simp only [slX, slN, avM_refl, true_and, and_true, bsel_true, bsel_false, vc_own, bif_or, bif_and, vc_gdb, vc_db, vc_lt, vc_le, vc_ne, vc_eq, vc_tt, Int.toNat_natCast, Nat.zero_add, Nat.zero_le, Nat.sub_zero, agD_bar, agOk_bar, agD_bar', agOk_bar', agD_cut, agOk_cut, agD_cut', agOk_cut', agD_used, agOk_used, agD_used', agOk_used', int_i, Bool.or_true, cond_true, cond_false]
  exact ⟨⟨h0, hn⟩, rfl⟩
def sees_t : List AV → Option (List Cond × AV)
  | [.v (.int .i64 n), .xq 1 cells 0] => some ([.b (slOk Bool (cells 0)), .b (leB 0 n && ltB n ((boolsOf (cells 0)).length : Int))], .b ((boolsOf (cells 0)).getD n.toNat false))
  | _ => none
theorem sees_T : PureT Tryz.prog [] 60 sees_t := by
  intro xs ps r h hp
  unfold sees_t at h
  split at h
  · rename_i n cells
    cases h
    have h2 : (leB 0 n && ltB n ((boolsOf (cells 0)).length : Int)) = true := hp _ (List.mem_cons_of_mem _ List.mem_cons_self)
    rw [Bool.and_eq_true, leB_iff, ltB_iff] at h2
    exact weaken (ys := [.i n, .xq 1 (fun _ => slE (boolsOf (cells 0))) 0]) ⟨avM_refl _, ⟨rfl, rfl, slE_sound (hp _ List.mem_cons_self)⟩, trivial⟩
      (pure_of_vc mixed tb0_sound (Eq.mp (by kernel_rfl) (sees_vc n (boolsOf (cells 0)) h2.1 h2.2) : vcFn Tryz.prog T0 60 .auto [.i n, .xq 1 (fun _ => slE (boolsOf (cells 0))) 0] (.b ((boolsOf (cells 0)).getD n.toNat false))))
  · cases h
def fnS (s : List Bool) : AV := .fn (.func 60) 0 (fun _ => .junk) 1 (fun _ => .xq 1 (fun _ => slE s) 0)
def inS (l : List Int) (s : List Bool) : Bool := l.all fun n => leB 0 n && ltB n (s.length : Int)
theorem inS_at {l : List Int} {s : List Bool} (h : inS l s = true) {i : Nat} (hi : i < l.length) : 0 ≤ l.getD i 0 ∧ l.getD i 0 < s.length := by
  have := List.all_eq_true.1 h (l.getD i 0) (by rw [List.getD_eq_getElem?_getD, List.getElem?_eq_getElem hi]; exact List.getElem_mem hi)
  rw [Bool.and_eq_true, leB_iff, ltB_iff] at this
  exact this
def seenIn (s : List Bool) (n : Int) : Bool := s.getD n.toNat false
theorem idxS_vc (l : List Int) (s : List Bool) (h : inS l s = true) :
 let q1 := (AV.fn (Fn.func (60 : FuncId)) 0 (fun (x : Nat) => AV.junk) 1 fun (x : Nat) => AV.xq 1 (fun (x : Nat) => AV.xl false 1 (s.length) fun i j => AV.v (Value.bool (List.getD s i Enc.dflt))) 0); let q2 := (IntKind.i64 = .i64 ∧ (l.length : Int) = (l.length : Int)); let q3 := (AV.xl false 1 (s.length) fun i j => AV.v (Value.bool (List.getD s i Enc.dflt))); let q5 := (boolsOf q3); bndL [slN l, AV.fn (Fn.func (60 : FuncId)) 0 (fun (x : Nat) => AV.junk) 1 fun (x : Nat) => AV.xq 1 (fun (x : Nat) => AV.xl false 1 (s.length) fun i j => AV.v (Value.bool (List.getD s i Enc.dflt))) 0] → (∃ (z : Nat),
 ((z ≤ l.length ∧ idxF (seenIn s) (List.drop z l) z = idxF (seenIn s) l 0) ∧ avM (slN l) (slN l) ∧ avM q1 q1 ∧ avM (slN l) (slN l) ∧ q2 ∧ IntKind.i64 = .i64 ∧ (0 : Int) = (z : Int)) ∧ True) ∧ ∀ (z : Nat), let q4 := (List.getD l (Int.toNat (z : Int)) Enc.dflt); z ≤ l.length ∧ idxF (seenIn s) (List.drop z l) z = idxF (seenIn s) l 0 → bsplit (ltB (z : Int) (l.length : Int)) (bsplit (DB.db ((0 : Int) ≤ (z : Int) ∧ (z : Int) < (l.length : Int))) (bsplit (slOk Bool q3) (bsplit (leB (0 : Int) q4 && ltB q4 (↑(List.length q5) : Int)) (bsplit (List.getD q5 (Int.toNat q4) false) (IntKind.i64 = .i64 ∧ (z :
 Int) = idxF (seenIn s) l 0) (bsplit (DB.db (inK .i64 ((z : Int) + (1 : Int)))) (∃ (z' : Nat), (((z' ≤ l.length ∧ idxF (seenIn s) (List.drop z' l) z' = idxF (seenIn s) l 0) ∧ l.length - z' < l.length - z) ∧ avM (slN l) (slN l) ∧ avM q1 q1 ∧ avM (slN l) (slN l) ∧ q2 ∧ IntKind.i64 = .i64 ∧ (z : Int) + (1 : Int) = (z' : Int)) ∧ True) False)) False) False) False) (IntKind.i64 = .i64 ∧ (-1 : Int) = idxF (seenIn s) l 0) := by
  dsimp only
  intro hb
  have hl : l.length ≤ 9223372036854775807 := hb.1.1
  have e0 : (Enc.dflt : Int) = 0 := rfl
  have okBo : ∀ s : List Bool, slOk Bool (AV.xl false 1 s.length fun i j => AV.v (Value.bool (s.getD i Enc.dflt))) = true := fun s => slOk_slE s
  have deBo : ∀ s : List Bool, boolsOf (AV.xl false 1 s.length fun i j => AV.v (Value.bool (s.getD i Enc.dflt))) = s := fun s => slD_slE s
  simp only [slX, slN, avM_refl, true_and, and_true, bsel_true, bsel_false, vc_own, bif_or, bif_and, vc_gdb, vc_db, vc_lt, vc_le, vc_ne, vc_eq, vc_tt, Int.toNat_natCast, Nat.zero_add, Nat.zero_le, Nat.sub_zero, agD_bar, agOk_bar, agD_bar', agOk_bar', agD_cut, agOk_cut, agD_cut', agOk_cut', agD_used, agOk_used, agD_used', agOk_used', int_i, Bool.or_true, cond_true, cond_false, e0, okBo, deBo]
  refine ⟨⟨0, ⟨by omega, rfl⟩, rfl⟩, fun z ⟨h1, h2⟩ => ⟨fun hz => ⟨by omega, vc_b.2 ⟨?_, (bsplit_iff (t := seenIn s (l.getD z 0))).2 ⟨fun hp => ?_, fun hp => ?_⟩⟩⟩, fun hz => ?_⟩⟩
  · have := inS_at h (i := z) (by omega)
    rw [Bool.and_eq_true, leB_iff, ltB_iff]
    exact this
  · rw [getD_drop (d := 0) (by omega), idxF, hp] at h2; exact h2
  · rw [getD_drop (d := 0) (by omega), idxF, hp] at h2
    exact ⟨by simp only [inK]; omega, z + 1, ⟨⟨by omega, h2⟩, by omega⟩, by omega⟩
  · rw [show z = l.length by omega, List.drop_length] at h2; exact h2
theorem idxS_C (l : List Int) (s : List Bool) (h : inS l s = true) : PureCall Tryz.prog [] 82 [slE l, fnS s] (.i (idxF (seenIn s) l 0)) :=
  pure_of_vc mixed (TbSound.plus tb0_sound sees_T) (Eq.mp (by kernel_rfl) (idxS_vc l s h) : vcFn Tryz.prog (T0.plus 60 sees_t) 82 (idx_an l (seenIn s)) [slE l, fnS s] (.i (idxF (seenIn s) l 0)))
theorem conS_vc (l : List Int) (s : List Bool) : bndL [AV.xl false 1 (l.length) fun i j => AV.v (Value.int .i64 (List.getD l i Enc.dflt)), AV.fn (Fn.func (60 : FuncId)) 0 (fun (x : Nat) => AV.junk) 1 fun (x : Nat) => AV.xq 1 (fun (x : Nat) => AV.xl false 1 (s.length) fun i j => AV.v (Value.bool (List.getD s i Enc.dflt))) 0] → Wk [AV.xl false 1 (l.length) fun i j => AV.v (Value.int .i64 (List.getD l i Enc.dflt)), AV.fn (Fn.func (60 : FuncId)) 0 (fun (x : Nat) => AV.junk) 1 fun (x : Nat) => AV.xq 1 (fun (x : Nat) => AV.xl false 1 (s.length) fun i j => AV.v (Value.bool (List.getD s i Enc.dflt)))
 0] [AV.xl false 1 (l.length) fun i j => AV.v (Value.int .i64 (List.getD l i Enc.dflt)), AV.fn (Fn.func (60 : FuncId)) 0 (fun (x : Nat) => AV.junk) 1 fun (x : Nat) => AV.xq 1 (fun (x : Nat) => AV.xl false 1 (s.length) fun i j => AV.v (Value.bool (List.getD s i Enc.dflt))) 0] ∧ leB (0 : Int) (idxF (seenIn s) l 0) = List.any l (seenIn s) := by
  intro hb
  exact ⟨Wk.refl _, idxF_any _ _ _⟩
def conS_t : List AV → Option (List Cond × AV)
  | [x, .fn (.func f) nf a nc c] =>
    match c 0 with
    | .xq 1 cells 0 => bif Nat.beq f 60 && Nat.beq nf 0 && Nat.beq nc 1 then some ([.b (slOk Int x), .b (slOk Bool (cells 0)), .b (inS (slD x) (boolsOf (cells 0)))], .b ((slD (α := Int) x).any (seenIn (boolsOf (cells 0))))) else none
    | _ => none
  | _ => none
theorem conS_T : PureT Tryz.prog [] 45 conS_t := by
  intro xs ps r h hp
  unfold conS_t at h
  split at h
  · rename_i x f nf a nc c
    split at h
    · rename_i cells hc0
      cases hc : Nat.beq f 60 && Nat.beq nf 0 && Nat.beq nc 1 with
      | false => rw [hc] at h; cases h
      | true =>
        rw [hc] at h
        cases h
        simp only [Bool.and_eq_true] at hc
        obtain rfl := Nat.eq_of_beq_eq_true hc.1.1
        obtain rfl := Nat.eq_of_beq_eq_true hc.1.2
        obtain rfl := Nat.eq_of_beq_eq_true hc.2
        have h1 : slOk Int x = true := hp _ List.mem_cons_self
        have h2 : slOk Bool (cells 0) = true := hp _ (List.mem_cons_of_mem _ List.mem_cons_self)
        have h3 : inS (slD x) (boolsOf (cells 0)) = true := hp _ (List.mem_cons_of_mem _ (List.mem_cons_of_mem _ List.mem_cons_self))
        refine weaken (ys := [slE (slD (α := Int) x), fnS (boolsOf (cells 0))]) ⟨slE_sound h1, ⟨rfl, rfl, rfl, trivial, ?_⟩, trivial⟩
          (pure_of_vc mixed (TbSound.plus tb0_sound (inst_T (idxS_C _ _ h3))) (Eq.mp (by kernel_rfl) (conS_vc (slD x) (boolsOf (cells 0))) : vcFn Tryz.prog (T0.plus 82 (inst [slE (slD x), fnS (boolsOf (cells 0))] (.i (idxF (seenIn (boolsOf (cells 0))) (slD x) 0)))) 45 .auto [slE (slD x), fnS (boolsOf (cells 0))] (.b ((slD (α := Int) x).any (seenIn (boolsOf (cells 0)))))))
        show avM (c 0) _
        rw [hc0]
        exact ⟨rfl, rfl, slE_sound h2⟩
    · cases h
  · cases h
end Go.Tz

/- kingpostref45.bar and Check. -/
set_option linter.unusedSimpArgs false
namespace Go.Tz
open Go Go.Sx Go.Proofs
set_option maxRecDepth 100000
set_option maxHeartbeats 4000000
theorem asc_le {l : List Int} {n : Nat} (h : ∀ i, i < l.length → 0 ≤ l.getD i 0 ∧ l.getD i 0 < n) (ha : ascL l = true) : l.length ≤ n := by
  have hi : ∀ i, i < l.length → (i : Int) ≤ l.getD i 0 := by
    intro i
    induction i with
    | zero => intro hi; exact (h 0 hi).1
    | succ i ih =>
      intro hi
      have h1 := ih (by omega)
      have h2 := of_decide_eq_true (allN_true ha i (by omega))
      omega
  by_cases hz : l.length = 0
  · omega
  have h1 := hi (l.length - 1) (by omega)
  have h2 := (h (l.length - 1) (by omega)).2
  omega
def seenU (l : List Used) : Nat → List Int
  | 0 => []
  | z + 1 => seenU l z ++ (usedAt l z).ps
def memI (s : List Int) (n : Int) : Bool := s.any fun m => m == n
def laidOk (all : List Cut) (bs : List Bar) (k : Int) (u : Used) : Bool := fitsOk (barAt bs u) (lensL all u.ps) k
def laidAt (all : List Cut) (bs : List Bar) (k : Int) (u : Used) : List Int := fitsAt (barAt bs u) (lensL all u.ps) k
def oneE (all : List Cut) (bs : List Bar) (k : Int) (l : List Used) (i : Nat) : Int :=
  bif kindE all bs (usedAt l i) != 0 then kindE all bs (usedAt l i)
  else bif (usedAt l i).ps.any (memI (seenU l i)) then 7
  else bif !laidOk all bs k (usedAt l i) then 22
  else bif !decide (laidAt all bs k (usedAt l i) = (usedAt l i).at_) then 9
  else bif ltB (barAt bs (usedAt l i)).n (usedN (l.take (i + 1)) (usedAt l i).bar) then 22 else 0
theorem memI_app (s t : List Int) (n : Int) : memI (s ++ t) n = (memI s n || memI t n) := List.any_append
theorem hasB_memI (s : List Int) (n : Int) : hasB s n = memI s n := rfl
theorem kind_bar {all : List Cut} {bs : List Bar} {u : Used} (h : (ltB u.bar 0 || leB (bs.length : Int) u.bar) = true) : kindE all bs u = 2 := by unfold kindE; rw [h]; rfl
theorem kind_empty {all : List Cut} {bs : List Bar} {u : Used} (h : (ltB u.bar 0 || leB (bs.length : Int) u.bar) = false) (h2 : u.ps.length = 0) : kindE all bs u = 5 := by unfold kindE; rw [h, h2]; rfl
theorem kind_first {all : List Cut} {bs : List Bar} {u : Used} (h : (ltB u.bar 0 || leB (bs.length : Int) u.bar) = false) (h2 : u.ps.length ≠ 0) : kindE all bs u = firstN (pcE all (barAt bs u) u.ps) u.ps.length 0 := by
  unfold kindE
  rw [h, show Nat.beq u.ps.length 0 = false from (beq_cases u.ps.length 0).elim (fun h => absurd h.2 (by omega)) fun h => h.1]
  rfl
section
variable {all : List Cut} {bs : List Bar} {k : Int} {l : List Used} {i : Nat}
theorem one_kind (h : kindE all bs (usedAt l i) ≠ 0) : oneE all bs k l i = kindE all bs (usedAt l i) := by unfold oneE; rw [bne_iff_ne.2 h]; rfl
theorem one_seen (h : kindE all bs (usedAt l i) = 0) (h2 : (usedAt l i).ps.any (memI (seenU l i)) = true) : oneE all bs k l i = 7 := by unfold oneE; rw [h, h2]; rfl
theorem one_lay (h : kindE all bs (usedAt l i) = 0) (h2 : (usedAt l i).ps.any (memI (seenU l i)) = false) (h3 : laidOk all bs k (usedAt l i) = false) : oneE all bs k l i = 22 := by unfold oneE; rw [h, h2, h3]; rfl
theorem one_at (h : kindE all bs (usedAt l i) = 0) (h2 : (usedAt l i).ps.any (memI (seenU l i)) = false) (h3 : laidOk all bs k (usedAt l i) = true) (h4 : laidAt all bs k (usedAt l i) ≠ (usedAt l i).at_) : oneE all bs k l i = 9 := by
  unfold oneE; rw [h, h2, h3, decide_eq_false h4]; rfl
theorem one_n (h : kindE all bs (usedAt l i) = 0) (h2 : (usedAt l i).ps.any (memI (seenU l i)) = false) (h3 : laidOk all bs k (usedAt l i) = true) (h4 : laidAt all bs k (usedAt l i) = (usedAt l i).at_) :
    oneE all bs k l i = bif ltB (barAt bs (usedAt l i)).n (usedN (l.take (i + 1)) (usedAt l i).bar) then 22 else 0 := by
  unfold oneE; rw [h, h2, h3, decide_eq_true h4]; rfl
end
theorem seen_mono {l : List Used} {n : Int} {a b : Nat} (h : a ≤ b) (hm : memI (seenU l a) n = true) : memI (seenU l b) n = true := by
  induction b with
  | zero => rw [show a = 0 by omega] at hm; exact hm
  | succ b ih =>
    by_cases e : a = b + 1
    · rw [← e]; exact hm
    · rw [seenU, memI_app, ih (by omega)]; rfl
theorem laid_len {all : List Cut} {bs : List Bar} {k : Int} {u : Used} (h : laidOk all bs k u = true) : (laidAt all bs k u).length = u.ps.length := by
  unfold laidAt
  rw [fitsAt_len h, lens_len]
def rbar_an (all : List Cut) (bs : List Bar) (k : Int) (l : List Used) (i : Nat) : Ann :=
  .two .auto (.two .auto (.two .auto (.two .auto (.two (.two .auto (.one (.loop Nat (fun σ z => [(0, σ.tm 0), (1, σ.tm 1), (2, σ.tm 2), (3, σ.tm 3), (4, σ.tm 4), (11, σ.tm 11), (12, .i z)]) (fun σ z => []) 0 (fun σ z => z ≤ (usedAt l i).ps.length ∧ ∀ a, a < z → pcE all (barAt bs (usedAt l i)) (usedAt l i).ps a = 0) (fun σ z => (usedAt l i).ps.length - z) .auto))) (.two (.two .auto (.one (.loop Nat (fun σ z => [(0, σ.tm 0), (1, σ.tm 1), (2, σ.tm 2), (3, σ.tm 3), (4, σ.tm 4), (11, σ.tm 11), (14, .i z)]) (fun σ z => []) 0 (fun σ z => z ≤ (usedAt l i).ps.length ∧ ∀ a, a < z → memI (seenU l i) ((usedAt l i).ps.getD a 0) = false) (fun σ z => (usedAt l i).ps.length - z) (.two .auto (.two (.one (.two .auto (.one (.loop Nat (fun σ z => [(0, σ.tm 0), (1, σ.tm 1), (2, σ.tm 2), (3, σ.tm 3), (4, σ.tm 4), (11, σ.tm 11), (14, σ.tm 14), (15, .i z)]) (fun σ z => []) 0 (fun σ z => z ≤ i ∧ memI (seenU l z) ((usedAt l i).ps.getD (AV.int (σ.tm 14)).toNat 0) = false) (fun σ z => i - z) .auto)))) .auto))))) (.two .auto (.two .auto (.two .auto (.two (.two .auto (.one (.loop Nat (fun σ z => [(1, σ.tm 1), (3, σ.tm 3), (4, σ.tm 4), (11, σ.tm 11), (16, σ.tm 16), (18, .i z)]) (fun σ z => []) 0 (fun σ z => z ≤ (laidAt all bs k (usedAt l i)).length ∧ ∀ a, a < z → (laidAt all bs k (usedAt l i)).getD a 0 = (usedAt l i).at_.getD a 0) (fun σ z => (laidAt all bs k (usedAt l i)).length - z) .auto))) .auto)))))))))
def Trb2 : Tb := (((T0.plus 90 sect_t).plus 91 hasI_t).plus 92 laid_t).plus 93 used_t
theorem Trb2_sound : TbSound Tryz.prog Trb2 := TbSound.plus (TbSound.plus (TbSound.plus (TbSound.plus tb0_sound sectR_T) has_T) laid_T) used_T
theorem rbar_vc (all : List Cut) (bs : List Bar) (k : Int) (l : List Used) (i : Nat) (ha : all.length ≤ 64) (hi : i < l.length) (hl : l.length ≤ 64) :
 let q4 := (List.getD l (Int.toNat (i : Int)) Enc.dflt); let q3 := (Used.bar q4); let q2 := (ltB q3 (0 : Int)); let q1 := (!bsel false q2 || bsel false q2); let q5 := (IntKind.i64 = .i64 ∧ (2 : Int) = oneE all bs k l i); let q8 := (Used.ps q4); let q7 := (List.length q8); let q6 := (↑q7 : Int); let q9 := (IntKind.i64 = .i64 ∧ (i : Int) = (i : Int)); let q11 := (AV.xl false 1 q7 fun (i_1 j : Nat) => AV.v (Value.int .i64 (List.getD q8 i_1 Enc.dflt))); let q10 := ((IntKind.i64 = .i64 ∧ Used.bar q4 = Used.bar q4) ∧ avM q11 q11); let q14 := (Used.at_ q4); let q13 := (List.length q14); let q12 :=
 (AV.xl false 1 q13 fun (i_1 j : Nat) => AV.v (Value.int .i64 (List.getD q14 i_1 Enc.dflt))); let q19 := (DB.db ((0 : Int) ≤ Used.bar q4 ∧ Used.bar q4 < (bs.length : Int))); let q23 := (List.getD bs (Int.toNat q3) Enc.dflt); let q22 := (AV.agg 6 fun (i_1 : Nat) => Enc.enc q23 (0 + i_1)); let q21 := (agOk Bar q22); let q24 := (agD q22); let q28 := (slD q11); let q29 := (lensL (slD (slX 4 all)) q28); let q30 := (IntKind.i64 = .i64 ∧ (22 : Int) = oneE all bs k l i); let q33 := (fitsAt q24 q29 k); let q32 := (List.length q33); let q31 := (↑q32 : Int); let q34 := (↑q13 : Int); let q35 := (IntKind.i64
 = .i64 ∧ (9 : Int) = oneE all bs k l i); let q36 := (AV.xl false 1 q32 fun (i_1 j : Nat) => AV.v (Value.int .i64 (List.getD (fitsAt (agD (AV.agg 6 fun (i_2 : Nat) => Enc.enc q23 (0 + i_2))) (lensL (slD (slX 4 all)) (slD (AV.xl false 1 q7 fun (i_2 j : Nat) => AV.v (Value.int .i64 (List.getD q8 i_2 Enc.dflt))))) k) i_1 Enc.dflt))); bndL [slX 4 all, slX 6 bs, AV.v (Value.int .i64 k), slX 3 l, AV.v (Value.int .i64 (i : Int))] → bsplit (DB.db ((0 : Int) ≤ (i : Int) ∧ (i : Int) < (l.length : Int))) (bsplit q1 (bsplit q1 (bsplit q1 (bsplit q1 (bsplit (!!ltB q3 (0 : Int) || bsel false q2) (bsplit (bif
 ltB q3 (0 : Int) then true else leB (bs.length : Int) q3) q5 (bsplit (q6 == (0 : Int)) (IntKind.i64 = .i64 ∧ (5 : Int) = oneE all bs k l i) ((∃ (z : Nat), ((z ≤ List.length (Used.ps (usedAt l i)) ∧ ∀ (a : Nat), a < z → pcE all (barAt bs (usedAt l i)) (Used.ps (usedAt l i)) a = (0 : Int)) ∧ avM (slX 4 all) (slX 4 all) ∧ avM (slX 6 bs) (slX 6 bs) ∧ (IntKind.i64 = .i64 ∧ k = k) ∧ avM (slX 3 l) (slX 3 l) ∧ q9 ∧ (nat_lit 0 = 0 ∧ 0 = 0) ∧ IntKind.i64 = .i64 ∧ (0 : Int) = (z : Int)) ∧ 50 = 50 ∧ 3 = 3 ∧ q10 ∧ avM q12 q12) ∧ ∀ (z : Nat), let q17 := (List.getD q8 (Int.toNat (z : Int)) Enc.dflt); let q16
 := (ltB q17 (0 : Int)); let q15 := (!bsel false q16 || bsel false q16); let q18 := (!bsel true (ltB (0 : Int) (z : Int)) || bsel true (ltB (0 : Int) (z : Int))); let q20 := (AV.agg 4 fun (i_1 : Nat) => Enc.enc (List.getD all (Int.toNat q17) Enc.dflt) (0 + i_1)); (z ≤ List.length (Used.ps (usedAt l i)) ∧ ∀ (a : Nat), a < z → pcE all (barAt bs (usedAt l i)) (Used.ps (usedAt l i)) a = (0 : Int)) → bsplit (ltB (z : Int) q6) (bsplit (DB.db ((0 : Int) ≤ (z : Int) ∧ (z : Int) < q6)) (bsplit q15 (bsplit q15 (bsplit q15 (bsplit (!!ltB q17 (0 : Int) || bsel false q16) (bsplit (bif ltB q17 (0 : Int) then
 true else leB (all.length : Int) q17) q5 (bsplit q18 (bsplit q18 (bsplit (!bsel true (ltB (0 : Int) (z : Int)) || DB.db (inK .i64 ((z : Int) - (1 : Int)))) (bsplit q18 (bsplit q18 (bsplit (!bsel true (ltB (0 : Int) (z : Int)) || DB.db ((0 : Int) ≤ (z : Int) - (1 : Int) ∧ (z : Int) - (1 : Int) < q6)) (bsplit q18 (bsplit q18 (bsplit q18 (bsplit (!ltB (0 : Int) (z : Int) || bsel true (ltB (0 : Int) (z : Int))) (bsplit (bif ltB (0 : Int) (z : Int) then leB q17 (List.getD q8 (Int.toNat ((z : Int) - (1 : Int))) Enc.dflt) else false) (IntKind.i64 = .i64 ∧ (10 : Int) = oneE all bs k l i) (bsplit (DB.db
 ((0 : Int) ≤ List.getD q8 (Int.toNat (z : Int)) Enc.dflt ∧ List.getD q8 (Int.toNat (z : Int)) Enc.dflt < (all.length : Int))) (bsplit q19 (bsplit (agOk Cut q20) (bsplit q21 (bsplit (!sectB (agD q20) q24) (IntKind.i64 = .i64 ∧ (8 : Int) = oneE all bs k l i) (bsplit (DB.db (inK .i64 ((z : Int) + (1 : Int)))) (∃ (z' : Nat), (((z' ≤ List.length (Used.ps (usedAt l i)) ∧ ∀ (a : Nat), a < z' → pcE all (barAt bs (usedAt l i)) (Used.ps (usedAt l i)) a = (0 : Int)) ∧ List.length (Used.ps (usedAt l i)) - z' < List.length (Used.ps (usedAt l i)) - z) ∧ avM (slX 4 all) (slX 4 all) ∧ avM (slX 6 bs) (slX 6 bs)
 ∧ (IntKind.i64 = .i64 ∧ k = k) ∧ avM (slX 3 l) (slX 3 l) ∧ q9 ∧ (nat_lit 0 = 0 ∧ 0 = 0) ∧ IntKind.i64 = .i64 ∧ (z : Int) + (1 : Int) = (z' : Int)) ∧ 50 = 50 ∧ 3 = 3 ∧ q10 ∧ avM q12 q12) False)) False) False) False) False)) False) False) False) False) False) False) False) False) False) False)) False) False) False) False) False) ((∃ (z : Nat), ((z ≤ List.length (Used.ps (usedAt l i)) ∧ ∀ (a : Nat), a < z → memI (seenU l i) (List.getD (Used.ps (usedAt l i)) a (0 : Int)) = false) ∧ avM (slX 4 all) (slX 4 all) ∧ avM (slX 6 bs) (slX 6 bs) ∧ (IntKind.i64 = .i64 ∧ k = k) ∧ avM (slX 3 l) (slX 3 l) ∧ q9
 ∧ (nat_lit 0 = 0 ∧ 0 = 0) ∧ IntKind.i64 = .i64 ∧ (0 : Int) = (z : Int)) ∧ 50 = 50 ∧ 3 = 3 ∧ q10 ∧ avM q12 q12) ∧ ∀ (z : Nat), let q25 := (List.getD (Used.ps (usedAt l i)) (Int.toNat (AV.int (AV.v (Value.int .i64 (z : Int))))) (0 : Int)); let q26 := (IntKind.i64 = .i64 ∧ (z : Int) = (z : Int)); (z ≤ List.length (Used.ps (usedAt l i)) ∧ ∀ (a : Nat), a < z → memI (seenU l i) (List.getD (Used.ps (usedAt l i)) a (0 : Int)) = false) → bsplit (ltB (z : Int) q6) ((∃ (z_1 : Nat), ((z_1 ≤ i ∧ memI (seenU l z_1) q25 = false) ∧ avM (slX 4 all) (slX 4 all) ∧ avM (slX 6 bs) (slX 6 bs) ∧ (IntKind.i64 = .i64 ∧
 k = k) ∧ avM (slX 3 l) (slX 3 l) ∧ q9 ∧ (nat_lit 0 = 0 ∧ 0 = 0) ∧ q26 ∧ IntKind.i64 = .i64 ∧ (0 : Int) = (z_1 : Int)) ∧ 50 = 50 ∧ 3 = 3 ∧ q10 ∧ avM q12 q12) ∧ ∀ (z_1 : Nat), let q27 := (slN (Used.ps (List.getD l (Int.toNat (z_1 : Int)) Enc.dflt))); z_1 ≤ i ∧ memI (seenU l z_1) q25 = false → bsplit (ltB (z_1 : Int) (i : Int)) (bsplit (DB.db ((0 : Int) ≤ (z_1 : Int) ∧ (z_1 : Int) < (l.length : Int))) (bsplit (DB.db ((0 : Int) ≤ (z : Int) ∧ (z : Int) < q6)) (bsplit (slOk Int q27) (bsplit (hasB (slD q27) (List.getD q8 (Int.toNat (z : Int)) Enc.dflt)) (IntKind.i64 = .i64 ∧ (7 : Int) = oneE all bs k
 l i) (bsplit (DB.db (inK .i64 ((z_1 : Int) + (1 : Int)))) (∃ (z' : Nat), (((z' ≤ i ∧ memI (seenU l z') q25 = false) ∧ i - z' < i - z_1) ∧ avM (slX 4 all) (slX 4 all) ∧ avM (slX 6 bs) (slX 6 bs) ∧ (IntKind.i64 = .i64 ∧ k = k) ∧ avM (slX 3 l) (slX 3 l) ∧ q9 ∧ (nat_lit 0 = 0 ∧ 0 = 0) ∧ q26 ∧ IntKind.i64 = .i64 ∧ (z_1 : Int) + (1 : Int) = (z' : Int)) ∧ 50 = 50 ∧ 3 = 3 ∧ q10 ∧ avM q12 q12) False)) False) False) False) (bsplit (DB.db (inK .i64 ((z : Int) + (1 : Int)))) (∃ (z' : Nat), (((z' ≤ List.length (Used.ps (usedAt l i)) ∧ ∀ (a : Nat), a < z' → memI (seenU l i) (List.getD (Used.ps (usedAt l i))
 a (0 : Int)) = false) ∧ List.length (Used.ps (usedAt l i)) - z' < List.length (Used.ps (usedAt l i)) - z) ∧ avM (slX 4 all) (slX 4 all) ∧ avM (slX 6 bs) (slX 6 bs) ∧ (IntKind.i64 = .i64 ∧ k = k) ∧ avM (slX 3 l) (slX 3 l) ∧ q9 ∧ (nat_lit 0 = 0 ∧ 0 = 0) ∧ IntKind.i64 = .i64 ∧ (z : Int) + (1 : Int) = (z' : Int)) ∧ 50 = 50 ∧ 3 = 3 ∧ q10 ∧ avM q12 q12) False)) (bsplit q19 (bsplit (slOk Cut (slX 4 all)) (bsplit q21 (bsplit (slOk Int q11) (bsplit (inL (slD (slX 4 all)) q28 && Nat.blt (List.length (intsOf q11)) 1000000000) (bsplit (!fitsOk q24 q29 k) q30 (bsplit (q31 != q34) q35 ((∃ (z : Nat), ((z ≤
 List.length (laidAt all bs k (usedAt l i)) ∧ ∀ (a : Nat), a < z → List.getD (laidAt all bs k (usedAt l i)) a (0 : Int) = List.getD (Used.at_ (usedAt l i)) a (0 : Int)) ∧ avM (slX 6 bs) (slX 6 bs) ∧ avM (slX 3 l) (slX 3 l) ∧ q9 ∧ (nat_lit 0 = 0 ∧ 0 = 0) ∧ avM q36 q36 ∧ IntKind.i64 = .i64 ∧ (0 : Int) = (z : Int)) ∧ 50 = 50 ∧ 3 = 3 ∧ q10 ∧ avM q12 q12) ∧ ∀ (z : Nat), (z ≤ List.length (laidAt all bs k (usedAt l i)) ∧ ∀ (a : Nat), a < z → List.getD (laidAt all bs k (usedAt l i)) a (0 : Int) = List.getD (Used.at_ (usedAt l i)) a (0 : Int)) → bsplit (ltB (z : Int) q31) (bsplit (DB.db ((0 : Int) ≤ (z :
 Int) ∧ (z : Int) < q31)) (bsplit (DB.db ((0 : Int) ≤ (z : Int) ∧ (z : Int) < q34)) (bsplit (List.getD q33 (Int.toNat (z : Int)) Enc.dflt != List.getD q14 (Int.toNat (z : Int)) Enc.dflt) q35 (bsplit (DB.db (inK .i64 ((z : Int) + (1 : Int)))) (∃ (z' : Nat), (((z' ≤ List.length (laidAt all bs k (usedAt l i)) ∧ ∀ (a : Nat), a < z' → List.getD (laidAt all bs k (usedAt l i)) a (0 : Int) = List.getD (Used.at_ (usedAt l i)) a (0 : Int)) ∧ List.length (laidAt all bs k (usedAt l i)) - z' < List.length (laidAt all bs k (usedAt l i)) - z) ∧ avM (slX 6 bs) (slX 6 bs) ∧ avM (slX 3 l) (slX 3 l) ∧ q9 ∧
 (nat_lit 0 = 0 ∧ 0 = 0) ∧ avM q36 q36 ∧ IntKind.i64 = .i64 ∧ (z : Int) + (1 : Int) = (z' : Int)) ∧ 50 = 50 ∧ 3 = 3 ∧ q10 ∧ avM q12 q12) False)) False) False) (bsplit (DB.db (inK .i64 ((i : Int) + (1 : Int)))) (bsplit (slOk Used (slX 3 l)) (bsplit (leB (0 : Int) ((i : Int) + (1 : Int)) && leB ((i : Int) + (1 : Int)) (↑(List.length (usedOf (slX 3 l))) : Int) && Nat.blt (List.length (usedOf (slX 3 l))) 1000000000) (bsplit q19 (bsplit (ltB (Bar.n q23) (↑(usedN (List.take (Int.toNat ((i : Int) + (1 : Int))) (usedOf (slX 3 l))) q3) : Int)) q30 (IntKind.i64 = .i64 ∧ (0 : Int) = oneE all bs k l i))
 False) False) False) False)))) False) False) False) False) False))))) False) False) False) False) False) False := by
  dsimp only
  intro hb
  have e0 : (Enc.dflt : Int) = 0 := rfl
  have e1 : (Enc.dflt : Cut) = ⟨0, 0, 0, []⟩ := rfl
  have e2 : (Enc.dflt : Bar) = ⟨0, 0, 0, 0, 0, []⟩ := rfl
  have e3 : (Enc.dflt : Used) = ⟨0, [], []⟩ := rfl
  simp only [slX, slN, avM_refl, true_and, and_true, bsel_true, bsel_false, vc_own, bif_or, bif_and, vc_gdb, vc_db, vc_lt, vc_le, vc_ne, vc_eq, vc_tt, Int.toNat_natCast, Nat.zero_add, Nat.zero_le, Nat.sub_zero, agD_bar, agOk_bar, agD_bar', agOk_bar', agD_cut, agOk_cut, agD_cut', agOk_cut', agD_used, agOk_used, agD_used', agOk_used', int_i, Bool.or_true, cond_true, cond_false, okC, okC', deC, deC', okB, deB, okB', deB', okIn, okIn', deI, deI', okU, okU', deU, deU', okBl, deBl, okUl, deUl, deIo, cutsOf_sl, deUo, e0, e1, e2, e3, ltB_nat, pred_nat]
  have hu : l.getD i ⟨0, [], []⟩ = usedAt l i := rfl
  have hbr : bs.getD (usedAt l i).bar.toNat ⟨0, 0, 0, 0, 0, []⟩ = barAt bs (usedAt l i) := rfl
  have hO : fitsOk (barAt bs (usedAt l i)) (lensL all (usedAt l i).ps) k = laidOk all bs k (usedAt l i) := rfl
  have hA : fitsAt (barAt bs (usedAt l i)) (lensL all (usedAt l i).ps) k = laidAt all bs k (usedAt l i) := rfl
  simp only [hu, hbr, hO, hA]
  have hpl : (usedAt l i).ps.length ≤ 9223372036854775807 := ((hb.2.2.2.1).2 i 1 hi (by decide)).1
  refine ⟨by omega, bsplit_iff.2 ⟨fun h1 => ?_, fun h1 => ⟨fun h2 => ?_, fun h2 => ?_⟩⟩⟩
  · have e := kind_bar (all := all) h1
    rw [one_kind (by rw [e]; decide), e]
  · have e := kind_empty (all := all) h1 (by omega)
    rw [one_kind (by rw [e]; decide), e]
  have hk := kind_first (all := all) h1 (show (usedAt l i).ps.length ≠ 0 by omega)
  have hbar : 0 ≤ (usedAt l i).bar ∧ (usedAt l i).bar < bs.length := by
    rw [Bool.or_eq_false_iff, ltB_eq, leB_eq, decide_eq_false_iff_not, decide_eq_false_iff_not] at h1
    omega
  refine ⟨⟨0, ⟨by omega, fun i hi => by omega⟩, rfl⟩, fun z ⟨z1, z2⟩ => ⟨fun hz => ⟨by omega, bsplit_iff.2 ⟨fun c1 => ?_, fun c1 => ⟨fun h => by have := (blt_iff _ _).1 h; simp only [inK]; omega, fun h => by have := (blt_iff _ _).1 h; omega, bsplit_iff.2 ⟨fun c2 => ?_, fun c2 => ⟨?_, hbar, bsplit_iff.2 ⟨fun c3 => ?_, fun c3 => ⟨by simp only [inK]; omega, z + 1, ⟨⟨by omega, fun i hi => ?_⟩, by omega⟩, by omega⟩⟩⟩⟩⟩⟩⟩, fun hz => ?_⟩⟩
  · have e : pcE all (barAt bs (usedAt l i)) (usedAt l i).ps z = 2 := by unfold pcE; rw [c1]; rfl
    rw [firstN_at (k := z) (by omega) z2 (by rw [e]; decide), e] at hk
    rw [one_kind (by rw [hk]; decide), hk]
  · have e : pcE all (barAt bs (usedAt l i)) (usedAt l i).ps z = 10 := by unfold pcE; rw [c1, c2]; rfl
    rw [firstN_at (k := z) (by omega) z2 (by rw [e]; decide), e] at hk
    rw [one_kind (by rw [hk]; decide), hk]
  · rw [Bool.or_eq_false_iff, ltB_eq, leB_eq, decide_eq_false_iff_not, decide_eq_false_iff_not] at c1
    omega
  · have e : pcE all (barAt bs (usedAt l i)) (usedAt l i).ps z = 8 := by unfold pcE; rw [c1, c2, c3]; rfl
    rw [firstN_at (k := z) (by omega) z2 (by rw [e]; decide), e] at hk
    rw [one_kind (by rw [hk]; decide), hk]
  · by_cases e : i = z
    · rw [e]; unfold pcE; rw [c1, c2, c3]; rfl
    · exact z2 i (by omega)
  rw [firstN_none fun i hi => z2 i (by omega)] at hk
  obtain ⟨_, _, k3, k4, k5⟩ := kindE_ok hk
  have hlen := asc_le (fun i hi => inL_at k4 hi) k5
  refine ⟨⟨0, ⟨by omega, fun i hi => by omega⟩, rfl⟩, fun y ⟨y1, y2⟩ => ⟨fun hy => ⟨⟨0, ⟨by omega, rfl⟩, rfl⟩, fun x ⟨x1, x2⟩ => ⟨fun hx => ⟨by omega, by omega, bsplit_iff.2 ⟨fun c => ?_, fun c => ⟨by simp only [inK]; omega, x + 1, ⟨⟨by omega, ?_⟩, by omega⟩, by omega⟩⟩⟩, fun hx => ⟨by simp only [inK]; omega, y + 1, ⟨⟨by omega, fun a ha' => ?_⟩, by omega⟩, by omega⟩⟩⟩, fun hy => ?_⟩⟩
  · refine (one_seen hk (any_at (i := y) (by omega) ?_)).symm
    exact seen_mono (show x + 1 ≤ i by omega) (by rw [seenU, memI_app, hasB_memI] at *; rw [show memI (usedAt l x).ps ((usedAt l i).ps.getD y 0) = true from c, Bool.or_true])
  · rw [seenU, memI_app, x2, show memI (usedAt l x).ps ((usedAt l i).ps.getD y 0) = false from c]; rfl
  · by_cases e : a = y
    · rw [e, show i = x by omega]; rw [show i = x by omega] at x2; exact x2
    · exact y2 a (by omega)
  have hany : (usedAt l i).ps.any (memI (seenU l i)) = false := any_none fun a ha' => y2 a (by omega)
  refine ⟨hbar, vc_b.2 ⟨by rw [k4, (blt_iff _ _).2 (by omega)]; rfl, bsplit_iff.2 ⟨fun c => ?_, fun c => ⟨fun hne => ?_, fun heq => ?_⟩⟩⟩⟩
  · rw [Bool.not_eq_true'] at c
    exact (one_lay hk hany c).symm
  · rw [Bool.not_eq_false'] at c
    exact (one_at hk hany c fun h => hne (by rw [h])).symm
  rw [Bool.not_eq_false'] at c
  refine ⟨⟨0, ⟨by omega, fun i hi => by omega⟩, rfl⟩, fun w ⟨w1, w2⟩ => ⟨fun hw => ⟨by omega, by omega, fun hne => ?_, fun he => ⟨by simp only [inK]; have := laid_len c; omega, w + 1, ⟨⟨by omega, fun a ha' => ?_⟩, by omega⟩, by omega⟩⟩, fun hw => ⟨by simp only [inK]; omega, vc_b.2 ⟨?_, hbar, ?_⟩⟩⟩⟩
  · exact (one_at hk hany c fun h => hne (by rw [h])).symm
  · by_cases e : a = w
    · rw [e]; exact he
    · exact w2 a (by omega)
  · rw [(leB_iff _ _).2 (by omega), (leB_iff _ _).2 (by omega), (blt_iff _ _).2 (by omega)]; rfl
  have hat : laidAt all bs k (usedAt l i) = (usedAt l i).at_ := by
    apply List.ext_getElem (by omega)
    intro a h3 h4
    have := w2 a (by omega)
    simpa [List.getD_eq_getElem?_getD, h3, h4] using this
  rw [one_n hk hany c hat, show ((i : Int) + 1).toNat = i + 1 by omega]
  exact ⟨fun h => by rw [(ltB_iff _ _).2 h]; rfl, fun h => by rw [show ltB (barAt bs (usedAt l i)).n (usedN (l.take (i + 1)) (usedAt l i).bar) = false by rw [ltB_eq, decide_eq_false_iff_not]; omega]; rfl⟩
def rbar_t : List AV → Option (List Cond × AV)
  | [x, y, .v (.int .i64 k), z, .v (.int .i64 i)] => some ([.b (slOk Cut x), .b (slOk Bar y), .b (slOk Used z), .b (Nat.ble (cutsOf x).length 64 && leB 0 i && ltB i (usedOf z).length && Nat.ble (usedOf z).length 64)], .i (oneE (cutsOf x) (slD y) k (usedOf z) i.toNat))
  | _ => none
theorem rbar_T : PureT Tryz.prog [] 65 rbar_t := by
  intro xs ps r h hp
  unfold rbar_t at h
  split at h
  · rename_i x y k z i
    cases h
    have h4 : (Nat.ble (cutsOf x).length 64 && leB 0 i && ltB i (usedOf z).length && Nat.ble (usedOf z).length 64) = true := hp _ (List.mem_cons_of_mem _ (List.mem_cons_of_mem _ (List.mem_cons_of_mem _ List.mem_cons_self)))
    rw [Bool.and_eq_true, Bool.and_eq_true, Bool.and_eq_true, leB_iff, ltB_iff] at h4
    obtain ⟨⟨⟨q1, q2⟩, q3⟩, q4⟩ := h4
    have e : (i.toNat : Int) = i := Int.toNat_of_nonneg q2
    refine weaken (ys := [_, _, _, _, .i (i.toNat : Int)]) ⟨slE_sound (hp _ List.mem_cons_self), slE_sound (hp _ (List.mem_cons_of_mem _ List.mem_cons_self)), avM_refl _, slE_sound (hp _ (List.mem_cons_of_mem _ (List.mem_cons_of_mem _ List.mem_cons_self))), by rw [e]; exact avM_refl _, trivial⟩
      (pure_of_vc mixed Trb2_sound (Eq.mp (by kernel_rfl) (rbar_vc (cutsOf x) (slD y) k (usedOf z) i.toNat (Nat.le_of_ble_eq_true q1) (by omega) (Nat.le_of_ble_eq_true q4)) : vcFn Tryz.prog Trb2 65 (rbar_an (cutsOf x) (slD y) k (usedOf z) i.toNat) [slE (cutsOf x), slE (slD y), .i k, slE (usedOf z), .i (i.toNat : Int)] (.i (oneE (cutsOf x) (slD y) k (usedOf z) i.toNat))))
  · cases h
def sumP (l : List Used) : Nat → Nat
  | 0 => 0
  | z + 1 => sumP l z + (usedAt l z).ps.length
def checkE (ps : List Cut) (bs : List Bar) (k : Int) (l : List Used) : Int :=
  bif startE ps bs k != 0 then startE ps bs k
  else bif Nat.blt 64 l.length then 4
  else bif firstN (oneE (startL ps bs k) bs k l) l.length 0 != 0 then firstN (oneE (startL ps bs k) bs k l) l.length 0
  else bif Nat.blt (sumP l l.length) (startL ps bs k).length then 6 else 0
theorem start_le {ps : List Cut} {bs : List Bar} {k : Int} : (startL ps bs k).length ≤ 64 := by
  unfold startL
  cases h : startE ps bs k == 0 with
  | false => exact Nat.zero_le _
  | true =>
    rw [beq_iff_eq] at h
    unfold startE at h
    cases h1 : cutsE ps != 0 || barsE bs != 0 with
    | true => rw [h1] at h; cases h
    | false =>
    rw [h1] at h
    cases h2 : ltB k 0 || ltB 100 k with
    | true => rw [h2] at h; cases h
    | false =>
    rw [h2] at h
    cases h3 : Nat.blt 64 (splitL ps).length with
    | true => rw [h3] at h; cases h
    | false =>
      have : ¬ 64 < (splitL ps).length := fun hh => by rw [(blt_iff _ _).2 hh] at h3; cases h3
      show (splitL ps).length ≤ 64
      omega
theorem one_zero {all : List Cut} {bs : List Bar} {k : Int} {l : List Used} {i : Nat} (h : oneE all bs k l i = 0) : kindE all bs (usedAt l i) = 0 := by
  by_cases e : kindE all bs (usedAt l i) = 0
  · exact e
  · rw [one_kind e] at h; exact h
theorem one_ps {all : List Cut} {bs : List Bar} {k : Int} {l : List Used} {i : Nat} (h : oneE all bs k l i = 0) : (usedAt l i).ps.length ≤ all.length := by
  obtain ⟨_, _, _, k4, k5⟩ := kindE_ok (one_zero h)
  exact asc_le (fun i hi => inL_at k4 hi) k5
theorem sumP_le {all : List Cut} {bs : List Bar} {k : Int} {l : List Used} (ha : all.length ≤ 64) : ∀ z, (∀ i, i < z → oneE all bs k l i = 0) → sumP l z ≤ 64 * z
  | 0, _ => Nat.le_refl _
  | z + 1, h => by
    have h1 := sumP_le ha z fun i hi => h i (by omega)
    have h2 := one_ps (h z (by omega))
    show sumP l z + (usedAt l z).ps.length ≤ _
    omega
def rcheck_an (ps : List Cut) (bs : List Bar) (k : Int) (l : List Used) : Ann :=
  .two .auto (.two .auto (.two .auto (.two .auto (.two .auto (.two (.two .auto (.one (.loop Nat (fun σ z => [(1, σ.tm 1), (2, σ.tm 2), (3, σ.tm 3), (9, σ.tm 9), (11, .i (sumP l z)), (12, .i z)]) (fun σ z => []) 0 (fun σ z => z ≤ l.length ∧ ∀ i, i < z → oneE (startL ps bs k) bs k l i = 0) (fun σ z => l.length - z) .auto))) .auto)))))
def Trc2 : Tb := (T0.plus 64 start_t).plus 65 rbar_t
theorem Trc2_sound : TbSound Tryz.prog Trc2 := TbSound.plus (TbSound.plus tb0_sound start_T) rbar_T
theorem rcheck_vc (ps : List Cut) (bs : List Bar) (k : Int) (l : List Used) :
 let q1 := (slX 4 (startL (slD (AV.xl false 4 (ps.length) fun i j => Enc.enc (List.getD ps i Enc.dflt) j)) (slD (AV.xl false 6 (bs.length) fun i j => Enc.enc (List.getD bs i Enc.dflt) j)) k)); let q2 := (cutsOf q1); bndL [slX 4 ps, slX 6 bs, AV.v (Value.int .i64 k), slX 3 l] → bsplit (slOk Cut (slX 4 ps)) (bsplit (slOk Bar (slX 6 bs)) (bsplit (startE (slD (slX 4 ps)) (slD (slX 6 bs)) k != (0 : Int)) (IntKind.i64 = .i64 ∧ startE (slD (slX 4 ps)) (slD (slX 6 bs)) k = checkE ps bs k l) (bsplit (ltB (64 : Int) (l.length : Int)) (IntKind.i64 = .i64 ∧ (4 : Int) = checkE ps bs k l) ((∃ (z : Nat), ((z ≤
 l.length ∧ ∀ (i : Nat), i < z → oneE (startL ps bs k) bs k l i = (0 : Int)) ∧ avM (slX 6 bs) (slX 6 bs) ∧ (IntKind.i64 = .i64 ∧ k = k) ∧ avM (slX 3 l) (slX 3 l) ∧ avM q1 q1 ∧ (IntKind.i64 = .i64 ∧ (0 : Int) = (↑(sumP l z) : Int)) ∧ IntKind.i64 = .i64 ∧ (0 : Int) = (z : Int)) ∧ True) ∧ ∀ (z : Nat), let q3 := (↑(List.length (Used.ps (List.getD l (Int.toNat (z : Int)) Enc.dflt))) : Int); (z ≤ l.length ∧ ∀ (i : Nat), i < z → oneE (startL ps bs k) bs k l i = (0 : Int)) → bsplit (ltB (z : Int) (l.length : Int)) (bsplit (slOk Cut q1) (bsplit (slOk Bar (slX 6 bs)) (bsplit (slOk Used (slX 3 l)) (bsplit
 (Nat.ble (List.length q2) 64 && leB (0 : Int) (z : Int) && ltB (z : Int) (↑(List.length (usedOf (slX 3 l))) : Int) && Nat.ble (List.length (usedOf (slX 3 l))) 64) (bsplit (oneE q2 (slD (slX 6 bs)) k (usedOf (slX 3 l)) (Int.toNat (z : Int)) != (0 : Int)) (IntKind.i64 = .i64 ∧ oneE q2 (slD (slX 6 bs)) k (usedOf (slX 3 l)) (Int.toNat (z : Int)) = checkE ps bs k l) (bsplit (DB.db ((0 : Int) ≤ (z : Int) ∧ (z : Int) < (l.length : Int))) (bsplit (DB.db (inK .i64 ((↑(sumP l z) : Int) + q3))) (bsplit (DB.db (inK .i64 ((z : Int) + (1 : Int)))) (∃ (z' : Nat), (((z' ≤ l.length ∧ ∀ (i : Nat), i < z' → oneE
 (startL ps bs k) bs k l i = (0 : Int)) ∧ l.length - z' < l.length - z) ∧ avM (slX 6 bs) (slX 6 bs) ∧ (IntKind.i64 = .i64 ∧ k = k) ∧ avM (slX 3 l) (slX 3 l) ∧ avM q1 q1 ∧ (IntKind.i64 = .i64 ∧ (↑(sumP l z) : Int) + q3 = (↑(sumP l z') : Int)) ∧ IntKind.i64 = .i64 ∧ (z : Int) + (1 : Int) = (z' : Int)) ∧ True) False) False) False)) False) False) False) False) (bsplit (ltB (↑(sumP l z) : Int) (↑(List.length (startL (slD (slX 4 ps)) (slD (slX 6 bs)) k)) : Int)) (IntKind.i64 = .i64 ∧ (6 : Int) = checkE ps bs k l) (IntKind.i64 = .i64 ∧ (0 : Int) = checkE ps bs k l))))) False) False := by
  dsimp only
  intro hb
  have e0 : (Enc.dflt : Int) = 0 := rfl
  have e1 : (Enc.dflt : Cut) = ⟨0, 0, 0, []⟩ := rfl
  have e2 : (Enc.dflt : Bar) = ⟨0, 0, 0, 0, 0, []⟩ := rfl
  have e3 : (Enc.dflt : Used) = ⟨0, [], []⟩ := rfl
  simp only [slX, slN, avM_refl, true_and, and_true, bsel_true, bsel_false, vc_own, bif_or, bif_and, vc_gdb, vc_db, vc_lt, vc_le, vc_ne, vc_eq, vc_tt, Int.toNat_natCast, Nat.zero_add, Nat.zero_le, Nat.sub_zero, agD_bar, agOk_bar, agD_bar', agOk_bar', agD_cut, agOk_cut, agD_cut', agOk_cut', agD_used, agOk_used, agD_used', agOk_used', int_i, Bool.or_true, cond_true, cond_false, okC, okC', deC, deC', okB, deB, okB', deB', okIn, okIn', deI, deI', okU, okU', deU, deU', okBl, deBl, okUl, deUl, deIo, cutsOf_sl, deUo, e0, e1, e2, e3, ltB_nat, pred_nat]
  refine ⟨fun h1 => ?_, fun h1 => ⟨fun h2 => ?_, fun h2 => ?_⟩⟩
  · unfold checkE; rw [bne_iff_ne.2 h1]; rfl
  · unfold checkE; rw [h1, (blt_iff _ _).2 (by omega)]; rfl
  have hc : checkE ps bs k l = bif firstN (oneE (startL ps bs k) bs k l) l.length 0 != 0 then firstN (oneE (startL ps bs k) bs k l) l.length 0
      else bif Nat.blt (sumP l l.length) (startL ps bs k).length then 6 else 0 := by
    unfold checkE
    rw [h1, show Nat.blt 64 l.length = false by rw [Bool.eq_false_iff]; intro h; have := (blt_iff _ _).1 h; omega]
    rfl
  refine ⟨⟨0, ⟨by omega, fun i hi => by omega⟩, rfl, rfl⟩, fun z ⟨z1, z2⟩ => ⟨fun hz => vc_b.2 ⟨?_, fun hne => ?_, fun he => ?_⟩, fun hz => ?_⟩⟩
  · rw [show (startL ps bs k).length.ble 64 = true from Nat.ble_eq_true_of_le start_le, (leB_iff _ _).2 (by omega), (ltB_iff _ _).2 (by omega), show l.length.ble 64 = true from Nat.ble_eq_true_of_le (by omega)]; rfl
  · rw [hc, firstN_at (k := z) (by omega) z2 hne, bne_iff_ne.2 hne]; rfl
  · have h3 := sumP_le start_le z z2
    have h4 := one_ps he
    have h5 := start_le (ps := ps) (bs := bs) (k := k)
    have hu : l.getD z ⟨0, [], []⟩ = usedAt l z := rfl
    rw [hu]
    exact ⟨by omega, by simp only [inK]; omega, by simp only [inK]; omega, z + 1, ⟨⟨by omega, fun i hi => by
      by_cases e : i = z
      · rw [e]; exact he
      · exact z2 i (by omega)⟩, by omega⟩, by simp [sumP], by omega⟩
  · rw [hc, firstN_none fun i hi => z2 i (by omega), show z = l.length by omega]
    exact ⟨fun h => by rw [(blt_iff _ _).2 (by omega)]; rfl, fun h => by rw [show Nat.blt (sumP l l.length) (startL ps bs k).length = false by rw [Bool.eq_false_iff]; intro hh; have := (blt_iff _ _).1 hh; omega]; rfl⟩
end Go.Tz
