/- Small functions of the checks of a nest. -/
import Derived.Test.YtojonobehnbeiaaGreatDoorTzX
set_option linter.unusedSimpArgs false
namespace Go.Tz
open Go Go.Sx Go.Proofs
set_option maxRecDepth 100000
set_option maxHeartbeats 2000000

def sectB (c : Cut) (b : Bar) : Bool := (c.w == b.w) && (c.d == b.d)
theorem sectA_vc (c : Cut) (b : Bar) : bndL [AV.agg 4 (Enc.enc c), AV.agg 6 (Enc.enc b)] → bsplit (!bsel true (Cut.w c == Bar.w b) || bsel true (Cut.w c == Bar.w b)) (bsplit (!bsel true (Cut.w c == Bar.w b) || bsel true (Cut.w c == Bar.w b)) (bsplit (!bsel true (Cut.w c == Bar.w b) || bsel true (Cut.w c == Bar.w b)) (bsplit (!bsel true (Cut.w c == Bar.w b) || bsel true (Cut.w c == Bar.w b)) (bsplit (!Cut.w c == Bar.w b || bsel true (Cut.w c == Bar.w b)) ((bif Cut.w c == Bar.w b then Cut.d c == Bar.d b else false) = sectB c b) False) False) False) False) False := by
  intro hb
  simp only [slX, slN, avM_refl, true_and, and_true, bsel_true, bsel_false, vc_own, bif_or, bif_and, vc_gdb, vc_db, vc_lt, vc_le, vc_ne, vc_eq, vc_tt, Int.toNat_natCast, Nat.zero_add, Nat.zero_le, Nat.sub_zero, agD_bar, agOk_bar, agD_bar', agOk_bar', agD_cut, agOk_cut, agD_cut', agOk_cut', agD_used, agOk_used, agD_used', agOk_used', int_i, Bool.or_true, cond_true, cond_false]
  rfl
theorem sectR_vc (c : Cut) (b : Bar) : bndL [AV.agg 4 (Enc.enc c), AV.agg 6 (Enc.enc b)] → bsplit (!bsel true (Cut.w c == Bar.w b) || bsel true (Cut.w c == Bar.w b)) (bsplit (!bsel true (Cut.w c == Bar.w b) || bsel true (Cut.w c == Bar.w b)) (bsplit (!bsel true (Cut.w c == Bar.w b) || bsel true (Cut.w c == Bar.w b)) (bsplit (!bsel true (Cut.w c == Bar.w b) || bsel true (Cut.w c == Bar.w b)) (bsplit (!Cut.w c == Bar.w b || bsel true (Cut.w c == Bar.w b)) ((bif Cut.w c == Bar.w b then Cut.d c == Bar.d b else false) = sectB c b) False) False) False) False) False := by
  intro hb
  simp only [slX, slN, avM_refl, true_and, and_true, bsel_true, bsel_false, vc_own, bif_or, bif_and, vc_gdb, vc_db, vc_lt, vc_le, vc_ne, vc_eq, vc_tt, Int.toNat_natCast, Nat.zero_add, Nat.zero_le, Nat.sub_zero, agD_bar, agOk_bar, agD_bar', agOk_bar', agD_cut, agOk_cut, agD_cut', agOk_cut', agD_used, agOk_used, agD_used', agOk_used', int_i, Bool.or_true, cond_true, cond_false]
  rfl

def eql_an (l m : List Int) : Ann :=
  .two .auto (.two .auto (.two (.two .auto (.one (.loop Nat (fun σ z => [(0, σ.tm 0), (1, σ.tm 1), (12, σ.tm 12), (13, .i z)]) (fun σ z => []) 0 (fun σ z => z ≤ l.length ∧ ∀ i, i < z → l.getD i 0 = m.getD i 0) (fun σ z => l.length - z) .auto))) .auto))
theorem eql_vc (l m : List Int) : bndL [slN l, slN m] → bsplit ((l.length : Int) != (m.length : Int)) (false = decide (l = m)) ((∃ (z : Nat), ((z ≤ l.length ∧ ∀ (i : Nat), i < z → List.getD l i (0 : Int) = List.getD m i (0 : Int)) ∧ avM (slN l) (slN l) ∧ avM (slN m) (slN m) ∧ (IntKind.i64 = .i64 ∧ (l.length : Int) = (l.length : Int)) ∧ IntKind.i64 = .i64 ∧ (0 : Int) = (z : Int)) ∧ True) ∧ ∀ (z : Nat), (z ≤ l.length ∧ ∀ (i : Nat), i < z → List.getD l i (0 : Int) = List.getD m i (0 : Int)) → bsplit (ltB (z : Int) (l.length : Int)) (bsplit (DB.db ((0 : Int) ≤ (z : Int) ∧ (z : Int) < (l.length :
 Int))) (bsplit (DB.db ((0 : Int) ≤ (z : Int) ∧ (z : Int) < (m.length : Int))) (bsplit (List.getD l (Int.toNat (z : Int)) Enc.dflt != List.getD m (Int.toNat (z : Int)) Enc.dflt) (false = decide (l = m)) (bsplit (DB.db (inK .i64 ((z : Int) + (1 : Int)))) (∃ (z' : Nat), (((z' ≤ l.length ∧ ∀ (i : Nat), i < z' → List.getD l i (0 : Int) = List.getD m i (0 : Int)) ∧ l.length - z' < l.length - z) ∧ avM (slN l) (slN l) ∧ avM (slN m) (slN m) ∧ (IntKind.i64 = .i64 ∧ (l.length : Int) = (l.length : Int)) ∧ IntKind.i64 = .i64 ∧ (z : Int) + (1 : Int) = (z' : Int)) ∧ True) False)) False) False) (true = decide
 (l = m))) := by
  intro hb
  have e0 : (Enc.dflt : Int) = 0 := rfl
  simp only [slX, slN, avM_refl, true_and, and_true, bsel_true, bsel_false, vc_own, bif_or, bif_and, vc_gdb, vc_db, vc_lt, vc_le, vc_ne, vc_eq, vc_tt, Int.toNat_natCast, Nat.zero_add, Nat.zero_le, Nat.sub_zero, agD_bar, agOk_bar, agD_bar', agOk_bar', agD_cut, agOk_cut, agD_cut', agOk_cut', agD_used, agOk_used, agD_used', agOk_used', int_i, Bool.or_true, cond_true, cond_false, okC, okC', deC, deC', okB, deB, okB', deB', okIn, okIn', deI, deI', okU, okU', deU, deU', okBl, deBl, okUl, deUl, deIo, cutsOf_sl, e0]
  have hl : l.length ≤ 9223372036854775807 := hb.1.1
  refine ⟨fun hne => ?_, fun heq => ⟨⟨0, ⟨by omega, fun i hi => by omega⟩, rfl⟩, fun z ⟨h1, h2⟩ => ⟨fun hz => ⟨by omega, by omega, fun hn => ?_, fun he => ⟨by simp only [inK]; omega, z + 1, ⟨⟨by omega, fun i hi => ?_⟩, by omega⟩, by omega⟩⟩, fun hz => ?_⟩⟩⟩
  · rw [Eq.comm, decide_eq_false_iff_not]
    rintro rfl
    exact hne rfl
  · rw [Eq.comm, decide_eq_false_iff_not]
    rintro rfl
    exact hn rfl
  · by_cases e : i = z
    · rw [e]; exact he
    · exact h2 i (by omega)
  · rw [Eq.comm, decide_eq_true_eq]
    apply List.ext_getElem (by omega)
    intro i h3 h4
    have := h2 i (by omega)
    simpa [List.getD_eq_getElem?_getD, h3, h4] using this

def idxB_an (l : List Bool) (b : Bool) : Ann :=
  .two .auto (.two (.two .auto (.one (.loop Nat (fun σ z => [(0, σ.tm 0), (1, σ.tm 1), (7, σ.tm 7), (8, .i z)]) (fun σ z => []) 0 (fun σ z => z ≤ l.length ∧ idxF (fun x => b == x) (l.drop z) z = idxF (fun x => b == x) l 0) (fun σ z => l.length - z) .auto))) .auto)
theorem idxB2_vc (l : List Bool) (b : Bool) : bndL [AV.xl false 1 (l.length) fun i j => AV.v (Value.bool (List.getD l i Enc.dflt)), AV.v (Value.bool b)] → (∃ (z : Nat), ((z ≤ l.length ∧ idxF (fun (x : Bool) => b == x) (List.drop z l) z = idxF (fun (x : Bool) => b == x) l 0) ∧ avM (AV.xl false 1 (l.length) fun i j => AV.v (Value.bool (List.getD l i Enc.dflt))) (AV.xl false 1 (l.length) fun i j => AV.v (Value.bool (List.getD l i Enc.dflt))) ∧ b = b ∧ (IntKind.i64 = .i64 ∧ (l.length : Int) = (l.length : Int)) ∧ IntKind.i64 = .i64 ∧ (0 : Int) = (z : Int)) ∧ True) ∧ ∀ (z : Nat), z ≤ l.length ∧ idxF
 (fun (x : Bool) => b == x) (List.drop z l) z = idxF (fun (x : Bool) => b == x) l 0 → bsplit (ltB (z : Int) (l.length : Int)) (bsplit (DB.db ((0 : Int) ≤ (z : Int) ∧ (z : Int) < (l.length : Int))) (bsplit (b == List.getD l (Int.toNat (z : Int)) Enc.dflt) (IntKind.i64 = .i64 ∧ (z : Int) = idxF (fun (x : Bool) => b == x) l 0) (bsplit (DB.db (inK .i64 ((z : Int) + (1 : Int)))) (∃ (z' : Nat), (((z' ≤ l.length ∧ idxF (fun (x : Bool) => b == x) (List.drop z' l) z' = idxF (fun (x : Bool) => b == x) l 0) ∧ l.length - z' < l.length - z) ∧ avM (AV.xl false 1 (l.length) fun i j => AV.v (Value.bool
 (List.getD l i Enc.dflt))) (AV.xl false 1 (l.length) fun i j => AV.v (Value.bool (List.getD l i Enc.dflt))) ∧ b = b ∧ (IntKind.i64 = .i64 ∧ (l.length : Int) = (l.length : Int)) ∧ IntKind.i64 = .i64 ∧ (z : Int) + (1 : Int) = (z' : Int)) ∧ True) False)) False) (IntKind.i64 = .i64 ∧ (-1 : Int) = idxF (fun (x : Bool) => b == x) l 0) := by
  intro hb
  simp only [slX, slN, avM_refl, true_and, and_true, bsel_true, bsel_false, vc_own, bif_or, bif_and, vc_gdb, vc_db, vc_lt, vc_le, vc_ne, vc_eq, vc_tt, Int.toNat_natCast, Nat.zero_add, Nat.zero_le, Nat.sub_zero, agD_bar, agOk_bar, agD_bar', agOk_bar', agD_cut, agOk_cut, agD_cut', agOk_cut', agD_used, agOk_used, agD_used', agOk_used', int_i, Bool.or_true, cond_true, cond_false, okC, okC', deC, deC', okB, deB, okB', deB', okIn, okIn', deI, deI', okU, okU', deU, deU', okBl, deBl, okUl, deUl, deIo, cutsOf_sl]
  have hl : l.length ≤ 9223372036854775807 := hb.1.1
  refine ⟨⟨0, ⟨by omega, rfl⟩, rfl⟩, fun z ⟨h1, h2⟩ => ⟨fun hz => ⟨by omega, bsplit_iff.2 ⟨fun hp => ?_, fun hp => ?_⟩⟩, fun hz => ?_⟩⟩
  · rw [getD_drop (d := Enc.dflt) (by omega), idxF, hp] at h2; exact h2
  · rw [getD_drop (d := Enc.dflt) (by omega), idxF, hp] at h2
    exact ⟨by simp only [inK]; omega, z + 1, ⟨⟨by omega, h2⟩, by omega⟩, by omega⟩
  · rw [show z = l.length by omega, List.drop_length] at h2; exact h2

def has_an (l : List Int) (n : Int) : Ann :=
  .two .auto (.two (.two .auto (.one (.loop Nat (fun σ z => [(0, σ.tm 0), (1, σ.tm 1), (5, .i z)]) (fun σ z => []) 0 (fun σ z => z ≤ l.length ∧ ∀ i, i < z → l.getD i 0 ≠ n) (fun σ z => l.length - z) .auto))) .auto)
def hasB (l : List Int) (n : Int) : Bool := l.any fun m => m == n
theorem has_vc (l : List Int) (n : Int) : bndL [slN l, AV.v (Value.int .i64 n)] → (∃ (z : Nat), ((z ≤ l.length ∧ ∀ (i : Nat), i < z → List.getD l i (0 : Int) ≠ n) ∧ avM (slN l) (slN l) ∧ (IntKind.i64 = .i64 ∧ n = n) ∧ IntKind.i64 = .i64 ∧ (0 : Int) = (z : Int)) ∧ True) ∧ ∀ (z : Nat), (z ≤ l.length ∧ ∀ (i : Nat), i < z → List.getD l i (0 : Int) ≠ n) → bsplit (ltB (z : Int) (l.length : Int)) (bsplit (DB.db ((0 : Int) ≤ (z : Int) ∧ (z : Int) < (l.length : Int))) (bsplit (List.getD l (Int.toNat (z : Int)) Enc.dflt == n) (true = hasB l n) (bsplit (DB.db (inK .i64 ((z : Int) + (1 : Int)))) (∃ (z' :
 Nat), (((z' ≤ l.length ∧ ∀ (i : Nat), i < z' → List.getD l i (0 : Int) ≠ n) ∧ l.length - z' < l.length - z) ∧ avM (slN l) (slN l) ∧ (IntKind.i64 = .i64 ∧ n = n) ∧ IntKind.i64 = .i64 ∧ (z : Int) + (1 : Int) = (z' : Int)) ∧ True) False)) False) (false = hasB l n) := by
  intro hb
  have e0 : (Enc.dflt : Int) = 0 := rfl
  simp only [slX, slN, avM_refl, true_and, and_true, bsel_true, bsel_false, vc_own, bif_or, bif_and, vc_gdb, vc_db, vc_lt, vc_le, vc_ne, vc_eq, vc_tt, Int.toNat_natCast, Nat.zero_add, Nat.zero_le, Nat.sub_zero, agD_bar, agOk_bar, agD_bar', agOk_bar', agD_cut, agOk_cut, agD_cut', agOk_cut', agD_used, agOk_used, agD_used', agOk_used', int_i, Bool.or_true, cond_true, cond_false, okC, okC', deC, deC', okB, deB, okB', deB', okIn, okIn', deI, deI', okU, okU', deU, deU', okBl, deBl, okUl, deUl, deIo, cutsOf_sl, e0]
  have hl : l.length ≤ 9223372036854775807 := hb.1.1
  refine ⟨⟨0, ⟨by omega, fun i hi => by omega⟩, rfl⟩, fun z ⟨h1, h2⟩ => ⟨fun hz => ⟨by omega, fun he => ?_, fun hne => ⟨by simp only [inK]; omega, z + 1, ⟨⟨by omega, fun i hi => ?_⟩, by omega⟩, by omega⟩⟩, fun hz => ?_⟩⟩
  · exact (any_at (l := l) (p := fun m => m == n) (i := z) (by omega) (beq_iff_eq.2 he)).symm
  · by_cases e : i = z
    · rw [e]; exact hne
    · exact h2 i (by omega)
  · exact (any_none (l := l) (p := fun m => m == n) fun i hi => beq_eq_false_iff_ne.2 (h2 i (by omega))).symm

/-- How many of the used bars are of a kind. -/
def usedN (l : List Used) (k : Int) : Nat := l.countP fun u => u.bar == k
def used_an (l : List Used) (n k : Int) : Ann :=
  .two .auto (.two .auto (.two (.two .auto (.one (.loop Nat (fun σ z => [(0, σ.tm 0), (1, σ.tm 1), (2, σ.tm 2), (7, .i (usedN (l.take z) k)), (8, .i z)]) (fun σ z => []) 0 (fun σ z => z ≤ n.toNat) (fun σ z => n.toNat - z) .auto))) .auto))
theorem used_vc (l : List Used) (n k : Int) (h0 : 0 ≤ n) (hn : n ≤ l.length) (hl : l.length < 1000000000) : bndL [slX 3 l, AV.v (Value.int .i64 n), AV.v (Value.int .i64 k)] → (∃ (z : Nat), (z ≤ Int.toNat n ∧ avM (slX 3 l) (slX 3 l) ∧ (IntKind.i64 = .i64 ∧ n = n) ∧ (IntKind.i64 = .i64 ∧ k = k) ∧ (IntKind.i64 = .i64 ∧ (0 : Int) = (↑(usedN (List.take z l) k) : Int)) ∧ IntKind.i64 = .i64 ∧ (0 : Int) = (z : Int)) ∧ True) ∧ ∀ (z : Nat), z ≤ Int.toNat n → bsplit (ltB (z : Int) n) (bsplit (DB.db ((0 : Int) ≤ (z : Int) ∧ (z : Int) < (l.length : Int))) (bsplit (Used.bar (List.getD l (Int.toNat (z : Int))
 Enc.dflt) == k) (bsplit (DB.db (inK .i64 ((↑(usedN (List.take z l) k) : Int) + (1 : Int)))) (bsplit (DB.db (inK .i64 ((z : Int) + (1 : Int)))) (∃ (z' : Nat), ((z' ≤ Int.toNat n ∧ Int.toNat n - z' < Int.toNat n - z) ∧ avM (slX 3 l) (slX 3 l) ∧ (IntKind.i64 = .i64 ∧ n = n) ∧ (IntKind.i64 = .i64 ∧ k = k) ∧ (IntKind.i64 = .i64 ∧ (↑(usedN (List.take z l) k) : Int) + (1 : Int) = (↑(usedN (List.take z' l) k) : Int)) ∧ IntKind.i64 = .i64 ∧ (z : Int) + (1 : Int) = (z' : Int)) ∧ True) False) False) (bsplit (DB.db (inK .i64 ((z : Int) + (1 : Int)))) (∃ (z' : Nat), ((z' ≤ Int.toNat n ∧ Int.toNat n - z' <
 Int.toNat n - z) ∧ avM (slX 3 l) (slX 3 l) ∧ (IntKind.i64 = .i64 ∧ n = n) ∧ (IntKind.i64 = .i64 ∧ k = k) ∧ (IntKind.i64 = .i64 ∧ (↑(usedN (List.take z l) k) : Int) = (↑(usedN (List.take z' l) k) : Int)) ∧ IntKind.i64 = .i64 ∧ (z : Int) + (1 : Int) = (z' : Int)) ∧ True) False)) False) (IntKind.i64 = .i64 ∧ (↑(usedN (List.take z l) k) : Int) = (↑(usedN (List.take (Int.toNat n) l) k) : Int)) := by
  intro hb
  have e0 : (Enc.dflt : Used) = ⟨0, [], []⟩ := rfl
  simp only [slX, slN, avM_refl, true_and, and_true, bsel_true, bsel_false, vc_own, bif_or, bif_and, vc_gdb, vc_db, vc_lt, vc_le, vc_ne, vc_eq, vc_tt, Int.toNat_natCast, Nat.zero_add, Nat.zero_le, Nat.sub_zero, agD_bar, agOk_bar, agD_bar', agOk_bar', agD_cut, agOk_cut, agD_cut', agOk_cut', agD_used, agOk_used, agD_used', agOk_used', int_i, Bool.or_true, cond_true, cond_false, okC, okC', deC, deC', okB, deB, okB', deB', okIn, okIn', deI, deI', okU, okU', deU, deU', okBl, deBl, okUl, deUl, deIo, cutsOf_sl, e0]
  have h3 : ∀ z, z < l.length → usedN (l.take (z + 1)) k = usedN (l.take z) k + if (l.getD z ⟨0, [], []⟩).bar = k then 1 else 0 := fun z hz => by
    rw [take_snoc (d := ⟨0, [], []⟩) hz]
    unfold usedN
    rw [List.countP_append, List.countP_cons, List.countP_nil]
    simp
  have h4 : ∀ z, usedN (l.take z) k ≤ l.length := fun z => Nat.le_trans List.countP_le_length (by simp; omega)
  refine ⟨⟨0, by omega, rfl, rfl⟩, fun z hz => ⟨fun hlt => ⟨by omega, fun he => ?_, fun he => ?_⟩, fun hge => ?_⟩⟩
  · have := h3 z (by omega)
    rw [if_pos he] at this
    have := h4 z
    exact ⟨by simp only [inK]; omega, by simp only [inK]; omega, z + 1, by omega, by omega, by omega⟩
  · have := h3 z (by omega)
    rw [if_neg he] at this
    exact ⟨by simp only [inK]; omega, z + 1, by omega, by omega, by omega⟩
  · rw [show z = n.toNat by omega]

/-! ### Contracts -/

def sect_t : List AV → Option (List Cond × AV)
  | [x, y] => some ([.b (agOk Cut x), .b (agOk Bar y)], .b (sectB (agD x) (agD y)))
  | _ => none
theorem sectA_T : PureT Tryz.prog [] 80 sect_t := by
  intro xs ps r h hp
  unfold sect_t at h
  split at h
  · rename_i x y
    cases h
    exact weaken (ys := [_, _]) ⟨agE_sound (hp _ List.mem_cons_self), agE_sound (hp _ (List.mem_cons_of_mem _ List.mem_cons_self)), trivial⟩
      (pure_of_vc mixed tb0_sound (Eq.mp (by kernel_rfl) (sectA_vc (agD x) (agD y)) : vcFn Tryz.prog T0 80 .auto [agE (agD (α := Cut) x), agE (agD (α := Bar) y)] (.b (sectB (agD x) (agD y)))))
  · cases h
theorem sectR_T : PureT Tryz.prog [] 90 sect_t := by
  intro xs ps r h hp
  unfold sect_t at h
  split at h
  · rename_i x y
    cases h
    exact weaken (ys := [_, _]) ⟨agE_sound (hp _ List.mem_cons_self), agE_sound (hp _ (List.mem_cons_of_mem _ List.mem_cons_self)), trivial⟩
      (pure_of_vc mixed tb0_sound (Eq.mp (by kernel_rfl) (sectR_vc (agD x) (agD y)) : vcFn Tryz.prog T0 90 .auto [agE (agD (α := Cut) x), agE (agD (α := Bar) y)] (.b (sectB (agD x) (agD y)))))
  · cases h
def eql_t : List AV → Option (List Cond × AV)
  | [x, y] => some ([.b (slOk Int x), .b (slOk Int y)], .b (decide (intsOf x = intsOf y)))
  | _ => none
theorem eql_T : PureT Tryz.prog [] 62 eql_t := by
  intro xs ps r h hp
  unfold eql_t at h
  split at h
  · rename_i x y
    cases h
    exact weaken (ys := [_, _]) ⟨slE_sound (hp _ List.mem_cons_self), slE_sound (hp _ (List.mem_cons_of_mem _ List.mem_cons_self)), trivial⟩
      (pure_of_vc mixed tb0_sound (Eq.mp (by kernel_rfl) (eql_vc (slD x) (slD y)) : vcFn Tryz.prog T0 62 (eql_an (slD x) (slD y)) [slE (slD (α := Int) x), slE (slD (α := Int) y)] (.b (decide (intsOf x = intsOf y)))))
  · cases h
def hasI_t : List AV → Option (List Cond × AV)
  | [x, .v (.int .i64 n)] => some ([.b (slOk Int x)], .b (hasB (slD x) n))
  | _ => none
theorem has_T : PureT Tryz.prog [] 91 hasI_t := by
  intro xs ps r h hp
  unfold hasI_t at h
  split at h
  · rename_i x n
    cases h
    exact weaken (ys := [_, _]) ⟨slE_sound (hp _ List.mem_cons_self), avM_refl _, trivial⟩
      (pure_of_vc mixed tb0_sound (Eq.mp (by kernel_rfl) (has_vc (slD x) n) : vcFn Tryz.prog T0 91 (has_an (slD x) n) [slE (slD x), .i n] (.b (hasB (slD x) n))))
  · cases h
def usedOf (x : AV) : List Used := slD x
theorem deUo (f : Bool) (l : List Used) : usedOf (AV.xl f 3 l.length fun i j => Enc.enc (l.getD i ⟨0, [], []⟩) j) = l := slD_slE l
def used_t : List AV → Option (List Cond × AV)
  | [x, .v (.int .i64 n), .v (.int .i64 k)] => some ([.b (slOk Used x), .b (leB 0 n && leB n (usedOf x).length && Nat.blt (usedOf x).length 1000000000)], .i (usedN ((usedOf x).take n.toNat) k))
  | _ => none
theorem used_T : PureT Tryz.prog [] 93 used_t := by
  intro xs ps r h hp
  unfold used_t at h
  split at h
  · rename_i x n k
    cases h
    have h3 : (leB 0 n && leB n (usedOf x).length && Nat.blt (usedOf x).length 1000000000) = true := hp _ (List.mem_cons_of_mem _ List.mem_cons_self)
    rw [Bool.and_eq_true, Bool.and_eq_true, leB_iff, leB_iff, blt_iff] at h3
    exact weaken (ys := [_, _, _]) ⟨slE_sound (hp _ List.mem_cons_self), avM_refl _, avM_refl _, trivial⟩
      (pure_of_vc mixed tb0_sound (Eq.mp (by kernel_rfl) (used_vc (usedOf x) n k h3.1.1 h3.1.2 h3.2) : vcFn Tryz.prog T0 93 (used_an (usedOf x) n k) [slE (usedOf x), .i n, .i k] (.i (usedN ((usedOf x).take n.toNat) k))))
  · cases h
theorem idxBb_C (l : List Bool) (b : Bool) : PureCall Tryz.prog [] 89 [slE l, .b b] (.i (idxF (fun x => b == x) l 0)) :=
  pure_of_vc mixed tb0_sound (Eq.mp (by kernel_rfl) (idxB2_vc l b) : vcFn Tryz.prog T0 89 (idxB_an l b) [slE l, .b b] (.i (idxF (fun x => b == x) l 0)))
instance : LawEnc Bool := ⟨fun _ => rfl, fun _ => rfl⟩
def boolsOf (x : AV) : List Bool := slD x
def hasBB (l : List Bool) (b : Bool) : Bool := l.any fun x => b == x
theorem conBb_vc (l : List Bool) (b : Bool) : bndL [AV.xl false 1 (l.length) fun i j => AV.v (Value.bool (List.getD l i Enc.dflt)), AV.v (Value.bool b)] → Wk [AV.xl false 1 (l.length) fun i j => AV.v (Value.bool (List.getD l i Enc.dflt)), AV.v (Value.bool b)] [AV.xl false 1 (l.length) fun i j => AV.v (Value.bool (List.getD l i Enc.dflt)), AV.v (Value.bool b)] ∧ leB (0 : Int) (idxF (fun (x : Bool) => b == x) l 0) = hasBB l b := by
  intro hb
  exact ⟨Wk.refl _, idxF_any _ _ _⟩
def conBb_t : List AV → Option (List Cond × AV)
  | [x, .v (.bool b)] => some ([.b (slOk Bool x)], .b (hasBB (boolsOf x) b))
  | _ => none
theorem conBb_T : PureT Tryz.prog [] 63 conBb_t := by
  intro xs ps r h hp
  unfold conBb_t at h
  split at h
  · rename_i x b
    cases h
    exact weaken (ys := [_, _]) ⟨slE_sound (hp _ List.mem_cons_self), avM_refl _, trivial⟩
      (pure_of_vc mixed (TbSound.plus tb0_sound (inst_T (idxBb_C (boolsOf x) b))) (Eq.mp (by kernel_rfl) (conBb_vc (boolsOf x) b) : vcFn Tryz.prog (T0.plus 89 (inst [slE (boolsOf x), .b b] (.i (idxF (fun x => b == x) (boolsOf x) 0)))) 63 .auto [slE (boolsOf x), .b b] (.b (hasBB (boolsOf x) b))))
  · cases h

/-! ### nest.checkUsed -/

/-- The error of the i-th number of a used bar. -/
def pcE (all : List Cut) (b : Bar) (ps : List Int) (i : Nat) : Int :=
  bif ltB (ps.getD i 0) 0 || leB (all.length : Int) (ps.getD i 0) then 2
  else bif Nat.blt 0 i && leB (ps.getD i 0) (ps.getD (i - 1) 0) then 10
  else bif !sectB (all.getD (ps.getD i 0).toNat ⟨0, 0, 0, []⟩) b then 8 else 0
def barAt (bs : List Bar) (u : Used) : Bar := bs.getD u.bar.toNat ⟨0, 0, 0, 0, 0, []⟩
def kindE (all : List Cut) (bs : List Bar) (u : Used) : Int :=
  bif ltB u.bar 0 || leB (bs.length : Int) u.bar then 2
  else bif Nat.beq u.ps.length 0 then 5
  else firstN (pcE all (barAt bs u) u.ps) u.ps.length 0
def kind_an (all : List Cut) (bs : List Bar) (u : Used) : Ann :=
  .two .auto (.two .auto (.two .auto (.two (.two .auto (.one (.loop Nat (fun σ z => [(0, σ.tm 0), (1, σ.tm 1), (5, σ.tm 5), (24, σ.tm 24), (25, σ.tm 25), (26, .i z)]) (fun σ z => []) 0 (fun σ z => z ≤ u.ps.length ∧ ∀ i, i < z → pcE all (barAt bs u) u.ps i = 0) (fun σ z => u.ps.length - z) .auto))) .auto)))
theorem kind_vc (all : List Cut) (bs : List Bar) (u : Used) : bndL [slX 4 all, slX 6 bs, AV.agg 3 (Enc.enc u)] → bsplit (!bsel false (ltB (Used.bar u) (0 : Int)) || bsel false (ltB (Used.bar u) (0 : Int))) (bsplit (!bsel false (ltB (Used.bar u) (0 : Int)) || bsel false (ltB (Used.bar u) (0 : Int))) (bsplit (!bsel false (ltB (Used.bar u) (0 : Int)) || bsel false (ltB (Used.bar u) (0 : Int))) (bsplit (!bsel false (ltB (Used.bar u) (0 : Int)) || bsel false (ltB (Used.bar u) (0 : Int))) (bsplit (!!ltB (Used.bar u) (0 : Int) || bsel false (ltB (Used.bar u) (0 : Int))) (bsplit (bif ltB (Used.bar u)
 (0 : Int) then true else leB (bs.length : Int) (Used.bar u)) (IntKind.i64 = .i64 ∧ (2 : Int) = kindE all bs u) (bsplit ((↑(List.length (Used.ps u)) : Int) == (0 : Int)) (IntKind.i64 = .i64 ∧ (5 : Int) = kindE all bs u) ((∃ (z : Nat), ((z ≤ List.length (Used.ps u) ∧ ∀ (i : Nat), i < z → pcE all (barAt bs u) (Used.ps u) i = (0 : Int)) ∧ avM (slX 4 all) (slX 4 all) ∧ avM (slX 6 bs) (slX 6 bs) ∧ (nat_lit 0 = 0 ∧ 0 = 0) ∧ avM (slN (Used.ps u)) (slN (Used.ps u)) ∧ (IntKind.i64 = .i64 ∧ (↑(List.length (Used.ps u)) : Int) = (↑(List.length (Used.ps u)) : Int)) ∧ IntKind.i64 = .i64 ∧ (0 : Int) = (z :
 Int)) ∧ 50 = 50 ∧ 3 = 3 ∧ ((IntKind.i64 = .i64 ∧ Used.bar u = Used.bar u) ∧ avM (slN (Used.ps u)) (slN (Used.ps u))) ∧ avM (slN (Used.at_ u)) (slN (Used.at_ u))) ∧ ∀ (z : Nat), (z ≤ List.length (Used.ps u) ∧ ∀ (i : Nat), i < z → pcE all (barAt bs u) (Used.ps u) i = (0 : Int)) → bsplit (ltB (z : Int) (↑(List.length (Used.ps u)) : Int)) (bsplit (DB.db ((0 : Int) ≤ (z : Int) ∧ (z : Int) < (↑(List.length (Used.ps u)) : Int))) (bsplit (!bsel false (ltB (List.getD (Used.ps u) (Int.toNat (z : Int)) Enc.dflt) (0 : Int)) || bsel false (ltB (List.getD (Used.ps u) (Int.toNat (z : Int)) Enc.dflt) (0 :
 Int))) (bsplit (!bsel false (ltB (List.getD (Used.ps u) (Int.toNat (z : Int)) Enc.dflt) (0 : Int)) || bsel false (ltB (List.getD (Used.ps u) (Int.toNat (z : Int)) Enc.dflt) (0 : Int))) (bsplit (!bsel false (ltB (List.getD (Used.ps u) (Int.toNat (z : Int)) Enc.dflt) (0 : Int)) || bsel false (ltB (List.getD (Used.ps u) (Int.toNat (z : Int)) Enc.dflt) (0 : Int))) (bsplit (!!ltB (List.getD (Used.ps u) (Int.toNat (z : Int)) Enc.dflt) (0 : Int) || bsel false (ltB (List.getD (Used.ps u) (Int.toNat (z : Int)) Enc.dflt) (0 : Int))) (bsplit (bif ltB (List.getD (Used.ps u) (Int.toNat (z : Int)) Enc.dflt)
 (0 : Int) then true else leB (all.length : Int) (List.getD (Used.ps u) (Int.toNat (z : Int)) Enc.dflt)) (IntKind.i64 = .i64 ∧ (2 : Int) = kindE all bs u) (bsplit (!bsel true (ltB (0 : Int) (z : Int)) || bsel true (ltB (0 : Int) (z : Int))) (bsplit (!bsel true (ltB (0 : Int) (z : Int)) || bsel true (ltB (0 : Int) (z : Int))) (bsplit (!bsel true (ltB (0 : Int) (z : Int)) || DB.db (inK .i64 ((z : Int) - (1 : Int)))) (bsplit (!bsel true (ltB (0 : Int) (z : Int)) || bsel true (ltB (0 : Int) (z : Int))) (bsplit (!bsel true (ltB (0 : Int) (z : Int)) || bsel true (ltB (0 : Int) (z : Int))) (bsplit
 (!bsel true (ltB (0 : Int) (z : Int)) || DB.db ((0 : Int) ≤ (z : Int) - (1 : Int) ∧ (z : Int) - (1 : Int) < (↑(List.length (Used.ps u)) : Int))) (bsplit (!bsel true (ltB (0 : Int) (z : Int)) || bsel true (ltB (0 : Int) (z : Int))) (bsplit (!bsel true (ltB (0 : Int) (z : Int)) || bsel true (ltB (0 : Int) (z : Int))) (bsplit (!bsel true (ltB (0 : Int) (z : Int)) || bsel true (ltB (0 : Int) (z : Int))) (bsplit (!ltB (0 : Int) (z : Int) || bsel true (ltB (0 : Int) (z : Int))) (bsplit (bif ltB (0 : Int) (z : Int) then leB (List.getD (Used.ps u) (Int.toNat (z : Int)) Enc.dflt) (List.getD (Used.ps u)
 (Int.toNat ((z : Int) - (1 : Int))) Enc.dflt) else false) (IntKind.i64 = .i64 ∧ (10 : Int) = kindE all bs u) (bsplit (DB.db ((0 : Int) ≤ List.getD (Used.ps u) (Int.toNat (z : Int)) Enc.dflt ∧ List.getD (Used.ps u) (Int.toNat (z : Int)) Enc.dflt < (all.length : Int))) (bsplit (DB.db ((0 : Int) ≤ Used.bar u ∧ Used.bar u < (bs.length : Int))) (bsplit (agOk Cut (AV.agg 4 fun (i : Nat) => Enc.enc (List.getD all (Int.toNat (List.getD (Used.ps u) (Int.toNat (z : Int)) Enc.dflt)) Enc.dflt) (0 + i))) (bsplit (agOk Bar (AV.agg 6 fun (i : Nat) => Enc.enc (List.getD bs (Int.toNat (Used.bar u)) Enc.dflt) (0
 + i))) (bsplit (!sectB (agD (AV.agg 4 fun (i : Nat) => Enc.enc (List.getD all (Int.toNat (List.getD (Used.ps u) (Int.toNat (z : Int)) Enc.dflt)) Enc.dflt) (0 + i))) (agD (AV.agg 6 fun (i : Nat) => Enc.enc (List.getD bs (Int.toNat (Used.bar u)) Enc.dflt) (0 + i)))) (IntKind.i64 = .i64 ∧ (8 : Int) = kindE all bs u) (bsplit (DB.db (inK .i64 ((z : Int) + (1 : Int)))) (∃ (z' : Nat), (((z' ≤ List.length (Used.ps u) ∧ ∀ (i : Nat), i < z' → pcE all (barAt bs u) (Used.ps u) i = (0 : Int)) ∧ List.length (Used.ps u) - z' < List.length (Used.ps u) - z) ∧ avM (slX 4 all) (slX 4 all) ∧ avM (slX 6 bs) (slX 6
 bs) ∧ (nat_lit 0 = 0 ∧ 0 = 0) ∧ avM (slN (Used.ps u)) (slN (Used.ps u)) ∧ (IntKind.i64 = .i64 ∧ (↑(List.length (Used.ps u)) : Int) = (↑(List.length (Used.ps u)) : Int)) ∧ IntKind.i64 = .i64 ∧ (z : Int) + (1 : Int) = (z' : Int)) ∧ 50 = 50 ∧ 3 = 3 ∧ ((IntKind.i64 = .i64 ∧ Used.bar u = Used.bar u) ∧ avM (slN (Used.ps u)) (slN (Used.ps u))) ∧ avM (slN (Used.at_ u)) (slN (Used.at_ u))) False)) False) False) False) False)) False) False) False) False) False) False) False) False) False) False)) False) False) False) False) False) (IntKind.i64 = .i64 ∧ (0 : Int) = kindE all bs u)))) False) False) False)
 False) False := by
  intro hb
  have e0 : (Enc.dflt : Int) = 0 := rfl
  have e1 : (Enc.dflt : Cut) = ⟨0, 0, 0, []⟩ := rfl
  have e2 : (Enc.dflt : Bar) = ⟨0, 0, 0, 0, 0, []⟩ := rfl
  simp only [slX, slN, avM_refl, true_and, and_true, bsel_true, bsel_false, vc_own, bif_or, bif_and, vc_gdb, vc_db, vc_lt, vc_le, vc_ne, vc_eq, vc_tt, Int.toNat_natCast, Nat.zero_add, Nat.zero_le, Nat.sub_zero, agD_bar, agOk_bar, agD_bar', agOk_bar', agD_cut, agOk_cut, agD_cut', agOk_cut', agD_used, agOk_used, agD_used', agOk_used', int_i, Bool.or_true, cond_true, cond_false, okC, okC', deC, deC', okB, deB, okB', deB', okIn, okIn', deI, deI', okU, okU', deU, deU', okBl, deBl, okUl, deUl, deIo, cutsOf_sl, e0, e1, e2, ltB_nat, pred_nat]
  have hl : u.ps.length ≤ 9223372036854775807 := (allB_at hb.2.2 1 (by omega)).1
  refine bsplit_iff.2 ⟨fun h1 => by unfold kindE; rw [h1]; rfl, fun h1 => ⟨fun h2 => ?_, fun h2 => ?_⟩⟩
  · unfold kindE; rw [h1, show u.ps.length = 0 by omega]; rfl
  have hk : kindE all bs u = firstN (pcE all (barAt bs u) u.ps) u.ps.length 0 := by
    unfold kindE
    rw [h1, show Nat.beq u.ps.length 0 = false from (beq_cases u.ps.length 0).elim (fun h => absurd h.2 (by omega)) fun h => h.1]
    rfl
  have hbar : 0 ≤ u.bar ∧ u.bar < bs.length := by
    rw [Bool.or_eq_false_iff, ltB_eq, leB_eq, decide_eq_false_iff_not, decide_eq_false_iff_not] at h1
    omega
  refine ⟨⟨0, ⟨by omega, fun i hi => by omega⟩, rfl⟩, fun z ⟨z1, z2⟩ => ⟨fun hz => ⟨by omega, bsplit_iff.2 ⟨fun c1 => ?_, fun c1 => ⟨fun h => by have := (blt_iff _ _).1 h; simp only [inK]; omega, fun h => by have := (blt_iff _ _).1 h; omega, bsplit_iff.2 ⟨fun c2 => ?_, fun c2 => ⟨?_, hbar, bsplit_iff.2 ⟨fun c3 => ?_, fun c3 => ⟨by simp only [inK]; omega, z + 1, ⟨⟨by omega, fun i hi => ?_⟩, by omega⟩, by omega⟩⟩⟩⟩⟩⟩⟩, fun hz => ?_⟩⟩
  · have e : pcE all (barAt bs u) u.ps z = 2 := by unfold pcE; rw [c1]; rfl
    rw [hk, firstN_at (k := z) (by omega) z2 (by rw [e]; decide), e]
  · have e : pcE all (barAt bs u) u.ps z = 10 := by unfold pcE; rw [c1, c2]; rfl
    rw [hk, firstN_at (k := z) (by omega) z2 (by rw [e]; decide), e]
  · rw [Bool.or_eq_false_iff, ltB_eq, leB_eq, decide_eq_false_iff_not, decide_eq_false_iff_not] at c1
    omega
  · have e : pcE all (barAt bs u) u.ps z = 8 := by unfold pcE; rw [c1, c2, show barAt bs u = bs.getD u.bar.toNat ⟨0, 0, 0, 0, 0, []⟩ from rfl, c3]; rfl
    rw [hk, firstN_at (k := z) (by omega) z2 (by rw [e]; decide), e]
  · by_cases e : i = z
    · rw [e]; unfold pcE; rw [c1, c2, show barAt bs u = bs.getD u.bar.toNat ⟨0, 0, 0, 0, 0, []⟩ from rfl, c3]; rfl
    · exact z2 i (by omega)
  · rw [hk, firstN_none fun i hi => z2 i (by omega)]
def kind_t : List AV → Option (List Cond × AV)
  | [x, y, z] => some ([.b (slOk Cut x), .b (slOk Bar y), .b (agOk Used z)], .i (kindE (slD x) (slD y) (agD z)))
  | _ => none
theorem kind_T : PureT Tryz.prog [] 59 kind_t := by
  intro xs ps r h hp
  unfold kind_t at h
  split at h
  · rename_i x y z
    cases h
    exact weaken (ys := [_, _, _]) ⟨slE_sound (hp _ List.mem_cons_self), slE_sound (hp _ (List.mem_cons_of_mem _ List.mem_cons_self)), agE_sound (hp _ (List.mem_cons_of_mem _ (List.mem_cons_of_mem _ List.mem_cons_self))), trivial⟩
      (pure_of_vc mixed (TbSound.plus tb0_sound sectA_T) (Eq.mp (by kernel_rfl) (kind_vc (slD x) (slD y) (agD z)) : vcFn Tryz.prog (T0.plus 80 sect_t) 59 (kind_an (slD x) (slD y) (agD z)) [slE (slD x), slE (slD y), agE (agD z)] (.i (kindE (slD x) (slD y) (agD z)))))
  · cases h
theorem kindE_ok {all : List Cut} {bs : List Bar} {u : Used} (h : kindE all bs u = 0) :
    0 ≤ u.bar ∧ u.bar < bs.length ∧ 0 < u.ps.length ∧ inL all u.ps = true ∧ ascL u.ps = true := by
  unfold kindE at h
  cases c1 : ltB u.bar 0 || leB (bs.length : Int) u.bar with
  | true => rw [c1] at h; cases h
  | false =>
  rw [c1] at h
  cases c2 : Nat.beq u.ps.length 0 with
  | true => rw [c2] at h; cases h
  | false =>
  rw [c2] at h
  rw [Bool.or_eq_false_iff, ltB_eq, leB_eq, decide_eq_false_iff_not, decide_eq_false_iff_not] at c1
  have c3 := Nat.ne_of_beq_eq_false c2
  have hp : ∀ i, i < u.ps.length → 0 ≤ u.ps.getD i 0 ∧ u.ps.getD i 0 < all.length ∧ (0 < i → u.ps.getD (i - 1) 0 < u.ps.getD i 0) := fun i hi => by
    have := firstN_all (z := 0) h i hi
    rw [Nat.zero_add] at this
    unfold pcE at this
    cases d1 : ltB (u.ps.getD i 0) 0 || leB (all.length : Int) (u.ps.getD i 0) with
    | true => rw [d1] at this; cases this
    | false =>
    rw [d1] at this
    cases d2 : Nat.blt 0 i && leB (u.ps.getD i 0) (u.ps.getD (i - 1) 0) with
    | true => rw [d2] at this; cases this
    | false =>
    rw [Bool.or_eq_false_iff, ltB_eq, leB_eq, decide_eq_false_iff_not, decide_eq_false_iff_not] at d1
    refine ⟨by omega, by omega, fun h0 => ?_⟩
    rw [(blt_iff _ _).2 h0, Bool.true_and, leB_eq, decide_eq_false_iff_not] at d2
    omega
  refine ⟨by omega, by omega, by omega, ?_, allN_of fun i hi => decide_eq_true ?_⟩
  · unfold inL
    rw [List.all_eq_true]
    intro x hx
    obtain ⟨i, hi, rfl⟩ := List.getElem_of_mem hx
    have := hp i hi
    rw [List.getD_eq_getElem?_getD, List.getElem?_eq_getElem hi, Option.getD_some] at this
    rw [Bool.and_eq_true, leB_iff, ltB_iff]
    omega
  · have := (hp (i + 1) (by omega)).2.2 (by omega)
    simpa using this

/-! ### slices.ContainsFunc over what nest.Check has seen -/

def seesAt (x : AV) (n : Nat) : Bool := (slD (α := Bool) x).getD n false
theorem sees_vc (n : Int) (l : List Bool) (h0 : 0 ≤ n) (hn : n < l.length) : bndL [AV.v (Value.int .i64 n), AV.xq 1 (fun (x : Nat) => AV.xl false 1 (l.length) fun i j => AV.v (Value.bool (List.getD l i Enc.dflt))) 0] → bsplit (DB.db ((0 : Int) ≤ n ∧ n < (l.length : Int))) (List.getD l (Int.toNat n) Enc.dflt = List.getD l (Int.toNat n) false) False := by
  intro hb
  simp only [slX, slN, avM_refl, true_and, and_true, bsel_true, bsel_false, vc_own, bif_or, bif_and, vc_gdb, vc_db, vc_lt, vc_le, vc_ne, vc_eq, vc_tt, Int.toNat_natCast, Nat.zero_add, Nat.zero_le, Nat.sub_zero, agD_bar, agOk_bar, agD_bar', agOk_bar', agD_cut, agOk_cut, agD_cut', agOk_cut', agD_used, agOk_used, agD_used', agOk_used', int_i, Bool.or_true, cond_true, cond_false]
  exact ⟨⟨h0, hn⟩, rfl⟩
def sees_t : List AV → Option (List Cond × AV)
  | [.v (.int .i64 n), .xq 1 cells 0] => some ([.b (slOk Bool (cells 0)), .b (leB 0 n && ltB n ((boolsOf (cells 0)).length : Int))], .b ((boolsOf (cells 0)).getD n.toNat false))
  | _ => none
theorem sees_T : PureT Tryz.prog [] 60 sees_t := by
  intro xs ps r h hp
  unfold sees_t at h
  split at h
  · rename_i n cells
    cases h
    have h2 : (leB 0 n && ltB n ((boolsOf (cells 0)).length : Int)) = true := hp _ (List.mem_cons_of_mem _ List.mem_cons_self)
    rw [Bool.and_eq_true, leB_iff, ltB_iff] at h2
    exact weaken (ys := [.i n, .xq 1 (fun _ => slE (boolsOf (cells 0))) 0]) ⟨avM_refl _, ⟨rfl, rfl, slE_sound (hp _ List.mem_cons_self)⟩, trivial⟩
      (pure_of_vc mixed tb0_sound (Eq.mp (by kernel_rfl) (sees_vc n (boolsOf (cells 0)) h2.1 h2.2) : vcFn Tryz.prog T0 60 .auto [.i n, .xq 1 (fun _ => slE (boolsOf (cells 0))) 0] (.b ((boolsOf (cells 0)).getD n.toNat false))))
  · cases h
def fnS (s : List Bool) : AV := .fn (.func 60) 0 (fun _ => .junk) 1 (fun _ => .xq 1 (fun _ => slE s) 0)
def inS (l : List Int) (s : List Bool) : Bool := l.all fun n => leB 0 n && ltB n (s.length : Int)
theorem inS_at {l : List Int} {s : List Bool} (h : inS l s = true) {i : Nat} (hi : i < l.length) : 0 ≤ l.getD i 0 ∧ l.getD i 0 < s.length := by
  have := List.all_eq_true.1 h (l.getD i 0) (by rw [List.getD_eq_getElem?_getD, List.getElem?_eq_getElem hi]; exact List.getElem_mem hi)
  rw [Bool.and_eq_true, leB_iff, ltB_iff] at this
  exact this
def seenIn (s : List Bool) (n : Int) : Bool := s.getD n.toNat false
theorem idxS_vc (l : List Int) (s : List Bool) (h : inS l s = true) : bndL [slN l, AV.fn (Fn.func (60 : FuncId)) 0 (fun (x : Nat) => AV.junk) 1 fun (x : Nat) => AV.xq 1 (fun (x : Nat) => AV.xl false 1 (s.length) fun i j => AV.v (Value.bool (List.getD s i Enc.dflt))) 0] → (∃ (z : Nat), ((z ≤ l.length ∧ idxF (seenIn s) (List.drop z l) z = idxF (seenIn s) l 0) ∧ avM (slN l) (slN l) ∧ avM (AV.fn (Fn.func (60 : FuncId)) 0 (fun (x : Nat) => AV.junk) 1 fun (x : Nat) => AV.xq 1 (fun (x : Nat) => AV.xl false 1 (s.length) fun i j => AV.v (Value.bool (List.getD s i Enc.dflt))) 0) (AV.fn (Fn.func (60 :
 FuncId)) 0 (fun (x : Nat) => AV.junk) 1 fun (x : Nat) => AV.xq 1 (fun (x : Nat) => AV.xl false 1 (s.length) fun i j => AV.v (Value.bool (List.getD s i Enc.dflt))) 0) ∧ avM (slN l) (slN l) ∧ (IntKind.i64 = .i64 ∧ (l.length : Int) = (l.length : Int)) ∧ IntKind.i64 = .i64 ∧ (0 : Int) = (z : Int)) ∧ True) ∧ ∀ (z : Nat), z ≤ l.length ∧ idxF (seenIn s) (List.drop z l) z = idxF (seenIn s) l 0 → bsplit (ltB (z : Int) (l.length : Int)) (bsplit (DB.db ((0 : Int) ≤ (z : Int) ∧ (z : Int) < (l.length : Int))) (bsplit (slOk Bool (AV.xl false 1 (s.length) fun i j => AV.v (Value.bool (List.getD s i
 Enc.dflt)))) (bsplit (leB (0 : Int) (List.getD l (Int.toNat (z : Int)) Enc.dflt) && ltB (List.getD l (Int.toNat (z : Int)) Enc.dflt) (↑(List.length (boolsOf (AV.xl false 1 (s.length) fun i j => AV.v (Value.bool (List.getD s i Enc.dflt))))) : Int)) (bsplit (List.getD (boolsOf (AV.xl false 1 (s.length) fun i j => AV.v (Value.bool (List.getD s i Enc.dflt)))) (Int.toNat (List.getD l (Int.toNat (z : Int)) Enc.dflt)) false) (IntKind.i64 = .i64 ∧ (z : Int) = idxF (seenIn s) l 0) (bsplit (DB.db (inK .i64 ((z : Int) + (1 : Int)))) (∃ (z' : Nat), (((z' ≤ l.length ∧ idxF (seenIn s) (List.drop z' l) z' =
 idxF (seenIn s) l 0) ∧ l.length - z' < l.length - z) ∧ avM (slN l) (slN l) ∧ avM (AV.fn (Fn.func (60 : FuncId)) 0 (fun (x : Nat) => AV.junk) 1 fun (x : Nat) => AV.xq 1 (fun (x : Nat) => AV.xl false 1 (s.length) fun i j => AV.v (Value.bool (List.getD s i Enc.dflt))) 0) (AV.fn (Fn.func (60 : FuncId)) 0 (fun (x : Nat) => AV.junk) 1 fun (x : Nat) => AV.xq 1 (fun (x : Nat) => AV.xl false 1 (s.length) fun i j => AV.v (Value.bool (List.getD s i Enc.dflt))) 0) ∧ avM (slN l) (slN l) ∧ (IntKind.i64 = .i64 ∧ (l.length : Int) = (l.length : Int)) ∧ IntKind.i64 = .i64 ∧ (z : Int) + (1 : Int) = (z' : Int)) ∧
 True) False)) False) False) False) (IntKind.i64 = .i64 ∧ (-1 : Int) = idxF (seenIn s) l 0) := by
  intro hb
  have hl : l.length ≤ 9223372036854775807 := hb.1.1
  have e0 : (Enc.dflt : Int) = 0 := rfl
  have okBo : ∀ s : List Bool, slOk Bool (AV.xl false 1 s.length fun i j => AV.v (Value.bool (s.getD i Enc.dflt))) = true := fun s => slOk_slE s
  have deBo : ∀ s : List Bool, boolsOf (AV.xl false 1 s.length fun i j => AV.v (Value.bool (s.getD i Enc.dflt))) = s := fun s => slD_slE s
  simp only [slX, slN, avM_refl, true_and, and_true, bsel_true, bsel_false, vc_own, bif_or, bif_and, vc_gdb, vc_db, vc_lt, vc_le, vc_ne, vc_eq, vc_tt, Int.toNat_natCast, Nat.zero_add, Nat.zero_le, Nat.sub_zero, agD_bar, agOk_bar, agD_bar', agOk_bar', agD_cut, agOk_cut, agD_cut', agOk_cut', agD_used, agOk_used, agD_used', agOk_used', int_i, Bool.or_true, cond_true, cond_false, e0, okBo, deBo]
  refine ⟨⟨0, ⟨by omega, rfl⟩, rfl⟩, fun z ⟨h1, h2⟩ => ⟨fun hz => ⟨by omega, vc_b.2 ⟨?_, (bsplit_iff (t := seenIn s (l.getD z 0))).2 ⟨fun hp => ?_, fun hp => ?_⟩⟩⟩, fun hz => ?_⟩⟩
  · have := inS_at h (i := z) (by omega)
    rw [Bool.and_eq_true, leB_iff, ltB_iff]
    exact this
  · rw [getD_drop (d := 0) (by omega), idxF, hp] at h2; exact h2
  · rw [getD_drop (d := 0) (by omega), idxF, hp] at h2
    exact ⟨by simp only [inK]; omega, z + 1, ⟨⟨by omega, h2⟩, by omega⟩, by omega⟩
  · rw [show z = l.length by omega, List.drop_length] at h2; exact h2
theorem idxS_C (l : List Int) (s : List Bool) (h : inS l s = true) : PureCall Tryz.prog [] 82 [slE l, fnS s] (.i (idxF (seenIn s) l 0)) :=
  pure_of_vc mixed (TbSound.plus tb0_sound sees_T) (Eq.mp (by kernel_rfl) (idxS_vc l s h) : vcFn Tryz.prog (T0.plus 60 sees_t) 82 (idx_an l (seenIn s)) [slE l, fnS s] (.i (idxF (seenIn s) l 0)))
theorem conS_vc (l : List Int) (s : List Bool) : bndL [AV.xl false 1 (l.length) fun i j => AV.v (Value.int .i64 (List.getD l i Enc.dflt)), AV.fn (Fn.func (60 : FuncId)) 0 (fun (x : Nat) => AV.junk) 1 fun (x : Nat) => AV.xq 1 (fun (x : Nat) => AV.xl false 1 (s.length) fun i j => AV.v (Value.bool (List.getD s i Enc.dflt))) 0] → Wk [AV.xl false 1 (l.length) fun i j => AV.v (Value.int .i64 (List.getD l i Enc.dflt)), AV.fn (Fn.func (60 : FuncId)) 0 (fun (x : Nat) => AV.junk) 1 fun (x : Nat) => AV.xq 1 (fun (x : Nat) => AV.xl false 1 (s.length) fun i j => AV.v (Value.bool (List.getD s i Enc.dflt)))
 0] [AV.xl false 1 (l.length) fun i j => AV.v (Value.int .i64 (List.getD l i Enc.dflt)), AV.fn (Fn.func (60 : FuncId)) 0 (fun (x : Nat) => AV.junk) 1 fun (x : Nat) => AV.xq 1 (fun (x : Nat) => AV.xl false 1 (s.length) fun i j => AV.v (Value.bool (List.getD s i Enc.dflt))) 0] ∧ leB (0 : Int) (idxF (seenIn s) l 0) = List.any l (seenIn s) := by
  intro hb
  exact ⟨Wk.refl _, idxF_any _ _ _⟩
def conS_t : List AV → Option (List Cond × AV)
  | [x, .fn (.func f) nf a nc c] =>
    match c 0 with
    | .xq 1 cells 0 => bif Nat.beq f 60 && Nat.beq nf 0 && Nat.beq nc 1 then some ([.b (slOk Int x), .b (slOk Bool (cells 0)), .b (inS (slD x) (boolsOf (cells 0)))], .b ((slD (α := Int) x).any (seenIn (boolsOf (cells 0))))) else none
    | _ => none
  | _ => none
theorem conS_T : PureT Tryz.prog [] 45 conS_t := by
  intro xs ps r h hp
  unfold conS_t at h
  split at h
  · rename_i x f nf a nc c
    split at h
    · rename_i cells hc0
      cases hc : Nat.beq f 60 && Nat.beq nf 0 && Nat.beq nc 1 with
      | false => rw [hc] at h; cases h
      | true =>
        rw [hc] at h
        cases h
        simp only [Bool.and_eq_true] at hc
        obtain rfl := Nat.eq_of_beq_eq_true hc.1.1
        obtain rfl := Nat.eq_of_beq_eq_true hc.1.2
        obtain rfl := Nat.eq_of_beq_eq_true hc.2
        have h1 : slOk Int x = true := hp _ List.mem_cons_self
        have h2 : slOk Bool (cells 0) = true := hp _ (List.mem_cons_of_mem _ List.mem_cons_self)
        have h3 : inS (slD x) (boolsOf (cells 0)) = true := hp _ (List.mem_cons_of_mem _ (List.mem_cons_of_mem _ List.mem_cons_self))
        refine weaken (ys := [slE (slD (α := Int) x), fnS (boolsOf (cells 0))]) ⟨slE_sound h1, ⟨rfl, rfl, rfl, trivial, ?_⟩, trivial⟩
          (pure_of_vc mixed (TbSound.plus tb0_sound (inst_T (idxS_C _ _ h3))) (Eq.mp (by kernel_rfl) (conS_vc (slD x) (boolsOf (cells 0))) : vcFn Tryz.prog (T0.plus 82 (inst [slE (slD x), fnS (boolsOf (cells 0))] (.i (idxF (seenIn (boolsOf (cells 0))) (slD x) 0)))) 45 .auto [slE (slD x), fnS (boolsOf (cells 0))] (.b ((slD (α := Int) x).any (seenIn (boolsOf (cells 0)))))))
        show avM (c 0) _
        rw [hc0]
        exact ⟨rfl, rfl, slE_sound h2⟩
    · cases h
  · cases h
end Go.Tz
