/- cutlist.Check and kingpostref42.Check: the error of a list of pieces. -/
import Derived.Test.YtojonobehnbeiaaGreatDoorTzL
import Derived.Test.YtojonobehnbeiaaGreatDoorTzN
set_option linter.unusedSimpArgs false
namespace Go.Tz
open Go Go.Sx Go.Proofs
set_option maxRecDepth 100000
def pOut (n : Int) : Bool := ltB n 0 || leB 512 n
def ascL (l : List Int) : Bool := allN (fun i => decide (l.getD i 0 < l.getD (i + 1) 0)) (l.length - 1)
def pieceE (c : Cut) : Int :=
  bif ltB c.w 1 || ltB 1000 c.w || ltB c.d 1 || ltB 1000 c.d || ltB c.l 1 || ltB 1048576 c.l then 2
  else bif Nat.beq c.ms.length 0 then 5
  else bif c.ms.any pOut then 2
  else bif ascL c.ms then 0 else 10
def Cut.key (c : Cut) : Key := ⟨c.w, c.d, c.l, c.ms.getD 0 0⟩
def behB (a b : Cut) : Bool := Key.lt a.key b.key
theorem behind_vc (a b : Cut) (ha : 0 < a.ms.length) (hb : 0 < b.ms.length) : bndL [AV.agg 4 (Enc.enc a), AV.agg 4 (Enc.enc b)] → bsplit (Cut.w a != Cut.w b) (ltB (Cut.w a) (Cut.w b) = behB a b) (bsplit (Cut.d a != Cut.d b) (ltB (Cut.d a) (Cut.d b) = behB a b) (bsplit (Cut.l a != Cut.l b) (ltB (Cut.l b) (Cut.l a) = behB a b) (bsplit (DB.db ((0 : Int) ≤ (0 : Int) ∧ (0 : Int) < (↑(List.length (Cut.ms a)) : Int))) (bsplit (DB.db ((0 : Int) ≤ (0 : Int) ∧ (0 : Int) < (↑(List.length (Cut.ms b)) : Int))) (ltB (List.getD (Cut.ms a) 0 Enc.dflt) (List.getD (Cut.ms b) 0 Enc.dflt) = behB a b) False)
 False))) := by
  intro _
  simp only [slX, slN, avM_refl, true_and, and_true, bsel_true, bsel_false, vc_own, bif_or, bif_and, vc_gdb, vc_db, vc_lt, vc_le, vc_ne, vc_eq, vc_tt, Int.toNat_natCast, Nat.zero_add, Nat.zero_le, Nat.sub_zero, agD_bar, agOk_bar, agD_bar', agOk_bar', agD_cut, agOk_cut, agD_cut', agOk_cut', agD_used, agOk_used, agD_used', agOk_used', int_i, Bool.or_true, cond_true, cond_false]
  have e : (Enc.dflt : Int) = 0 := rfl
  rw [e]
  simp only [behB, Key.lt, Cut.key, ltB_eq]
  refine ⟨fun h => ?_, fun h => ⟨fun h2 => ?_, fun h2 => ⟨fun h3 => ?_, fun h3 => ⟨⟨by omega, by omega⟩, ⟨by omega, by omega⟩, ?_⟩⟩⟩⟩ <;> (congr 1; rw [eq_iff_iff]; omega)
def piece_an (c : Cut) : Ann :=
  .two .auto (.two .auto (.two .auto (.two (.two .auto (.one (.loop Nat (fun σ z => [(1, σ.tm 1), (3, .i z)]) (fun σ z => []) 0 (fun σ z => z ≤ c.ms.length ∧ ∀ i, i < z → pOut (c.ms.getD i 0) = false) (fun σ z => c.ms.length - z) .auto))) (.two (.two .auto (.one (.loop Nat (fun σ z => [(1, σ.tm 1), (4, .i z)]) (fun σ z => []) 0 (fun σ z => 1 ≤ z ∧ z ≤ c.ms.length ∧ ∀ i, i + 1 < z → c.ms.getD i 0 < c.ms.getD (i + 1) 0) (fun σ z => c.ms.length - z) .auto))) .auto))))
theorem piece_vc (c : Cut) :
 let q1 := (!bsel false (ltB (Cut.w c) (1 : Int)) || bsel false (ltB (Cut.w c) (1 : Int))); let q3 := (bif ltB (Cut.w c) (1 : Int) then true else ltB (1000 : Int) (Cut.w c)); let q2 := (!bsel false q3 || bsel false q3); let q5 := (bif bif ltB (Cut.w c) (1 : Int) then true else ltB (1000 : Int) (Cut.w c) then true else ltB (Cut.d c) (1 : Int)); let q4 := (!bsel false q5 || bsel false q5); let q7 := (bif bif bif ltB (Cut.w c) (1 : Int) then true else ltB (1000 : Int) (Cut.w c) then true else ltB (Cut.d c) (1 : Int) then true else ltB (1000 : Int) (Cut.d c)); let q6 := (!bsel false q7 || bsel false
 q7); let q9 := (bif bif bif bif ltB (Cut.w c) (1 : Int) then true else ltB (1000 : Int) (Cut.w c) then true else ltB (Cut.d c) (1 : Int) then true else ltB (1000 : Int) (Cut.d c) then true else ltB (Cut.l c) (1 : Int)); let q8 := (!bsel false q9 || bsel false q9); let q10 := (IntKind.i64 = .i64 ∧ (2 : Int) = pieceE c); let q11 := (((IntKind.i64 = .i64 ∧ Cut.w c = Cut.w c) ∧ IntKind.i64 = .i64 ∧ Cut.d c = Cut.d c) ∧ IntKind.i64 = .i64 ∧ Cut.l c = Cut.l c); bndL [AV.agg 4 (Enc.enc c)] → bsplit q1 (bsplit q1 (bsplit (!!ltB (Cut.w c) (1 : Int) || bsel false (ltB (Cut.w c) (1 : Int))) (bsplit q2
 (bsplit q2 (bsplit ((!!bif ltB (Cut.w c) (1 : Int) then true else ltB (1000 : Int) (Cut.w c)) || bsel false q3) (bsplit q4 (bsplit q4 (bsplit ((!!bif bif ltB (Cut.w c) (1 : Int) then true else ltB (1000 : Int) (Cut.w c) then true else ltB (Cut.d c) (1 : Int)) || bsel false q5) (bsplit q6 (bsplit q6 (bsplit ((!!bif bif bif ltB (Cut.w c) (1 : Int) then true else ltB (1000 : Int) (Cut.w c) then true else ltB (Cut.d c) (1 : Int) then true else ltB (1000 : Int) (Cut.d c)) || bsel false q7) (bsplit q8 (bsplit q8 (bsplit ((!!bif bif bif bif ltB (Cut.w c) (1 : Int) then true else ltB (1000 : Int)
 (Cut.w c) then true else ltB (Cut.d c) (1 : Int) then true else ltB (1000 : Int) (Cut.d c) then true else ltB (Cut.l c) (1 : Int)) || bsel false q9) (bsplit (bif bif bif bif bif ltB (Cut.w c) (1 : Int) then true else ltB (1000 : Int) (Cut.w c) then true else ltB (Cut.d c) (1 : Int) then true else ltB (1000 : Int) (Cut.d c) then true else ltB (Cut.l c) (1 : Int) then true else ltB (1048576 : Int) (Cut.l c)) q10 (bsplit ((↑(List.length (Cut.ms c)) : Int) == (0 : Int)) (IntKind.i64 = .i64 ∧ (5 : Int) = pieceE c) ((∃ (z : Nat), ((z ≤ List.length (Cut.ms c) ∧ ∀ (i : Nat), i < z → pOut (List.getD
 (Cut.ms c) i (0 : Int)) = false) ∧ (nat_lit 0 = 0 ∧ 0 = 0) ∧ IntKind.i64 = .i64 ∧ (0 : Int) = (z : Int)) ∧ 69 = 69 ∧ 4 = 4 ∧ q11 ∧ avM (slN (Cut.ms c)) (slN (Cut.ms c))) ∧ ∀ (z : Nat), let q12 := ((0 : Int) ≤ (z : Int) ∧ (z : Int) < (↑(List.length (Cut.ms c)) : Int)); let q15 := (List.getD (Cut.ms c) (Int.toNat (z : Int)) Enc.dflt); let q14 := (ltB q15 (0 : Int)); let q13 := (!bsel false q14 || bsel false q14); (z ≤ List.length (Cut.ms c) ∧ ∀ (i : Nat), i < z → pOut (List.getD (Cut.ms c) i (0 : Int)) = false) → bsplit (ltB (z : Int) (↑(List.length (Cut.ms c)) : Int)) (bsplit (DB.db q12) (bsplit
 q13 (bsplit q13 (bsplit q13 (bsplit (!bsel false q14 || DB.db q12) (bsplit q13 (bsplit q13 (bsplit (!!ltB q15 (0 : Int) || bsel false q14) (bsplit (bif ltB q15 (0 : Int) then true else leB (512 : Int) q15) q10 (bsplit (DB.db (inK .i64 ((z : Int) + (1 : Int)))) (∃ (z' : Nat), (((z' ≤ List.length (Cut.ms c) ∧ ∀ (i : Nat), i < z' → pOut (List.getD (Cut.ms c) i (0 : Int)) = false) ∧ List.length (Cut.ms c) - z' < List.length (Cut.ms c) - z) ∧ (nat_lit 0 = 0 ∧ 0 = 0) ∧ IntKind.i64 = .i64 ∧ (z : Int) + (1 : Int) = (z' : Int)) ∧ 69 = 69 ∧ 4 = 4 ∧ q11 ∧ avM (slN (Cut.ms c)) (slN (Cut.ms c))) False))
 False) False) False) False) False) False) False) False) ((∃ (z : Nat), ((1 ≤ z ∧ z ≤ List.length (Cut.ms c) ∧ ∀ (i : Nat), i + 1 < z → List.getD (Cut.ms c) i (0 : Int) < List.getD (Cut.ms c) (i + 1) (0 : Int)) ∧ (nat_lit 0 = 0 ∧ 0 = 0) ∧ IntKind.i64 = .i64 ∧ (1 : Int) = (z : Int)) ∧ 69 = 69 ∧ 4 = 4 ∧ q11 ∧ avM (slN (Cut.ms c)) (slN (Cut.ms c))) ∧ ∀ (z : Nat), (1 ≤ z ∧ z ≤ List.length (Cut.ms c) ∧ ∀ (i : Nat), i + 1 < z → List.getD (Cut.ms c) i (0 : Int) < List.getD (Cut.ms c) (i + 1) (0 : Int)) → bsplit (ltB (z : Int) (↑(List.length (Cut.ms c)) : Int)) (bsplit (DB.db ((0 : Int) ≤ (z : Int) ∧ (z
 : Int) < (↑(List.length (Cut.ms c)) : Int))) (bsplit (DB.db (inK .i64 ((z : Int) - (1 : Int)))) (bsplit (DB.db ((0 : Int) ≤ (z : Int) - (1 : Int) ∧ (z : Int) - (1 : Int) < (↑(List.length (Cut.ms c)) : Int))) (bsplit (leB (List.getD (Cut.ms c) (Int.toNat (z : Int)) Enc.dflt) (List.getD (Cut.ms c) (Int.toNat ((z : Int) - (1 : Int))) Enc.dflt)) (IntKind.i64 = .i64 ∧ (10 : Int) = pieceE c) (bsplit (DB.db (inK .i64 ((z : Int) + (1 : Int)))) (∃ (z' : Nat), (((1 ≤ z' ∧ z' ≤ List.length (Cut.ms c) ∧ ∀ (i : Nat), i + 1 < z' → List.getD (Cut.ms c) i (0 : Int) < List.getD (Cut.ms c) (i + 1) (0 : Int)) ∧
 List.length (Cut.ms c) - z' < List.length (Cut.ms c) - z) ∧ (nat_lit 0 = 0 ∧ 0 = 0) ∧ IntKind.i64 = .i64 ∧ (z : Int) + (1 : Int) = (z' : Int)) ∧ 69 = 69 ∧ 4 = 4 ∧ q11 ∧ avM (slN (Cut.ms c)) (slN (Cut.ms c))) False)) False) False) False) (IntKind.i64 = .i64 ∧ (0 : Int) = pieceE c))))) False) False) False) False) False) False) False) False) False) False) False) False) False) False) False := by
  dsimp only
  intro hb
  have hlen : c.ms.length ≤ 9223372036854775807 := (allB_at hb 3 (by omega)).1
  simp only [slX, slN, avM_refl, true_and, and_true, bsel_true, bsel_false, vc_own, bif_or, bif_and, vc_gdb, vc_db, vc_lt, vc_le, vc_ne, vc_eq, vc_tt, Int.toNat_natCast, Nat.zero_add, Nat.zero_le, Nat.sub_zero, agD_bar, agOk_bar, agD_bar', agOk_bar', agD_cut, agOk_cut, agD_cut', agOk_cut', agD_used, agOk_used, agD_used', agOk_used', int_i, Bool.or_true, cond_true, cond_false]
  have hany : ∀ z, z < c.ms.length → pOut (c.ms.getD z 0) = true → c.ms.any pOut = true := fun z hz hp => by
    rw [List.any_eq_true]
    exact ⟨c.ms[z], List.getElem_mem hz, by rw [List.getD_eq_getElem?_getD, List.getElem?_eq_getElem hz] at hp; exact hp⟩
  have hnone : (∀ i, i < c.ms.length → pOut (c.ms.getD i 0) = false) → c.ms.any pOut = false := fun h => by
    rw [List.any_eq_false]
    intro x hx
    obtain ⟨i, hi, rfl⟩ := List.getElem_of_mem hx
    have := h i hi
    rw [List.getD_eq_getElem?_getD, List.getElem?_eq_getElem hi] at this
    simpa using this
  have e0 : (Enc.dflt : Int) = 0 := rfl
  rw [e0]
  unfold pieceE
  refine bsplit_iff.2 ⟨fun h => by rw [h]; rfl, fun h => ?_⟩
  rw [h]
  simp only [cond_false]
  refine ⟨fun h5 => ?_, fun h5 => ?_⟩
  · rw [show c.ms.length = 0 by omega]; rfl
  rw [show Nat.beq c.ms.length 0 = false from (beq_cases c.ms.length 0).elim (fun h => absurd h.2 (by omega)) fun h => h.1]
  simp only [cond_false]
  refine ⟨⟨0, ⟨by omega, fun i hi => by omega⟩, rfl⟩, fun z ⟨hz, hi⟩ => ⟨fun hlt => ⟨⟨by omega, by omega⟩, fun _ => ⟨by omega, by omega⟩, bsplit_iff.2 ⟨fun hp => ?_, fun hp => ⟨by simp only [inK]; omega, z + 1, ⟨⟨by omega, fun i hi' => ?_⟩, by omega⟩, by omega⟩⟩⟩, fun hge => ?_⟩⟩
  · rw [hany z (by omega) hp]; rfl
  · by_cases e : i = z
    · rw [e]; exact hp
    · exact hi i (by omega)
  rw [hnone fun i hi' => hi i (by omega)]
  simp only [cond_false]
  refine ⟨⟨1, ⟨by omega, by omega, fun i hi => by omega⟩, rfl⟩, fun y ⟨h1, h2, h3⟩ => ⟨fun hlt => ⟨⟨by omega, by omega⟩, by simp only [inK]; omega, ⟨by omega, by omega⟩, fun hle => ?_, fun hl => ⟨by simp only [inK]; omega, y + 1, ⟨⟨by omega, by omega, fun i hi' => ?_⟩, by omega⟩, by omega⟩⟩, fun hge => ?_⟩⟩
  · rw [show ascL c.ms = false by
      rw [Bool.eq_false_iff]
      intro h
      have := of_decide_eq_true (allN_true h (y - 1) (by omega))
      rw [show y - 1 + 1 = y by omega] at this
      rw [show ((y : Int) - 1).toNat = y - 1 by omega] at hle
      omega]
    rfl
  · by_cases e : i + 1 = y
    · rw [show ((y : Int) - 1).toNat = i by omega] at hl
      rw [e]; exact hl
    · exact h3 i (by omega)
  · rw [show ascL c.ms = true from allN_of fun i hi => decide_eq_true (h3 i (by omega))]
    rfl
def behB_t : List AV → Option (List Cond × AV) := fun xs => match xs with
    | [x, y] => some ([.b (agOk Cut x), .b (agOk Cut y), .b (Nat.blt 0 (agD (α := Cut) x).ms.length), .b (Nat.blt 0 (agD (α := Cut) y).ms.length)], .b (behB (agD x) (agD y)))
    | _ => none
theorem behB_T : PureT Tryz.prog [] 84 behB_t := by
  intro xs ps r h hp
  unfold behB_t at h
  split at h
  · rename_i x y
    cases h
    have h1 : agOk Cut x = true := hp _ List.mem_cons_self
    have h2 : agOk Cut y = true := hp _ (List.mem_cons_of_mem _ List.mem_cons_self)
    have h3 := (blt_iff _ _).1 (hp _ (List.mem_cons_of_mem _ (List.mem_cons_of_mem _ List.mem_cons_self)) : Nat.blt _ _ = true)
    have h4 := (blt_iff _ _).1 (hp _ (List.mem_cons_of_mem _ (List.mem_cons_of_mem _ (List.mem_cons_of_mem _ List.mem_cons_self))) : Nat.blt _ _ = true)
    exact weaken (ys := [_, _]) ⟨agE_sound h1, agE_sound h2, trivial⟩ (pure_of_vc mixed tb0_sound (Eq.mp (by kernel_rfl) (behind_vc (agD x) (agD y) h3 h4) : vcFn Tryz.prog T0 84 .auto [agE (agD (α := Cut) x), agE (agD (α := Cut) y)] (.b (behB (agD x) (agD y)))))
  · cases h
def piece_t : List AV → Option (List Cond × AV)
  | [x] => some ([.b (agOk Cut x)], .i (pieceE (agD x)))
  | _ => none
theorem piece_T : PureT Tryz.prog [] 83 piece_t := by
  intro xs ps r h hp
  unfold piece_t at h
  split at h
  · rename_i x
    cases h
    exact weaken (ys := [_]) ⟨agE_sound (hp _ List.mem_cons_self), trivial⟩ (pure_of_vc mixed tb0_sound (Eq.mp (by kernel_rfl) (piece_vc (agD x)) : vcFn Tryz.prog T0 83 (piece_an (agD x)) [agE (agD x)] (.i (pieceE (agD x)))))
  · cases h
def orderC (a b : Cut) : Int := or4 (cmpI a.w b.w) (cmpI a.d b.d) (cmpI b.l a.l) (cmpI (a.ms.getD 0 0) (b.ms.getD 0 0))
theorem orderC_neg (a b : Cut) : leB 0 (orderC a b) = !behB a b := by
  unfold behB Key.lt orderC Cut.key
  rw [leB_eq, ← decide_not]
  congr 1
  rw [eq_iff_iff, ← Int.not_lt]
  simp only [or4_lt, cmpI_lt, cmpI_eq]
def orderC_t : List AV → Option (List Cond × AV) := fun xs => match xs with
    | [x, y] => some ([.b (agOk Cut x), .b (agOk Cut y), .b (Nat.blt 0 (agD (α := Cut) x).ms.length), .b (Nat.blt 0 (agD (α := Cut) y).ms.length)], .i (orderC (agD x) (agD y)))
    | _ => none
theorem orderC_T : PureT Tryz.prog [] 38 orderC_t := by
  intro xs ps r h hp
  unfold orderC_t at h
  split at h
  · rename_i x y
    cases h
    have h1 : agOk Cut x = true := hp _ List.mem_cons_self
    have h2 : agOk Cut y = true := hp _ (List.mem_cons_of_mem _ List.mem_cons_self)
    have h3 : Nat.blt _ _ = true := (hp _ (List.mem_cons_of_mem _ (List.mem_cons_of_mem _ List.mem_cons_self)) : Nat.blt _ _ = true)
    have h4 : Nat.blt _ _ = true := (hp _ (List.mem_cons_of_mem _ (List.mem_cons_of_mem _ (List.mem_cons_of_mem _ List.mem_cons_self))) : Nat.blt _ _ = true)
    refine weaken (ys := [_, _]) ⟨agE_sound h1, agE_sound h2, trivial⟩ (order_T [agE (agD (α := Cut) x), agE (agD (α := Cut) y)] [.b (Nat.blt 0 (agD (α := Cut) x).ms.length), .b (Nat.blt 0 (agD (α := Cut) y).ms.length)] _ rfl fun p hp' => ?_)
    simp only [List.mem_cons, List.not_mem_nil, or_false] at hp'
    rcases hp' with rfl | rfl
    · exact h3
    · exact h4
  · cases h
def seenAt (l : List Cut) : Nat → List Int
  | 0 => []
  | z + 1 => seenAt l z ++ (l.getD z ⟨0, 0, 0, []⟩).ms
def memB (s : List Int) (i : Nat) : Bool := s.any fun m => m == (i : Int)
def cutE (l : List Cut) (z : Nat) : Int :=
  let c := l.getD z ⟨0, 0, 0, []⟩
  bif pieceE c != 0 then pieceE c
  else bif Nat.blt 0 z && !behB (l.getD (z - 1) ⟨0, 0, 0, []⟩) c then 10
  else bif c.ms.any fun m => (seenAt l z).any fun x => x == m then 7 else 0
def firstN (f : Nat → Int) : Nat → Nat → Int
  | 0, _ => 0
  | n + 1, z => bif f z != 0 then f z else firstN f n (z + 1)
def cutsE (l : List Cut) : Int := bif Nat.blt 512 l.length then 4 else firstN (cutE l) l.length 0
theorem firstN_skip {f : Nat → Int} : ∀ {k n : Nat}, k ≤ n → (∀ i, i < k → f i = 0) → firstN f n 0 = firstN f (n - k) k
  | 0, n, _, _ => by simp
  | k + 1, n, hk, h => by
    rw [firstN_skip (k := k) (by omega) fun i hi => h i (by omega)]
    obtain ⟨m, hm⟩ : ∃ m, n - k = m + 1 := ⟨n - k - 1, by omega⟩
    rw [hm, firstN, h k (by omega)]
    simp only [bne_self_eq_false, cond_false]
    congr 1
    omega
theorem firstN_at {f : Nat → Int} {k n : Nat} (hk : k < n) (h : ∀ i, i < k → f i = 0) (hz : f k ≠ 0) : firstN f n 0 = f k := by
  rw [firstN_skip (by omega) h]
  obtain ⟨m, hm⟩ : ∃ m, n - k = m + 1 := ⟨n - k - 1, by omega⟩
  rw [hm, firstN, bne_iff_ne.2 hz]
  rfl
theorem firstN_none {f : Nat → Int} {n : Nat} (h : ∀ i, i < n → f i = 0) : firstN f n 0 = 0 := by
  rw [firstN_skip (Nat.le_refl _) h, Nat.sub_self]; rfl
theorem cutE_piece {l : List Cut} {z : Nat} (h : pieceE (l.getD z ⟨0, 0, 0, []⟩) ≠ 0) : cutE l z = pieceE (l.getD z ⟨0, 0, 0, []⟩) := by
  unfold cutE; simp only [bne_iff_ne.2 h, cond_true]
theorem cutE_ord {l : List Cut} {z : Nat} (h : pieceE (l.getD z ⟨0, 0, 0, []⟩) = 0) (h2 : (Nat.blt 0 z && !behB (l.getD (z - 1) ⟨0, 0, 0, []⟩) (l.getD z ⟨0, 0, 0, []⟩)) = true) : cutE l z = 10 := by
  unfold cutE; simp only [h, h2, bne_self_eq_false, cond_true, cond_false]
theorem mem_seen {s : List Int} {m : Int} (h : 0 ≤ m) : (s.any fun x => x == m) = memB s m.toNat := by
  unfold memB; rw [Int.toNat_of_nonneg h]
theorem pieceE_ok {c : Cut} (h : pieceE c = 0) : 0 < c.ms.length ∧ (∀ i, i < c.ms.length → 0 ≤ c.ms.getD i 0 ∧ c.ms.getD i 0 < 512) ∧ ascL c.ms = true := by
  unfold pieceE at h
  cases h1 : ltB c.w 1 || ltB 1000 c.w || ltB c.d 1 || ltB 1000 c.d || ltB c.l 1 || ltB 1048576 c.l with
  | true => rw [h1] at h; cases h
  | false =>
  rw [h1] at h
  cases h2 : Nat.beq c.ms.length 0 with
  | true => rw [h2] at h; cases h
  | false =>
  rw [h2] at h
  cases h3 : c.ms.any pOut with
  | true => rw [h3] at h; cases h
  | false =>
  rw [h3] at h
  cases h4 : ascL c.ms with
  | false => rw [h4] at h; cases h
  | true =>
  refine ⟨by have := Nat.ne_of_beq_eq_false h2; omega, fun i hi => ?_, rfl⟩
  rw [List.any_eq_false] at h3
  have := h3 _ (List.getElem_mem hi)
  rw [List.getD_eq_getElem?_getD, List.getElem?_eq_getElem hi, Option.getD_some]
  unfold pOut at this
  rw [Bool.not_eq_true, Bool.or_eq_false_iff, ltB_eq, leB_eq, decide_eq_false_iff_not, decide_eq_false_iff_not] at this
  omega
theorem asc_len {l : List Int} (h : ∀ i, i < l.length → 0 ≤ l.getD i 0 ∧ l.getD i 0 < 512) (ha : ascL l = true) : l.length ≤ 512 := by
  have hi : ∀ i, i < l.length → (i : Int) ≤ l.getD i 0 := by
    intro i
    induction i with
    | zero => intro hi; exact (h 0 hi).1
    | succ i ih =>
      intro hi
      have h1 := ih (by omega)
      have h2 := of_decide_eq_true (allN_true ha i (by omega))
      omega
  by_cases hz : l.length = 0
  · omega
  have h1 := hi (l.length - 1) (by omega)
  have h2 := (h (l.length - 1) (by omega)).2
  omega
theorem any_at {l : List Int} {p : Int → Bool} {i : Nat} (hi : i < l.length) (h : p (l.getD i 0) = true) : l.any p = true := by
  rw [List.any_eq_true]
  refine ⟨l[i], List.getElem_mem hi, ?_⟩
  rw [List.getD_eq_getElem?_getD, List.getElem?_eq_getElem hi] at h
  exact h
theorem any_none {l : List Int} {p : Int → Bool} (h : ∀ i, i < l.length → p (l.getD i 0) = false) : l.any p = false := by
  rw [List.any_eq_false]
  intro x hx
  obtain ⟨i, hi, rfl⟩ := List.getElem_of_mem hx
  have := h i hi
  rw [List.getD_eq_getElem?_getD, List.getElem?_eq_getElem hi] at this
  simpa using this
theorem cutE_seen {l : List Cut} {z i : Nat} (h : pieceE (l.getD z ⟨0, 0, 0, []⟩) = 0) (h2 : (Nat.blt 0 z && !behB (l.getD (z - 1) ⟨0, 0, 0, []⟩) (l.getD z ⟨0, 0, 0, []⟩)) = false)
    (hi : i < (l.getD z ⟨0, 0, 0, []⟩).ms.length) (hm : memB (seenAt l z) ((l.getD z ⟨0, 0, 0, []⟩).ms.getD i 0).toNat = true) : cutE l z = 7 := by
  unfold cutE
  simp only [h, h2, bne_self_eq_false, cond_false]
  rw [any_at hi (by rw [mem_seen ((pieceE_ok h).2.1 i hi).1]; exact hm)]
  rfl
theorem cutE_none {l : List Cut} {z : Nat} (h : pieceE (l.getD z ⟨0, 0, 0, []⟩) = 0) (h2 : (Nat.blt 0 z && !behB (l.getD (z - 1) ⟨0, 0, 0, []⟩) (l.getD z ⟨0, 0, 0, []⟩)) = false)
    (hm : ∀ i, i < (l.getD z ⟨0, 0, 0, []⟩).ms.length → memB (seenAt l z) ((l.getD z ⟨0, 0, 0, []⟩).ms.getD i 0).toNat = false) : cutE l z = 0 := by
  unfold cutE
  simp only [h, h2, bne_self_eq_false, cond_false]
  rw [any_none fun i hi => by rw [mem_seen ((pieceE_ok h).2.1 i hi).1]; exact hm i hi]
  rfl
theorem cutE_zero {l : List Cut} {z : Nat} (h : cutE l z = 0) : pieceE (l.getD z ⟨0, 0, 0, []⟩) = 0 := by
  by_cases hp : pieceE (l.getD z ⟨0, 0, 0, []⟩) = 0
  · exact hp
  · rw [cutE_piece hp] at h; exact h
theorem memB_app (s t : List Int) (i : Nat) : memB (s ++ t) i = (memB s i || memB t i) := by unfold memB; rw [List.any_append]
theorem memB_take {s l : List Int} {y : Nat} (hy : y < l.length) (h0 : 0 ≤ l.getD y 0) (i : Nat) :
    memB (s ++ l.take (y + 1)) i = if i = (l.getD y 0).toNat then true else memB (s ++ l.take y) i := by
  have e : l.take (y + 1) = l.take y ++ [l.getD y 0] := by
    rw [List.take_add_one, List.getElem?_eq_getElem hy, List.getD_eq_getElem?_getD, List.getElem?_eq_getElem hy]; rfl
  rw [e, ← List.append_assoc, memB_app]
  unfold memB
  simp only [List.any_cons, List.any_nil, Bool.or_false]
  by_cases hi : i = (l.getD y 0).toNat
  · rw [if_pos hi]
    rw [show (l.getD y 0 == (i : Int)) = true by rw [beq_iff_eq]; omega, Bool.or_true]
  · rw [if_neg hi]
    rw [show (l.getD y 0 == (i : Int)) = false by rw [beq_eq_false_iff_ne]; omega, Bool.or_false]
theorem cutsE_at {l : List Cut} {z : Nat} (hl : l.length ≤ 512) (hz : z < l.length) (h : ∀ i, i < z → cutE l i = 0) (hne : cutE l z ≠ 0) : cutsE l = cutE l z := by
  unfold cutsE
  rw [show Nat.blt 512 l.length = false by rw [Bool.eq_false_iff]; intro h; have := (blt_iff _ _).1 h; omega]
  exact firstN_at hz h hne
theorem cutsE_none {l : List Cut} (hl : l.length ≤ 512) (h : ∀ i, i < l.length → cutE l i = 0) : cutsE l = 0 := by
  unfold cutsE
  rw [show Nat.blt 512 l.length = false by rw [Bool.eq_false_iff]; intro h; have := (blt_iff _ _).1 h; omega]
  exact firstN_none h
theorem seenAt_succ (l : List Cut) (z : Nat) : seenAt l (z + 1) = seenAt l z ++ (l.getD z ⟨0, 0, 0, []⟩).ms := rfl
def Trk : Tb := (T0.plus 83 piece_t).plus 84 behB_t
theorem Trk_sound : TbSound Tryz.prog Trk := TbSound.plus (TbSound.plus tb0_sound piece_T) behB_T
def cutNow (l : List Cut) (x : AV) : Cut := l.getD (AV.int x).toNat ⟨0, 0, 0, []⟩
def seenB (s : List Int) : OB := .arr 4 1 512 fun i _ => .b (memB s i)
def refK_an (l : List Cut) : Ann :=
  .two .auto (.two .auto (.two .auto (.two (.two .auto (.one (.loop Nat (fun σ z => [(0, σ.tm 0), (3, σ.tm 3), (4, .i z)]) (fun σ z => [(0, seenB (seenAt l z))]) 0 (fun σ z => z ≤ l.length ∧ ∀ i, i < z → cutE l i = 0) (fun σ z => l.length - z) (.two .auto (.two (.one (.two .auto (.two .auto (.two (.two .auto (.one (.loop Nat (fun σ z => [(0, σ.tm 0), (3, σ.tm 3), (4, σ.tm 4), (6, .i z)]) (fun σ z => []) 0 (fun σ z => z ≤ (cutNow l (σ.tm 4)).ms.length ∧ ∀ i, i < z → memB (seenAt l (AV.int (σ.tm 4)).toNat) ((cutNow l (σ.tm 4)).ms.getD i 0).toNat = false) (fun σ z => (cutNow l (σ.tm 4)).ms.length - z) .auto))) (.two .auto (.one (.loop Nat (fun σ z => [(0, σ.tm 0), (3, σ.tm 3), (4, σ.tm 4), (7, .i z)]) (fun σ z => [(0, seenB (seenAt l (AV.int (σ.tm 4)).toNat ++ (cutNow l (σ.tm 4)).ms.take z))]) 0 (fun σ z => z ≤ (cutNow l (σ.tm 4)).ms.length) (fun σ z => (cutNow l (σ.tm 4)).ms.length - z) .auto))))))) .auto))))) .auto)))
theorem refK_vc (l : List Cut) :
 bndL [slX 4 l] → bsplit (ltB (512 : Int) (l.length : Int)) (IntKind.i64 = .i64 ∧ (4 : Int) = cutsE l) ((∃ (z : Nat), ((z ≤ l.length ∧ ∀ (i : Nat), i < z → cutE l i = (0 : Int)) ∧ avM (slX 4 l) (slX 4 l) ∧ (nat_lit 0 = 0 ∧ 0 = 0 ∧ 512 = 512) ∧ IntKind.i64 = .i64 ∧ (0 : Int) = (z : Int)) ∧ (4 : TypeId) = 4 ∧ 1 = 1 ∧ 512 = 512 ∧ ∀ (i j : Nat), i < 512 → j < 1 → avM (zcell (Value.bool false) j) (AV.v (Value.bool (memB (seenAt l z) i)))) ∧ ∀ (z : Nat), let q2 := ((0 : Int) ≤ (z : Int) ∧ (z : Int) < (l.length : Int)); let q1 := (DB.db q2); let q4 := (List.getD l (Int.toNat (z : Int)) Enc.dflt); let
 q3 := (AV.agg 4 fun (i : Nat) => Enc.enc q4 (0 + i)); let q5 := (agD q3); let q6 := (!bsel true (ltB (0 : Int) (z : Int)) || bsel true (ltB (0 : Int) (z : Int))); let q7 := (AV.agg 4 fun (i : Nat) => Enc.enc (List.getD l (Int.toNat ((z : Int) - (1 : Int))) Enc.dflt) (0 + i)); let q8 := (agD q7); let q9 := (Cut.ms (cutNow l (AV.v (Value.int .i64 (z : Int))))); let q11 := (Int.toNat (AV.int (AV.v (Value.int .i64 (z : Int))))); let q10 := (seenAt l q11); let q12 := (IntKind.i64 = .i64 ∧ (z : Int) = (z : Int)); let q14 := (Cut.ms q4); let q13 := (↑(List.length q14) : Int); (z ≤ l.length ∧ ∀ (i :
 Nat), i < z → cutE l i = (0 : Int)) → bsplit (ltB (z : Int) (l.length : Int)) (bsplit q1 (bsplit (agOk Cut q3) (bsplit (pieceE q5 != (0 : Int)) (IntKind.i64 = .i64 ∧ pieceE q5 = cutsE l) (bsplit q6 (bsplit (!bsel true (ltB (0 : Int) (z : Int)) || DB.db (inK .i64 ((z : Int) - (1 : Int)))) (bsplit q6 (bsplit q6 (bsplit (!bsel true (ltB (0 : Int) (z : Int)) || DB.db ((0 : Int) ≤ (z : Int) - (1 : Int) ∧ (z : Int) - (1 : Int) < (l.length : Int))) (bsplit q6 (bsplit q6 (bsplit q6 (bsplit (!bsel true (ltB (0 : Int) (z : Int)) || DB.db q2) (bsplit q6 (bsplit q6 (bsplit q6 (bsplit (!bsel true (ltB (0 :
 Int) (z : Int)) || agOk Cut q7) (bsplit (!bsel true (ltB (0 : Int) (z : Int)) || agOk Cut q3) (bsplit (!bsel true (ltB (0 : Int) (z : Int)) || Nat.blt 0 (List.length (Cut.ms q8))) (bsplit (!bsel true (ltB (0 : Int) (z : Int)) || Nat.blt 0 (List.length (Cut.ms q5))) (bsplit q6 (bsplit (!ltB (0 : Int) (z : Int) || bsel true (ltB (0 : Int) (z : Int))) (bsplit (bif ltB (0 : Int) (z : Int) then !behB q8 q5 else false) (IntKind.i64 = .i64 ∧ (10 : Int) = cutsE l) ((∃ (z_1 : Nat), ((z_1 ≤ List.length q9 ∧ ∀ (i : Nat), i < z_1 → memB q10 (Int.toNat (List.getD q9 i (0 : Int))) = false) ∧ avM (slX 4 l)
 (slX 4 l) ∧ (nat_lit 0 = 0 ∧ 0 = 0 ∧ 512 = 512) ∧ q12 ∧ IntKind.i64 = .i64 ∧ (0 : Int) = (z_1 : Int)) ∧ 4 = 4 ∧ 1 = 1 ∧ 512 = 512 ∧ ∀ (i j : Nat), i < 512 → j < 1 → memB (seenAt l z) i = memB (seenAt l z) i) ∧ ∀ (z_1 : Nat), (z_1 ≤ List.length q9 ∧ ∀ (i : Nat), i < z_1 → memB q10 (Int.toNat (List.getD q9 i (0 : Int))) = false) → bsplit q1 (bsplit (ltB (z_1 : Int) q13) (bsplit q1 (bsplit (DB.db ((0 : Int) ≤ (z_1 : Int) ∧ (z_1 : Int) < q13)) (bsplit (DB.db ((0 : Int) ≤ List.getD q14 (Int.toNat (z_1 : Int)) Enc.dflt ∧ List.getD q14 (Int.toNat (z_1 : Int)) Enc.dflt < (↑512 : Int))) (bsplit (memB
 (seenAt l z) (0 + Int.toNat (List.getD q14 (Int.toNat (z_1 : Int)) Enc.dflt))) (IntKind.i64 = .i64 ∧ (7 : Int) = cutsE l) (bsplit (DB.db (inK .i64 ((z_1 : Int) + (1 : Int)))) (∃ (z' : Nat), (((z' ≤ List.length q9 ∧ ∀ (i : Nat), i < z' → memB q10 (Int.toNat (List.getD q9 i (0 : Int))) = false) ∧ List.length q9 - z' < List.length q9 - z_1) ∧ avM (slX 4 l) (slX 4 l) ∧ (nat_lit 0 = 0 ∧ 0 = 0 ∧ 512 = 512) ∧ q12 ∧ IntKind.i64 = .i64 ∧ (z_1 : Int) + (1 : Int) = (z' : Int)) ∧ 4 = 4 ∧ 1 = 1 ∧ 512 = 512 ∧ ∀ (i j : Nat), i < 512 → j < 1 → memB (seenAt l z) i = memB (seenAt l z) i) False)) False) False)
 False) ((∃ (z_2 : Nat), (z_2 ≤ List.length q9 ∧ avM (slX 4 l) (slX 4 l) ∧ (nat_lit 0 = 0 ∧ 0 = 0 ∧ 512 = 512) ∧ q12 ∧ IntKind.i64 = .i64 ∧ (0 : Int) = (z_2 : Int)) ∧ 4 = 4 ∧ 1 = 1 ∧ 512 = 512 ∧ ∀ (i j : Nat), i < 512 → j < 1 → memB (seenAt l z) i = memB (seenAt l q11 ++ List.take z_2 q9) i) ∧ ∀ (z_2 : Nat), let q15 := (seenAt l q11 ++ List.take z_2 q9); z_2 ≤ List.length q9 → bsplit q1 (bsplit (ltB (z_2 : Int) q13) (bsplit q1 (bsplit (DB.db ((0 : Int) ≤ (z_2 : Int) ∧ (z_2 : Int) < q13)) (bsplit (DB.db ((0 : Int) ≤ List.getD q14 (Int.toNat (z_2 : Int)) Enc.dflt ∧ List.getD q14 (Int.toNat (z_2 :
 Int)) Enc.dflt < (↑512 : Int))) (bsplit (DB.db (inK .i64 ((z_2 : Int) + (1 : Int)))) (∃ (z' : Nat), ((z' ≤ List.length q9 ∧ List.length q9 - z' < List.length q9 - z_2) ∧ avM (slX 4 l) (slX 4 l) ∧ (nat_lit 0 = 0 ∧ 0 = 0 ∧ 512 = 512) ∧ q12 ∧ IntKind.i64 = .i64 ∧ (z_2 : Int) + (1 : Int) = (z' : Int)) ∧ 4 = 4 ∧ 1 = 1 ∧ 512 = 512 ∧ ∀ (i j : Nat), i < 512 → j < 1 → avM (if i = 0 + Int.toNat (List.getD q14 (Int.toNat (z_2 : Int)) Enc.dflt) ∧ 0 ≤ j ∧ j < 1 then AV.v (Value.bool true) else AV.v (Value.bool (memB q15 i))) (AV.v (Value.bool (memB (seenAt l q11 ++ List.take z' q9) i)))) False) False)
 False) False) (bsplit (DB.db (inK .i64 ((z : Int) + (1 : Int)))) (∃ (z' : Nat), (((z' ≤ l.length ∧ ∀ (i : Nat), i < z' → cutE l i = (0 : Int)) ∧ l.length - z' < l.length - z) ∧ avM (slX 4 l) (slX 4 l) ∧ (nat_lit 0 = 0 ∧ 0 = 0 ∧ 512 = 512) ∧ IntKind.i64 = .i64 ∧ (z : Int) + (1 : Int) = (z' : Int)) ∧ 4 = 4 ∧ 1 = 1 ∧ 512 = 512 ∧ ∀ (i j : Nat), i < 512 → j < 1 → memB q15 i = memB (seenAt l z') i) False)) False)) False)) False) False) False) False) False) False) False) False) False) False) False) False) False) False) False) False) False) False)) False) False) (IntKind.i64 = .i64 ∧ (0 : Int) = cutsE
 l)) := by
  dsimp only
  intro hb
  have hl : l.length ≤ 9223372036854775807 := hb.1
  have e0 : (Enc.dflt : Int) = 0 := rfl
  have e1 : (Enc.dflt : Cut) = ⟨0, 0, 0, []⟩ := rfl
  simp only [slX, slN, avM_refl, true_and, and_true, bsel_true, bsel_false, vc_own, bif_or, bif_and, vc_gdb, vc_db, vc_lt, vc_le, vc_ne, vc_eq, vc_tt, Int.toNat_natCast, Nat.zero_add, Nat.zero_le, Nat.sub_zero, agD_bar, agOk_bar, agD_bar', agOk_bar', agD_cut, agOk_cut, agD_cut', agOk_cut', agD_used, agOk_used, agD_used', agOk_used', int_i, Bool.or_true, cond_true, cond_false, cutNow, e0, e1, ltB_nat, pred_nat]
  refine ⟨fun h => ?_, fun hle => ⟨⟨0, ⟨⟨by omega, fun i hi => by omega⟩, rfl⟩, fun i j _ hj => by obtain rfl : j = 0 := Nat.lt_one_iff.1 hj; exact avM_of_eq rfl⟩, fun z ⟨hz, hi⟩ => ⟨fun hlt => ⟨⟨by omega, by omega⟩, fun hne => ?_, fun he => ?_⟩, fun hge => ?_⟩⟩⟩
  · unfold cutsE; rw [(blt_iff _ _).2 (by omega)]; rfl
  · rw [cutsE_at (z := z) (by omega) (by omega) hi (by rw [cutE_piece hne]; exact hne), cutE_piece hne]
  · have hok := pieceE_ok he
    have hms := asc_len hok.2.1 hok.2.2
    have hat : ∀ v, cutE l z = v → v ≠ 0 → v = cutsE l := fun v hv hv0 => by rw [cutsE_at (z := z) (by omega) (by omega) hi (by rw [hv]; exact hv0), hv]
    have hz0 : z - 1 < l.length := by omega
    refine ⟨fun h => by have := (blt_iff _ _).1 h; simp only [inK]; omega, fun h => by have := (blt_iff _ _).1 h; exact ⟨by omega, by omega⟩, fun _ => ⟨by omega, by omega⟩,
      vc_grd.2 ⟨fun h => (blt_iff _ _).2 (pieceE_ok (cutE_zero (hi (z - 1) (by have := (blt_iff _ _).1 h; omega)))).1, vc_grd.2 ⟨fun _ => (blt_iff _ _).2 hok.1, bsplit_iff.2 ⟨fun h2 => hat 10 (cutE_ord he h2) (by decide), fun h2 => ?_⟩⟩⟩⟩
    refine ⟨⟨0, ⟨⟨by omega, fun i hi => by omega⟩, rfl⟩, fun _ _ _ _ => trivial⟩, fun y ⟨hy, hs⟩ => ⟨⟨by omega, by omega⟩, fun hyl => ⟨⟨by omega, by omega⟩, ⟨by omega, by omega⟩, hok.2.1 y (by omega), bsplit_iff.2 ⟨fun hm => hat 7 (cutE_seen he h2 (by omega) hm) (by decide), fun hm => ?_⟩⟩, fun hyl => ?_⟩⟩
    · refine ⟨by simp only [inK]; omega, y + 1, ⟨⟨⟨by omega, fun i hi' => ?_⟩, by omega⟩, by omega⟩, fun _ _ _ _ => trivial⟩
      by_cases e : i = y
      · rw [e]; exact hm
      · exact hs i (by omega)
    · have hzero := cutE_none he h2 fun i hi' => hs i (by omega)
      refine ⟨⟨0, ⟨by omega, rfl⟩, fun i j _ _ => by rw [List.take_zero, List.append_nil]⟩, fun y2 hy2 => ⟨⟨by omega, by omega⟩, fun hy2l => ?_, fun hy2l => ?_⟩⟩
      · refine ⟨⟨by omega, by omega⟩, ⟨by omega, by omega⟩, hok.2.1 y2 (by omega), by simp only [inK]; omega, y2 + 1, ⟨⟨by omega, by omega⟩, by omega⟩, fun i j _ hj => ?_⟩
        rw [memB_take (by omega) (hok.2.1 y2 (by omega)).1]
        by_cases e : i = ((l.getD z ⟨0, 0, 0, []⟩).ms.getD y2 0).toNat
        · rw [if_pos ⟨e, hj⟩, if_pos e]; exact avM_refl _
        · rw [if_neg fun h => e h.1, if_neg e]; exact avM_refl _
      · refine ⟨by simp only [inK]; omega, z + 1, ⟨⟨⟨by omega, fun i hi' => ?_⟩, by omega⟩, by omega⟩, fun i j _ _ => ?_⟩
        · by_cases e : i = z
          · rw [e]; exact hzero
          · exact hi i (by omega)
        · rw [seenAt_succ, List.take_of_length_le (by omega)]
  · rw [cutsE_none (by omega) fun i hi' => hi i (by omega)]
end Go.Tz
