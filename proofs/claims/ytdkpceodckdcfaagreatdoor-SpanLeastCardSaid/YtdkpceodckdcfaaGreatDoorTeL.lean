/- kingpostref02: reading numbers. -/
import Derived.Test.YtdkpceodckdcfaaGreatDoorTeJ
import Derived.Test.YtdkpceodckdcfaaGreatDoorArO
import Derived.Test.YtdkpceodckdcfaaGreatDoorTeIi
set_option linter.unusedSimpArgs false
set_option linter.unusedVariables false
namespace Go.Te
open Go Go.Sx Go.Proofs Go.Ar Go.Lib
set_option maxRecDepth 100000
set_option maxHeartbeats 4000000
def r2digits_an (s : Str) : Ann :=
  .two .auto (.two .auto (.two (.two .auto (.one (.loop Nat (fun σ z => [(0, σ.tm 0), (3, .i z)]) (fun σ z => []) 0 (fun σ z => z ≤ s.length ∧ ∀ i, i < z → isDg (s.getD i 0) = true) (fun σ z => s.length - z) .auto))) .auto))
def r2digits_t : List AV → Option (List Cond × AV)
  | [.str s] => some ([.p (s.length ≤ 4294967280)], .b (digS s))
  | _ => none
theorem r2digits_vc (s : List UInt8) (hl : s.length ≤ 4294967280) :
 let q1 := (!bsel false ((↑(List.length s) : Int) == (0 : Int)) || bsel false ((↑(List.length s) : Int) == (0 : Int))); let q4 := (ltB (1 : Int) (↑(List.length s) : Int)); let q3 := (bsel false ((↑(List.length s) : Int) == (0 : Int)) && bsel true q4); let q2 := (!q3 || bsel false ((↑(List.length s) : Int) == (0 : Int)) && bsel true q4); bndL [AV.str s] → bsplit q1 (bsplit q1 (bsplit q1 (bsplit q2 (bsplit (!q3 || DB.db ((0 : Int) ≤ (0 : Int) ∧ (0 : Int) < (↑(List.length s) : Int))) (bsplit q2 (bsplit q1 (bsplit (!bsel false ((↑(List.length s) : Int) == (0 : Int)) || (!ltB (1 : Int) (↑(List.length
 s) : Int) || bsel false ((↑(List.length s) : Int) == (0 : Int)) && bsel true q4)) (bsplit (!!(↑(List.length s) : Int) == (0 : Int) || bsel false ((↑(List.length s) : Int) == (0 : Int))) (bsplit (bif (↑(List.length s) : Int) == (0 : Int) then true else bif ltB (1 : Int) (↑(List.length s) : Int) then (↑(UInt8.toNat (List.getD s 0 (0 : UInt8))) : Int) == (48 : Int) else false) (false = digS s) ((∃ (z : Nat), ((z ≤ List.length s ∧ ∀ (i : Nat), i < z → isDg (List.getD s i (0 : UInt8)) = true) ∧ s = s ∧ IntKind.i64 = .i64 ∧ (0 : Int) = (↑z : Int)) ∧ True) ∧ ∀ (z : Nat), let q5 := ((0 : Int) ≤ (↑z :
 Int) ∧ (↑z : Int) < (↑(List.length s) : Int)); let q8 := (↑(UInt8.toNat (List.getD s (Int.toNat (↑z : Int)) (0 : UInt8))) : Int); let q7 := (ltB q8 (48 : Int)); let q6 := (!bsel false q7 || bsel false q7); (z ≤ List.length s ∧ ∀ (i : Nat), i < z → isDg (List.getD s i (0 : UInt8)) = true) → bsplit (ltB (↑z : Int) (↑(List.length s) : Int)) (bsplit (DB.db q5) (bsplit q6 (bsplit q6 (bsplit (!bsel false q7 || DB.db q5) (bsplit q6 (bsplit (!!ltB q8 (48 : Int) || bsel false q7) (bsplit (bif ltB q8 (48 : Int) then true else ltB (57 : Int) q8) (false = digS s) (bsplit (DB.db (inK .i64 ((↑z : Int) + (1 :
 Int)))) (∃ (z' : Nat), (((z' ≤ List.length s ∧ ∀ (i : Nat), i < z' → isDg (List.getD s i (0 : UInt8)) = true) ∧ List.length s - z' < List.length s - z) ∧ s = s ∧ IntKind.i64 = .i64 ∧ (↑z : Int) + (1 : Int) = (↑z' : Int)) ∧ True) False)) False) False) False) False) False) False) (true = digS s))) False) False) False) False) False) False) False) False) False := by
  dsimp only
  intro hb
  simp only [sS, dS, ltB_nat, dgc]
  have e48 : (((s.getD 0 0).toNat : Int) == 48) = (s.getD 0 0 == 48) := byte_eq (s.getD 0 0) 48 (by decide)
  rw [e48]
  refine ⟨fun h => ⟨Int.le_refl _, ?_⟩, ?_⟩
  · rw [Bool.and_eq_true, ltB_iff] at h; omega
  by_cases h0 : s.length = 0
  · have he : s = [] := List.eq_nil_of_length_eq_zero h0
    subst he
    exact rfl
  rw [show ((s.length : Int) == 0) = false from beq_eq_false_iff_ne.2 (by omega)]
  simp only [Bool.not_false, Bool.not_true, Bool.false_or, Bool.true_and]
  rw [show (!ltB 1 (s.length : Int) || ltB 1 (s.length : Int)) = true by cases ltB 1 (s.length : Int) <;> rfl, vc_tt]
  refine bsplit_iff.2 ⟨fun c => ?_, fun c => ⟨⟨0, ⟨Nat.zero_le _, fun i hi => absurd hi (Nat.not_lt_zero _)⟩, rfl⟩, fun z ⟨z1, z2⟩ => ⟨fun hz => ⟨⟨by omega, hz⟩, fun _ => ⟨by omega, hz⟩, bsplit_iff.2 ⟨fun c2 => ?_, fun c2 => ⟨⟨by omega, by omega⟩, z + 1, ⟨⟨by omega, fun i hi => ?_⟩, by omega⟩, by omega⟩⟩⟩, fun hz => ?_⟩⟩⟩
  · rw [Bool.and_eq_true, ltB_iff, beq_iff_eq] at c
    refine (Bool.eq_false_iff.2 fun e => (digS_at.1 e).2.2 (by omega) c.2).symm
  · rw [Bool.not_eq_true'] at c2
    refine (Bool.eq_false_iff.2 fun e => ?_).symm
    have := (digS_at.1 e).2.1 z (by omega)
    rw [c2] at this; cases this
  · rw [Bool.not_eq_false'] at c2
    by_cases e : i = z
    · rw [e]; exact c2
    · exact z2 i (by omega)
  · refine (digS_at.2 ⟨by omega, fun i hi => z2 i (by omega), fun h1 h2 => ?_⟩).symm
    rw [Bool.and_eq_false_iff, beq_eq_false_iff_ne, Bool.eq_false_iff, Ne, ltB_iff] at c
    rcases c with c | c
    · omega
    · exact c h2
theorem r2digits_C (s : List UInt8) (hl : s.length ≤ 4294967280) : PureCall Tryz.prog [] 46 [.str s] (.b (digS s)) :=
  pure_of_vc (T := T0) (an := r2digits_an s) mixed tb0_sound (Eq.mp (by kernel_rfl) (r2digits_vc s hl))
theorem r2digits_T : PureT Tryz.prog [] 46 r2digits_t := by
  intro xs ps r h hp
  unfold r2digits_t at h
  split at h
  · skip
    rename_i s
    cases h
    obtain ⟨q0, -⟩ := allC hp
    exact weaken (ys := [.str s]) ⟨avM_refl _, trivial⟩ (r2digits_C s q0)
  · cases h
def r2split_an (a : Str) : Ann :=
  .two .auto (.two .auto (.two .auto (.two .auto (.two (.two .auto (.one (.loop Nat (fun σ z => [(6, σ.tm 6), (7, σ.tm 7), (8, .i z)]) (fun σ z => []) 0 (fun σ z => z ≤ (ownS a).length ∧ ∀ i, i < z → (ownS a).getD i 0 ≠ 47) (fun σ z => (ownS a).length - z) .auto))) .auto))))
def r2split_t : List AV → Option (List Cond × AV)
  | [.str a] => some ([.p (a.length ≤ 4294967280)], .tup 4 (listFn [.b (minB a), .str (cutN (ownS a)), .str (cutD (ownS a)), .b (slashB (ownS a))]))
  | _ => none
theorem r2split_vc (a : List UInt8) (hl : a.length ≤ 4294967280) :
 let q2 := (ltB (0 : Int) (↑(List.length a) : Int)); let q1 := (!bsel true q2 || bsel true q2); let q4 := (↑(UInt8.toNat (List.getD a 0 (0 : UInt8))) : Int); let q3 := (bif ltB (0 : Int) (↑(List.length a) : Int) then q4 == (45 : Int) else false); let q5 := (q3 = bif ltB (0 : Int) (↑(List.length a) : Int) then q4 == (45 : Int) else false); let q7 := (True ∧ q3 = minB a); bndL [AV.str a] → bsplit q1 (bsplit (!bsel true q2 || DB.db ((0 : Int) ≤ (0 : Int) ∧ (0 : Int) < (↑(List.length a) : Int))) (bsplit q1 (bsplit (!ltB (0 : Int) (↑(List.length a) : Int) || bsel true q2) (bsplit q3 (bsplit (DB.db
 ((0 : Int) ≤ (1 : Int) ∧ (1 : Int) ≤ (↑(List.length a) : Int))) ((∃ (z : Nat), ((z ≤ List.length (ownS a) ∧ ∀ (i : Nat), i < z → List.getD (ownS a) i (0 : UInt8) ≠ (47 : UInt8)) ∧ List.drop 1 a = List.drop 1 a ∧ q5 ∧ IntKind.i64 = .i64 ∧ (0 : Int) = (↑z : Int)) ∧ True) ∧ ∀ (z : Nat), let q6 := (DB.db (inK .i64 ((↑z : Int) + (1 : Int)))); (z ≤ List.length (ownS a) ∧ ∀ (i : Nat), i < z → List.getD (ownS a) i (0 : UInt8) ≠ (47 : UInt8)) → bsplit (ltB (↑z : Int) (↑(List.length (List.drop 1 a)) : Int)) (bsplit (DB.db ((0 : Int) ≤ (↑z : Int) ∧ (↑z : Int) < (↑(List.length (List.drop 1 a)) : Int)))
 (bsplit ((↑(UInt8.toNat (List.getD (List.drop 1 a) (Int.toNat (↑z : Int)) (0 : UInt8))) : Int) == (47 : Int)) (bsplit (DB.db ((0 : Int) ≤ (↑z : Int) ∧ (↑z : Int) ≤ (↑(List.length (List.drop 1 a)) : Int))) (bsplit q6 (bsplit (DB.db ((0 : Int) ≤ (↑z : Int) + (1 : Int) ∧ (↑z : Int) + (1 : Int) ≤ (↑(List.length (List.drop 1 a)) : Int))) (4 = List.length [AV.junk, AV.junk, AV.junk, AV.junk] ∧ ((q7 ∧ List.take (Int.toNat (↑z : Int)) (List.drop 1 a) = cutN (ownS a)) ∧ List.drop (Int.toNat ((↑z : Int) + (1 : Int))) (List.drop 1 a) = cutD (ownS a)) ∧ true = slashB (ownS a)) False) False) False) (bsplit
 q6 (∃ (z' : Nat), (((z' ≤ List.length (ownS a) ∧ ∀ (i : Nat), i < z' → List.getD (ownS a) i (0 : UInt8) ≠ (47 : UInt8)) ∧ List.length (ownS a) - z' < List.length (ownS a) - z) ∧ List.drop 1 a = List.drop 1 a ∧ q5 ∧ IntKind.i64 = .i64 ∧ (↑z : Int) + (1 : Int) = (↑z' : Int)) ∧ True) False)) False) (4 = List.length [AV.junk, AV.junk, AV.junk, AV.junk] ∧ ((q7 ∧ List.drop 1 a = cutN (ownS a)) ∧ Array.toList (ByteArray.data (ByteArray.mk #[])) = cutD (ownS a)) ∧ false = slashB (ownS a))) False) ((∃ (z : Nat), ((z ≤ List.length (ownS a) ∧ ∀ (i : Nat), i < z → List.getD (ownS a) i (0 : UInt8) ≠ (47 :
 UInt8)) ∧ a = a ∧ q5 ∧ IntKind.i64 = .i64 ∧ (0 : Int) = (↑z : Int)) ∧ True) ∧ ∀ (z : Nat), let q8 := (DB.db (inK .i64 ((↑z : Int) + (1 : Int)))); (z ≤ List.length (ownS a) ∧ ∀ (i : Nat), i < z → List.getD (ownS a) i (0 : UInt8) ≠ (47 : UInt8)) → bsplit (ltB (↑z : Int) (↑(List.length a) : Int)) (bsplit (DB.db ((0 : Int) ≤ (↑z : Int) ∧ (↑z : Int) < (↑(List.length a) : Int))) (bsplit ((↑(UInt8.toNat (List.getD a (Int.toNat (↑z : Int)) (0 : UInt8))) : Int) == (47 : Int)) (bsplit (DB.db ((0 : Int) ≤ (↑z : Int) ∧ (↑z : Int) ≤ (↑(List.length a) : Int))) (bsplit q8 (bsplit (DB.db ((0 : Int) ≤ (↑z :
 Int) + (1 : Int) ∧ (↑z : Int) + (1 : Int) ≤ (↑(List.length a) : Int))) (4 = List.length [AV.junk, AV.junk, AV.junk, AV.junk] ∧ ((q7 ∧ List.take (Int.toNat (↑z : Int)) a = cutN (ownS a)) ∧ List.drop (Int.toNat ((↑z : Int) + (1 : Int))) a = cutD (ownS a)) ∧ true = slashB (ownS a)) False) False) False) (bsplit q8 (∃ (z' : Nat), (((z' ≤ List.length (ownS a) ∧ ∀ (i : Nat), i < z' → List.getD (ownS a) i (0 : UInt8) ≠ (47 : UInt8)) ∧ List.length (ownS a) - z' < List.length (ownS a) - z) ∧ a = a ∧ q5 ∧ IntKind.i64 = .i64 ∧ (↑z : Int) + (1 : Int) = (↑z' : Int)) ∧ True) False)) False) (4 = List.length
 [AV.junk, AV.junk, AV.junk, AV.junk] ∧ ((q7 ∧ a = cutN (ownS a)) ∧ Array.toList (ByteArray.data (ByteArray.mk #[])) = cutD (ownS a)) ∧ false = slashB (ownS a)))) False) False) False) False := by
  dsimp only
  intro hb
  simp only [sS, dS, ltB_nat]
  have em : (Nat.blt 0 a.length && ((a.getD 0 0).toNat : Int) == 45) = minB a := by
    rw [show (((a.getD 0 0).toNat : Int) == 45) = (a.getD 0 0 == 45) from byte_eq (a.getD 0 0) 45 (by decide)]
    unfold minB
    match a with
    | [] => rfl
    | c :: r => simp
  have e47 : ∀ (t : Str) (z : Nat), (((t.getD z 0).toNat : Int) = 47) ↔ t.getD z 0 = 47 := fun t z => by
    have := byte_eq (t.getD z 0) 47 (by decide)
    rw [Bool.eq_iff_iff, beq_iff_eq, beq_iff_eq] at this
    exact this
  have et : ∀ z : Nat, ((z : Int) + 1).toNat = z + 1 := fun z => by omega
  rw [em]
  simp only [e47, et, ne_eq]
  have hol := ownS_len a
  have key : ∀ t : Str, t = ownS a → ((∃ z : Nat, (z ≤ (ownS a).length ∧ ∀ i : Nat, i < z → (ownS a).getD i 0 ≠ 47) ∧ (0 : Int) = z) ∧
      ∀ z : Nat, (z ≤ (ownS a).length ∧ ∀ i : Nat, i < z → (ownS a).getD i 0 ≠ 47) →
        ((z : Int) < (t.length : Int) → (0 ≤ (z : Int) ∧ (z : Int) < (t.length : Int)) ∧
          (t.getD z 0 = 47 → (0 ≤ (z : Int) ∧ (z : Int) ≤ (t.length : Int)) ∧ inK .i64 ((z : Int) + 1) ∧ (0 ≤ (z : Int) + 1 ∧ (z : Int) + 1 ≤ (t.length : Int)) ∧
            4 = [AV.v (Value.bool (minB a)), AV.str (t.take z), AV.str (t.drop (z + 1)), AV.v (Value.bool true)].length ∧
              ((True ∧ t.take z = cutN (ownS a)) ∧ t.drop (z + 1) = cutD (ownS a)) ∧ true = slashB (ownS a)) ∧
          (t.getD z 0 ≠ 47 → inK .i64 ((z : Int) + 1) ∧ ∃ z' : Nat, ((z' ≤ (ownS a).length ∧ ∀ i : Nat, i < z' → (ownS a).getD i 0 ≠ 47) ∧ (ownS a).length - z' < (ownS a).length - z) ∧ (z : Int) + 1 = z')) ∧
        ((t.length : Int) ≤ (z : Int) → 4 = [AV.v (Value.bool (minB a)), AV.str t, AV.str [], AV.v (Value.bool false)].length ∧ ((True ∧ t = cutN (ownS a)) ∧ [] = cutD (ownS a)) ∧ false = slashB (ownS a))) := by
    intro t ht
    rw [← ht] at hol ⊢
    refine ⟨⟨0, ⟨Nat.zero_le _, fun i hi => absurd hi (Nat.not_lt_zero _)⟩, rfl⟩, fun z ⟨z1, z2⟩ => ⟨fun hz => ⟨⟨by omega, hz⟩, fun h => ?_, fun h => ⟨⟨by omega, by omega⟩, z + 1, ⟨⟨by omega, fun i hi => ?_⟩, by omega⟩, by omega⟩⟩, fun hz => ?_⟩⟩
    · obtain ⟨c1, c2, c3⟩ := cut_at (s := t) (z := z) (by omega) z2 h
      exact ⟨⟨by omega, by omega⟩, ⟨by omega, by omega⟩, ⟨by omega, by omega⟩, rfl, ⟨⟨trivial, c1.symm⟩, c2.symm⟩, c3.symm⟩
    · by_cases e : i = z
      · rw [e]; exact h
      · exact z2 i (by omega)
    · obtain ⟨c1, c2, c3⟩ := cut_no (s := t) fun i hi => z2 i (by omega)
      exact ⟨rfl, ⟨⟨trivial, c2.symm⟩, c3.symm⟩, c1.symm⟩
  refine ⟨fun h => ⟨Int.le_refl _, by have := (blt_iff _ _).1 h; omega⟩, bsplit_iff.2 ⟨fun c => ⟨⟨by omega, ?_⟩, key (a.drop 1) (by unfold ownS; rw [c]; rfl)⟩, fun c => key a (by unfold ownS; rw [c]; rfl)⟩⟩
  rcases own_cases a with ⟨_, h2⟩ | ⟨h1, _⟩
  · rw [h2]; simp only [List.length_cons]; omega
  · rw [c] at h1; cases h1
theorem r2split_C (a : List UInt8) (hl : a.length ≤ 4294967280) : PureCall Tryz.prog [] 45 [.str a] (.tup 4 (listFn [.b (minB a), .str (cutN (ownS a)), .str (cutD (ownS a)), .b (slashB (ownS a))])) :=
  pure_of_vc (T := T0) (an := r2split_an a) mixed tb0_sound (Eq.mp (by kernel_rfl) (r2split_vc a hl))
theorem r2split_T : PureT Tryz.prog [] 45 r2split_t := by
  intro xs ps r h hp
  unfold r2split_t at h
  split at h
  · skip
    rename_i a
    cases h
    obtain ⟨q0, -⟩ := allC hp
    exact weaken (ys := [.str a]) ⟨avM_refl _, trivial⟩ (r2split_C a q0)
  · cases h
def r2small_an (s : Str) : Ann :=
  .two .auto (.two .auto (.two (.two .auto (.one (.loop Nat (fun σ z => [(0, σ.tm 0), (3, .i (decV (s.take z) : Int)), (4, .i z)]) (fun σ z => []) 0 (fun σ z => z ≤ s.length) (fun σ z => s.length - z) .auto))) .auto))
def r2small_t : List AV → Option (List Cond × AV)
  | [.str s] => some ([.p (digS s = true), .p (s.length ≤ 18)], .i (decV s : Int))
  | _ => none
theorem r2small_vc (s : List UInt8) (hd : digS s = true) (hl : s.length ≤ 18) :
 bndL [AV.str s] → (∃ (z : Nat), (z ≤ List.length s ∧ s = s ∧ (IntKind.i64 = .i64 ∧ (0 : Int) = (↑(decV (List.take z s)) : Int)) ∧ IntKind.i64 = .i64 ∧ (0 : Int) = (↑z : Int)) ∧ True) ∧ ∀ (z : Nat), let q1 := ((↑(UInt8.toNat (List.getD s (Int.toNat (↑z : Int)) (0 : UInt8))) : Int) - (48 : Int)); z ≤ List.length s → bsplit (ltB (↑z : Int) (↑(List.length s) : Int)) (bsplit (DB.db (inK .i64 ((10 : Int) * (↑(decV (List.take z s)) : Int)))) (bsplit (DB.db ((0 : Int) ≤ (↑z : Int) ∧ (↑z : Int) < (↑(List.length s) : Int))) (bsplit (DB.db (inK IntKind.u8 q1)) (bsplit (DB.db (inK .i64 q1)) (bsplit (DB.db
 (inK .i64 ((10 : Int) * (↑(decV (List.take z s)) : Int) + q1))) (bsplit (DB.db (inK .i64 ((↑z : Int) + (1 : Int)))) (∃ (z' : Nat), ((z' ≤ List.length s ∧ List.length s - z' < List.length s - z) ∧ s = s ∧ (IntKind.i64 = .i64 ∧ (10 : Int) * (↑(decV (List.take z s)) : Int) + q1 = (↑(decV (List.take z' s)) : Int)) ∧ IntKind.i64 = .i64 ∧ (↑z : Int) + (1 : Int) = (↑z' : Int)) ∧ True) False) False) False) False) False) False) (IntKind.i64 = .i64 ∧ (↑(decV (List.take z s)) : Int) = (↑(decV s) : Int)) := by
  dsimp only
  intro hb
  simp only [sS, dS, ltB_nat]
  have hall := (digS_iff.1 hd).2.1
  refine ⟨⟨0, Nat.zero_le _, rfl, rfl⟩, fun z hz => ⟨fun hlt => ?_, fun hge => ?_⟩⟩
  · have hc := isDg_iff.1 (hall _ (getD_mem (s := s) (i := z) (by omega)))
    have hst : (decV (s.take (z + 1)) : Int) = 10 * (decV (s.take z) : Int) + (((s.getD z 0).toNat : Int) - 48) := by
      rw [take_snocS (by omega), decV_snoc]
      unfold dgV
      omega
    have b1 : decV (s.take (z + 1)) < 10 ^ 18 := by
      have h1 := decV_lt (l := s.take (z + 1)) (List.all_eq_true.2 fun c hc => hall c (List.mem_of_mem_take hc))
      exact Nat.lt_of_lt_of_le h1 (Nat.pow_le_pow_right (by omega) (by rw [List.length_take]; omega))
    exact ⟨⟨by omega, by omega⟩, ⟨by omega, hlt⟩, ⟨by omega, by omega⟩, ⟨by omega, by omega⟩, ⟨by omega, by omega⟩, ⟨by omega, by omega⟩, z + 1, ⟨by omega, by omega⟩, hst.symm, by omega⟩
  · rw [show z = s.length by omega, List.take_length]
theorem r2small_C (s : List UInt8) (hd : digS s = true) (hl : s.length ≤ 18) : PureCall Tryz.prog [] 48 [.str s] (.i (decV s : Int)) :=
  pure_of_vc (T := T0) (an := r2small_an s) mixed tb0_sound (Eq.mp (by kernel_rfl) (r2small_vc s hd hl))
theorem r2small_T : PureT Tryz.prog [] 48 r2small_t := by
  intro xs ps r h hp
  unfold r2small_t at h
  split at h
  · skip
    rename_i s
    cases h
    obtain ⟨q0, q1, -⟩ := allC hp
    exact weaken (ys := [.str s]) ⟨avM_refl _, trivial⟩ (r2small_C s q0 q1)
  · cases h
structure GcP where
  x : Int
  y : Int
def r2gcd_an (x y : Int) : Ann :=
  .two .auto (.two (.one (.loop GcP (fun σ z => [(0, .i z.x), (1, .i z.y)]) (fun σ z => []) 0 (fun σ z => 0 ≤ z.x ∧ 0 ≤ z.y ∧ z.x ≤ 9223372036854775807 ∧ z.y ≤ 9223372036854775807 ∧ Nat.gcd z.x.toNat z.y.toNat = Nat.gcd x.toNat y.toNat) (fun σ z => z.y.toNat) .auto)) .auto)
def r2gcd_t : List AV → Option (List Cond × AV)
  | [.v (.int .i64 x), .v (.int .i64 y)] => some ([.p (0 ≤ x ∧ x ≤ 9223372036854775807), .p (0 ≤ y ∧ y ≤ 9223372036854775807)], .i (Nat.gcd x.toNat y.toNat : Int))
  | _ => none
theorem r2gcd_vc (x : Int) (y : Int) (h1 : 0 ≤ x ∧ x ≤ 9223372036854775807) (h2 : 0 ≤ y ∧ y ≤ 9223372036854775807) :
 bndL [AV.v (Value.int .i64 x), AV.v (Value.int .i64 y)] → (∃ (z : GcP), (((0 : Int) ≤ GcP.x z ∧ (0 : Int) ≤ GcP.y z ∧ GcP.x z ≤ (9223372036854775807 : Int) ∧ GcP.y z ≤ (9223372036854775807 : Int) ∧ Nat.gcd (Int.toNat (GcP.x z)) (Int.toNat (GcP.y z)) = Nat.gcd (Int.toNat x) (Int.toNat y)) ∧ (IntKind.i64 = .i64 ∧ x = GcP.x z) ∧ IntKind.i64 = .i64 ∧ y = GcP.y z) ∧ True) ∧ ∀ (z : GcP), (0 : Int) ≤ GcP.x z ∧ (0 : Int) ≤ GcP.y z ∧ GcP.x z ≤ (9223372036854775807 : Int) ∧ GcP.y z ≤ (9223372036854775807 : Int) ∧ Nat.gcd (Int.toNat (GcP.x z)) (Int.toNat (GcP.y z)) = Nat.gcd (Int.toNat x) (Int.toNat y) →
 bsplit (GcP.y z != (0 : Int)) (bsplit (DB.db (GcP.y z ≠ (0 : Int))) (∃ (z' : GcP), ((((0 : Int) ≤ GcP.x z' ∧ (0 : Int) ≤ GcP.y z' ∧ GcP.x z' ≤ (9223372036854775807 : Int) ∧ GcP.y z' ≤ (9223372036854775807 : Int) ∧ Nat.gcd (Int.toNat (GcP.x z')) (Int.toNat (GcP.y z')) = Nat.gcd (Int.toNat x) (Int.toNat y)) ∧ Int.toNat (GcP.y z') < Int.toNat (GcP.y z)) ∧ (IntKind.i64 = .i64 ∧ GcP.y z = GcP.x z') ∧ IntKind.i64 = .i64 ∧ Int.tmod (GcP.x z) (GcP.y z) = GcP.y z') ∧ True) False) (IntKind.i64 = .i64 ∧ GcP.x z = (↑(Nat.gcd (Int.toNat x) (Int.toNat y)) : Int)) := by
  intro hb
  simp only [sS, dS]
  refine ⟨⟨⟨x, y⟩, ⟨h1.1, h2.1, h1.2, h2.2, rfl⟩, rfl, rfl⟩, fun z ⟨z1, z2, z3, z4, z5⟩ => ⟨fun hy => ?_, fun hy => ?_⟩⟩
  · generalize z.x = zx at *
    generalize z.y = zy at *
    obtain ⟨X, rfl⟩ : ∃ X : Nat, zx = X := ⟨zx.toNat, by omega⟩
    obtain ⟨Y, rfl⟩ : ∃ Y : Nat, zy = Y := ⟨zy.toNat, by omega⟩
    have tm : (X : Int).tmod (Y : Int) = ((X % Y : Nat) : Int) := by rw [Int.tmod_eq_emod_of_nonneg (by omega)]; omega
    have hm : X % Y < Y := Nat.mod_lt _ (by omega)
    refine ⟨hy, ⟨Y, ((X % Y : Nat) : Int)⟩, ⟨⟨by simp only; omega, by simp only; omega, by simp only; omega, by simp only; omega, ?_⟩, by simp only; omega⟩, rfl, tm⟩
    simp only [Int.toNat_natCast] at z5 ⊢
    rw [← gcd_step (by omega)]; exact z5
  · rw [hy] at z5
    simp only [Int.toNat_zero, Nat.gcd_zero_right] at z5
    omega
theorem r2gcd_C (x : Int) (y : Int) (h1 : 0 ≤ x ∧ x ≤ 9223372036854775807) (h2 : 0 ≤ y ∧ y ≤ 9223372036854775807) : PureCall Tryz.prog [] 47 [.i x, .i y] (.i (Nat.gcd x.toNat y.toNat : Int)) :=
  pure_of_vc (T := T0) (an := r2gcd_an x y) mixed tb0_sound (Eq.mp (by kernel_rfl) (r2gcd_vc x y h1 h2))
theorem r2gcd_T : PureT Tryz.prog [] 47 r2gcd_t := by
  intro xs ps r h hp
  unfold r2gcd_t at h
  split at h
  · skip
    rename_i x y
    cases h
    obtain ⟨q0, q1, -⟩ := allC hp
    exact weaken (ys := [.i x, .i y]) ⟨avM_refl _, avM_refl _, trivial⟩ (r2gcd_C x y q0 q1)
  · cases h
end Go.Te

namespace Go.Te
open Go Go.Sx Go.Proofs Go.Ar
set_option maxRecDepth 100000
set_option maxHeartbeats 4000000
def twD (s : Str) : Str := s.takeWhile isDg
def natOk (s : Str) : Bool := digS (twD s) && leB ((twD s).length : Int) 8
def natN (s : Str) : Int := bif natOk s then (decV (twD s) : Int) else 0
def natR (s : Str) : Str := bif natOk s then s.drop (twD s).length else []
theorem tw_app {a b : Str} (h : ∀ c ∈ a, isDg c = true) : twD (a ++ b) = a ++ twD b := by
  unfold twD
  exact List.takeWhile_append_of_pos h
theorem take_dg {s : Str} {z : Nat} (h1 : z ≤ s.length) (h2 : ∀ i, i < z → isDg (s.getD i 0) = true) : ∀ c ∈ s.take z, isDg c = true := fun c hc => by
  obtain ⟨i, hi, e⟩ := mem_getD hc
  rw [List.length_take] at hi
  rw [← e, getD_takeS (by omega)]
  exact h2 i (by omega)
theorem tw_take {s : Str} {z : Nat} (h1 : z ≤ s.length) (h2 : ∀ i, i < z → isDg (s.getD i 0) = true) (h3 : z = s.length ∨ isDg (s.getD z 0) = false) : twD s = s.take z := by
  conv => lhs; rw [← List.take_append_drop z s]
  rw [tw_app (take_dg h1 h2)]
  have : twD (s.drop z) = [] := by
    by_cases hz : z = s.length
    · rw [List.drop_of_length_le (by omega)]; rfl
    · rw [drop_consS (by omega)]
      unfold twD
      rw [List.takeWhile_cons, h3.resolve_left hz]
      rfl
  rw [this, List.append_nil]
theorem tw_ge {s : Str} {z : Nat} (h1 : z ≤ s.length) (h2 : ∀ i, i < z → isDg (s.getD i 0) = true) : z ≤ (twD s).length := by
  have : twD s = s.take z ++ twD (s.drop z) := by
    conv => lhs; rw [← List.take_append_drop z s]
    exact tw_app (take_dg h1 h2)
  rw [this, List.length_append, List.length_take]
  omega
theorem natOk_at {s : Str} {z : Nat} (h1 : z ≤ s.length) (h2 : ∀ i, i < z → isDg (s.getD i 0) = true) (h3 : z = s.length ∨ 8 < z ∨ isDg (s.getD z 0) = false) :
    natOk s = !((z : Int) == 0 || ltB 8 (z : Int) || ltB 1 (z : Int) && ((s.getD 0 0).toNat : Int) == 48) ∧ (natOk s = true → twD s = s.take z) := by
  by_cases h8 : 8 < z
  · have hg := tw_ge h1 h2
    have e : natOk s = false := by
      unfold natOk
      rw [show leB ((twD s).length : Int) 8 = false from Bool.eq_false_iff.2 fun e => by have := (leB_iff _ _).1 e; omega, Bool.and_false]
    rw [e, (ltB_iff _ _).2 (show (8 : Int) < (z : Int) by omega)]
    exact ⟨by simp, fun h => by cases h⟩
  · have ht := tw_take h1 h2 (h3.imp id fun h => h.resolve_left h8)
    refine ⟨?_, fun _ => ht⟩
    have e48 : (((s.getD 0 0).toNat : Int) == 48) = (s.getD 0 0 == 48) := byte_eq (s.getD 0 0) 48 (by decide)
    unfold natOk
    have hl : (s.take z).length = z := by rw [List.length_take]; omega
    rw [ht, hl, e48, (leB_iff _ _).2 (show (z : Int) ≤ 8 by omega), Bool.and_true, show ltB 8 (z : Int) = false from Bool.eq_false_iff.2 fun e => by have := (ltB_iff _ _).1 e; omega]
    unfold digS
    rw [hl, List.all_eq_true.2 (take_dg h1 h2), show ltB 1 (z : Int) = Nat.blt 1 z from by rw [Bool.eq_iff_iff, ltB_iff, blt_iff]; omega]
    by_cases h0 : z = 0
    · subst h0; rfl
    · rw [(blt_iff _ _).2 (show 0 < z by omega), beq_eq_false_iff_ne.2 (show (z : Int) ≠ 0 by omega), getD_takeS (show 0 < z by omega)]
      cases Nat.blt 1 z <;> cases s.getD 0 0 == 48 <;> rfl
def rnint_an (s : Str) : Ann :=
  .two .auto (.two .auto (.two (.one (.loop Nat (fun σ z => [(0, σ.tm 0), (5, .i (decV (s.take z) : Int)), (6, .i (z : Int))]) (fun σ z => []) 0 (fun σ z => z ≤ s.length ∧ z ≤ 9 ∧ ∀ i, i < z → isDg (s.getD i 0) = true) (fun σ z => s.length - z) .auto)) .auto))
def rnint_t : List AV → Option (List Cond × AV)
  | [.str s] => some ([.p (s.length ≤ 4294967280)], .tup 3 (listFn [.i (natN s), .str (natR s), .b (natOk s)]))
  | _ => none
theorem rnint_vc (s : List UInt8) (hl : s.length ≤ 4294967280) :
 bndL [AV.str s] → (∃ (z : Nat), ((z ≤ List.length s ∧ z ≤ 9 ∧ ∀ (i : Nat), i < z → isDg (List.getD s i (0 : UInt8)) = true) ∧ s = s ∧ (IntKind.i64 = .i64 ∧ (0 : Int) = (↑(decV (List.take z s)) : Int)) ∧ IntKind.i64 = .i64 ∧ (0 : Int) = (↑z : Int)) ∧ True) ∧ ∀ (z : Nat), let q1 := (ltB (↑z : Int) (↑(List.length s) : Int)); let q3 := (bif ltB (↑z : Int) (↑(List.length s) : Int) then leB (↑z : Int) (8 : Int) else false); let q2 := (!bsel true q3 || bsel true q3); let q4 := ((0 : Int) ≤ (↑z : Int) ∧ (↑z : Int) < (↑(List.length s) : Int)); let q7 := (↑(UInt8.toNat (List.getD s (Int.toNat (↑z : Int))
 (0 : UInt8))) : Int); let q6 := (bif bif ltB (↑z : Int) (↑(List.length s) : Int) then leB (↑z : Int) (8 : Int) else false then leB (48 : Int) q7 else false); let q5 := (!bsel true q6 || bsel true q6); let q8 := (q7 - (48 : Int)); let q10 := (bif (↑z : Int) == (0 : Int) then true else ltB (8 : Int) (↑z : Int)); let q9 := (!bsel false q10 || bsel false q10); let q12 := (bsel false q10 && bsel true (ltB (1 : Int) (↑z : Int))); let q11 := (!q12 || bsel false q10 && bsel true (ltB (1 : Int) (↑z : Int))); (z ≤ List.length s ∧ z ≤ 9 ∧ ∀ (i : Nat), i < z → isDg (List.getD s i (0 : UInt8)) = true) →
 bsplit (!bsel true q1 || bsel true q1) (bsplit (!ltB (↑z : Int) (↑(List.length s) : Int) || bsel true q1) (bsplit q2 (bsplit q2 (bsplit (!bsel true q3 || DB.db q4) (bsplit q2 (bsplit ((!bif ltB (↑z : Int) (↑(List.length s) : Int) then leB (↑z : Int) (8 : Int) else false) || bsel true q3) (bsplit q5 (bsplit q5 (bsplit (!bsel true q6 || DB.db q4) (bsplit q5 (bsplit ((!bif bif ltB (↑z : Int) (↑(List.length s) : Int) then leB (↑z : Int) (8 : Int) else false then leB (48 : Int) q7 else false) || bsel true q6) (bsplit (bif bif bif ltB (↑z : Int) (↑(List.length s) : Int) then leB (↑z : Int) (8 : Int)
 else false then leB (48 : Int) q7 else false then leB q7 (57 : Int) else false) (bsplit (DB.db (inK .i64 ((10 : Int) * (↑(decV (List.take z s)) : Int)))) (bsplit (DB.db q4) (bsplit (DB.db (inK IntKind.u8 q8)) (bsplit (DB.db (inK .i64 q8)) (bsplit (DB.db (inK .i64 ((10 : Int) * (↑(decV (List.take z s)) : Int) + q8))) (bsplit (DB.db (inK .i64 ((↑z : Int) + (1 : Int)))) (∃ (z' : Nat), (((z' ≤ List.length s ∧ z' ≤ 9 ∧ ∀ (i : Nat), i < z' → isDg (List.getD s i (0 : UInt8)) = true) ∧ List.length s - z' < List.length s - z) ∧ s = s ∧ (IntKind.i64 = .i64 ∧ (10 : Int) * (↑(decV (List.take z s)) : Int) +
 q8 = (↑(decV (List.take z' s)) : Int)) ∧ IntKind.i64 = .i64 ∧ (↑z : Int) + (1 : Int) = (↑z' : Int)) ∧ True) False) False) False) False) False) False) (bsplit (!bsel false ((↑z : Int) == (0 : Int)) || bsel false ((↑z : Int) == (0 : Int))) (bsplit (!!(↑z : Int) == (0 : Int) || bsel false ((↑z : Int) == (0 : Int))) (bsplit q9 (bsplit q9 (bsplit q11 (bsplit (!q12 || DB.db ((0 : Int) ≤ (0 : Int) ∧ (0 : Int) < (↑(List.length s) : Int))) (bsplit q11 (bsplit q9 (bsplit (!bsel false q10 || (!ltB (1 : Int) (↑z : Int) || bsel false q10 && bsel true (ltB (1 : Int) (↑z : Int)))) (bsplit ((!!bif (↑z : Int)
 == (0 : Int) then true else ltB (8 : Int) (↑z : Int)) || bsel false q10) (bsplit (bif bif (↑z : Int) == (0 : Int) then true else ltB (8 : Int) (↑z : Int) then true else bif ltB (1 : Int) (↑z : Int) then (↑(UInt8.toNat (List.getD s 0 (0 : UInt8))) : Int) == (48 : Int) else false) (3 = List.length [AV.junk, AV.junk, AV.junk] ∧ ((True ∧ IntKind.i64 = .i64 ∧ (0 : Int) = natN s) ∧ Array.toList (ByteArray.data (ByteArray.mk #[])) = natR s) ∧ false = natOk s) (bsplit (DB.db ((0 : Int) ≤ (↑z : Int) ∧ (↑z : Int) ≤ (↑(List.length s) : Int))) (3 = List.length [AV.junk, AV.junk, AV.junk] ∧ ((True ∧
 IntKind.i64 = .i64 ∧ (↑(decV (List.take z s)) : Int) = natN s) ∧ List.drop (Int.toNat (↑z : Int)) s = natR s) ∧ true = natOk s) False)) False) False) False) False) False) False) False) False) False) False)) False) False) False) False) False) False) False) False) False) False) False) False := by
  dsimp only
  intro hb
  simp only [sS, dS, ltB_nat, dgc]
  have dg2 : ∀ c : UInt8, (leB 48 (c.toNat : Int) && leB (c.toNat : Int) 57) = isDg c := fun c => by rw [Bool.eq_iff_iff, Bool.and_eq_true, leB_iff, leB_iff, isDg_iff]; omega
  simp only [Bool.and_assoc, dg2]
  refine ⟨⟨0, ⟨Nat.zero_le _, Nat.zero_le _, fun i hi => absurd hi (Nat.not_lt_zero _)⟩, rfl, rfl⟩, fun z ⟨z1, z2, z3⟩ => ⟨fun h => ?_, fun h => ?_, bsplit_iff.2 ⟨fun c => ?_, fun c => ⟨fun h => ?_, ?_⟩⟩⟩⟩
  · rw [Bool.and_eq_true] at h; have := (ltB_iff _ _).1 h.1; omega
  · rw [Bool.and_eq_true] at h; have := (ltB_iff _ _).1 h.1; omega
  · rw [Bool.and_eq_true, Bool.and_eq_true] at c
    obtain ⟨c1, c2, c3⟩ := c
    have c1 : z < s.length := by have := (ltB_iff _ _).1 c1; omega
    have c2 : z ≤ 8 := by have := (leB_iff _ _).1 c2; omega
    have hd := isDg_iff.1 c3
    have hst : (decV (s.take (z + 1)) : Int) = 10 * (decV (s.take z) : Int) + (((s.getD z 0).toNat : Int) - 48) := by
      rw [take_snocS (by omega), decV_snoc]
      unfold dgV
      omega
    have b1 : decV (s.take z) < 10 ^ 9 := by
      have h1 := decV_lt (l := s.take z) (List.all_eq_true.2 (take_dg z1 z3))
      exact Nat.lt_of_lt_of_le h1 (Nat.pow_le_pow_right (by omega) (by rw [List.length_take]; omega))
    rw [show 10 ^ 9 = 1000000000 from by decide] at b1
    refine ⟨⟨by omega, by omega⟩, ⟨by omega, by omega⟩, ⟨by omega, by omega⟩, ⟨by omega, by omega⟩, ⟨by omega, by omega⟩, ⟨by omega, by omega⟩, z + 1, ⟨⟨by omega, by omega, fun i hi => ?_⟩, by omega⟩, hst.symm, by omega⟩
    by_cases e : i = z
    · rw [e]; exact c3
    · exact z3 i (by omega)
  · rw [Bool.and_eq_true, ltB_iff] at h; exact ⟨by omega, by omega⟩
  · have h3 : z = s.length ∨ 8 < z ∨ isDg (s.getD z 0) = false := by
      by_cases q1 : z = s.length
      · exact .inl q1
      by_cases q2 : 8 < z
      · exact .inr (.inl q2)
      refine .inr (.inr ?_)
      have q3 : ltB (z : Int) (s.length : Int) = true := (ltB_iff _ _).2 (by omega)
      have q4 : leB (z : Int) 8 = true := (leB_iff _ _).2 (by omega)
      rw [q3, q4] at c
      simpa using c
    obtain ⟨k1, k2⟩ := natOk_at z1 z3 h3
    refine bsp_t (by cases ((z : Int) == 0 || ltB 8 (z : Int)) <;> cases ltB 1 (z : Int) <;> rfl) ?_
    unfold natN natR
    refine bsplit_iff.2 ⟨fun c2 => ?_, fun c2 => ?_⟩
    · rw [c2] at k1
      rw [k1]
      exact ⟨rfl, ⟨rfl, rfl⟩, rfl⟩
    · rw [c2] at k1
      have ht := k2 k1
      rw [k1, ht, List.length_take, show min z s.length = z by omega]
      exact ⟨⟨by omega, by omega⟩, rfl, ⟨rfl, rfl⟩, rfl⟩
theorem rnint_C (s : List UInt8) (hl : s.length ≤ 4294967280) : PureCall Tryz.prog [] 193 [.str s] (.tup 3 (listFn [.i (natN s), .str (natR s), .b (natOk s)])) :=
  pure_of_vc (T := T0) (an := rnint_an s) mixed tb0_sound (Eq.mp (by kernel_rfl) (rnint_vc s hl))
theorem rnint_T : PureT Tryz.prog [] 193 rnint_t := by
  intro xs ps r h hp
  unfold rnint_t at h
  split at h
  · skip
    rename_i s
    cases h
    obtain ⟨q0, -⟩ := allC hp
    exact weaken (ys := [.str s]) ⟨avM_refl _, trivial⟩ (rnint_C s q0)
  · cases h
def gcdO (x y : Int) : Int := bif leB 0 x && leB 0 y then (Nat.gcd x.toNat y.toNat : Int) else 0
def rgcd_an (x y : Int) : Ann :=
  .two .auto (.two (.one (.loop GcP (fun σ z => [(0, .i z.x), (1, .i z.y)]) (fun σ z => []) 0 (fun σ z => 0 ≤ z.x ∧ 0 ≤ z.y ∧ z.x ≤ 9223372036854775807 ∧ z.y ≤ 9223372036854775807 ∧ Nat.gcd z.x.toNat z.y.toNat = Nat.gcd x.toNat y.toNat) (fun σ z => z.y.toNat) .auto)) .auto)
def rgcd_t : List AV → Option (List Cond × AV)
  | [.v (.int .i64 x), .v (.int .i64 y)] => some ([.p (0 ≤ x ∧ x ≤ 9223372036854775807), .p (0 ≤ y ∧ y ≤ 9223372036854775807)], .i (gcdO x y))
  | _ => none
theorem rgcd_vc (x : Int) (y : Int) (h1 : 0 ≤ x ∧ x ≤ 9223372036854775807) (h2 : 0 ≤ y ∧ y ≤ 9223372036854775807) :
 bndL [AV.v (Value.int .i64 x), AV.v (Value.int .i64 y)] → (∃ (z : GcP), (((0 : Int) ≤ GcP.x z ∧ (0 : Int) ≤ GcP.y z ∧ GcP.x z ≤ (9223372036854775807 : Int) ∧ GcP.y z ≤ (9223372036854775807 : Int) ∧ Nat.gcd (Int.toNat (GcP.x z)) (Int.toNat (GcP.y z)) = Nat.gcd (Int.toNat x) (Int.toNat y)) ∧ (IntKind.i64 = .i64 ∧ x = GcP.x z) ∧ IntKind.i64 = .i64 ∧ y = GcP.y z) ∧ True) ∧ ∀ (z : GcP), (0 : Int) ≤ GcP.x z ∧ (0 : Int) ≤ GcP.y z ∧ GcP.x z ≤ (9223372036854775807 : Int) ∧ GcP.y z ≤ (9223372036854775807 : Int) ∧ Nat.gcd (Int.toNat (GcP.x z)) (Int.toNat (GcP.y z)) = Nat.gcd (Int.toNat x) (Int.toNat y) →
 bsplit (GcP.y z != (0 : Int)) (bsplit (DB.db (GcP.y z ≠ (0 : Int))) (∃ (z' : GcP), ((((0 : Int) ≤ GcP.x z' ∧ (0 : Int) ≤ GcP.y z' ∧ GcP.x z' ≤ (9223372036854775807 : Int) ∧ GcP.y z' ≤ (9223372036854775807 : Int) ∧ Nat.gcd (Int.toNat (GcP.x z')) (Int.toNat (GcP.y z')) = Nat.gcd (Int.toNat x) (Int.toNat y)) ∧ Int.toNat (GcP.y z') < Int.toNat (GcP.y z)) ∧ (IntKind.i64 = .i64 ∧ GcP.y z = GcP.x z') ∧ IntKind.i64 = .i64 ∧ Int.tmod (GcP.x z) (GcP.y z) = GcP.y z') ∧ True) False) (IntKind.i64 = .i64 ∧ GcP.x z = gcdO x y) := by
  intro hb
  simp only [sS, dS]
  have hO : gcdO x y = (Nat.gcd x.toNat y.toNat : Int) := by unfold gcdO; rw [(leB_iff _ _).2 h1.1, (leB_iff _ _).2 h2.1]; rfl
  rw [hO]
  refine ⟨⟨⟨x, y⟩, ⟨h1.1, h2.1, h1.2, h2.2, rfl⟩, rfl, rfl⟩, fun z ⟨z1, z2, z3, z4, z5⟩ => ⟨fun hy => ?_, fun hy => ?_⟩⟩
  · generalize z.x = zx at *
    generalize z.y = zy at *
    obtain ⟨X, rfl⟩ : ∃ X : Nat, zx = X := ⟨zx.toNat, by omega⟩
    obtain ⟨Y, rfl⟩ : ∃ Y : Nat, zy = Y := ⟨zy.toNat, by omega⟩
    have tm : (X : Int).tmod (Y : Int) = ((X % Y : Nat) : Int) := by rw [Int.tmod_eq_emod_of_nonneg (by omega)]; omega
    have hm : X % Y < Y := Nat.mod_lt _ (by omega)
    refine ⟨hy, ⟨Y, ((X % Y : Nat) : Int)⟩, ⟨⟨by simp only; omega, by simp only; omega, by simp only; omega, by simp only; omega, ?_⟩, by simp only; omega⟩, rfl, tm⟩
    simp only [Int.toNat_natCast] at z5 ⊢
    rw [← gcd_step (by omega)]; exact z5
  · rw [hy] at z5
    simp only [Int.toNat_zero, Nat.gcd_zero_right] at z5
    omega
theorem rgcd_C (x : Int) (y : Int) (h1 : 0 ≤ x ∧ x ≤ 9223372036854775807) (h2 : 0 ≤ y ∧ y ≤ 9223372036854775807) : PureCall Tryz.prog [] 194 [.i x, .i y] (.i (gcdO x y)) :=
  pure_of_vc (T := T0) (an := rgcd_an x y) mixed tb0_sound (Eq.mp (by kernel_rfl) (rgcd_vc x y h1 h2))
theorem rgcd_T : PureT Tryz.prog [] 194 rgcd_t := by
  intro xs ps r h hp
  unfold rgcd_t at h
  split at h
  · skip
    rename_i x y
    cases h
    obtain ⟨q0, q1, -⟩ := allC hp
    exact weaken (ys := [.i x, .i y]) ⟨avM_refl _, avM_refl _, trivial⟩ (rgcd_C x y q0 q1)
  · cases h
end Go.Te

namespace Go.Te
open Go Go.Sx Go.Proofs Go.Ar Go.Lib
set_option maxRecDepth 100000
set_option maxHeartbeats 4000000
noncomputable def T2a (G : List (Nat × Obj)) : Tb := (((((tb0 G).plus 45 r2split_t).plus 46 r2digits_t).plus 48 r2small_t).plus 47 r2gcd_t).plus 49 r1gcd_t
theorem T2a_sound {G : List (Nat × Obj)} (hG : TabIn G) : TbSound Tryz.prog (T2a G) :=
  TbSound.plus (TbSound.plus (TbSound.plus (TbSound.plus (TbSound.plus tb0_sound (PureT.mono r2split_T)) (PureT.mono r2digits_T)) (PureT.mono r2small_T)) (PureT.mono r2gcd_T)) (r1gcd_T hG)
def r2check_t : List AV → Option (List Cond × AV)
  | [.str a] => some ([.p (a.length ≤ 100000000)], .i (ratE a))
  | _ => none
theorem r2check_vc (G : List (Nat × Obj)) (a : List UInt8) (hl : a.length ≤ 100000000) :
 let q1 := (!bsel false !digS (cutN (ownS a)) || bsel false !digS (cutN (ownS a))); let q3 := (bsel false !digS (cutN (ownS a)) && bsel true (slashB (ownS a))); let q2 := (!q3 || bsel false !digS (cutN (ownS a)) && bsel true (slashB (ownS a))); let q5 := (ByteArray.data (ByteArray.mk #[(48 : UInt8)])); let q4 := (bif !digS (cutD (ownS a)) then true else cutD (ownS a) == Array.toList q5); let q8 := (ByteArray.data (ByteArray.mk #[(49 : UInt8)])); let q7 := (bif !digS (cutN (ownS a)) then true else bif slashB (ownS a) then bif bif !digS (cutD (ownS a)) then true else cutD (ownS a) == Array.toList
 q5 then true else cutD (ownS a) == Array.toList q8 else false); let q6 := (!bsel false q7 || bsel false q7); let q9 := (IntKind.i64 = .i64 ∧ (11 : Int) = ratE a); let q11 := (ltB (300 : Int) (↑(List.length (cutN (ownS a))) : Int)); let q10 := (!bsel false q11 || bsel false q11); let q12 := (IntKind.i64 = .i64 ∧ (0 : Int) = ratE a); let q14 := (leB (↑(List.length (cutN (ownS a))) : Int) (9 : Int)); let q13 := (!bsel true q14 || bsel true q14); bndL [AV.str a] → List.length a ≤ 4294967280 ∧ List.length (cutN (ownS a)) ≤ 4294967280 ∧ bsplit q1 (bsplit q2 ((q3 = true → List.length (cutD (ownS a)) ≤
 4294967280) ∧ bsplit q2 (bsplit q2 (bsplit (!(bsel false !digS (cutN (ownS a)) && bsel true (slashB (ownS a)) && bsel false !digS (cutD (ownS a))) || bsel false !digS (cutN (ownS a)) && bsel true (slashB (ownS a)) && bsel false !digS (cutD (ownS a))) (bsplit q2 (bsplit (!q3 || (!!!digS (cutD (ownS a)) || bsel false !digS (cutN (ownS a)) && bsel true (slashB (ownS a)) && bsel false !digS (cutD (ownS a)))) (bsplit q2 (bsplit (!(bsel false !digS (cutN (ownS a)) && bsel true (slashB (ownS a)) && bsel false q4) || bsel false !digS (cutN (ownS a)) && bsel true (slashB (ownS a)) && bsel false q4)
 (bsplit q2 (bsplit (!q3 || ((!!bif !digS (cutD (ownS a)) then true else cutD (ownS a) == Array.toList q5) || bsel false !digS (cutN (ownS a)) && bsel true (slashB (ownS a)) && bsel false q4)) (bsplit q1 (bsplit (!bsel false !digS (cutN (ownS a)) || (!slashB (ownS a) || bsel false !digS (cutN (ownS a)) && bsel true (slashB (ownS a)))) (bsplit (!!!digS (cutN (ownS a)) || bsel false !digS (cutN (ownS a))) (bsplit q6 (bsplit (!(bsel false q7 && bsel true (minB a)) || bsel false q7 && bsel true (minB a)) (bsplit q6 (bsplit (!bsel false q7 || (!minB a || bsel false q7 && bsel true (minB a))) (bsplit
 ((!!bif !digS (cutN (ownS a)) then true else bif slashB (ownS a) then bif bif !digS (cutD (ownS a)) then true else cutD (ownS a) == Array.toList q5 then true else cutD (ownS a) == Array.toList q8 else false) || bsel false q7) (bsplit (bif bif !digS (cutN (ownS a)) then true else bif slashB (ownS a) then bif bif !digS (cutD (ownS a)) then true else cutD (ownS a) == Array.toList q5 then true else cutD (ownS a) == Array.toList q8 else false then true else bif minB a then cutN (ownS a) == Array.toList q5 else false) q9 (bsplit q10 (bsplit q10 (bsplit (!!ltB (300 : Int) (↑(List.length (cutN (ownS
 a))) : Int) || bsel false q11) (bsplit (bif ltB (300 : Int) (↑(List.length (cutN (ownS a))) : Int) then true else ltB (300 : Int) (↑(List.length (cutD (ownS a))) : Int)) (IntKind.i64 = .i64 ∧ (4 : Int) = ratE a) (bsplit (!slashB (ownS a)) q12 (bsplit q13 (bsplit q13 (bsplit (!leB (↑(List.length (cutN (ownS a))) : Int) (9 : Int) || bsel true q14) (bsplit (bif leB (↑(List.length (cutN (ownS a))) : Int) (9 : Int) then leB (↑(List.length (cutD (ownS a))) : Int) (9 : Int) else false) (digS (cutN (ownS a)) = true ∧ List.length (cutN (ownS a)) ≤ 18 ∧ digS (cutD (ownS a)) = true ∧ List.length (cutD
 (ownS a)) ≤ 18 ∧ ((0 : Int) ≤ (↑(decV (cutN (ownS a))) : Int) ∧ (↑(decV (cutN (ownS a))) : Int) ≤ (9223372036854775807 : Int)) ∧ ((0 : Int) ≤ (↑(decV (cutD (ownS a))) : Int) ∧ (↑(decV (cutD (ownS a))) : Int) ≤ (9223372036854775807 : Int)) ∧ bsplit ((↑(Nat.gcd (Int.toNat (↑(decV (cutN (ownS a))) : Int)) (Int.toNat (↑(decV (cutD (ownS a))) : Int))) : Int) != (1 : Int)) q9 q12) (List.length (cutN (ownS a)) ≤ 100000000 ∧ List.length (cutD (ownS a)) ≤ 100000000 ∧ bsplit (!(bif bothE (cutN (ownS a)) (cutD (ownS a)) != (0 : Int) then [] else itoa (↑(gcdN (cutN (ownS a)) (cutD (ownS a))) : Int)) ==
 Array.toList q8) q9 q12)) False) False) False))) False) False) False)) False) False) False) False) False) False) False) False) False) False) False) False) False) False) False) False) False) False) False := by
  dsimp only
  intro hb
  simp only [sS, dS, ltB_nat]
  have lo := ownS_len a
  have ln := cutN_len (ownS a)
  have ld := cutD_len (ownS a)
  have hF : formO a = (digS (cutN (ownS a)) && !(minB a && cutN (ownS a) == [48]) && (!slashB (ownS a) || digS (cutD (ownS a)) && !(cutD (ownS a) == [48]) && !(cutD (ownS a) == [49]))) := rfl
  have eB := @ratE_bad a
  have eL := @ratE_long a
  have eG := @ratE_gcd a
  have eI := @ratE_int a
  generalize hn : cutN (ownS a) = n at *
  generalize hd : cutD (ownS a) = d at *
  generalize slashB (ownS a) = sl at *
  generalize minB a = m at *
  refine ⟨by omega, by omega, fun _ => by omega, ?_⟩
  refine bsp_t (by cases digS n <;> cases sl <;> cases digS d <;> rfl) ?_
  refine bsp_t (by cases digS n <;> cases sl <;> cases digS d <;> cases d == [48] <;> rfl) ?_
  refine bsp_t (by cases digS n <;> cases sl <;> rfl) ?_
  refine bsp_t (by cases digS n <;> cases sl <;> cases digS d <;> cases d == [48] <;> cases d == [49] <;> cases m <;> rfl) ?_
  refine bsplit_iff.2 ⟨fun c => (eB ?_).symm, fun c => ?_⟩
  · rw [hF]
    revert c
    cases digS n <;> cases sl <;> cases digS d <;> cases d == [48] <;> cases d == [49] <;> cases m <;> cases n == [48] <;> decide
  have hT : formO a = true := by
    rw [hF]
    revert c
    cases digS n <;> cases sl <;> cases digS d <;> cases d == [48] <;> cases d == [49] <;> cases m <;> cases n == [48] <;> decide
  refine bsplit_iff.2 ⟨fun c2 => (eL hT ?_).symm, fun c2 => ?_⟩
  · rw [Bool.or_eq_true, ltB_iff, ltB_iff] at c2; omega
  have h3 : n.length ≤ 300 ∧ d.length ≤ 300 := by
    rw [Bool.or_eq_false_iff, Bool.eq_false_iff, Bool.eq_false_iff, Ne, Ne, ltB_iff, ltB_iff] at c2; omega
  refine bsplit_iff.2 ⟨fun c3 => (eI hT h3.1 (by simpa using c3)).symm, fun c3 => ?_⟩
  have hs : sl = true := by simpa using c3
  have e2 := eG hT h3 hs
  have hdn : digS n = true := by
    rw [hT] at hF
    revert hF
    cases digS n <;> simp
  have hdd : digS d = true := by
    rw [hT, hs] at hF
    revert hF
    cases digS d <;> simp
  refine bsplit_iff.2 ⟨fun c4 => ?_, fun c4 => ⟨by omega, by omega, ?_⟩⟩
  · rw [Bool.and_eq_true, leB_iff, leB_iff] at c4
    have b1 := decV_bound hdn (k := 9) (by omega)
    have b2 := decV_bound hdd (k := 9) (by omega)
    refine ⟨hdn, by omega, hdd, by omega, ⟨by omega, by omega⟩, ⟨by omega, by omega⟩, fun h => ?_, fun h => ?_⟩
    · rw [e2, show Nat.beq (Nat.gcd (decV n) (decV d)) 1 = false from Bool.eq_false_iff.2 fun e => h (by have := Nat.eq_of_beq_eq_true e; omega)]; rfl
    · rw [e2, show Nat.beq (Nat.gcd (decV n) (decV d)) 1 = true by rw [show Nat.gcd (decV n) (decV d) = 1 by omega]; rfl]; rfl
  · obtain ⟨i1, v1⟩ := intB_nat hdn
    obtain ⟨i2, v2⟩ := intB_nat hdd
    have hE : bothE n d = 0 := by
      have l1 := (lenD_le n).1
      have l2 := (lenD_le d).1
      have q1 : intE n = 0 := intE_zero.2 ⟨i1, by omega⟩
      have q2 : intE d = 0 := intE_zero.2 ⟨i2, by omega⟩
      unfold bothE
      rw [q1, q2]; rfl
    have hg : gcdN n d = Nat.gcd (decV n) (decV d) := by unfold gcdN; rw [v1, v2]; simp
    rw [hE, bne_self_eq_false, cond_false, hg, e2, Go.Ar.itoa_nat]
    have e1 : (decDigits (Nat.gcd (decV n) (decV d)) == [49]) = Nat.beq (Nat.gcd (decV n) (decV d)) 1 := by
      rw [Bool.eq_iff_iff, beq_iff_eq, Nat.beq_eq]
      constructor
      · intro h
        have := congrArg decV h
        rw [decV_decDigits] at this
        exact this
      · intro h
        rw [h, decDigits_small (by decide)]; rfl
    rw [e1]
    cases Nat.beq (Nat.gcd (decV n) (decV d)) 1
    · exact rfl
    · exact rfl
theorem r2check_C {G : List (Nat × Obj)} (hG : TabIn G) (a : List UInt8) (hl : a.length ≤ 100000000) : PureCall Tryz.prog G 12 [.str a] (.i (ratE a)) :=
  pure_of_vc (T := (T2a G)) (an := .auto) mixed (T2a_sound hG) (Eq.mp (by kernel_rfl) (r2check_vc G a hl))
theorem r2check_T {G : List (Nat × Obj)} (hG : TabIn G) : PureT Tryz.prog G 12 r2check_t := by
  intro xs ps r h hp
  unfold r2check_t at h
  split at h
  · skip
    rename_i a
    cases h
    obtain ⟨q0, -⟩ := allC hp
    exact weaken (ys := [.str a]) ⟨avM_refl _, trivial⟩ (r2check_C hG a q0)
  · cases h
end Go.Te

namespace Go.Te
open Go Go.Sx Go.Proofs Go.Ar
set_option maxRecDepth 100000
set_option maxHeartbeats 4000000
def natB (a : Str) : Bool := ratE a == 0 && leB ((cutN (ownS a)).length : Int) 8 && leB ((cutD (ownS a)).length : Int) 8
theorem tw_split (s : Str) : twD s ++ s.drop (twD s).length = s := by
  have h : s = s.takeWhile isDg ++ s.dropWhile isDg := (List.takeWhile_append_dropWhile).symm
  have gen : ∀ t u : Str, t ++ u = s → s.drop t.length = u := by
    rintro t u rfl
    exact List.drop_left
  have h2 : s.drop (twD s).length = s.dropWhile isDg := gen _ _ h.symm
  rw [h2]
  exact h.symm
theorem tw_all (s : Str) : ∀ c ∈ twD s, isDg c = true := fun c hc => List.all_eq_true.1 (List.all_takeWhile (l := s) (p := isDg)) c hc
theorem natOk_iff {s : Str} : natOk s = true ↔ digS (twD s) = true ∧ (twD s).length ≤ 8 := by
  unfold natOk
  rw [Bool.and_eq_true, leB_iff]
  exact ⟨fun h => ⟨h.1, by omega⟩, fun h => ⟨h.1, by omega⟩⟩
theorem nat_ok {s : Str} (h : natOk s = true) : natN s = (decV (twD s) : Int) ∧ natR s = s.drop (twD s).length ∧ twD s ++ natR s = s ∧ 0 ≤ natN s ∧ natN s ≤ 99999999 := by
  have e1 : natN s = (decV (twD s) : Int) := by unfold natN; rw [h]; rfl
  have e2 : natR s = s.drop (twD s).length := by unfold natR; rw [h]; rfl
  obtain ⟨h1, h2⟩ := natOk_iff.1 h
  have b := decV_bound h1 (k := 8) h2
  rw [show 10 ^ 8 = 100000000 from by decide] at b
  exact ⟨e1, e2, by rw [e2]; exact tw_split s, by omega, by omega⟩
theorem tw_digs {s : Str} (h : digS s = true) : twD s = s := by
  have := tw_app (a := s) (b := []) (digS_iff.1 h).2.1
  rw [List.append_nil] at this
  rw [this]
  show s ++ [] = s
  simp
theorem nat_digs {s : Str} (h : digS s = true) (hl : s.length ≤ 8) : natOk s = true ∧ natN s = (decV s : Int) ∧ natR s = [] := by
  have ht := tw_digs h
  have ho : natOk s = true := natOk_iff.2 (by rw [ht]; exact ⟨h, hl⟩)
  obtain ⟨n1, n2, _⟩ := nat_ok ho
  rw [ht] at n1 n2
  exact ⟨ho, n1, by rw [n2]; simp⟩
theorem nat_back {s : Str} (h : natOk s = true) (hr : natR s = []) : digS s = true ∧ s.length ≤ 8 ∧ natN s = (decV s : Int) := by
  obtain ⟨n1, n2, n3, _⟩ := nat_ok h
  rw [hr, List.append_nil] at n3
  obtain ⟨h1, h2⟩ := natOk_iff.1 h
  rw [n3] at h1 h2 n1
  exact ⟨h1, h2, n1⟩
theorem natB_iff {a : Str} : natB a = true ↔ formO a = true ∧ (cutN (ownS a)).length ≤ 8 ∧ (cutD (ownS a)).length ≤ 8 ∧ (slashB (ownS a) = true → Nat.gcd (decV (cutN (ownS a))) (decV (cutD (ownS a))) = 1) := by
  unfold natB
  rw [Bool.and_eq_true, Bool.and_eq_true, leB_iff, leB_iff, beq_iff_eq]
  constructor
  · rintro ⟨⟨h1, h2⟩, h3⟩
    cases hf : formO a with
    | false => rw [ratE_bad hf] at h1; cases h1
    | true =>
      refine ⟨rfl, by omega, by omega, fun hs => ?_⟩
      rw [ratE_gcd hf ⟨by omega, by omega⟩ hs] at h1
      cases hg : Nat.beq (Nat.gcd (decV (cutN (ownS a))) (decV (cutD (ownS a)))) 1 with
      | true => exact Nat.eq_of_beq_eq_true hg
      | false => rw [hg] at h1; cases h1
  · rintro ⟨h1, h2, h3, h4⟩
    refine ⟨⟨?_, by omega⟩, by omega⟩
    cases hs : slashB (ownS a) with
    | false => exact ratE_int h1 (by omega) hs
    | true =>
      rw [ratE_gcd h1 ⟨by omega, by omega⟩ hs, h4 hs]
      rfl
theorem form_iff {a : Str} : formO a = true ↔ digS (cutN (ownS a)) = true ∧ ¬ (minB a = true ∧ cutN (ownS a) = [48]) ∧ (slashB (ownS a) = true → digS (cutD (ownS a)) = true ∧ cutD (ownS a) ≠ [48] ∧ cutD (ownS a) ≠ [49]) := by
  unfold formO
  rw [Bool.and_eq_true, Bool.and_eq_true, Bool.not_eq_true', Bool.and_eq_false_iff, Bool.or_eq_true, Bool.and_eq_true, Bool.and_eq_true, Bool.not_eq_true', Bool.not_eq_true', Bool.not_eq_true', beq_eq_false_iff_ne, beq_eq_false_iff_ne, beq_eq_false_iff_ne]
  constructor
  · rintro ⟨⟨h1, h2⟩, h3⟩
    refine ⟨h1, fun h => ?_, fun h => ?_⟩
    · rcases h2 with h2 | h2
      · rw [h.1] at h2; cases h2
      · exact h2 h.2
    · rcases h3 with h3 | h3
      · rw [h] at h3; cases h3
      · exact ⟨h3.1.1, h3.1.2, h3.2⟩
  · rintro ⟨h1, h2, h3⟩
    refine ⟨⟨h1, ?_⟩, ?_⟩
    · cases hm : minB a with
      | false => exact .inl rfl
      | true => exact .inr fun e => h2 ⟨hm, e⟩
    · cases hs : slashB (ownS a) with
      | false => exact .inl rfl
      | true => have := h3 hs; exact .inr ⟨⟨this.1, this.2.1⟩, this.2.2⟩
theorem dec0 {s : Str} (h : digS s = true) : decV s = 0 ↔ s = [48] := ⟨fun e => decV_zero h e, fun e => by rw [e]; decide⟩
theorem dec1 {s : Str} (h : digS s = true) : decV s = 1 ↔ s = [49] := ⟨fun e => by
  have := decDigits_decV h
  rw [e, decDigits_small (by omega)] at this
  exact this.symm, fun e => by rw [e]; decide⟩
structure NF (a o : Str) : Prop where
  f0 : natOk o = false → natB a = false
  f1 : natOk o = true → 0 ≤ natN o ∧ natN o ≤ 99999999
  f2 : natOk o = true → natR o = [] → natB a = !(minB a && natN o == 0) ∧ natN o = (decV (cutN (ownS a)) : Int) ∧ ratD a = 1
  f3 : natOk o = true → natR o ≠ [] → (natR o).getD 0 0 ≠ 47 → natB a = false
  f5 : natOk o = true → (minB a && natN o == 0) = true → natB a = false
  f6 : natOk o = true → natR o ≠ [] → (natR o).getD 0 0 = 47 → natOk ((natR o).drop 1) = false → natB a = false
  f7 : natOk o = true → natR o ≠ [] → (natR o).getD 0 0 = 47 → natOk ((natR o).drop 1) = true →
    (natB a = true ↔ (minB a && natN o == 0) = false ∧ natR ((natR o).drop 1) = [] ∧ 2 ≤ natN ((natR o).drop 1) ∧ gcdO (natN o) (natN ((natR o).drop 1)) = 1) ∧ natN o = (decV (cutN (ownS a)) : Int) ∧ (natB a = true → (ratD a : Int) = natN ((natR o).drop 1))
  fr : ratN a = bif minB a then -(decV (cutN (ownS a)) : Int) else (decV (cutN (ownS a)) : Int)
theorem nat_fwd {a : Str} (h : natB a = true) : natOk (ownS a) = true ∧ natN (ownS a) = (decV (cutN (ownS a)) : Int) ∧ natR (ownS a) = (bif slashB (ownS a) then 47 :: cutD (ownS a) else []) := by
  obtain ⟨h1, h2, h3, h4⟩ := natB_iff.1 h
  obtain ⟨g1, g2, g3⟩ := form_iff.1 h1
  have ht : twD (ownS a) = cutN (ownS a) ∧ (ownS a).drop (cutN (ownS a)).length = (bif slashB (ownS a) then 47 :: cutD (ownS a) else []) := by
    cases hs : slashB (ownS a) with
    | false =>
      obtain ⟨c1, c2⟩ := cut_none hs
      rw [c1] at g1 ⊢
      exact ⟨tw_digs g1, by simp⟩
    | true =>
      have he := slash_split hs
      have e1 : twD (ownS a) = cutN (ownS a) := by
        conv => lhs; rw [he]
        rw [tw_app (digS_iff.1 g1).2.1]
        show cutN (ownS a) ++ [] = _
        rw [List.append_nil]
      refine ⟨e1, ?_⟩
      conv => lhs; arg 2; rw [he]
      rw [List.drop_left]
      rfl
  have ho : natOk (ownS a) = true := natOk_iff.2 (by rw [ht.1]; exact ⟨g1, h2⟩)
  obtain ⟨n1, n2, _⟩ := nat_ok ho
  rw [ht.1] at n1 n2
  exact ⟨ho, n1, by rw [n2, ht.2]⟩
theorem own_cut {a : Str} : ratN a = (bif minB a then -(decV (cutN (ownS a)) : Int) else (decV (cutN (ownS a)) : Int)) ∧ ratD a = (bif slashB (ownS a) then decV (cutD (ownS a)) else 1) := by
  obtain ⟨_, _, _, _, _, h6, h7⟩ := own_parts a
  exact ⟨h6, h7⟩
theorem nf (a : Str) : NF a (ownS a) := by
  obtain ⟨r1, r2⟩ := own_cut (a := a)
  have neg : natOk (ownS a) = true → (minB a && natN (ownS a) == 0) = true → natB a = false := fun h hz => Bool.eq_false_iff.2 fun hb => by
    obtain ⟨_, n1, _⟩ := nat_fwd hb
    obtain ⟨h1, _⟩ := natB_iff.1 hb
    obtain ⟨g1, g2, _⟩ := form_iff.1 h1
    rw [Bool.and_eq_true, beq_iff_eq, n1] at hz
    exact g2 ⟨hz.1, (dec0 g1).1 (by omega)⟩
  have sm : natOk (ownS a) = true → natR (ownS a) ≠ [] → (natR (ownS a)).getD 0 0 = 47 → cutN (ownS a) = twD (ownS a) ∧ cutD (ownS a) = (natR (ownS a)).drop 1 ∧ slashB (ownS a) = true := fun h h1 h2 => by
    obtain ⟨n1, n2, n3, _⟩ := nat_ok h
    have e : natR (ownS a) = 47 :: (natR (ownS a)).drop 1 := by
      match natR (ownS a), h1, h2 with
      | c :: r, _, h2 => rw [show c = 47 from h2]; rfl
    rw [e] at n3
    have := cut_some (a := twD (ownS a)) (b := (natR (ownS a)).drop 1) fun c hc => dg_not47 (tw_all _ c hc)
    rw [n3] at this
    exact this
  refine ⟨fun h => Bool.eq_false_iff.2 fun hb => ?_, fun h => (nat_ok h).2.2.2, fun h h1 => ?_, fun h h1 h2 => Bool.eq_false_iff.2 fun hb => ?_, neg, fun h h1 h2 h3 => Bool.eq_false_iff.2 fun hb => ?_, fun h h1 h2 h3 => ?_, r1⟩
  · rw [(nat_fwd hb).1] at h; cases h
  · obtain ⟨b1, b2, b3⟩ := nat_back h h1
    obtain ⟨c1, c2, c3⟩ := cut_no (s := ownS a) fun i hi e => by
      have := (digS_iff.1 b1).2.1 _ (getD_mem (s := ownS a) (i := i) hi)
      rw [e] at this
      cases this
    rw [c2, r2, c1]
    refine ⟨?_, b3, rfl⟩
    rw [Bool.eq_iff_iff, natB_iff, form_iff, c1, c2, c3, Bool.not_eq_true', b3]
    constructor
    · rintro ⟨⟨_, g2, _⟩, _⟩
      rw [Bool.and_eq_false_iff]
      cases hm : minB a with
      | false => exact .inl rfl
      | true => exact .inr (beq_eq_false_iff_ne.2 fun e => g2 ⟨hm, (dec0 b1).1 (by omega)⟩)
    · intro g
      refine ⟨⟨b1, fun g2 => ?_, fun e => by cases e⟩, b2, by simp, fun e => by cases e⟩
      rw [g2.1, g2.2] at g
      cases g
  · have := (nat_fwd hb).2.2
    rw [this] at h1 h2
    cases hs : slashB (ownS a) with
    | false => rw [hs] at h1; exact h1 rfl
    | true => rw [hs] at h2; exact h2 rfl
  · obtain ⟨c1, c2, c3⟩ := sm h h1 h2
    obtain ⟨k1, k2, k3, _⟩ := natB_iff.1 hb
    have d1 := (form_iff.1 k1).2.2 c3
    rw [c2] at d1 k3
    rw [(nat_digs d1.1 k3).1] at h3
    cases h3
  · obtain ⟨c1, c2, c3⟩ := sm h h1 h2
    obtain ⟨n1, _, _, _⟩ := nat_ok h
    obtain ⟨o1, o2⟩ := natOk_iff.1 h
    rw [c1, r2, c3, c2]
    obtain ⟨m1, _, _, m4, m5⟩ := nat_ok h3
    have hgO : gcdO (natN (ownS a)) (natN ((natR (ownS a)).drop 1)) = (Nat.gcd (natN (ownS a)).toNat (natN ((natR (ownS a)).drop 1)).toNat : Int) := by
      unfold gcdO
      rw [(leB_iff _ _).2 (nat_ok h).2.2.2.1, (leB_iff _ _).2 m4]
      rfl
    have key : natB a = true ↔ (minB a && natN (ownS a) == 0) = false ∧ natR ((natR (ownS a)).drop 1) = [] ∧ 2 ≤ natN ((natR (ownS a)).drop 1) ∧ gcdO (natN (ownS a)) (natN ((natR (ownS a)).drop 1)) = 1 := by
      rw [natB_iff, form_iff, c1, c2, c3, hgO]
      constructor
      · rintro ⟨⟨_, g2, g3⟩, g4, g5, g6⟩
        obtain ⟨g7, g8, g9⟩ := g3 rfl
        obtain ⟨q1, q2, q3⟩ := nat_digs g7 g5
        have z0 : decV ((natR (ownS a)).drop 1) ≠ 0 := fun e => g8 ((dec0 g7).1 e)
        have z1 : decV ((natR (ownS a)).drop 1) ≠ 1 := fun e => g9 ((dec1 g7).1 e)
        refine ⟨?_, q3, by omega, ?_⟩
        · rw [Bool.and_eq_false_iff]
          cases hm : minB a with
          | false => exact .inl rfl
          | true => exact .inr (beq_eq_false_iff_ne.2 fun e => g2 ⟨hm, (dec0 o1).1 (by omega)⟩)
        · rw [n1, q2, Int.toNat_natCast, Int.toNat_natCast, g6 rfl]; rfl
      · rintro ⟨g1, g2, g3, g4⟩
        obtain ⟨q1, q2, q3⟩ := nat_back h3 g2
        have z0 : decV ((natR (ownS a)).drop 1) ≠ 0 := by omega
        have z1 : decV ((natR (ownS a)).drop 1) ≠ 1 := by omega
        refine ⟨⟨o1, fun e => ?_, fun _ => ⟨q1, fun e => z0 ((dec0 q1).2 e), fun e => z1 ((dec1 q1).2 e)⟩⟩, o2, q2, fun _ => ?_⟩
        · rw [e.1, n1, (dec0 o1).2 e.2] at g1
          cases g1
        · rw [n1, q3, Int.toNat_natCast, Int.toNat_natCast] at g4
          omega
    refine ⟨key, n1, fun hb => ?_⟩
    obtain ⟨_, g2, _⟩ := key.1 hb
    obtain ⟨q1, q2, q3⟩ := nat_back h3 g2
    rw [q3]
    rfl
noncomputable def Tno : Tb := (T0.plus 193 rnint_t).plus 194 rgcd_t
theorem Tno_sound : TbSound Tryz.prog Tno := TbSound.plus (TbSound.plus tb0_sound rnint_T) rgcd_T
def rnat_jn (a : Str) (x y : Ann) : Ann := .join Int (fun σ _ => [(0, σ.tm 0), (2, σ.tm 2), (4, σ.tm 4), (5, σ.tm 5), (8, σ.tm 8)]) (fun σ z => [(1, .box 135 2 (listFn [σ.tm 5, .i z]))]) 0
  (fun σ z => natB a = true ∧ z = (ratD a : Int) ∧ AV.int (σ.tm 5) = (decV (cutN (ownS a)) : Int)) x y
def rnat_an (a : Str) : Ann := .two .auto (.two .auto (.two .auto (.two .auto (.split 7 .auto (.two .auto (rnat_jn a (.two .auto (.two (.two .auto (.two .auto (.split 7 .auto .auto))) .auto)) .auto))))))
def rnat_t : List AV → Option (List Cond × AV)
  | [.str a] => some ([.p (a.length ≤ 4294967280)], .tup 2 (listFn [.agg 2 (listFn [.i (bif natB a then ratN a else 0), .i (bif natB a then (ratD a : Int) else 0)]), .b (natB a)]))
  | _ => none
theorem rnat_vc (a : List UInt8) (hl : a.length ≤ 4294967280) :
 let q1 := (!bsel true !a == Array.toList (ByteArray.data (ByteArray.mk #[])) || bsel true !a == Array.toList (ByteArray.data (ByteArray.mk #[]))); let q2 := (ltB (↑(List.length (List.drop 1 a)) : Int) (↑(List.length a) : Int)); let q4 := (True ∧ 2 = 2 ∧ (IntKind.i64 = .i64 ∧ (0 : Int) = bif natB a then ratN a else (0 : Int)) ∧ IntKind.i64 = .i64 ∧ (0 : Int) = bif natB a then (↑(ratD a) : Int) else (0 : Int)); let q3 := (2 = List.length [AV.junk, AV.junk] ∧ q4 ∧ false = natB a); let q5 := (↑(List.length (natR (List.drop 1 a))) : Int); let q7 := (bif !true then true else !natR (List.drop 1 (natR
 (List.drop 1 a))) == Array.toList (ByteArray.data (ByteArray.mk #[]))); let q6 := (!bsel false q7 || bsel false q7); let q10 := (natN (List.drop 1 (natR (List.drop 1 a)))); let q9 := (bif bif !true then true else !natR (List.drop 1 (natR (List.drop 1 a))) == Array.toList (ByteArray.data (ByteArray.mk #[])) then true else ltB q10 (2 : Int)); let q8 := (!bsel false q9 || bsel false q9); let q11 := (AV.v (Value.int .i64 (natN (List.drop 1 a)))); let q12 := (IntKind.i64 = .i64 ∧ natN (List.drop 1 a) = natN (List.drop 1 a)); let q13 := (135 = 135 ∧ 2 = 2 ∧ (IntKind.i64 = .i64 ∧ (0 : Int) = (0 :
 Int)) ∧ IntKind.i64 = .i64 ∧ (0 : Int) = (0 : Int)); let q14 := (bif bif !false then true else !natR (List.drop 1 (natR (List.drop 1 a))) == Array.toList (ByteArray.data (ByteArray.mk #[])) then true else ltB q10 (2 : Int)); let q15 := (ltB (↑(List.length a) : Int) (↑(List.length a) : Int)); let q17 := (bif !true then true else !natR (List.drop 1 (natR a)) == Array.toList (ByteArray.data (ByteArray.mk #[]))); let q16 := (!bsel false q17 || bsel false q17); let q19 := (bif bif !true then true else !natR (List.drop 1 (natR a)) == Array.toList (ByteArray.data (ByteArray.mk #[])) then true else ltB
 (natN (List.drop 1 (natR a))) (2 : Int)); let q18 := (!bsel false q19 || bsel false q19); let q20 := (bif bif !false then true else !natR (List.drop 1 (natR a)) == Array.toList (ByteArray.data (ByteArray.mk #[])) then true else ltB (natN (List.drop 1 (natR a))) (2 : Int)); bndL [AV.str a] → bsplit q1 (bsplit (!bsel true !a == Array.toList (ByteArray.data (ByteArray.mk #[])) || DB.db ((0 : Int) ≤ (0 : Int) ∧ (0 : Int) < (↑(List.length a) : Int))) (bsplit q1 (bsplit (!!a == Array.toList (ByteArray.data (ByteArray.mk #[])) || bsel true !a == Array.toList (ByteArray.data (ByteArray.mk #[])))
 (bsplit (bif !a == Array.toList (ByteArray.data (ByteArray.mk #[])) then (↑(UInt8.toNat (List.getD a 0 (0 : UInt8))) : Int) == (45 : Int) else false) (bsplit (DB.db ((0 : Int) ≤ (1 : Int) ∧ (1 : Int) ≤ (↑(List.length a) : Int))) (List.length (List.drop 1 a) ≤ 4294967280 ∧ bsplit (natOk (List.drop 1 a)) (bsplit (!(bsel false !true && bsel true q2) || bsel false !true && bsel true q2) (bsplit (!bsel false !true || (!ltB (↑(List.length (List.drop 1 a)) : Int) (↑(List.length a) : Int) || bsel false !true && bsel true q2)) (bsplit (bif !true then true else bif ltB (↑(List.length (List.drop 1 a)) :
 Int) (↑(List.length a) : Int) then natN (List.drop 1 a) == (0 : Int) else false) q3 (bsplit (!natR (List.drop 1 a) == Array.toList (ByteArray.data (ByteArray.mk #[]))) (bsplit (DB.db ((0 : Int) ≤ (0 : Int) ∧ (0 : Int) < q5)) (bsplit ((↑(UInt8.toNat (List.getD (natR (List.drop 1 a)) 0 (0 : UInt8))) : Int) != (47 : Int)) q3 (bsplit (DB.db ((0 : Int) ≤ (1 : Int) ∧ (1 : Int) ≤ q5)) (List.length (List.drop 1 (natR (List.drop 1 a))) ≤ 4294967280 ∧ bsplit (natOk (List.drop 1 (natR (List.drop 1 a)))) (bsplit q6 (bsplit q6 (bsplit ((!!bif !true then true else !natR (List.drop 1 (natR (List.drop 1 a)))
 == Array.toList (ByteArray.data (ByteArray.mk #[]))) || bsel false q7) (bsplit q8 (bsplit q8 (bsplit q8 ((bsel false q9 = true → (0 : Int) ≤ natN (List.drop 1 a) ∧ natN (List.drop 1 a) ≤ (9223372036854775807 : Int)) ∧ (bsel false q9 = true → (0 : Int) ≤ natN (List.drop 1 (natR (List.drop 1 a))) ∧ natN (List.drop 1 (natR (List.drop 1 a))) ≤ (9223372036854775807 : Int)) ∧ bsplit q8 (bsplit ((!!bif bif !true then true else !natR (List.drop 1 (natR (List.drop 1 a))) == Array.toList (ByteArray.data (ByteArray.mk #[])) then true else ltB q10 (2 : Int)) || bsel false q9) (bsplit (bif bif bif !true
 then true else !natR (List.drop 1 (natR (List.drop 1 a))) == Array.toList (ByteArray.data (ByteArray.mk #[])) then true else ltB q10 (2 : Int) then true else gcdO (natN (List.drop 1 a)) q10 != (1 : Int)) q3 (∃ (z : Int), ((natB a = true ∧ z = (↑(ratD a) : Int) ∧ AV.int q11 = (↑(decV (cutN (ownS a))) : Int)) ∧ a = a ∧ (nat_lit 0 = 0 ∧ 0 = 0) ∧ List.drop 1 a = List.drop 1 a ∧ q12 ∧ nat_lit 1 = 1 ∧ 0 = 0) ∧ q13 ∧ (135 : TypeId) = 135 ∧ 2 = 2 ∧ q12 ∧ IntKind.i64 = .i64 ∧ natN (List.drop 1 (natR (List.drop 1 a))) = z)) False) False) False) False) False) False) False) False) ((bsel false q14 = true →
 (0 : Int) ≤ natN (List.drop 1 a) ∧ natN (List.drop 1 a) ≤ (9223372036854775807 : Int)) ∧ (bsel false q14 = true → (0 : Int) ≤ natN (List.drop 1 (natR (List.drop 1 a))) ∧ natN (List.drop 1 (natR (List.drop 1 a))) ≤ (9223372036854775807 : Int)) ∧ 2 = List.length [AV.junk, AV.junk] ∧ q4 ∧ false = natB a)) False)) False) (∃ (z : Int), ((natB a = true ∧ z = (↑(ratD a) : Int) ∧ AV.int q11 = (↑(decV (cutN (ownS a))) : Int)) ∧ a = a ∧ (nat_lit 0 = 0 ∧ 0 = 0) ∧ List.drop 1 a = List.drop 1 a ∧ q12 ∧ nat_lit 1 = 1 ∧ 0 = 0) ∧ q13 ∧ (135 : TypeId) = 135 ∧ 2 = 2 ∧ q12 ∧ IntKind.i64 = .i64 ∧ (1 : Int) = z) ∧
 ∀ (z : Int), natB a = true ∧ z = (↑(ratD a) : Int) ∧ AV.int q11 = (↑(decV (cutN (ownS a))) : Int) → bsplit q2 (bsplit (DB.db (inK .i64 (-natN (List.drop 1 a)))) (2 = List.length [AV.junk, AV.junk] ∧ (True ∧ 2 = 2 ∧ (IntKind.i64 = .i64 ∧ -natN (List.drop 1 a) = bif natB a then ratN a else (0 : Int)) ∧ IntKind.i64 = .i64 ∧ z = bif natB a then (↑(ratD a) : Int) else (0 : Int)) ∧ true = natB a) False) (2 = List.length [AV.junk, AV.junk] ∧ (True ∧ 2 = 2 ∧ (IntKind.i64 = .i64 ∧ natN (List.drop 1 a) = bif natB a then ratN a else (0 : Int)) ∧ IntKind.i64 = .i64 ∧ z = bif natB a then (↑(ratD a) : Int)
 else (0 : Int)) ∧ true = natB a))) False) False) q3) False) (List.length a ≤ 4294967280 ∧ bsplit (natOk a) (bsplit (!(bsel false !true && bsel true q15) || bsel false !true && bsel true q15) (bsplit (!bsel false !true || (!ltB (↑(List.length a) : Int) (↑(List.length a) : Int) || bsel false !true && bsel true q15)) (bsplit (bif !true then true else bif ltB (↑(List.length a) : Int) (↑(List.length a) : Int) then natN a == (0 : Int) else false) q3 (bsplit (!natR a == Array.toList (ByteArray.data (ByteArray.mk #[]))) (bsplit (DB.db ((0 : Int) ≤ (0 : Int) ∧ (0 : Int) < (↑(List.length (natR a)) :
 Int))) (bsplit ((↑(UInt8.toNat (List.getD (natR a) 0 (0 : UInt8))) : Int) != (47 : Int)) q3 (bsplit (DB.db ((0 : Int) ≤ (1 : Int) ∧ (1 : Int) ≤ (↑(List.length (natR a)) : Int))) (List.length (List.drop 1 (natR a)) ≤ 4294967280 ∧ bsplit (natOk (List.drop 1 (natR a))) (bsplit q16 (bsplit q16 (bsplit ((!!bif !true then true else !natR (List.drop 1 (natR a)) == Array.toList (ByteArray.data (ByteArray.mk #[]))) || bsel false q17) (bsplit q18 (bsplit q18 (bsplit q18 ((bsel false q19 = true → (0 : Int) ≤ natN a ∧ natN a ≤ (9223372036854775807 : Int)) ∧ (bsel false q19 = true → (0 : Int) ≤ natN
 (List.drop 1 (natR a)) ∧ natN (List.drop 1 (natR a)) ≤ (9223372036854775807 : Int)) ∧ bsplit q18 (bsplit ((!!bif bif !true then true else !natR (List.drop 1 (natR a)) == Array.toList (ByteArray.data (ByteArray.mk #[])) then true else ltB (natN (List.drop 1 (natR a))) (2 : Int)) || bsel false q19) (bsplit (bif bif bif !true then true else !natR (List.drop 1 (natR a)) == Array.toList (ByteArray.data (ByteArray.mk #[])) then true else ltB (natN (List.drop 1 (natR a))) (2 : Int) then true else gcdO (natN a) (natN (List.drop 1 (natR a))) != (1 : Int)) q3 (∃ (z : Int), ((natB a = true ∧ z = (↑(ratD
 a) : Int) ∧ AV.int (AV.v (Value.int .i64 (natN a))) = (↑(decV (cutN (ownS a))) : Int)) ∧ a = a ∧ (nat_lit 0 = 0 ∧ 0 = 0) ∧ a = a ∧ (IntKind.i64 = .i64 ∧ natN a = natN a) ∧ nat_lit 1 = 1 ∧ 0 = 0) ∧ q13 ∧ (135 : TypeId) = 135 ∧ 2 = 2 ∧ (IntKind.i64 = .i64 ∧ natN a = natN a) ∧ IntKind.i64 = .i64 ∧ natN (List.drop 1 (natR a)) = z)) False) False) False) False) False) False) False) False) ((bsel false q20 = true → (0 : Int) ≤ natN a ∧ natN a ≤ (9223372036854775807 : Int)) ∧ (bsel false q20 = true → (0 : Int) ≤ natN (List.drop 1 (natR a)) ∧ natN (List.drop 1 (natR a)) ≤ (9223372036854775807 : Int)) ∧
 2 = List.length [AV.junk, AV.junk] ∧ q4 ∧ false = natB a)) False)) False) (∃ (z : Int), ((natB a = true ∧ z = (↑(ratD a) : Int) ∧ AV.int (AV.v (Value.int .i64 (natN a))) = (↑(decV (cutN (ownS a))) : Int)) ∧ a = a ∧ (nat_lit 0 = 0 ∧ 0 = 0) ∧ a = a ∧ (IntKind.i64 = .i64 ∧ natN a = natN a) ∧ nat_lit 1 = 1 ∧ 0 = 0) ∧ q13 ∧ (135 : TypeId) = 135 ∧ 2 = 2 ∧ (IntKind.i64 = .i64 ∧ natN a = natN a) ∧ IntKind.i64 = .i64 ∧ (1 : Int) = z) ∧ ∀ (z : Int), natB a = true ∧ z = (↑(ratD a) : Int) ∧ AV.int (AV.v (Value.int .i64 (natN a))) = (↑(decV (cutN (ownS a))) : Int) → bsplit q15 (bsplit (DB.db (inK .i64
 (-natN a))) (2 = List.length [AV.junk, AV.junk] ∧ (True ∧ 2 = 2 ∧ (IntKind.i64 = .i64 ∧ -natN a = bif natB a then ratN a else (0 : Int)) ∧ IntKind.i64 = .i64 ∧ z = bif natB a then (↑(ratD a) : Int) else (0 : Int)) ∧ true = natB a) False) (2 = List.length [AV.junk, AV.junk] ∧ (True ∧ 2 = 2 ∧ (IntKind.i64 = .i64 ∧ natN a = bif natB a then ratN a else (0 : Int)) ∧ IntKind.i64 = .i64 ∧ z = bif natB a then (↑(ratD a) : Int) else (0 : Int)) ∧ true = natB a))) False) False) q3)) False) False) False) False := by
  dsimp only
  intro hb
  simp only [sS, dS, ltB_nat]
  have em : (!(a == []) && ((a.getD 0 0).toNat : Int) == 45) = minB a := by
    rw [show (((a.getD 0 0).toNat : Int) == 45) = (a.getD 0 0 == 45) from byte_eq (a.getD 0 0) 45 (by decide)]
    unfold minB
    match a with
    | [] => rfl
    | c :: r => simp
  have e47 : ∀ c : UInt8, ((c.toNat : Int) = 47) ↔ c = 47 := fun c => by
    have := byte_eq c 47 (by decide)
    rw [Bool.eq_iff_iff, beq_iff_eq, beq_iff_eq] at this
    exact this
  have bad : natB a = false → 2 = [AV.junk, AV.junk].length ∧ ((0 = bif natB a then ratN a else 0) ∧ 0 = bif natB a then (ratD a : Int) else 0) ∧ false = natB a := fun h => by rw [h]; exact ⟨rfl, ⟨rfl, rfl⟩, rfl⟩
  have rb : ∀ s : Str, natOk s = true → 0 ≤ natN s ∧ natN s ≤ 9223372036854775807 := fun s h => by have := (nat_ok h).2.2.2; omega
  have F := nf a
  rw [em]
  simp only [e47, ne_eq]
  have hpos : (!(a == [])) = true → 0 < a.length := fun h => by
    match a, h with
    | c :: r, _ => simp
  refine ⟨fun h => ⟨Int.le_refl _, by have := hpos h; omega⟩, bsplit_iff.2 ⟨fun c => ?_, fun c => ?_⟩⟩
  · have hown : ownS a = a.drop 1 := by unfold ownS; rw [c]; rfl
    have hl1 := (ownS_t c).2
    have hlt : ltB ((a.drop 1).length : Int) (a.length : Int) = minB a := by rw [c, ltB_iff, List.length_drop]; omega
    rw [hown] at F
    refine ⟨⟨by omega, by omega⟩, by rw [List.length_drop]; omega, ?_⟩
    generalize ho : a.drop 1 = o at *
    have hlo : o.length ≤ a.length := by rw [← ho, List.length_drop]; omega
    have hgt : (o.length : Int) < (a.length : Int) ↔ minB a = true := by rw [← hlt, ltB_iff]
    rw [hlt]
    refine bsplit_iff.2 ⟨fun k => ?_, fun k => bad (F.f0 k)⟩
    refine bsp_t (by cases minB a <;> rfl) ?_
    have hb1 := rb _ k
    refine bsplit_iff.2 ⟨fun k2 => bad (F.f5 k (by simpa using k2)), fun k2 => ⟨bsplit_iff.2 ⟨fun k3 => ?_, fun k3 => ?_⟩, fun z hz => ?_⟩⟩
    · have k4 : natR o ≠ [] := by simpa using k3
      have k5 : 0 < (natR o).length := Nat.pos_of_ne_zero fun e => k4 (List.eq_nil_of_length_eq_zero e)
      have k6 : (natR o).length ≤ o.length := by
        obtain ⟨_, _, h3, _⟩ := nat_ok k
        have := congrArg List.length h3
        rw [List.length_append] at this
        omega
      refine ⟨⟨by omega, by omega⟩, fun hne => bad (F.f3 k k4 hne), fun he => ⟨⟨by omega, by omega⟩, by rw [List.length_drop]; omega, bsplit_iff.2 ⟨fun k7 => ?_, fun k7 => ?_⟩⟩⟩
      · obtain ⟨i1, i2, i3⟩ := F.f7 k k4 he k7
        refine ⟨fun _ => hb1, fun _ => rb _ k7, bsplit_iff.2 ⟨fun k8 => bad (Bool.eq_false_iff.2 fun hb => ?_), fun k8 => ?_⟩⟩
        · obtain ⟨j1, j2, j3, j4⟩ := i1.1 hb
          rw [j2, j4, show ltB (natN ((natR o).drop 1)) 2 = false from Bool.eq_false_iff.2 fun e => by have := (ltB_iff _ _).1 e; omega] at k8
          cases k8
        · have hb : natB a = true := i1.2 (by
            rw [Bool.or_eq_false_iff, Bool.or_eq_false_iff] at k8
            obtain ⟨⟨q1, q2⟩, q3⟩ := k8
            refine ⟨by simpa using k2, by simpa using q1, ?_, by simpa using q3⟩
            refine Decidable.byContradiction fun hn => ?_
            rw [(ltB_iff _ _).2 (by omega)] at q2
            cases q2)
          exact ⟨_, ⟨hb, (i3 hb).symm, i2⟩, rfl⟩
      · exact ⟨fun h => by simp at h, fun h => by simp at h, bad (F.f6 k k4 he k7)⟩
    · have k4 : natR o = [] := by simpa using k3
      obtain ⟨i1, i2, i3⟩ := F.f2 k k4
      have k2' : (minB a && natN o == 0) = false := k2
      have hb : natB a = true := by rw [i1, k2']; rfl
      exact ⟨1, ⟨hb, by rw [i3]; rfl, i2⟩, rfl⟩
    · obtain ⟨z1, z2, z3⟩ := hz
      have fr := F.fr
      rw [← z3] at fr
      refine ⟨fun hh => ⟨⟨by omega, by omega⟩, rfl, ⟨?_, ?_⟩, z1.symm⟩, fun hh => ⟨rfl, ⟨?_, ?_⟩, z1.symm⟩⟩
      · rw [z1, fr, hgt.1 hh]; rfl
      · rw [z1]; exact z2
      · have : minB a = false := Bool.eq_false_iff.2 fun e => by have := hgt.2 e; omega
        rw [z1, fr, this]; rfl
      · rw [z1]; exact z2
  · have hown : ownS a = a := by unfold ownS; rw [c]; rfl
    have hlt : ltB (a.length : Int) (a.length : Int) = minB a := by rw [c, Bool.eq_false_iff, Ne, ltB_iff]; omega
    rw [hown] at F
    have hlo : a.length ≤ a.length := Nat.le_refl _
    have hgt : (a.length : Int) < (a.length : Int) ↔ minB a = true := by rw [← hlt, ltB_iff]
    refine ⟨by omega, ?_⟩
    rw [hlt]
    refine bsplit_iff.2 ⟨fun k => ?_, fun k => bad (F.f0 k)⟩
    refine bsp_t (by cases minB a <;> rfl) ?_
    have hb1 := rb _ k
    refine bsplit_iff.2 ⟨fun k2 => bad (F.f5 k (by simpa using k2)), fun k2 => ⟨bsplit_iff.2 ⟨fun k3 => ?_, fun k3 => ?_⟩, fun z hz => ?_⟩⟩
    · have k4 : natR a ≠ [] := by simpa using k3
      have k5 : 0 < (natR a).length := Nat.pos_of_ne_zero fun e => k4 (List.eq_nil_of_length_eq_zero e)
      have k6 : (natR a).length ≤ a.length := by
        obtain ⟨_, _, h3, _⟩ := nat_ok k
        have := congrArg List.length h3
        rw [List.length_append] at this
        omega
      refine ⟨⟨by omega, by omega⟩, fun hne => bad (F.f3 k k4 hne), fun he => ⟨⟨by omega, by omega⟩, by rw [List.length_drop]; omega, bsplit_iff.2 ⟨fun k7 => ?_, fun k7 => ?_⟩⟩⟩
      · obtain ⟨i1, i2, i3⟩ := F.f7 k k4 he k7
        refine ⟨fun _ => hb1, fun _ => rb _ k7, bsplit_iff.2 ⟨fun k8 => bad (Bool.eq_false_iff.2 fun hb => ?_), fun k8 => ?_⟩⟩
        · obtain ⟨j1, j2, j3, j4⟩ := i1.1 hb
          rw [j2, j4, show ltB (natN ((natR a).drop 1)) 2 = false from Bool.eq_false_iff.2 fun e => by have := (ltB_iff _ _).1 e; omega] at k8
          cases k8
        · have hb : natB a = true := i1.2 (by
            rw [Bool.or_eq_false_iff, Bool.or_eq_false_iff] at k8
            obtain ⟨⟨q1, q2⟩, q3⟩ := k8
            refine ⟨by simpa using k2, by simpa using q1, ?_, by simpa using q3⟩
            refine Decidable.byContradiction fun hn => ?_
            rw [(ltB_iff _ _).2 (by omega)] at q2
            cases q2)
          exact ⟨_, ⟨hb, (i3 hb).symm, i2⟩, rfl⟩
      · exact ⟨fun h => by simp at h, fun h => by simp at h, bad (F.f6 k k4 he k7)⟩
    · have k4 : natR a = [] := by simpa using k3
      obtain ⟨i1, i2, i3⟩ := F.f2 k k4
      have k2' : (minB a && natN a == 0) = false := k2
      have hb : natB a = true := by rw [i1, k2']; rfl
      exact ⟨1, ⟨hb, by rw [i3]; rfl, i2⟩, rfl⟩
    · obtain ⟨z1, z2, z3⟩ := hz
      have fr := F.fr
      rw [← z3] at fr
      refine ⟨fun hh => ⟨⟨by omega, by omega⟩, rfl, ⟨?_, ?_⟩, z1.symm⟩, fun hh => ⟨rfl, ⟨?_, ?_⟩, z1.symm⟩⟩
      · rw [z1, fr, hgt.1 hh]; rfl
      · rw [z1]; exact z2
      · have : minB a = false := Bool.eq_false_iff.2 fun e => by have := hgt.2 e; omega
        rw [z1, fr, this]; rfl
      · rw [z1]; exact z2
theorem rnat_C (a : List UInt8) (hl : a.length ≤ 4294967280) : PureCall Tryz.prog [] 130 [.str a] (.tup 2 (listFn [.agg 2 (listFn [.i (bif natB a then ratN a else 0), .i (bif natB a then (ratD a : Int) else 0)]), .b (natB a)])) :=
  pure_of_vc (T := Tno) (an := rnat_an a) mixed Tno_sound (Eq.mp (by kernel_rfl) (rnat_vc a hl))
theorem rnat_T : PureT Tryz.prog [] 130 rnat_t := by
  intro xs ps r h hp
  unfold rnat_t at h
  split at h
  · skip
    rename_i a
    cases h
    obtain ⟨q0, -⟩ := allC hp
    exact weaken (ys := [.str a]) ⟨avM_refl _, trivial⟩ (rnat_C a q0)
  · cases h
end Go.Te
