/- kingpostref02: reading numbers. -/
import Derived.Test.YtdkpceodckdcfaaGreatDoorTeK
import Derived.Test.YtdkpceodckdcfaaGreatDoorArO
import Derived.Test.YtdkpceodckdcfaaGreatDoorTeJ
import Derived.ChangeArms
import Derived.Lib.LaidTab
set_option linter.unusedSimpArgs false
set_option linter.unusedVariables false
namespace Go.Te
open Go Go.Sx Go.Proofs Go.Ar Go.Lib
set_option maxRecDepth 100000
set_option maxHeartbeats 4000000
def r2digits_an (s : Str) : Ann :=
  .two .auto (.two .auto (.two (.two .auto (.one (.loop Nat (fun σ z => [(0, σ.tm 0), (3, .i z)]) (fun σ z => []) 0 (fun σ z => z ≤ s.length ∧ ∀ i, i < z → isDg (s.getD i 0) = true) (fun σ z => s.length - z) .auto))) .auto))
def r2digits_t : List AV → Option (List Cond × AV)
  | [.str s] => some ([.p (s.length ≤ 4294967280)], .b (digS s))
  | _ => none
theorem r2digits_vc (s : List UInt8) (hl : s.length ≤ 4294967280) :
 let q1 := (!bsel false ((↑(List.length s) : Int) == (0 : Int)) || bsel false ((↑(List.length s) : Int) == (0 : Int))); let q4 := (ltB (1 : Int) (↑(List.length s) : Int)); let q3 := (bsel false ((↑(List.length s) : Int) == (0 : Int)) && bsel true q4); let q2 := (!q3 || bsel false ((↑(List.length s) : Int) == (0 : Int)) && bsel true q4); bndL [AV.str s] → bsplit q1 (bsplit q1 (bsplit q1 (bsplit q2 (bsplit (!q3 || DB.db ((0 : Int) ≤ (0 : Int) ∧ (0 : Int) < (↑(List.length s) : Int))) (bsplit q2 (bsplit q1 (bsplit (!bsel false ((↑(List.length s) : Int) == (0 : Int)) || (!ltB (1 : Int) (↑(List.length
 s) : Int) || bsel false ((↑(List.length s) : Int) == (0 : Int)) && bsel true q4)) (bsplit (!!(↑(List.length s) : Int) == (0 : Int) || bsel false ((↑(List.length s) : Int) == (0 : Int))) (bsplit (bif (↑(List.length s) : Int) == (0 : Int) then true else bif ltB (1 : Int) (↑(List.length s) : Int) then (↑(UInt8.toNat (List.getD s 0 (0 : UInt8))) : Int) == (48 : Int) else false) (false = digS s) ((∃ (z : Nat), ((z ≤ List.length s ∧ ∀ (i : Nat), i < z → isDg (List.getD s i (0 : UInt8)) = true) ∧ s = s ∧ IntKind.i64 = .i64 ∧ (0 : Int) = (↑z : Int)) ∧ True) ∧ ∀ (z : Nat), let q5 := ((0 : Int) ≤ (↑z :
 Int) ∧ (↑z : Int) < (↑(List.length s) : Int)); let q8 := (↑(UInt8.toNat (List.getD s (Int.toNat (↑z : Int)) (0 : UInt8))) : Int); let q7 := (ltB q8 (48 : Int)); let q6 := (!bsel false q7 || bsel false q7); (z ≤ List.length s ∧ ∀ (i : Nat), i < z → isDg (List.getD s i (0 : UInt8)) = true) → bsplit (ltB (↑z : Int) (↑(List.length s) : Int)) (bsplit (DB.db q5) (bsplit q6 (bsplit q6 (bsplit (!bsel false q7 || DB.db q5) (bsplit q6 (bsplit (!!ltB q8 (48 : Int) || bsel false q7) (bsplit (bif ltB q8 (48 : Int) then true else ltB (57 : Int) q8) (false = digS s) (bsplit (DB.db (inK .i64 ((↑z : Int) + (1 :
 Int)))) (∃ (z' : Nat), (((z' ≤ List.length s ∧ ∀ (i : Nat), i < z' → isDg (List.getD s i (0 : UInt8)) = true) ∧ List.length s - z' < List.length s - z) ∧ s = s ∧ IntKind.i64 = .i64 ∧ (↑z : Int) + (1 : Int) = (↑z' : Int)) ∧ True) False)) False) False) False) False) False) False) (true = digS s))) False) False) False) False) False) False) False) False) False := by
  dsimp only
  intro hb
  simp only [avM_refl, true_and, and_true, bsel_true, bsel_false, vc_own, bif_or, bif_and, vc_gdb, vc_db, vc_lt, vc_le, vc_ne, vc_eq, vc_tt, Int.toNat_natCast, Nat.zero_add, Nat.zero_le, Nat.sub_zero, int_i, Bool.or_true, cond_true, cond_false, okIn, okIn', deI, deI', deIo, deIo', ltB_nat, dgc]
  have e48 : (((s.getD 0 0).toNat : Int) == 48) = (s.getD 0 0 == 48) := byte_eq (s.getD 0 0) 48 (by decide)
  rw [e48]
  refine ⟨fun h => ⟨Int.le_refl _, ?_⟩, ?_⟩
  · rw [Bool.and_eq_true, ltB_iff] at h; omega
  by_cases h0 : s.length = 0
  · have he : s = [] := List.eq_nil_of_length_eq_zero h0
    subst he
    exact rfl
  rw [show ((s.length : Int) == 0) = false from beq_eq_false_iff_ne.2 (by omega)]
  simp only [Bool.not_false, Bool.not_true, Bool.false_or, Bool.true_and]
  rw [show (!ltB 1 (s.length : Int) || ltB 1 (s.length : Int)) = true by cases ltB 1 (s.length : Int) <;> rfl, vc_tt]
  refine bsplit_iff.2 ⟨fun c => ?_, fun c => ⟨⟨0, ⟨Nat.zero_le _, fun i hi => absurd hi (Nat.not_lt_zero _)⟩, rfl⟩, fun z ⟨z1, z2⟩ => ⟨fun hz => ⟨⟨by omega, hz⟩, fun _ => ⟨by omega, hz⟩, bsplit_iff.2 ⟨fun c2 => ?_, fun c2 => ⟨⟨by omega, by omega⟩, z + 1, ⟨⟨by omega, fun i hi => ?_⟩, by omega⟩, by omega⟩⟩⟩, fun hz => ?_⟩⟩⟩
  · rw [Bool.and_eq_true, ltB_iff, beq_iff_eq] at c
    refine (Bool.eq_false_iff.2 fun e => (digS_at.1 e).2.2 (by omega) c.2).symm
  · rw [Bool.not_eq_true'] at c2
    refine (Bool.eq_false_iff.2 fun e => ?_).symm
    have := (digS_at.1 e).2.1 z (by omega)
    rw [c2] at this; cases this
  · rw [Bool.not_eq_false'] at c2
    by_cases e : i = z
    · rw [e]; exact c2
    · exact z2 i (by omega)
  · refine (digS_at.2 ⟨by omega, fun i hi => z2 i (by omega), fun h1 h2 => ?_⟩).symm
    rw [Bool.and_eq_false_iff, beq_eq_false_iff_ne, Bool.eq_false_iff, Ne, ltB_iff] at c
    rcases c with c | c
    · omega
    · exact c h2
theorem r2digits_C (s : List UInt8) (hl : s.length ≤ 4294967280) : PureCall Tryz.prog [] 46 [.str s] (.b (digS s)) :=
  pure_of_vc mixed tb0_sound (Eq.mp (by kernel_rfl) (r2digits_vc s hl) : vcFn Tryz.prog T0 46 (r2digits_an s) [.str s] (.b (digS s)))
theorem r2digits_T : PureT Tryz.prog [] 46 r2digits_t := by
  intro xs ps r h hp
  unfold r2digits_t at h
  split at h
  · skip
    rename_i s
    cases h
    have q0 := hp _ List.mem_cons_self
    exact weaken (ys := [.str s]) ⟨avM_refl _, trivial⟩ (r2digits_C s q0)
  · cases h
def r2split_an (a : Str) : Ann :=
  .two .auto (.two .auto (.two .auto (.two .auto (.two (.two .auto (.one (.loop Nat (fun σ z => [(6, σ.tm 6), (7, σ.tm 7), (8, .i z)]) (fun σ z => []) 0 (fun σ z => z ≤ (ownS a).length ∧ ∀ i, i < z → (ownS a).getD i 0 ≠ 47) (fun σ z => (ownS a).length - z) .auto))) .auto))))
def r2split_t : List AV → Option (List Cond × AV)
  | [.str a] => some ([.p (a.length ≤ 4294967280)], .tup 4 (listFn [.b (minB a), .str (cutN (ownS a)), .str (cutD (ownS a)), .b (slashB (ownS a))]))
  | _ => none
theorem r2split_vc (a : List UInt8) (hl : a.length ≤ 4294967280) :
 let q2 := (ltB (0 : Int) (↑(List.length a) : Int)); let q1 := (!bsel true q2 || bsel true q2); let q4 := (↑(UInt8.toNat (List.getD a 0 (0 : UInt8))) : Int); let q3 := (bif ltB (0 : Int) (↑(List.length a) : Int) then q4 == (45 : Int) else false); let q5 := (q3 = bif ltB (0 : Int) (↑(List.length a) : Int) then q4 == (45 : Int) else false); let q7 := (Value.bool q3); let q8 := (True ∧ q3 = minB a); let q9 := (Array.toList (ByteArray.data (ByteArray.mk #[]))); bndL [AV.str a] → bsplit q1 (bsplit (!bsel true q2 || DB.db ((0 : Int) ≤ (0 : Int) ∧ (0 : Int) < (↑(List.length a) : Int))) (bsplit q1
 (bsplit (!ltB (0 : Int) (↑(List.length a) : Int) || bsel true q2) (bsplit q3 (bsplit (DB.db ((0 : Int) ≤ (1 : Int) ∧ (1 : Int) ≤ (↑(List.length a) : Int))) ((∃ (z : Nat), ((z ≤ List.length (ownS a) ∧ ∀ (i : Nat), i < z → List.getD (ownS a) i (0 : UInt8) ≠ (47 : UInt8)) ∧ List.drop 1 a = List.drop 1 a ∧ q5 ∧ IntKind.i64 = .i64 ∧ (0 : Int) = (↑z : Int)) ∧ True) ∧ ∀ (z : Nat), let q6 := (DB.db (inK .i64 ((↑z : Int) + (1 : Int)))); (z ≤ List.length (ownS a) ∧ ∀ (i : Nat), i < z → List.getD (ownS a) i (0 : UInt8) ≠ (47 : UInt8)) → bsplit (ltB (↑z : Int) (↑(List.length (List.drop 1 a)) : Int))
 (bsplit (DB.db ((0 : Int) ≤ (↑z : Int) ∧ (↑z : Int) < (↑(List.length (List.drop 1 a)) : Int))) (bsplit ((↑(UInt8.toNat (List.getD (List.drop 1 a) (Int.toNat (↑z : Int)) (0 : UInt8))) : Int) == (47 : Int)) (bsplit (DB.db ((0 : Int) ≤ (↑z : Int) ∧ (↑z : Int) ≤ (↑(List.length (List.drop 1 a)) : Int))) (bsplit q6 (bsplit (DB.db ((0 : Int) ≤ (↑z : Int) + (1 : Int) ∧ (↑z : Int) + (1 : Int) ≤ (↑(List.length (List.drop 1 a)) : Int))) (4 = List.length [AV.v q7, AV.str (List.take (Int.toNat (↑z : Int)) (List.drop 1 a)), AV.str (List.drop (Int.toNat ((↑z : Int) + (1 : Int))) (List.drop 1 a)), AV.v
 (Value.bool true)] ∧ ((q8 ∧ List.take (Int.toNat (↑z : Int)) (List.drop 1 a) = cutN (ownS a)) ∧ List.drop (Int.toNat ((↑z : Int) + (1 : Int))) (List.drop 1 a) = cutD (ownS a)) ∧ true = slashB (ownS a)) False) False) False) (bsplit q6 (∃ (z' : Nat), (((z' ≤ List.length (ownS a) ∧ ∀ (i : Nat), i < z' → List.getD (ownS a) i (0 : UInt8) ≠ (47 : UInt8)) ∧ List.length (ownS a) - z' < List.length (ownS a) - z) ∧ List.drop 1 a = List.drop 1 a ∧ q5 ∧ IntKind.i64 = .i64 ∧ (↑z : Int) + (1 : Int) = (↑z' : Int)) ∧ True) False)) False) (4 = List.length [AV.v q7, AV.str (List.drop 1 a), AV.str q9, AV.v
 (Value.bool false)] ∧ ((q8 ∧ List.drop 1 a = cutN (ownS a)) ∧ Array.toList (ByteArray.data (ByteArray.mk #[])) = cutD (ownS a)) ∧ false = slashB (ownS a))) False) ((∃ (z : Nat), ((z ≤ List.length (ownS a) ∧ ∀ (i : Nat), i < z → List.getD (ownS a) i (0 : UInt8) ≠ (47 : UInt8)) ∧ a = a ∧ q5 ∧ IntKind.i64 = .i64 ∧ (0 : Int) = (↑z : Int)) ∧ True) ∧ ∀ (z : Nat), let q10 := (DB.db (inK .i64 ((↑z : Int) + (1 : Int)))); (z ≤ List.length (ownS a) ∧ ∀ (i : Nat), i < z → List.getD (ownS a) i (0 : UInt8) ≠ (47 : UInt8)) → bsplit (ltB (↑z : Int) (↑(List.length a) : Int)) (bsplit (DB.db ((0 : Int) ≤ (↑z :
 Int) ∧ (↑z : Int) < (↑(List.length a) : Int))) (bsplit ((↑(UInt8.toNat (List.getD a (Int.toNat (↑z : Int)) (0 : UInt8))) : Int) == (47 : Int)) (bsplit (DB.db ((0 : Int) ≤ (↑z : Int) ∧ (↑z : Int) ≤ (↑(List.length a) : Int))) (bsplit q10 (bsplit (DB.db ((0 : Int) ≤ (↑z : Int) + (1 : Int) ∧ (↑z : Int) + (1 : Int) ≤ (↑(List.length a) : Int))) (4 = List.length [AV.v q7, AV.str (List.take (Int.toNat (↑z : Int)) a), AV.str (List.drop (Int.toNat ((↑z : Int) + (1 : Int))) a), AV.v (Value.bool true)] ∧ ((q8 ∧ List.take (Int.toNat (↑z : Int)) a = cutN (ownS a)) ∧ List.drop (Int.toNat ((↑z : Int) + (1 :
 Int))) a = cutD (ownS a)) ∧ true = slashB (ownS a)) False) False) False) (bsplit q10 (∃ (z' : Nat), (((z' ≤ List.length (ownS a) ∧ ∀ (i : Nat), i < z' → List.getD (ownS a) i (0 : UInt8) ≠ (47 : UInt8)) ∧ List.length (ownS a) - z' < List.length (ownS a) - z) ∧ a = a ∧ q5 ∧ IntKind.i64 = .i64 ∧ (↑z : Int) + (1 : Int) = (↑z' : Int)) ∧ True) False)) False) (4 = List.length [AV.v q7, AV.str a, AV.str q9, AV.v (Value.bool false)] ∧ ((q8 ∧ a = cutN (ownS a)) ∧ Array.toList (ByteArray.data (ByteArray.mk #[])) = cutD (ownS a)) ∧ false = slashB (ownS a)))) False) False) False) False := by
  dsimp only
  intro hb
  simp only [avM_refl, true_and, and_true, bsel_true, bsel_false, vc_own, bif_or, bif_and, vc_gdb, vc_db, vc_lt, vc_le, vc_ne, vc_eq, vc_tt, Int.toNat_natCast, Nat.zero_add, Nat.zero_le, Nat.sub_zero, int_i, Bool.or_true, cond_true, cond_false, okIn, okIn', deI, deI', deIo, deIo', ltB_nat]
  have em : (Nat.blt 0 a.length && ((a.getD 0 0).toNat : Int) == 45) = minB a := by
    rw [show (((a.getD 0 0).toNat : Int) == 45) = (a.getD 0 0 == 45) from byte_eq (a.getD 0 0) 45 (by decide)]
    unfold minB
    match a with
    | [] => rfl
    | c :: r => simp
  have e47 : ∀ (t : Str) (z : Nat), (((t.getD z 0).toNat : Int) = 47) ↔ t.getD z 0 = 47 := fun t z => by
    have := byte_eq (t.getD z 0) 47 (by decide)
    rw [Bool.eq_iff_iff, beq_iff_eq, beq_iff_eq] at this
    exact this
  have et : ∀ z : Nat, ((z : Int) + 1).toNat = z + 1 := fun z => by omega
  rw [em]
  simp only [e47, et, ne_eq]
  have hol := ownS_len a
  have key : ∀ t : Str, t = ownS a → ((∃ z : Nat, (z ≤ (ownS a).length ∧ ∀ i : Nat, i < z → (ownS a).getD i 0 ≠ 47) ∧ (0 : Int) = z) ∧
      ∀ z : Nat, (z ≤ (ownS a).length ∧ ∀ i : Nat, i < z → (ownS a).getD i 0 ≠ 47) →
        ((z : Int) < (t.length : Int) → (0 ≤ (z : Int) ∧ (z : Int) < (t.length : Int)) ∧
          (t.getD z 0 = 47 → (0 ≤ (z : Int) ∧ (z : Int) ≤ (t.length : Int)) ∧ inK .i64 ((z : Int) + 1) ∧ (0 ≤ (z : Int) + 1 ∧ (z : Int) + 1 ≤ (t.length : Int)) ∧
            4 = [AV.v (Value.bool (minB a)), AV.str (t.take z), AV.str (t.drop (z + 1)), AV.v (Value.bool true)].length ∧
              ((True ∧ t.take z = cutN (ownS a)) ∧ t.drop (z + 1) = cutD (ownS a)) ∧ true = slashB (ownS a)) ∧
          (t.getD z 0 ≠ 47 → inK .i64 ((z : Int) + 1) ∧ ∃ z' : Nat, ((z' ≤ (ownS a).length ∧ ∀ i : Nat, i < z' → (ownS a).getD i 0 ≠ 47) ∧ (ownS a).length - z' < (ownS a).length - z) ∧ (z : Int) + 1 = z')) ∧
        ((t.length : Int) ≤ (z : Int) → 4 = [AV.v (Value.bool (minB a)), AV.str t, AV.str [], AV.v (Value.bool false)].length ∧ ((True ∧ t = cutN (ownS a)) ∧ [] = cutD (ownS a)) ∧ false = slashB (ownS a))) := by
    intro t ht
    rw [← ht] at hol ⊢
    refine ⟨⟨0, ⟨Nat.zero_le _, fun i hi => absurd hi (Nat.not_lt_zero _)⟩, rfl⟩, fun z ⟨z1, z2⟩ => ⟨fun hz => ⟨⟨by omega, hz⟩, fun h => ?_, fun h => ⟨⟨by omega, by omega⟩, z + 1, ⟨⟨by omega, fun i hi => ?_⟩, by omega⟩, by omega⟩⟩, fun hz => ?_⟩⟩
    · obtain ⟨c1, c2, c3⟩ := cut_at (s := t) (z := z) (by omega) z2 h
      exact ⟨⟨by omega, by omega⟩, ⟨by omega, by omega⟩, ⟨by omega, by omega⟩, rfl, ⟨⟨trivial, c1.symm⟩, c2.symm⟩, c3.symm⟩
    · by_cases e : i = z
      · rw [e]; exact h
      · exact z2 i (by omega)
    · obtain ⟨c1, c2, c3⟩ := cut_no (s := t) fun i hi => z2 i (by omega)
      exact ⟨rfl, ⟨⟨trivial, c2.symm⟩, c3.symm⟩, c1.symm⟩
  refine ⟨fun h => ⟨Int.le_refl _, by have := (blt_iff _ _).1 h; omega⟩, bsplit_iff.2 ⟨fun c => ⟨⟨by omega, ?_⟩, key (a.drop 1) (by unfold ownS; rw [c]; rfl)⟩, fun c => key a (by unfold ownS; rw [c]; rfl)⟩⟩
  rcases own_cases a with ⟨_, h2⟩ | ⟨h1, _⟩
  · rw [h2]; simp only [List.length_cons]; omega
  · rw [c] at h1; cases h1
theorem r2split_C (a : List UInt8) (hl : a.length ≤ 4294967280) : PureCall Tryz.prog [] 45 [.str a] (.tup 4 (listFn [.b (minB a), .str (cutN (ownS a)), .str (cutD (ownS a)), .b (slashB (ownS a))])) :=
  pure_of_vc mixed tb0_sound (Eq.mp (by kernel_rfl) (r2split_vc a hl) : vcFn Tryz.prog T0 45 (r2split_an a) [.str a] (.tup 4 (listFn [.b (minB a), .str (cutN (ownS a)), .str (cutD (ownS a)), .b (slashB (ownS a))])))
theorem r2split_T : PureT Tryz.prog [] 45 r2split_t := by
  intro xs ps r h hp
  unfold r2split_t at h
  split at h
  · skip
    rename_i a
    cases h
    have q0 := hp _ List.mem_cons_self
    exact weaken (ys := [.str a]) ⟨avM_refl _, trivial⟩ (r2split_C a q0)
  · cases h
def r2small_an (s : Str) : Ann :=
  .two .auto (.two .auto (.two (.two .auto (.one (.loop Nat (fun σ z => [(0, σ.tm 0), (3, .i (decV (s.take z) : Int)), (4, .i z)]) (fun σ z => []) 0 (fun σ z => z ≤ s.length) (fun σ z => s.length - z) .auto))) .auto))
def r2small_t : List AV → Option (List Cond × AV)
  | [.str s] => some ([.p (digS s = true), .p (s.length ≤ 18)], .i (decV s : Int))
  | _ => none
theorem r2small_vc (s : List UInt8) (hd : digS s = true) (hl : s.length ≤ 18) :
 bndL [AV.str s] → (∃ (z : Nat), (z ≤ List.length s ∧ s = s ∧ (IntKind.i64 = .i64 ∧ (0 : Int) = (↑(decV (List.take z s)) : Int)) ∧ IntKind.i64 = .i64 ∧ (0 : Int) = (↑z : Int)) ∧ True) ∧ ∀ (z : Nat), let q1 := ((↑(UInt8.toNat (List.getD s (Int.toNat (↑z : Int)) (0 : UInt8))) : Int) - (48 : Int)); z ≤ List.length s → bsplit (ltB (↑z : Int) (↑(List.length s) : Int)) (bsplit (DB.db (inK .i64 ((10 : Int) * (↑(decV (List.take z s)) : Int)))) (bsplit (DB.db ((0 : Int) ≤ (↑z : Int) ∧ (↑z : Int) < (↑(List.length s) : Int))) (bsplit (DB.db (inK IntKind.u8 q1)) (bsplit (DB.db (inK .i64 q1)) (bsplit (DB.db
 (inK .i64 ((10 : Int) * (↑(decV (List.take z s)) : Int) + q1))) (bsplit (DB.db (inK .i64 ((↑z : Int) + (1 : Int)))) (∃ (z' : Nat), ((z' ≤ List.length s ∧ List.length s - z' < List.length s - z) ∧ s = s ∧ (IntKind.i64 = .i64 ∧ (10 : Int) * (↑(decV (List.take z s)) : Int) + q1 = (↑(decV (List.take z' s)) : Int)) ∧ IntKind.i64 = .i64 ∧ (↑z : Int) + (1 : Int) = (↑z' : Int)) ∧ True) False) False) False) False) False) False) (IntKind.i64 = .i64 ∧ (↑(decV (List.take z s)) : Int) = (↑(decV s) : Int)) := by
  dsimp only
  intro hb
  simp only [avM_refl, true_and, and_true, bsel_true, bsel_false, vc_own, bif_or, bif_and, vc_gdb, vc_db, vc_lt, vc_le, vc_ne, vc_eq, vc_tt, Int.toNat_natCast, Nat.zero_add, Nat.zero_le, Nat.sub_zero, int_i, Bool.or_true, cond_true, cond_false, okIn, okIn', deI, deI', deIo, deIo', ltB_nat]
  have hall := (digS_iff.1 hd).2.1
  refine ⟨⟨0, Nat.zero_le _, rfl, rfl⟩, fun z hz => ⟨fun hlt => ?_, fun hge => ?_⟩⟩
  · have hc := isDg_iff.1 (hall _ (getD_mem (s := s) (i := z) (by omega)))
    have hst : (decV (s.take (z + 1)) : Int) = 10 * (decV (s.take z) : Int) + (((s.getD z 0).toNat : Int) - 48) := by
      rw [take_snocS (by omega), decV_snoc]
      unfold dgV
      omega
    have b1 : decV (s.take (z + 1)) < 10 ^ 18 := by
      have h1 := decV_lt (l := s.take (z + 1)) (List.all_eq_true.2 fun c hc => hall c (List.mem_of_mem_take hc))
      exact Nat.lt_of_lt_of_le h1 (Nat.pow_le_pow_right (by omega) (by rw [List.length_take]; omega))
    exact ⟨⟨by omega, by omega⟩, ⟨by omega, hlt⟩, ⟨by omega, by omega⟩, ⟨by omega, by omega⟩, ⟨by omega, by omega⟩, ⟨by omega, by omega⟩, z + 1, ⟨by omega, by omega⟩, hst.symm, by omega⟩
  · rw [show z = s.length by omega, List.take_length]
theorem r2small_C (s : List UInt8) (hd : digS s = true) (hl : s.length ≤ 18) : PureCall Tryz.prog [] 48 [.str s] (.i (decV s : Int)) :=
  pure_of_vc mixed tb0_sound (Eq.mp (by kernel_rfl) (r2small_vc s hd hl) : vcFn Tryz.prog T0 48 (r2small_an s) [.str s] (.i (decV s : Int)))
theorem r2small_T : PureT Tryz.prog [] 48 r2small_t := by
  intro xs ps r h hp
  unfold r2small_t at h
  split at h
  · skip
    rename_i s
    cases h
    have q0 := hp _ List.mem_cons_self
    have q1 := hp _ (List.mem_cons_of_mem _ List.mem_cons_self)
    exact weaken (ys := [.str s]) ⟨avM_refl _, trivial⟩ (r2small_C s q0 q1)
  · cases h
structure GcP where
  x : Int
  y : Int
def r2gcd_an (x y : Int) : Ann :=
  .two .auto (.two (.one (.loop GcP (fun σ z => [(0, .i z.x), (1, .i z.y)]) (fun σ z => []) 0 (fun σ z => 0 ≤ z.x ∧ 0 ≤ z.y ∧ z.x ≤ 9223372036854775807 ∧ z.y ≤ 9223372036854775807 ∧ Nat.gcd z.x.toNat z.y.toNat = Nat.gcd x.toNat y.toNat) (fun σ z => z.y.toNat) .auto)) .auto)
def r2gcd_t : List AV → Option (List Cond × AV)
  | [.v (.int .i64 x), .v (.int .i64 y)] => some ([.p (0 ≤ x ∧ x ≤ 9223372036854775807), .p (0 ≤ y ∧ y ≤ 9223372036854775807)], .i (Nat.gcd x.toNat y.toNat : Int))
  | _ => none
theorem r2gcd_vc (x : Int) (y : Int) (h1 : 0 ≤ x ∧ x ≤ 9223372036854775807) (h2 : 0 ≤ y ∧ y ≤ 9223372036854775807) :
 bndL [AV.v (Value.int .i64 x), AV.v (Value.int .i64 y)] → (∃ (z : GcP), (((0 : Int) ≤ GcP.x z ∧ (0 : Int) ≤ GcP.y z ∧ GcP.x z ≤ (9223372036854775807 : Int) ∧ GcP.y z ≤ (9223372036854775807 : Int) ∧ Nat.gcd (Int.toNat (GcP.x z)) (Int.toNat (GcP.y z)) = Nat.gcd (Int.toNat x) (Int.toNat y)) ∧ (IntKind.i64 = .i64 ∧ x = GcP.x z) ∧ IntKind.i64 = .i64 ∧ y = GcP.y z) ∧ True) ∧ ∀ (z : GcP), (0 : Int) ≤ GcP.x z ∧ (0 : Int) ≤ GcP.y z ∧ GcP.x z ≤ (9223372036854775807 : Int) ∧ GcP.y z ≤ (9223372036854775807 : Int) ∧ Nat.gcd (Int.toNat (GcP.x z)) (Int.toNat (GcP.y z)) = Nat.gcd (Int.toNat x) (Int.toNat y) →
 bsplit (GcP.y z != (0 : Int)) (bsplit (DB.db (GcP.y z ≠ (0 : Int))) (∃ (z' : GcP), ((((0 : Int) ≤ GcP.x z' ∧ (0 : Int) ≤ GcP.y z' ∧ GcP.x z' ≤ (9223372036854775807 : Int) ∧ GcP.y z' ≤ (9223372036854775807 : Int) ∧ Nat.gcd (Int.toNat (GcP.x z')) (Int.toNat (GcP.y z')) = Nat.gcd (Int.toNat x) (Int.toNat y)) ∧ Int.toNat (GcP.y z') < Int.toNat (GcP.y z)) ∧ (IntKind.i64 = .i64 ∧ GcP.y z = GcP.x z') ∧ IntKind.i64 = .i64 ∧ Int.tmod (GcP.x z) (GcP.y z) = GcP.y z') ∧ True) False) (IntKind.i64 = .i64 ∧ GcP.x z = (↑(Nat.gcd (Int.toNat x) (Int.toNat y)) : Int)) := by
  intro hb
  simp only [avM_refl, true_and, and_true, bsel_true, bsel_false, vc_own, bif_or, bif_and, vc_gdb, vc_db, vc_lt, vc_le, vc_ne, vc_eq, vc_tt, Int.toNat_natCast, Nat.zero_add, Nat.zero_le, Nat.sub_zero, int_i, Bool.or_true, cond_true, cond_false, okIn, okIn', deI, deI', deIo, deIo']
  refine ⟨⟨⟨x, y⟩, ⟨h1.1, h2.1, h1.2, h2.2, rfl⟩, rfl, rfl⟩, fun z ⟨z1, z2, z3, z4, z5⟩ => ⟨fun hy => ?_, fun hy => ?_⟩⟩
  · generalize z.x = zx at *
    generalize z.y = zy at *
    obtain ⟨X, rfl⟩ : ∃ X : Nat, zx = X := ⟨zx.toNat, by omega⟩
    obtain ⟨Y, rfl⟩ : ∃ Y : Nat, zy = Y := ⟨zy.toNat, by omega⟩
    have tm : (X : Int).tmod (Y : Int) = ((X % Y : Nat) : Int) := by rw [Int.tmod_eq_emod_of_nonneg (by omega)]; omega
    have hm : X % Y < Y := Nat.mod_lt _ (by omega)
    refine ⟨hy, ⟨Y, ((X % Y : Nat) : Int)⟩, ⟨⟨by simp only; omega, by simp only; omega, by simp only; omega, by simp only; omega, ?_⟩, by simp only; omega⟩, rfl, tm⟩
    simp only [Int.toNat_natCast] at z5 ⊢
    rw [← gcd_step (by omega)]; exact z5
  · rw [hy] at z5
    simp only [Int.toNat_zero, Nat.gcd_zero_right] at z5
    omega
theorem r2gcd_C (x : Int) (y : Int) (h1 : 0 ≤ x ∧ x ≤ 9223372036854775807) (h2 : 0 ≤ y ∧ y ≤ 9223372036854775807) : PureCall Tryz.prog [] 47 [.i x, .i y] (.i (Nat.gcd x.toNat y.toNat : Int)) :=
  pure_of_vc mixed tb0_sound (Eq.mp (by kernel_rfl) (r2gcd_vc x y h1 h2) : vcFn Tryz.prog T0 47 (r2gcd_an x y) [.i x, .i y] (.i (Nat.gcd x.toNat y.toNat : Int)))
theorem r2gcd_T : PureT Tryz.prog [] 47 r2gcd_t := by
  intro xs ps r h hp
  unfold r2gcd_t at h
  split at h
  · skip
    rename_i x y
    cases h
    have q0 := hp _ List.mem_cons_self
    have q1 := hp _ (List.mem_cons_of_mem _ List.mem_cons_self)
    exact weaken (ys := [.i x, .i y]) ⟨avM_refl _, avM_refl _, trivial⟩ (r2gcd_C x y q0 q1)
  · cases h
end Go.Te

set_option linter.unusedSimpArgs false
set_option linter.unusedVariables false
namespace Go.Te
open Go Go.Sx Go.Proofs Go.Ar Go.Lib
set_option maxRecDepth 100000
set_option maxHeartbeats 4000000
theorem bsp_t {c : Bool} {A B : Prop} (h : c = true) (ha : A) : bsplit c A B := by rw [h, vc_tt]; exact ha
noncomputable def T2a (G : List (Nat × Obj)) : Tb := (((((tb0 G).plus 45 r2split_t).plus 46 r2digits_t).plus 48 r2small_t).plus 47 r2gcd_t).plus 49 r1gcd_t
theorem T2a_sound {G : List (Nat × Obj)} (hG : TabIn G) : TbSound Tryz.prog (T2a G) :=
  TbSound.plus (TbSound.plus (TbSound.plus (TbSound.plus (TbSound.plus tb0_sound (PureT.mono r2split_T)) (PureT.mono r2digits_T)) (PureT.mono r2small_T)) (PureT.mono r2gcd_T)) (r1gcd_T hG)
def r2check_t : List AV → Option (List Cond × AV)
  | [.str a] => some ([.p (a.length ≤ 100000000)], .i (ratE a))
  | _ => none
theorem r2check_vc (G : List (Nat × Obj)) (a : List UInt8) (hl : a.length ≤ 100000000) :
 let q1 := (!bsel false !digS (cutN (ownS a)) || bsel false !digS (cutN (ownS a))); let q3 := (bsel false !digS (cutN (ownS a)) && bsel true (slashB (ownS a))); let q2 := (!q3 || bsel false !digS (cutN (ownS a)) && bsel true (slashB (ownS a))); let q5 := (ByteArray.data (ByteArray.mk #[(48 : UInt8)])); let q4 := (bif !digS (cutD (ownS a)) then true else cutD (ownS a) == Array.toList q5); let q8 := (ByteArray.data (ByteArray.mk #[(49 : UInt8)])); let q7 := (bif !digS (cutN (ownS a)) then true else bif slashB (ownS a) then bif bif !digS (cutD (ownS a)) then true else cutD (ownS a) == Array.toList
 q5 then true else cutD (ownS a) == Array.toList q8 else false); let q6 := (!bsel false q7 || bsel false q7); let q9 := (IntKind.i64 = .i64 ∧ (11 : Int) = ratE a); let q11 := (ltB (300 : Int) (↑(List.length (cutN (ownS a))) : Int)); let q10 := (!bsel false q11 || bsel false q11); let q12 := (IntKind.i64 = .i64 ∧ (0 : Int) = ratE a); let q14 := (leB (↑(List.length (cutN (ownS a))) : Int) (9 : Int)); let q13 := (!bsel true q14 || bsel true q14); bndL [AV.str a] → List.length a ≤ 4294967280 ∧ List.length (cutN (ownS a)) ≤ 4294967280 ∧ bsplit q1 (bsplit q2 ((q3 = true → List.length (cutD (ownS a)) ≤
 4294967280) ∧ bsplit q2 (bsplit q2 (bsplit (!(bsel false !digS (cutN (ownS a)) && bsel true (slashB (ownS a)) && bsel false !digS (cutD (ownS a))) || bsel false !digS (cutN (ownS a)) && bsel true (slashB (ownS a)) && bsel false !digS (cutD (ownS a))) (bsplit q2 (bsplit (!q3 || (!!!digS (cutD (ownS a)) || bsel false !digS (cutN (ownS a)) && bsel true (slashB (ownS a)) && bsel false !digS (cutD (ownS a)))) (bsplit q2 (bsplit (!(bsel false !digS (cutN (ownS a)) && bsel true (slashB (ownS a)) && bsel false q4) || bsel false !digS (cutN (ownS a)) && bsel true (slashB (ownS a)) && bsel false q4)
 (bsplit q2 (bsplit (!q3 || ((!!bif !digS (cutD (ownS a)) then true else cutD (ownS a) == Array.toList q5) || bsel false !digS (cutN (ownS a)) && bsel true (slashB (ownS a)) && bsel false q4)) (bsplit q1 (bsplit (!bsel false !digS (cutN (ownS a)) || (!slashB (ownS a) || bsel false !digS (cutN (ownS a)) && bsel true (slashB (ownS a)))) (bsplit (!!!digS (cutN (ownS a)) || bsel false !digS (cutN (ownS a))) (bsplit q6 (bsplit (!(bsel false q7 && bsel true (minB a)) || bsel false q7 && bsel true (minB a)) (bsplit q6 (bsplit (!bsel false q7 || (!minB a || bsel false q7 && bsel true (minB a))) (bsplit
 ((!!bif !digS (cutN (ownS a)) then true else bif slashB (ownS a) then bif bif !digS (cutD (ownS a)) then true else cutD (ownS a) == Array.toList q5 then true else cutD (ownS a) == Array.toList q8 else false) || bsel false q7) (bsplit (bif bif !digS (cutN (ownS a)) then true else bif slashB (ownS a) then bif bif !digS (cutD (ownS a)) then true else cutD (ownS a) == Array.toList q5 then true else cutD (ownS a) == Array.toList q8 else false then true else bif minB a then cutN (ownS a) == Array.toList q5 else false) q9 (bsplit q10 (bsplit q10 (bsplit (!!ltB (300 : Int) (↑(List.length (cutN (ownS
 a))) : Int) || bsel false q11) (bsplit (bif ltB (300 : Int) (↑(List.length (cutN (ownS a))) : Int) then true else ltB (300 : Int) (↑(List.length (cutD (ownS a))) : Int)) (IntKind.i64 = .i64 ∧ (4 : Int) = ratE a) (bsplit (!slashB (ownS a)) q12 (bsplit q13 (bsplit q13 (bsplit (!leB (↑(List.length (cutN (ownS a))) : Int) (9 : Int) || bsel true q14) (bsplit (bif leB (↑(List.length (cutN (ownS a))) : Int) (9 : Int) then leB (↑(List.length (cutD (ownS a))) : Int) (9 : Int) else false) (digS (cutN (ownS a)) = true ∧ List.length (cutN (ownS a)) ≤ 18 ∧ digS (cutD (ownS a)) = true ∧ List.length (cutD
 (ownS a)) ≤ 18 ∧ ((0 : Int) ≤ (↑(decV (cutN (ownS a))) : Int) ∧ (↑(decV (cutN (ownS a))) : Int) ≤ (9223372036854775807 : Int)) ∧ ((0 : Int) ≤ (↑(decV (cutD (ownS a))) : Int) ∧ (↑(decV (cutD (ownS a))) : Int) ≤ (9223372036854775807 : Int)) ∧ bsplit ((↑(Nat.gcd (Int.toNat (↑(decV (cutN (ownS a))) : Int)) (Int.toNat (↑(decV (cutD (ownS a))) : Int))) : Int) != (1 : Int)) q9 q12) (List.length (cutN (ownS a)) ≤ 100000000 ∧ List.length (cutD (ownS a)) ≤ 100000000 ∧ bsplit (!(bif bothE (cutN (ownS a)) (cutD (ownS a)) != (0 : Int) then [] else itoa (↑(gcdN (cutN (ownS a)) (cutD (ownS a))) : Int)) ==
 Array.toList q8) q9 q12)) False) False) False))) False) False) False)) False) False) False) False) False) False) False) False) False) False) False) False) False) False) False) False) False) False) False := by
  dsimp only
  intro hb
  simp only [avM_refl, true_and, and_true, bsel_true, bsel_false, vc_own, bif_or, bif_and, vc_gdb, vc_db, vc_lt, vc_le, vc_ne, vc_eq, vc_tt, Int.toNat_natCast, Nat.zero_add, Nat.zero_le, Nat.sub_zero, int_i, Bool.or_true, cond_true, cond_false, okIn, okIn', deI, deI', deIo, deIo', ltB_nat]
  have lo := ownS_len a
  have ln := cutN_len (ownS a)
  have ld := cutD_len (ownS a)
  have hF : formO a = (digS (cutN (ownS a)) && !(minB a && cutN (ownS a) == [48]) && (!slashB (ownS a) || digS (cutD (ownS a)) && !(cutD (ownS a) == [48]) && !(cutD (ownS a) == [49]))) := rfl
  have eB := @ratE_bad a
  have eL := @ratE_long a
  have eG := @ratE_gcd a
  have eI := @ratE_int a
  generalize hn : cutN (ownS a) = n at *
  generalize hd : cutD (ownS a) = d at *
  generalize slashB (ownS a) = sl at *
  generalize minB a = m at *
  refine ⟨by omega, by omega, fun _ => by omega, ?_⟩
  refine bsp_t (by cases digS n <;> cases sl <;> cases digS d <;> rfl) ?_
  refine bsp_t (by cases digS n <;> cases sl <;> cases digS d <;> cases d == [48] <;> rfl) ?_
  refine bsp_t (by cases digS n <;> cases sl <;> rfl) ?_
  refine bsp_t (by cases digS n <;> cases sl <;> cases digS d <;> cases d == [48] <;> cases d == [49] <;> cases m <;> rfl) ?_
  refine bsplit_iff.2 ⟨fun c => (eB ?_).symm, fun c => ?_⟩
  · rw [hF]
    revert c
    cases digS n <;> cases sl <;> cases digS d <;> cases d == [48] <;> cases d == [49] <;> cases m <;> cases n == [48] <;> decide
  have hT : formO a = true := by
    rw [hF]
    revert c
    cases digS n <;> cases sl <;> cases digS d <;> cases d == [48] <;> cases d == [49] <;> cases m <;> cases n == [48] <;> decide
  refine bsplit_iff.2 ⟨fun c2 => (eL hT ?_).symm, fun c2 => ?_⟩
  · rw [Bool.or_eq_true, ltB_iff, ltB_iff] at c2; omega
  have h3 : n.length ≤ 300 ∧ d.length ≤ 300 := by
    rw [Bool.or_eq_false_iff, Bool.eq_false_iff, Bool.eq_false_iff, Ne, Ne, ltB_iff, ltB_iff] at c2; omega
  refine bsplit_iff.2 ⟨fun c3 => (eI hT h3.1 (by simpa using c3)).symm, fun c3 => ?_⟩
  have hs : sl = true := by simpa using c3
  have e2 := eG hT h3 hs
  have hdn : digS n = true := by
    rw [hT] at hF
    revert hF
    cases digS n <;> simp
  have hdd : digS d = true := by
    rw [hT, hs] at hF
    revert hF
    cases digS d <;> simp
  refine bsplit_iff.2 ⟨fun c4 => ?_, fun c4 => ⟨by omega, by omega, ?_⟩⟩
  · rw [Bool.and_eq_true, leB_iff, leB_iff] at c4
    have b1 := decV_bound hdn (k := 9) (by omega)
    have b2 := decV_bound hdd (k := 9) (by omega)
    refine ⟨hdn, by omega, hdd, by omega, ⟨by omega, by omega⟩, ⟨by omega, by omega⟩, fun h => ?_, fun h => ?_⟩
    · rw [e2, show Nat.beq (Nat.gcd (decV n) (decV d)) 1 = false from Bool.eq_false_iff.2 fun e => h (by have := Nat.eq_of_beq_eq_true e; omega)]; rfl
    · rw [e2, show Nat.beq (Nat.gcd (decV n) (decV d)) 1 = true by rw [show Nat.gcd (decV n) (decV d) = 1 by omega]; rfl]; rfl
  · obtain ⟨i1, v1⟩ := intB_nat hdn
    obtain ⟨i2, v2⟩ := intB_nat hdd
    have hE : bothE n d = 0 := by
      have l1 := (lenD_le n).1
      have l2 := (lenD_le d).1
      have q1 : intE n = 0 := intE_zero.2 ⟨i1, by omega⟩
      have q2 : intE d = 0 := intE_zero.2 ⟨i2, by omega⟩
      unfold bothE
      rw [q1, q2]; rfl
    have hg : gcdN n d = Nat.gcd (decV n) (decV d) := by unfold gcdN; rw [v1, v2]; simp
    rw [hE, bne_self_eq_false, cond_false, hg, e2, Go.Ar.itoa_nat]
    have e1 : (decDigits (Nat.gcd (decV n) (decV d)) == [49]) = Nat.beq (Nat.gcd (decV n) (decV d)) 1 := by
      rw [Bool.eq_iff_iff, beq_iff_eq, Nat.beq_eq]
      constructor
      · intro h
        have := congrArg decV h
        rw [decV_decDigits] at this
        exact this
      · intro h
        rw [h, decDigits_small (by decide)]; rfl
    rw [e1]
    cases Nat.beq (Nat.gcd (decV n) (decV d)) 1
    · exact rfl
    · exact rfl
theorem r2check_C {G : List (Nat × Obj)} (hG : TabIn G) (a : List UInt8) (hl : a.length ≤ 100000000) : PureCall Tryz.prog G 12 [.str a] (.i (ratE a)) :=
  pure_of_vc mixed (T2a_sound hG) (Eq.mp (by kernel_rfl) (r2check_vc G a hl) : vcFn Tryz.prog ((T2a G)) 12 .auto [.str a] (.i (ratE a)))
theorem r2check_T {G : List (Nat × Obj)} (hG : TabIn G) : PureT Tryz.prog G 12 r2check_t := by
  intro xs ps r h hp
  unfold r2check_t at h
  split at h
  · skip
    rename_i a
    cases h
    have q0 := hp _ List.mem_cons_self
    exact weaken (ys := [.str a]) ⟨avM_refl _, trivial⟩ (r2check_C hG a q0)
  · cases h
end Go.Te

set_option linter.unusedSimpArgs false
set_option linter.unusedVariables false
namespace Go.Te
open Go Go.Sx Go.Proofs Go.Ar Go.RowKit
set_option maxRecDepth 100000
section
variable {H : Type} {enc : TypeId × Value → H} {W : World} {spare : Nat → Bool} {held : Bool}
theorem cells_at {base n : Nat} {A : Addr} {cs : List Value} (h : W.cells? base A n = some cs) : cs.length = n ∧ ∀ i, i < n → W.cell? (A.add i) = some (cs.getD i undef) := by
  unfold World.cells? at h
  split at h
  · refine ⟨by simpa using Lib.mapM_length h, fun i hi => ?_⟩
    obtain ⟨b, hb, hf⟩ := Lib.mapM_at h i i (by simp [hi])
    rw [hf, List.getD_eq_getElem?_getD, hb, Option.getD_some]
  · cases h
theorem cell_lt {A : Addr} {v : Value} (h : W.cell? A = some v) : A.block < W.heap.size := by
  rcases Nat.lt_or_ge A.block W.heap.size with h' | h'
  · exact h'
  · simp [World.cell?, Array.getElem?_eq_none h'] at h
theorem cellsInt : Tryz.prog.cellsOf 3 = 1 := by kernel_rfl
abbrev Old (W : World) : Nat → Prop := fun b => b < W.heap.size
def Tells {α : Type} [Enc α] (W : World) (a : α) (cs : List Value) : Prop :=
  ∀ j, j < Enc.n α → Rel W (Old W) rho0 (Enc.enc a j) (cs.getD j undef) ∧ (cs.getD j undef).oneCell' = true
theorem read_int {n : Nat} {cs : List Value} {x : DataW H × List MemPlace} (h : DataW.trod enc Tryz.prog W 0 spare held n 3 cs = some x) : ∃ m, cs = [.int .i64 m] ∧ inK .i64 m := by
  obtain ⟨m, h1, _, h3⟩ := DataW.trod_int Tryz.underlying3 h
  refine ⟨m, h1, ?_⟩
  simp only [Lit.wf, Bool.and_eq_true, decide_eq_true_eq] at h3
  exact h3
theorem read_slice {α : Type} [Enc α] {t e : TypeId} (hu : Tryz.prog.underlying t = some (.slice e)) (hn : Tryz.prog.cellsOf e = Enc.n α) {Good : α → Prop} (hd : Good Enc.dflt)
    (hel : ∀ {n : Nat} {cs : List Value} {x : DataW H × List MemPlace}, DataW.trod enc Tryz.prog W 0 spare held n e cs = some x → ∃ a : α, Tells W a cs ∧ Good a)
    {n : Nat} {cs : List Value} {x : DataW H × List MemPlace} (h : DataW.trod enc Tryz.prog W 0 spare held n t cs = some x) :
    ∃ (v : Value) (l : List α), cs = [v] ∧ v.oneCell' = true ∧ Rel W (Old W) rho0 (slE l) v ∧ ∀ j, Good (l.getD j Enc.dflt) := by
  rcases DataW.trod_slice hu h with ⟨h1, _⟩ | ⟨a, len, cap, elems, rest, m, _, h1, _, _, h2, h3, h4, h5, _, _⟩
  · exact ⟨_, [], h1, rfl, .xl none 0 (fun _ _ => undef) (Nat.le_refl _) (Nat.zero_le _) (fun _ => rfl) (fun i j hi => absurd hi (Nat.not_lt_zero _)) (fun i j hi => absurd hi (Nat.not_lt_zero _)), fun j => by simpa using hd⟩
  · rw [hn] at h5
    have key : ∀ i, ∃ u : α, (i < len → ∀ j, j < Enc.n α → ∃ c, W.cell? (a.add (i * Enc.n α + j)) = some c ∧ Rel W (Old W) rho0 (Enc.enc u j) c ∧ c.oneCell' = true) ∧ Good u := fun i => by
      by_cases hi : i < len
      · have := h5 i hi
        rw [List.getElem?_eq_getElem (by omega)] at this
        obtain ⟨cs', hc, hd'⟩ := Option.bind_eq_some_iff.1 this
        obtain ⟨u, h6, h7⟩ := hel hd'
        refine ⟨u, fun _ j hj => ⟨cs'.getD j undef, ?_, h6 j hj⟩, h7⟩
        have := (cells_at hc).2 j hj
        rw [add_of_add] at this
        exact this
      · exact ⟨Enc.dflt, fun h => absurd h hi, hd⟩
    obtain ⟨f, hf⟩ : ∃ f : Nat → α, ∀ i, (i < len → ∀ j, j < Enc.n α → ∃ c, W.cell? (a.add (i * Enc.n α + j)) = some c ∧ Rel W (Old W) rho0 (Enc.enc (f i) j) c ∧ c.oneCell' = true) ∧ Good (f i) :=
      ⟨fun i => Classical.choose (key i), fun i => Classical.choose_spec (key i)⟩
    have hg : ∀ i, i < len → (listOf len f).getD i Enc.dflt = f i := fun i hi => by simp [listOf, List.getD_eq_getElem?_getD, hi]
    have hlen : (listOf len f).length = len := by simp [listOf]
    refine ⟨_, listOf len f, h1, rfl, ?_, fun i => ?_⟩
    · unfold slE
      rw [hlen]
      refine .xl (some a) cap (fun i j => (W.cell? (a.add (i * Enc.n α + j))).getD undef) h2 h3 (fun e => by cases e) (fun i j hi hj => ?_) (fun i j hi hj => ?_)
      · obtain ⟨c, hc, _, ho⟩ := (hf i).1 hi j hj
        refine ⟨a, rfl, ?_, ?_, ?_⟩
        · have := cell_lt hc
          rw [block_of_add] at this
          exact this
        · show W.cell? (a.add (i * Enc.n α + j)) = some _
          rw [hc]; rfl
        · rw [hc]; exact ho
      · obtain ⟨c, hc, hr, _⟩ := (hf i).1 hi j hj
        rw [hg i hi, hc]
        exact hr
    · by_cases hi : i < len
      · rw [hg i hi]; exact (hf i).2
      · rw [List.getD_eq_getElem?_getD, List.getElem?_eq_none (by omega)]
        exact hd
theorem read_intE {n : Nat} {cs : List Value} {x : DataW H × List MemPlace} (h : DataW.trod enc Tryz.prog W 0 spare held n 3 cs = some x) : ∃ m : Int, Tells W m cs ∧ inK .i64 m := by
  obtain ⟨m, rfl, h2⟩ := read_int h
  exact ⟨m, fun j hj => by obtain rfl : j = 0 := Nat.lt_one_iff.1 hj; exact ⟨.v _, rfl⟩, h2⟩
theorem read_ints {n : Nat} {cs : List Value} {x : DataW H × List MemPlace} (h : DataW.trod enc Tryz.prog W 0 spare held n 57 cs = some x) :
    ∃ (v : Value) (l : List Int), cs = [v] ∧ v.oneCell' = true ∧ Rel W (Old W) rho0 (slE l) v ∧ ∀ j, inK .i64 (l.getD j Enc.dflt) :=
  read_slice (α := Int) Tryz.underlying57 cellsInt (by simp [inK, Enc.dflt]) read_intE h
theorem cellsrow : Tryz.prog.cellsOf 38 = 5 := by kernel_rfl
theorem read_row {n : Nat} {cs : List Value} {x : DataW H × List MemPlace} (h : DataW.trod enc Tryz.prog W 0 spare held n 38 cs = some x) : ∃ g : Row, Tells W g cs ∧ True := by
  obtain ⟨xs, m, _, _, hl, hx, hf⟩ := DataW.trod_struct Tryz.underlying38 h
  rw [cellsrow] at hl
  match cs, hl with
  | [c0, c1, c2, c3, c4], _ =>
  have hx3 : xs.length = 5 := hx
  have g0 : DataW.trod enc Tryz.prog W 0 spare held m 3 (([c0, c1, c2, c3, c4].drop 0).take (Tryz.prog.cellsOf 3)) = xs[0]? := hf 0 _ rfl
  have g1 : DataW.trod enc Tryz.prog W 0 spare held m 3 (([c0, c1, c2, c3, c4].drop 1).take (Tryz.prog.cellsOf 3)) = xs[1]? := hf 1 _ rfl
  have g2 : DataW.trod enc Tryz.prog W 0 spare held m 3 (([c0, c1, c2, c3, c4].drop 2).take (Tryz.prog.cellsOf 3)) = xs[2]? := hf 2 _ rfl
  have g3 : DataW.trod enc Tryz.prog W 0 spare held m 3 (([c0, c1, c2, c3, c4].drop 3).take (Tryz.prog.cellsOf 3)) = xs[3]? := hf 3 _ rfl
  have g4 : DataW.trod enc Tryz.prog W 0 spare held m 3 (([c0, c1, c2, c3, c4].drop 4).take (Tryz.prog.cellsOf 3)) = xs[4]? := hf 4 _ rfl
  rw [cellsInt] at g0 g1 g2 g3 g4
  rw [List.getElem?_eq_getElem (by omega)] at g0 g1 g2 g3 g4
  obtain ⟨z0, e0, _⟩ := read_int g0
  obtain ⟨z1, e1, _⟩ := read_int g1
  obtain ⟨z2, e2, _⟩ := read_int g2
  obtain ⟨z3, e3, _⟩ := read_int g3
  obtain ⟨z4, e4, _⟩ := read_int g4
  simp only [List.drop_zero, List.drop_succ_cons, List.take_succ_cons, List.take_zero, List.cons.injEq, and_true] at e0 e1 e2 e3 e4
  subst e0 e1 e2 e3 e4
  refine ⟨⟨z0, z1, z2, z3, z4⟩, fun j hj => ?_, trivial⟩
  match j, hj with
  | 0, _ => exact ⟨.v _, rfl⟩
  | 1, _ => exact ⟨.v _, rfl⟩
  | 2, _ => exact ⟨.v _, rfl⟩
  | 3, _ => exact ⟨.v _, rfl⟩
  | 4, _ => exact ⟨.v _, rfl⟩
theorem read_top {α : Type} [Enc α] {t e : TypeId} (hu : Tryz.prog.underlying t = some (.slice e)) (hn : Tryz.prog.cellsOf e = Enc.n α) {Good : α → Prop} (hd : Good Enc.dflt)
    (hel : ∀ {n : Nat} {cs : List Value} {x : DataW H × List MemPlace}, DataW.trod enc Tryz.prog W 0 spare held n e cs = some x → ∃ a : α, Tells W a cs ∧ Good a)
    {o : Option Addr} {n c : Nat} {d : DataW H} {ps : List MemPlace} (h : DataW.Trod enc Tryz.prog W 0 spare held t (.slice o n c) d ps) :
    ∃ l : List α, Rel W (Old W) rho0 (slE l) (.slice o n c) ∧ ∀ j, Good (l.getD j Enc.dflt) := by
  obtain ⟨m, h⟩ := h
  have hcs : (Value.slice o n c).cells.toList = [.slice o n c] := rfl
  rw [hcs] at h
  obtain ⟨v, l, e1, _, e3, e4⟩ := read_slice hu hn hd hel h
  obtain rfl : Value.slice o n c = v := by simpa using e1
  exact ⟨l, e3, e4⟩
theorem read_k {v : Value} {d : DataW H} {ps : List MemPlace} (h : DataW.Trod enc Tryz.prog W 0 spare held 3 v d ps) (ha : ∀ cs, v ≠ .agg cs) : ∃ k, v = .int .i64 k := by
  obtain ⟨m, h⟩ := h
  have hcs : v.cells.toList = [v] := by
    cases v <;> first | rfl | exact absurd rfl (ha _)
  rw [hcs] at h
  obtain ⟨k, e, _⟩ := read_int h
  exact ⟨k, by simpa using e⟩
end
end Go.Te

set_option linter.unusedSimpArgs false
set_option linter.unusedVariables false
namespace Go.Te
open Go Go.Sx Go.Proofs Go.Ar Go.RowKit
set_option maxRecDepth 100000
structure Qu where
  l : List Row
  w : Int
  d : Int
  s : Int
  q : Int
  sp : Str
instance : Enc Qu := ⟨6, ⟨[], 0, 0, 0, 0, []⟩, fun c => listFn [slE c.l, .i c.w, .i c.d, .i c.s, .i c.q, .str c.sp], fun cs => ⟨slD (cs 0), AV.int (cs 1), AV.int (cs 2), AV.int (cs 3), AV.int (cs 4), AV.bytes (cs 5)⟩,
  fun cs => slOk Row (cs 0) && isI64 (cs 1) && isI64 (cs 2) && isI64 (cs 3) && isI64 (cs 4) && isStr (cs 5), fun cs h j hj => by
  simp only [Bool.and_eq_true] at h
  match j, hj with
  | 0, _ => exact slE_sound h.1.1.1.1.1
  | 1, _ => exact avM_of_eq (isI64_eq h.1.1.1.1.2)
  | 2, _ => exact avM_of_eq (isI64_eq h.1.1.1.2)
  | 3, _ => exact avM_of_eq (isI64_eq h.1.1.2)
  | 4, _ => exact avM_of_eq (isI64_eq h.1.2)
  | 5, _ => exact avM_of_eq (isStr_eq h.2)⟩
instance : LawEnc Qu := ⟨fun c => by cases c; simp [Enc.enc, Enc.dec, listFn, slD_slE, AV.int, AV.bytes], fun c => by cases c; simp [Enc.enc, Enc.ok, listFn, slOk_slE, isI64, isStr]⟩
section
variable {H : Type} {enc : TypeId × Value → H} {W : World} {spare : Nat → Bool} {held : Bool}
theorem rel_string (s : ByteArray) {S : Nat → Prop} {ρ : Nat → Sx.Own} : Rel W S ρ (.str s.data.toList) (.string s) := by
  have h : Rel W S ρ (.str s.data.toList) (.string ⟨s.data.toList.toArray⟩) := .str _
  simpa using h
theorem cellsqu : Tryz.prog.cellsOf 25 = 6 := by kernel_rfl
theorem cellsStr : Tryz.prog.cellsOf 23 = 1 := by kernel_rfl
theorem cellsRows : Tryz.prog.cellsOf 22 = 1 := by kernel_rfl
theorem read_rows {n : Nat} {cs : List Value} {x : DataW H × List MemPlace} (h : DataW.trod enc Tryz.prog W 0 spare held n 22 cs = some x) :
    ∃ (v : Value) (l : List Row), cs = [v] ∧ v.oneCell' = true ∧ Rel W (Old W) rho0 (slE l) v ∧ ∀ j : Nat, True :=
  read_slice (α := Row) (Good := fun _ => True) Tryz.underlying22 cellsrow trivial read_row h
theorem read_qu {n : Nat} {cs : List Value} {x : DataW H × List MemPlace} (h : DataW.trod enc Tryz.prog W 0 spare held n 25 cs = some x) : ∃ g : Qu, Tells W g cs ∧ True := by
  obtain ⟨xs, m, _, _, hl, hx, hf⟩ := DataW.trod_struct Tryz.underlying25 h
  rw [cellsqu] at hl
  match cs, hl with
  | [c0, c1, c2, c3, c4, c5], _ =>
  have hx3 : xs.length = 6 := hx
  have g0 : DataW.trod enc Tryz.prog W 0 spare held m 22 (([c0, c1, c2, c3, c4, c5].drop 0).take (Tryz.prog.cellsOf 22)) = xs[0]? := hf 0 _ rfl
  have g1 : DataW.trod enc Tryz.prog W 0 spare held m 3 (([c0, c1, c2, c3, c4, c5].drop 1).take (Tryz.prog.cellsOf 3)) = xs[1]? := hf 1 _ rfl
  have g2 : DataW.trod enc Tryz.prog W 0 spare held m 3 (([c0, c1, c2, c3, c4, c5].drop 2).take (Tryz.prog.cellsOf 3)) = xs[2]? := hf 2 _ rfl
  have g3 : DataW.trod enc Tryz.prog W 0 spare held m 3 (([c0, c1, c2, c3, c4, c5].drop 3).take (Tryz.prog.cellsOf 3)) = xs[3]? := hf 3 _ rfl
  have g4 : DataW.trod enc Tryz.prog W 0 spare held m 3 (([c0, c1, c2, c3, c4, c5].drop 4).take (Tryz.prog.cellsOf 3)) = xs[4]? := hf 4 _ rfl
  have g5 : DataW.trod enc Tryz.prog W 0 spare held m 23 (([c0, c1, c2, c3, c4, c5].drop 5).take (Tryz.prog.cellsOf 23)) = xs[5]? := hf 5 _ rfl
  rw [cellsInt] at g1 g2 g3 g4
  rw [cellsRows] at g0
  rw [cellsStr] at g5
  rw [List.getElem?_eq_getElem (by omega)] at g0 g1 g2 g3 g4 g5
  obtain ⟨v, l, e0, o, r, _⟩ := read_rows g0
  obtain ⟨z1, e1, _⟩ := read_int g1
  obtain ⟨z2, e2, _⟩ := read_int g2
  obtain ⟨z3, e3, _⟩ := read_int g3
  obtain ⟨z4, e4, _⟩ := read_int g4
  obtain ⟨s5, e5, _⟩ := DataW.trod_string Tryz.underlying23 g5
  simp only [List.drop_zero, List.drop_succ_cons, List.take_succ_cons, List.take_zero, List.cons.injEq, and_true] at e0 e1 e2 e3 e4 e5
  subst e0 e1 e2 e3 e4 e5
  refine ⟨⟨l, z1, z2, z3, z4, s5.data.toList⟩, fun j hj => ?_, trivial⟩
  match j, hj with
  | 0, _ => exact ⟨r, o⟩
  | 1, _ => exact ⟨.v _, rfl⟩
  | 2, _ => exact ⟨.v _, rfl⟩
  | 3, _ => exact ⟨.v _, rfl⟩
  | 4, _ => exact ⟨.v _, rfl⟩
  | 5, _ => exact ⟨rel_string s5, rfl⟩
theorem read_quV {cs : Array Value} {d : DataW H} {ps : List MemPlace} (h : DataW.Trod enc Tryz.prog W 0 spare held 25 (.agg cs) d ps) (hs : cs.size = 6) : ∃ b : Qu, Rel W (Old W) rho0 (agE b) (.agg cs) := by
  obtain ⟨m, h⟩ := h
  have hcs : (Value.agg cs).cells.toList = cs.toList := rfl
  rw [hcs] at h
  obtain ⟨b, hb, _⟩ := read_qu h
  refine ⟨b, .agg cs hs fun i hi => ?_⟩
  have e : cs.getD i undef = cs.toList.getD i undef := by
    rw [Array.getD_eq_getD_getElem?, List.getD_eq_getElem?_getD, Array.getElem?_toList]
  rw [e]
  exact (hb i hi).1
end
end Go.Te

set_option linter.unusedSimpArgs false
set_option linter.unusedVariables false
namespace Go.Te
open Go Go.Sx Go.Proofs Go.Ar Go.Lib
set_option maxRecDepth 100000
set_option maxHeartbeats 4000000
def rstart_t : List AV → Option (List Cond × AV)
  | [x_l, .v (.int .i64 w), .v (.int .i64 d), .v (.int .i64 s), .v (.int .i64 q)] => some ([.b (slOk Row x_l)], .i (askE (slD (α := Row) x_l) w d s q))
  | _ => none
theorem rstart_vc (l : List Row) (w : Int) (d : Int) (s : Int) (q : Int) :
 bndL [AV.xl false 5 (List.length l) fun i j => Enc.enc (List.getD l i Enc.dflt) j, AV.v (Value.int .i64 w), AV.v (Value.int .i64 d), AV.v (Value.int .i64 s), AV.v (Value.int .i64 q)] → bsplit (slOk Row (AV.xl false 5 (List.length l) fun i j => Enc.enc (List.getD l i Enc.dflt) j)) (bsplit (tabE (rowsOf (AV.xl false 5 (List.length l) fun i j => Enc.enc (List.getD l i Enc.dflt) j)) != (0 : Int)) (IntKind.i64 = .i64 ∧ (1 : Int) = askE l w d s q) (IntKind.i64 = .i64 ∧ (bif rangB w d s q then (0 : Int) else (2 : Int)) = askE l w d s q)) False := by
  intro hb
  have e2 : (Enc.dflt : Row) = r0 := rfl
  simp only [avM_refl, true_and, and_true, bsel_true, bsel_false, vc_own, bif_or, bif_and, vc_gdb, vc_db, vc_lt, vc_le, vc_ne, vc_eq, vc_tt, Int.toNat_natCast, Nat.zero_add, Nat.zero_le, Nat.sub_zero, int_i, Bool.or_true, cond_true, cond_false, agD_row, agOk_row, agD_row', agOk_row', okIn, okIn', deI, deI', okR, okR', deR, deR', deRo, deRo', e2]
  unfold askE
  refine ⟨fun h => by rw [bne_iff_ne.2 h]; rfl, fun h => ?_⟩
  rw [h]
  cases rangB w d s q <;> rfl
theorem rstart_C (l : List Row) (w : Int) (d : Int) (s : Int) (q : Int) : PureCall Tryz.prog [] 84 [slE l, .i w, .i d, .i s, .i q] (.i (askE l w d s q)) :=
  pure_of_vc mixed (TbSound.plus (TbSound.plus tb0_sound rcheck_T) rconds_T) (Eq.mp (by kernel_rfl) (rstart_vc l w d s q) : vcFn Tryz.prog (((T0.plus 20 rcheck_t).plus 62 rconds_t)) 84 .auto [slE l, .i w, .i d, .i s, .i q] (.i (askE l w d s q)))
theorem rstart_T : PureT Tryz.prog [] 84 rstart_t := by
  intro xs ps r h hp
  unfold rstart_t at h
  split at h
  · skip
    rename_i x_l w d s q
    cases h
    have q0 := hp _ List.mem_cons_self
    exact weaken (ys := [slE (slD (α := Row) x_l), .i w, .i d, .i s, .i q]) ⟨slE_sound q0, avM_refl _, avM_refl _, avM_refl _, avM_refl _, trivial⟩ (rstart_C (slD (α := Row) x_l) w d s q)
  · cases h
def rfind_t : List AV → Option (List Cond × AV)
  | [x_l, .v (.int .i64 w), .v (.int .i64 d), .v (.int .i64 s), .v (.int .i64 q)] => some ([.b (slOk Row x_l)], .tup 2 (listFn [.i (findV (slD (α := Row) x_l) w d s q), .i (findE (slD (α := Row) x_l) w d s q)]))
  | _ => none
theorem rfind_vc (l : List Row) (w : Int) (d : Int) (s : Int) (q : Int) :
 let q2 := (AV.xl false 5 (List.length l) fun i j => Enc.enc (List.getD l i Enc.dflt) j); let q1 := (slOk Row q2); let q3 := (slD q2); let q4 := (True ∧ IntKind.i64 = .i64 ∧ (0 : Int) = findV l w d s q); let q5 := (rowsOf q2); bndL [AV.xl false 5 (List.length l) fun i j => Enc.enc (List.getD l i Enc.dflt) j, AV.v (Value.int .i64 w), AV.v (Value.int .i64 d), AV.v (Value.int .i64 s), AV.v (Value.int .i64 q)] → bsplit q1 (bsplit (askE q3 w d s q != (0 : Int)) (2 = List.length [AV.v (Value.int .i64 (0 : Int)), AV.v (Value.int .i64 (askE q3 w d s q))] ∧ q4 ∧ IntKind.i64 = .i64 ∧ askE q3 w d s q =
 findE l w d s q) (bsplit q1 (bsplit (findR q5 w d s q == (0 : Int)) (2 = List.length [AV.v (Value.int .i64 (0 : Int)), AV.v (Value.int .i64 (25 : Int))] ∧ q4 ∧ IntKind.i64 = .i64 ∧ (25 : Int) = findE l w d s q) (2 = List.length [AV.v (Value.int .i64 (findR q5 w d s q)), AV.v (Value.int .i64 (0 : Int))] ∧ (True ∧ IntKind.i64 = .i64 ∧ findR q5 w d s q = findV l w d s q) ∧ IntKind.i64 = .i64 ∧ (0 : Int) = findE l w d s q)) False)) False := by
  dsimp only
  intro hb
  have e2 : (Enc.dflt : Row) = r0 := rfl
  simp only [avM_refl, true_and, and_true, bsel_true, bsel_false, vc_own, bif_or, bif_and, vc_gdb, vc_db, vc_lt, vc_le, vc_ne, vc_eq, vc_tt, Int.toNat_natCast, Nat.zero_add, Nat.zero_le, Nat.sub_zero, int_i, Bool.or_true, cond_true, cond_false, agD_row, agOk_row, agD_row', agOk_row', okIn, okIn', deI, deI', okR, okR', deR, deR', deRo, deRo', e2]
  refine ⟨fun h => ?_, fun h => ⟨fun h2 => ?_, fun h2 => ?_⟩⟩
  · have e : findE l w d s q = askE l w d s q := by unfold findE; rw [bne_iff_ne.2 h]; rfl
    exact ⟨rfl, by unfold findV; rw [e, beq_false_of_ne h]; rfl, e.symm⟩
  · have e : findE l w d s q = 25 := by unfold findE; rw [h, h2]; rfl
    exact ⟨rfl, by unfold findV; rw [e]; rfl, e.symm⟩
  · have e : findE l w d s q = 0 := by unfold findE; rw [h, beq_false_of_ne h2]; rfl
    exact ⟨rfl, by unfold findV; rw [e]; rfl, e.symm⟩
theorem rfind_C (l : List Row) (w : Int) (d : Int) (s : Int) (q : Int) : PureCall Tryz.prog [] 34 [slE l, .i w, .i d, .i s, .i q] (.tup 2 (listFn [.i (findV l w d s q), .i (findE l w d s q)])) :=
  pure_of_vc mixed (TbSound.plus (TbSound.plus tb0_sound rstart_T) rfnd_T) (Eq.mp (by kernel_rfl) (rfind_vc l w d s q) : vcFn Tryz.prog (((T0.plus 84 rstart_t).plus 80 rfnd_t)) 34 .auto [slE l, .i w, .i d, .i s, .i q] (.tup 2 (listFn [.i (findV l w d s q), .i (findE l w d s q)])))
theorem rfind_T : PureT Tryz.prog [] 34 rfind_t := by
  intro xs ps r h hp
  unfold rfind_t at h
  split at h
  · skip
    rename_i x_l w d s q
    cases h
    have q0 := hp _ List.mem_cons_self
    exact weaken (ys := [slE (slD (α := Row) x_l), .i w, .i d, .i s, .i q]) ⟨slE_sound q0, avM_refl _, avM_refl _, avM_refl _, avM_refl _, trivial⟩ (rfind_C (slD (α := Row) x_l) w d s q)
  · cases h
def quOf (x : AV) : Qu := agD x
def fineB (c : Qu) : Bool := leB c.l.length 12 && leB c.sp.length 40 && ratE c.sp == 0 && !(c.sp.getD 0 0 == 45) && (findE c.l c.w c.d c.s c.q == 0 || findE c.l c.w c.d c.s c.q == 25)
noncomputable def Tfi (G : List (Nat × Obj)) : Tb := ((tb0 G).plus 12 r2check_t).plus 34 rfind_t
theorem Tfi_sound {G : List (Nat × Obj)} (hG : TabIn G) : TbSound Tryz.prog (Tfi G) := TbSound.plus (TbSound.plus tb0_sound (r2check_T hG)) (PureT.mono rfind_T)
def fine_t : List AV → Option (List Cond × AV)
  | [x_c] => some ([.b (agOk Qu x_c)], .b (fineB (agD (α := Qu) x_c)))
  | _ => none
theorem fine_vc (G : List (Nat × Obj)) (c : Qu) :
 let q2 := (ltB (12 : Int) (↑(List.length (Qu.l c)) : Int)); let q1 := (!bsel false q2 || bsel false q2); let q4 := (bif ltB (12 : Int) (↑(List.length (Qu.l c)) : Int) then true else ltB (40 : Int) (↑(List.length (Qu.sp c)) : Int)); let q3 := (!bsel false q4 || bsel false q4); let q6 := (bif bif ltB (12 : Int) (↑(List.length (Qu.l c)) : Int) then true else ltB (40 : Int) (↑(List.length (Qu.sp c)) : Int) then true else ratE (Qu.sp c) != (0 : Int)); let q5 := (!bsel false q6 || bsel false q6); let q7 := (AV.xl false 5 (List.length (Qu.l c)) fun i j => Enc.enc (List.getD (Qu.l c) i Enc.dflt) j);
 let q9 := (slD q7); let q8 := (findE q9 (Qu.w c) (Qu.d c) (Qu.s c) (Qu.q c) == (0 : Int)); bndL [AV.agg 6 (Enc.enc c)] → bsplit q1 (bsplit q1 (bsplit q1 (bsplit (!!ltB (12 : Int) (↑(List.length (Qu.l c)) : Int) || bsel false q2) (bsplit q3 (bsplit q3 ((bsel false q4 = true → List.length (Qu.sp c) ≤ 100000000) ∧ bsplit q3 (bsplit ((!!bif ltB (12 : Int) (↑(List.length (Qu.l c)) : Int) then true else ltB (40 : Int) (↑(List.length (Qu.sp c)) : Int)) || bsel false q4) (bsplit q5 (bsplit q5 (bsplit (!bsel false q6 || DB.db ((0 : Int) ≤ (0 : Int) ∧ (0 : Int) < (↑(List.length (Qu.sp c)) : Int)))
 (bsplit q5 (bsplit ((!!bif bif ltB (12 : Int) (↑(List.length (Qu.l c)) : Int) then true else ltB (40 : Int) (↑(List.length (Qu.sp c)) : Int) then true else ratE (Qu.sp c) != (0 : Int)) || bsel false q6) (bsplit (bif bif bif ltB (12 : Int) (↑(List.length (Qu.l c)) : Int) then true else ltB (40 : Int) (↑(List.length (Qu.sp c)) : Int) then true else ratE (Qu.sp c) != (0 : Int) then true else (↑(UInt8.toNat (List.getD (Qu.sp c) 0 (0 : UInt8))) : Int) == (45 : Int)) (false = fineB c) (bsplit (slOk Row q7) (bsplit (!bsel false q8 || bsel false q8) (bsplit (!!findE q9 (Qu.w c) (Qu.d c) (Qu.s c) (Qu.q
 c) == (0 : Int) || bsel false q8) ((bif findE q9 (Qu.w c) (Qu.d c) (Qu.s c) (Qu.q c) == (0 : Int) then true else findE q9 (Qu.w c) (Qu.d c) (Qu.s c) (Qu.q c) == (25 : Int)) = fineB c) False) False) False)) False) False) False) False) False) False) False) False) False) False) False) False) False := by
  dsimp only
  intro hb
  have e2 : (Enc.dflt : Row) = r0 := rfl
  simp only [↓vc_db, ↓vc_gdb, row_one]
  simp only [avM_refl, true_and, and_true, bsel_true, bsel_false, vc_own, bif_or, bif_and, vc_gdb, vc_db, vc_lt, vc_le, vc_ne, vc_eq, vc_tt, Int.toNat_natCast, Nat.zero_add, Nat.zero_le, Nat.sub_zero, int_i, Bool.or_true, cond_true, cond_false, agD_row, agOk_row, agD_row', agOk_row', okIn, okIn', deI, deI', okR, okR', deR, deR', deRo, deRo', e2]
  have pos : ratE c.sp = 0 → 0 < c.sp.length := fun h => by
    obtain ⟨h1, _⟩ := ratE_zero.1 h
    match c.sp, h1 with
    | [], h1 => cases h1
    | x :: r, _ => simp
  rw [show (((c.sp.getD 0 0).toNat : Int) == 45) = (c.sp.getD 0 0 == 45) from byte_eq (c.sp.getD 0 0) 45 (by decide)]
  refine ⟨fun h => ?_, fun h => ⟨Int.le_refl _, ?_⟩, bsplit_iff.2 ⟨fun h => ?_, fun h => ?_⟩⟩
  · rw [Bool.not_eq_true', Bool.or_eq_false_iff, Bool.eq_false_iff, Bool.eq_false_iff, Ne, Ne, ltB_iff, ltB_iff] at h; omega
  · rw [Bool.not_eq_true', Bool.or_eq_false_iff, bne_eq_false_iff_eq] at h
    have := pos h.2
    omega
  · unfold fineB
    refine (Bool.eq_false_iff.2 fun e => ?_).symm
    simp only [Bool.and_eq_true, Bool.not_eq_true', beq_iff_eq, leB_iff] at e
    rw [e.1.2, e.1.1.2, show ltB 12 (c.l.length : Int) = false by rw [Bool.eq_false_iff, Ne, ltB_iff]; omega, show ltB 40 (c.sp.length : Int) = false by rw [Bool.eq_false_iff, Ne, ltB_iff]; omega] at h
    cases h
  · unfold fineB
    simp only [Bool.or_eq_false_iff, bne_eq_false_iff_eq] at h
    obtain ⟨⟨⟨h1, h2⟩, h3⟩, h4⟩ := h
    rw [Bool.eq_false_iff, Ne, ltB_iff] at h1 h2
    rw [h3, h4, (leB_iff _ _).2 (by omega), (leB_iff _ _).2 (by omega)]
    rfl
theorem fine_C {G : List (Nat × Obj)} (hG : TabIn G) (c : Qu) : PureCall Tryz.prog G 11 [agE c] (.b (fineB c)) :=
  pure_of_vc mixed (Tfi_sound hG) (Eq.mp (by kernel_rfl) (fine_vc G c) : vcFn Tryz.prog ((Tfi G)) 11 .auto [agE c] (.b (fineB c)))
theorem fine_T {G : List (Nat × Obj)} (hG : TabIn G) : PureT Tryz.prog G 11 fine_t := by
  intro xs ps r h hp
  unfold fine_t at h
  split at h
  · skip
    rename_i x_c
    cases h
    have q0 := hp _ List.mem_cons_self
    exact weaken (ys := [agE (agD (α := Qu) x_c)]) ⟨agE_sound q0, trivial⟩ (fine_C hG (agD (α := Qu) x_c))
  · cases h
theorem agD_qu (c : Qu) : agD (.agg 6 fun i => Enc.enc c i) = c := agD_agE c
theorem agOk_qu (c : Qu) : agOk Qu (.agg 6 fun i => Enc.enc c i) = true := agOk_agE c
theorem fine_find {c : Qu} (h : fineB c = true) : (findR c.l c.w c.d c.s c.q = 0 → findE c.l c.w c.d c.s c.q = 25 ∧ findV c.l c.w c.d c.s c.q = 0) ∧
    (findR c.l c.w c.d c.s c.q ≠ 0 → findE c.l c.w c.d c.s c.q = 0 ∧ findV c.l c.w c.d c.s c.q = findR c.l c.w c.d c.s c.q) := by
  unfold fineB at h
  rw [Bool.and_eq_true, Bool.or_eq_true, beq_iff_eq, beq_iff_eq] at h
  have hA : askE c.l c.w c.d c.s c.q = 0 := by
    have h2 := h.2
    unfold findE at h2
    unfold askE at h2 ⊢
    cases ht : tabE c.l != 0 with
    | true =>
      rw [ht] at h2
      simp at h2
    | false =>
      rw [ht] at h2
      cases hr : rangB c.w c.d c.s c.q with
      | true => rfl
      | false =>
        rw [hr] at h2
        simp at h2
  constructor
  · intro hz
    have e : findE c.l c.w c.d c.s c.q = 25 := by unfold findE; rw [hA, hz]; rfl
    exact ⟨e, by unfold findV; rw [e]; rfl⟩
  · intro hz
    have e : findE c.l c.w c.d c.s c.q = 0 := by unfold findE; rw [hA, beq_false_of_ne hz]; rfl
    exact ⟨e, by unfold findV; rw [e]; rfl⟩
noncomputable def Tgr (G : List (Nat × Obj)) : Tb := (((tb0 G).plus 11 fine_t).plus 16 find_t).plus 13 (inst [] (.b true))
theorem Tgr_sound {G : List (Nat × Obj)} (hG : TabIn G) : TbSound Tryz.prog (Tgr G) :=
  TbSound.plus (TbSound.plus (TbSound.plus tb0_sound (fine_T hG)) (PureT.mono find_T)) (inst_T (awake_C hG))
def great_an (c : Qu) : Ann :=
  .two .auto (.two .auto (.two .auto (.two .auto (.two (.two .auto (.one (.loop Nat (fun σ z => [(1, σ.tm 1), (3, σ.tm 3), (4, σ.tm 4), (27, σ.tm 27), (28, σ.tm 28), (5, .i (findZ c.l c.w c.d c.s c.q z)), (29, .i z)]) (fun σ z => []) 0 (fun σ z => z ≤ c.l.length) (fun σ z => c.l.length - z) .auto))) .auto))))
theorem great_vc (G : List (Nat × Obj)) (c : Qu) :
 let q1 := (AV.agg 6 fun (i : Nat) => Enc.enc c (0 + i)); let q2 := (AV.xl false 5 (List.length (Qu.l c)) fun i j => Enc.enc (List.getD (Qu.l c) i Enc.dflt) j); let q4 := (rowsOf q2); let q3 := (IntKind.i64 = .i64 ∧ findV q4 (Qu.w c) (Qu.d c) (Qu.s c) (Qu.q c) = findV q4 (Qu.w c) (Qu.d c) (Qu.s c) (Qu.q c)); let q5 := (IntKind.i64 = .i64 ∧ findE q4 (Qu.w c) (Qu.d c) (Qu.s c) (Qu.q c) = findE q4 (Qu.w c) (Qu.d c) (Qu.s c) (Qu.q c)); let q6 := (IntKind.i64 = .i64 ∧ (↑(List.length (Qu.l c)) : Int) = (↑(List.length (Qu.l c)) : Int)); let q7 := ((((avM q2 q2 ∧ IntKind.i64 = .i64 ∧ Qu.w c = Qu.w c) ∧
 IntKind.i64 = .i64 ∧ Qu.d c = Qu.d c) ∧ IntKind.i64 = .i64 ∧ Qu.s c = Qu.s c) ∧ IntKind.i64 = .i64 ∧ Qu.q c = Qu.q c); let q22 := (findE q4 (Qu.w c) (Qu.d c) (Qu.s c) (Qu.q c) == (25 : Int)); let q23 := (bif findE q4 (Qu.w c) (Qu.d c) (Qu.s c) (Qu.q c) == (25 : Int) then findV q4 (Qu.w c) (Qu.d c) (Qu.s c) (Qu.q c) == (0 : Int) else false); let q25 := (findE q4 (Qu.w c) (Qu.d c) (Qu.s c) (Qu.q c) == (0 : Int)); let q24 := (!bsel true q25 || bsel true q25); bndL [AV.agg 6 (Enc.enc c)] → bsplit (agOk Qu q1) (bsplit (!fineB (agD q1)) (Wk [] [] ∧ true = true) (bsplit (slOk Row q2) ((∃ (z : Nat), (z
 ≤ List.length (Qu.l c) ∧ (nat_lit 0 = 0 ∧ 0 = 0) ∧ q3 ∧ q5 ∧ avM q2 q2 ∧ q6 ∧ (IntKind.i64 = .i64 ∧ (0 : Int) = findZ (Qu.l c) (Qu.w c) (Qu.d c) (Qu.s c) (Qu.q c) z) ∧ IntKind.i64 = .i64 ∧ (0 : Int) = (↑z : Int)) ∧ 25 = 25 ∧ 6 = 6 ∧ q7 ∧ Qu.sp c = Qu.sp c) ∧ ∀ (z : Nat), let q11 := (List.getD (Qu.l c) (Int.toNat (↑z : Int)) Enc.dflt); let q10 := (Row.w q11); let q9 := (leB q10 (Qu.w c)); let q8 := (!bsel true q9 || bsel true q9); let q14 := (Row.d q11); let q13 := (bif leB q10 (Qu.w c) then leB q14 (Qu.d c) else false); let q12 := (!bsel true q13 || bsel true q13); let q17 := (Row.s q11); let
 q16 := (bif bif leB q10 (Qu.w c) then leB q14 (Qu.d c) else false then leB (Qu.s c) q17 else false); let q15 := (!bsel true q16 || bsel true q16); let q20 := (Row.q q11); let q19 := (bif bif bif leB q10 (Qu.w c) then leB q14 (Qu.d c) else false then leB (Qu.s c) q17 else false then leB (Qu.q c) q20 else false); let q18 := (!bsel true q19 || bsel true q19); let q21 := (DB.db (inK .i64 ((↑z : Int) + (1 : Int)))); let q26 := (bif findE q4 (Qu.w c) (Qu.d c) (Qu.s c) (Qu.q c) == (0 : Int) then findV q4 (Qu.w c) (Qu.d c) (Qu.s c) (Qu.q c) == findZ (Qu.l c) (Qu.w c) (Qu.d c) (Qu.s c) (Qu.q c) z else
 false); z ≤ List.length (Qu.l c) → bsplit (ltB (↑z : Int) (↑(List.length (Qu.l c)) : Int)) (bsplit (DB.db ((0 : Int) ≤ (↑z : Int) ∧ (↑z : Int) < (↑(List.length (Qu.l c)) : Int))) (bsplit q8 (bsplit q8 (bsplit q8 (bsplit q8 (bsplit (!leB q10 (Qu.w c) || bsel true q9) (bsplit q12 (bsplit q12 (bsplit q12 (bsplit q12 (bsplit ((!bif leB q10 (Qu.w c) then leB q14 (Qu.d c) else false) || bsel true q13) (bsplit q15 (bsplit q15 (bsplit q15 (bsplit q15 (bsplit ((!bif bif leB q10 (Qu.w c) then leB q14 (Qu.d c) else false then leB (Qu.s c) q17 else false) || bsel true q16) (bsplit q18 (bsplit q18 (bsplit
 q18 (bsplit ((!bif bif bif leB q10 (Qu.w c) then leB q14 (Qu.d c) else false then leB (Qu.s c) q17 else false then leB (Qu.q c) q20 else false) || bsel true q19) (bsplit (bif bif bif bif leB q10 (Qu.w c) then leB q14 (Qu.d c) else false then leB (Qu.s c) q17 else false then leB (Qu.q c) q20 else false then ltB (findZ (Qu.l c) (Qu.w c) (Qu.d c) (Qu.s c) (Qu.q c) z) (Row.n q11) else false) (bsplit q21 (∃ (z' : Nat), ((z' ≤ List.length (Qu.l c) ∧ List.length (Qu.l c) - z' < List.length (Qu.l c) - z) ∧ (nat_lit 0 = 0 ∧ 0 = 0) ∧ q3 ∧ q5 ∧ avM q2 q2 ∧ q6 ∧ (IntKind.i64 = .i64 ∧ Row.n q11 = findZ
 (Qu.l c) (Qu.w c) (Qu.d c) (Qu.s c) (Qu.q c) z') ∧ IntKind.i64 = .i64 ∧ (↑z : Int) + (1 : Int) = (↑z' : Int)) ∧ 25 = 25 ∧ 6 = 6 ∧ q7 ∧ Qu.sp c = Qu.sp c) False) (bsplit q21 (∃ (z' : Nat), ((z' ≤ List.length (Qu.l c) ∧ List.length (Qu.l c) - z' < List.length (Qu.l c) - z) ∧ (nat_lit 0 = 0 ∧ 0 = 0) ∧ q3 ∧ q5 ∧ avM q2 q2 ∧ q6 ∧ (IntKind.i64 = .i64 ∧ findZ (Qu.l c) (Qu.w c) (Qu.d c) (Qu.s c) (Qu.q c) z = findZ (Qu.l c) (Qu.w c) (Qu.d c) (Qu.s c) (Qu.q c) z') ∧ IntKind.i64 = .i64 ∧ (↑z : Int) + (1 : Int) = (↑z' : Int)) ∧ 25 = 25 ∧ 6 = 6 ∧ q7 ∧ Qu.sp c = Qu.sp c) False)) False) False) False) False)
 False) False) False) False) False) False) False) False) False) False) False) False) False) False) False) False) (bsplit (findZ (Qu.l c) (Qu.w c) (Qu.d c) (Qu.s c) (Qu.q c) z == (0 : Int)) (bsplit (!bsel true q22 || bsel true q22) (bsplit (!findE q4 (Qu.w c) (Qu.d c) (Qu.s c) (Qu.q c) == (25 : Int) || bsel true q22) ((bsel true q23 = true → Wk [] []) ∧ bsplit ((!bif findE q4 (Qu.w c) (Qu.d c) (Qu.s c) (Qu.q c) == (25 : Int) then findV q4 (Qu.w c) (Qu.d c) (Qu.s c) (Qu.q c) == (0 : Int) else false) || bsel true q23) ((bif bif findE q4 (Qu.w c) (Qu.d c) (Qu.s c) (Qu.q c) == (25 : Int) then findV
 q4 (Qu.w c) (Qu.d c) (Qu.s c) (Qu.q c) == (0 : Int) else false then true else false) = true) False) False) False) (bsplit q24 (bsplit q24 (bsplit (!findE q4 (Qu.w c) (Qu.d c) (Qu.s c) (Qu.q c) == (0 : Int) || bsel true q25) ((bsel true q26 = true → Wk [] []) ∧ bsplit ((!bif findE q4 (Qu.w c) (Qu.d c) (Qu.s c) (Qu.q c) == (0 : Int) then findV q4 (Qu.w c) (Qu.d c) (Qu.s c) (Qu.q c) == findZ (Qu.l c) (Qu.w c) (Qu.d c) (Qu.s c) (Qu.q c) z else false) || bsel true q26) ((bif bif findE q4 (Qu.w c) (Qu.d c) (Qu.s c) (Qu.q c) == (0 : Int) then findV q4 (Qu.w c) (Qu.d c) (Qu.s c) (Qu.q c) == findZ (Qu.l
 c) (Qu.w c) (Qu.d c) (Qu.s c) (Qu.q c) z else false then true else false) = true) False) False) False) False))) False)) False := by
  dsimp only
  intro hb
  have e2 : (Enc.dflt : Row) = r0 := rfl
  simp only [↓vc_db, ↓vc_gdb, row_one]
  simp only [avM_refl, true_and, and_true, bsel_true, bsel_false, vc_own, bif_or, bif_and, vc_gdb, vc_db, vc_lt, vc_le, vc_ne, vc_eq, vc_tt, Int.toNat_natCast, Nat.zero_add, Nat.zero_le, Nat.sub_zero, int_i, Bool.or_true, cond_true, cond_false, agD_row, agOk_row, agD_row', agOk_row', okIn, okIn', deI, deI', okR, okR', deR, deR', deRo, deRo', e2, agD_qu, agOk_qu]
  have hb1 : (!fineB c) = false → c.l.length ≤ 12 := fun h => by
    rw [Bool.not_eq_false'] at h
    unfold fineB at h
    simp only [Bool.and_eq_true, leB_iff] at h
    have := h.1.1.1.1
    omega
  refine bsplit_iff.2 ⟨fun _ => Wk.refl _, fun hg => ⟨⟨0, Nat.zero_le _, rfl, rfl⟩, fun z hz => ⟨fun hlt => ⟨⟨by omega, hlt⟩, ?_⟩, fun hge => ?_⟩⟩⟩
  · have hb2 := hb1 hg
    have hs : findZ c.l c.w c.d c.s c.q (z + 1) = bif enoB (c.l.getD z r0) c.w c.d c.s c.q then (if (c.l.getD z r0).n > findZ c.l c.w c.d c.s c.q z then (c.l.getD z r0).n else findZ c.l c.w c.d c.s c.q z) else findZ c.l c.w c.d c.s c.q z := rfl
    have he : (leB (c.l.getD z r0).w c.w && leB (c.l.getD z r0).d c.d && leB c.s (c.l.getD z r0).s && leB c.q (c.l.getD z r0).q) = enoB (c.l.getD z r0) c.w c.d c.s c.q := rfl
    rw [he]
    refine bsplit_iff.2 ⟨fun c2 => ⟨⟨by omega, by omega⟩, z + 1, ⟨by omega, by omega⟩, ?_, by omega⟩, fun c2 => ⟨⟨by omega, by omega⟩, z + 1, ⟨by omega, by omega⟩, ?_, by omega⟩⟩
    · rw [Bool.and_eq_true, ltB_iff] at c2
      rw [hs, c2.1, cond_true, if_pos c2.2]
    · rw [hs]
      cases h1 : enoB (c.l.getD z r0) c.w c.d c.s c.q with
      | false => rfl
      | true =>
        rw [h1, Bool.true_and, Bool.eq_false_iff, Ne, ltB_iff] at c2
        rw [cond_true, if_neg c2]
  · rw [show z = c.l.length by omega]
    rw [Bool.not_eq_false'] at hg
    obtain ⟨f1, f2⟩ := fine_find hg
    refine ⟨fun h => ?_, fun h => ?_⟩
    · obtain ⟨a1, a2⟩ := f1 h
      rw [a1, a2]
      exact ⟨fun _ => Wk.refl _, rfl⟩
    · obtain ⟨a1, a2⟩ := f2 h
      rw [a1, a2]
      exact ⟨fun _ => Wk.refl _, by unfold findR; simp⟩
theorem great_C {G : List (Nat × Obj)} (hG : TabIn G) (c : Qu) : PureCall Tryz.prog G 4 [agE c] (.b true) :=
  pure_of_vc mixed (Tgr_sound hG) (Eq.mp (by kernel_rfl) (great_vc G c) : vcFn Tryz.prog (Tgr G) 4 (great_an c) [agE c] (.b true))
end Go.Te
