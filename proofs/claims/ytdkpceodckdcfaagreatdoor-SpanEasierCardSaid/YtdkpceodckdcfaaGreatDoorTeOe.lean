/- kingpostref02: Compare. -/
import Derived.Test.YtdkpceodckdcfaaGreatDoorTeOc
import Derived.Test.YtdkpceodckdcfaaGreatDoorTeJ
import Derived.ChangeArms
import Derived.Lib.LaidTab
import Derived.Test.YtdkpceodckdcfaaGreatDoorTeL
set_option linter.unusedSimpArgs false
set_option linter.unusedVariables false
namespace Go.Te
open Go Go.Sx Go.Proofs Go.Ar
set_option maxRecDepth 100000
set_option maxHeartbeats 4000000
def r2both_t : List AV → Option (List Cond × AV)
  | [.str a, .str b] => some ([.p (a.length ≤ 100000000), .p (b.length ≤ 100000000)], .i (bif ratE a != 0 then ratE a else ratE b))
  | _ => none
theorem r2both_vc (G : List (Nat × Obj)) (a : List UInt8) (b : List UInt8) (hla : a.length ≤ 100000000) (hlb : b.length ≤ 100000000) :
 bndL [AV.str a, AV.str b] → List.length a ≤ 100000000 ∧ bsplit (ratE a != (0 : Int)) (IntKind.i64 = .i64 ∧ ratE a = bif ratE a != (0 : Int) then ratE a else ratE b) (List.length b ≤ 100000000 ∧ IntKind.i64 = .i64 ∧ ratE b = bif ratE a != (0 : Int) then ratE a else ratE b) := by
  intro hb
  simp only [sS, dS, ltB_nat]
  refine ⟨hla, fun h => by rw [bne_iff_ne.2 h]; rfl, fun h => ⟨hlb, by rw [h]; rfl⟩⟩
theorem r2both_C {G : List (Nat × Obj)} (hG : TabIn G) (a : List UInt8) (b : List UInt8) (hla : a.length ≤ 100000000) (hlb : b.length ≤ 100000000) : PureCall Tryz.prog G 50 [.str a, .str b] (.i (bif ratE a != 0 then ratE a else ratE b)) :=
  pure_of_vc (T := (tb0 G).plus 12 r2check_t) (an := .auto) mixed (TbSound.plus tb0_sound (r2check_T hG)) (Eq.mp (by kernel_rfl) (r2both_vc G a b hla hlb))
theorem r2both_T {G : List (Nat × Obj)} (hG : TabIn G) : PureT Tryz.prog G 50 r2both_t := by
  intro xs ps r h hp
  unfold r2both_t at h
  split at h
  · skip
    rename_i a b
    cases h
    obtain ⟨q0, q1, -⟩ := allC hp
    exact weaken (ys := [.str a, .str b]) ⟨avM_refl _, avM_refl _, trivial⟩ (r2both_C hG a b q0 q1)
  · cases h
def sh9 (a : Str) : Bool := leB ((cutN (ownS a)).length : Int) 9 && leB ((cutD (ownS a)).length : Int) 9
theorem rc_A {a b : Str} (h : ratE a ≠ 0) : 0 = rcV a b ∧ ratE a = rcE a b := by
  have e : rcE a b = ratE a := by unfold rcE; rw [bne_iff_ne.2 h]; rfl
  unfold rcV
  rw [e, beq_eq_false_iff_ne.2 h]
  exact ⟨rfl, rfl⟩
theorem rc_B {a b : Str} (h0 : ratE a = 0) (h : ratE b ≠ 0) : 0 = rcV a b ∧ ratE b = rcE a b := by
  have e : rcE a b = ratE b := by unfold rcE; rw [h0, bne_iff_ne.2 h]; rfl
  unfold rcV
  rw [e, beq_eq_false_iff_ne.2 h]
  exact ⟨rfl, rfl⟩
theorem rc_C {a b : Str} (h0 : ratE a = 0) (h1 : ratE b = 0) (h : resE (ratN a * (ratD b : Int)) ≠ 0) : 0 = rcV a b ∧ resE (ratN a * (ratD b : Int)) = rcE a b := by
  have e : rcE a b = resE (ratN a * (ratD b : Int)) := by unfold rcE; rw [h0, h1, bne_iff_ne.2 h]; rfl
  unfold rcV
  rw [e, beq_eq_false_iff_ne.2 h]
  exact ⟨rfl, rfl⟩
theorem rc_D {a b : Str} (h0 : ratE a = 0) (h1 : ratE b = 0) (h : resE (ratN a * (ratD b : Int)) = 0) : rcE a b = resE (ratN b * (ratD a : Int)) := by
  unfold rcE; rw [h0, h1, h]; rfl
theorem rc_E {a b : Str} (h : rcE a b = 0) : rcV a b = cmpI (ratN a * (ratD b : Int)) (ratN b * (ratD a : Int)) := by unfold rcV; rw [h]; rfl
theorem cmp_len {n : Int} (h : resE n = 0) : (resS n).length ≤ 301 := by
  have e : resS n = Lib.itoa n := by unfold resS; rw [h]; rfl
  rw [e, itoa_len]
  have : ¬ 300 < nDg n := fun e => by unfold resE at h; rw [(blt_iff _ _).2 e] at h; cases h
  split <;> omega
theorem den_len {a : Str} (h : ratE a = 0) : (denS a).length ≤ 301 := by
  have := (ratE_zero.1 h).2.2.1
  unfold denS
  cases slashB a <;> simp <;> omega
theorem rat_form {a : Str} (h : ratE a = 0) : formO a = true := by
  cases hf : formO a with
  | true => rfl
  | false => rw [ratE_bad hf] at h; cases h
theorem sh9_rat {a : Str} (hr : ratE a = 0) (h : sh9 a = true) : (ratN a).natAbs ≤ 999999999 ∧ ratD a ≤ 999999999 := by
  obtain ⟨g1, g2, g3⟩ := form_iff.1 (rat_form hr)
  unfold sh9 at h
  rw [Bool.and_eq_true, leB_iff, leB_iff] at h
  have b := decV_bound g1 (k := 9) (by omega)
  rw [show 10 ^ 9 = 1000000000 from by decide] at b
  refine ⟨by rw [ratN_abs]; omega, ?_⟩
  rw [(own_cut (a := a)).2]
  cases hs : slashB (ownS a) with
  | false => show 1 ≤ 999999999; decide
  | true =>
    have b := decV_bound (g3 hs).1 (k := 9) (by omega)
    rw [show 10 ^ 9 = 1000000000 from by decide] at b
    simp only [cond_true]
    omega
def r2ints_t : List AV → Option (List Cond × AV)
  | [.str a] => some ([.p (a.length ≤ 4294967280), .p (ratE a = 0)], .tup 3 (listFn [.i (bif sh9 a then ratN a else 0), .i (bif sh9 a then (ratD a : Int) else 0), .b (sh9 a)]))
  | _ => none
theorem r2ints_vc (a : List UInt8) (hl : a.length ≤ 4294967280) (hr : ratE a = 0) :
 let q2 := (ltB (9 : Int) (↑(List.length (cutN (ownS a))) : Int)); let q1 := (!bsel false q2 || bsel false q2); let q3 := (DB.db (inK .i64 (-(↑(decV (cutN (ownS a))) : Int)))); let q4 := (True ∧ IntKind.i64 = .i64 ∧ -(↑(decV (cutN (ownS a))) : Int) = bif sh9 a then ratN a else (0 : Int)); let q5 := (True ∧ IntKind.i64 = .i64 ∧ (↑(decV (cutN (ownS a))) : Int) = bif sh9 a then ratN a else (0 : Int)); bndL [AV.str a] → List.length a ≤ 4294967280 ∧ bsplit q1 (bsplit q1 (bsplit (!!ltB (9 : Int) (↑(List.length (cutN (ownS a))) : Int) || bsel false q2) (bsplit (bif ltB (9 : Int) (↑(List.length (cutN
 (ownS a))) : Int) then true else ltB (9 : Int) (↑(List.length (cutD (ownS a))) : Int)) (3 = List.length [AV.junk, AV.junk, AV.junk] ∧ ((True ∧ IntKind.i64 = .i64 ∧ (0 : Int) = bif sh9 a then ratN a else (0 : Int)) ∧ IntKind.i64 = .i64 ∧ (0 : Int) = bif sh9 a then (↑(ratD a) : Int) else (0 : Int)) ∧ false = sh9 a) (digS (cutN (ownS a)) = true ∧ List.length (cutN (ownS a)) ≤ 18 ∧ bsplit (slashB (ownS a)) (digS (cutD (ownS a)) = true ∧ List.length (cutD (ownS a)) ≤ 18 ∧ bsplit (minB a) (bsplit q3 (3 = List.length [AV.junk, AV.junk, AV.junk] ∧ (q4 ∧ IntKind.i64 = .i64 ∧ (↑(decV (cutD (ownS a))) :
 Int) = bif sh9 a then (↑(ratD a) : Int) else (0 : Int)) ∧ true = sh9 a) False) (3 = List.length [AV.junk, AV.junk, AV.junk] ∧ (q5 ∧ IntKind.i64 = .i64 ∧ (↑(decV (cutD (ownS a))) : Int) = bif sh9 a then (↑(ratD a) : Int) else (0 : Int)) ∧ true = sh9 a)) (bsplit (minB a) (bsplit q3 (3 = List.length [AV.junk, AV.junk, AV.junk] ∧ (q4 ∧ IntKind.i64 = .i64 ∧ (1 : Int) = bif sh9 a then (↑(ratD a) : Int) else (0 : Int)) ∧ true = sh9 a) False) (3 = List.length [AV.junk, AV.junk, AV.junk] ∧ (q5 ∧ IntKind.i64 = .i64 ∧ (1 : Int) = bif sh9 a then (↑(ratD a) : Int) else (0 : Int)) ∧ true = sh9 a)))) False)
 False) False := by
  dsimp only
  intro hb
  simp only [sS, dS, ltB_nat]
  obtain ⟨g1, g2, g3⟩ := form_iff.1 (rat_form hr)
  obtain ⟨w1, w2⟩ := own_cut (a := a)
  have e9 : (ltB 9 ((cutN (ownS a)).length : Int) || ltB 9 ((cutD (ownS a)).length : Int)) = !sh9 a := by
    unfold sh9
    rw [Bool.eq_iff_iff, Bool.or_eq_true, ltB_iff, ltB_iff, Bool.not_eq_true', Bool.and_eq_false_iff, Bool.eq_false_iff, Bool.eq_false_iff, Ne, Ne, leB_iff, leB_iff]
    omega
  rw [e9, w1, w2]
  refine ⟨hl, bsplit_iff.2 ⟨fun c => ?_, fun c => ?_⟩⟩
  · rw [Bool.not_eq_true'] at c
    rw [c]
    exact ⟨rfl, ⟨rfl, rfl⟩, rfl⟩
  · rw [Bool.not_eq_false'] at c
    obtain ⟨s1, s2⟩ := sh9_rat hr c
    rw [ratN_abs] at s1
    have c' := c
    unfold sh9 at c'
    rw [Bool.and_eq_true, leB_iff, leB_iff] at c'
    rw [c]
    simp only [cond_true]
    refine ⟨g1, by omega, bsplit_iff.2 ⟨fun hs => ⟨(g3 hs).1, by omega, bsplit_iff.2 ⟨fun hm => ⟨⟨by omega, by omega⟩, rfl, ⟨?_, ?_⟩, trivial⟩, fun hm => ⟨rfl, ⟨?_, ?_⟩, trivial⟩⟩⟩, fun hs => bsplit_iff.2 ⟨fun hm => ⟨⟨by omega, by omega⟩, rfl, ⟨?_, ?_⟩, trivial⟩, fun hm => ⟨rfl, ⟨?_, ?_⟩, trivial⟩⟩⟩⟩
    all_goals first | (rw [hm]; rfl) | (rw [hs]; rfl)
theorem r2ints_C (a : List UInt8) (hl : a.length ≤ 4294967280) (hr : ratE a = 0) : PureCall Tryz.prog [] 51 [.str a] (.tup 3 (listFn [.i (bif sh9 a then ratN a else 0), .i (bif sh9 a then (ratD a : Int) else 0), .b (sh9 a)])) :=
  pure_of_vc (T := (T0.plus 45 r2split_t).plus 48 r2small_t) (an := .auto) mixed (TbSound.plus (TbSound.plus tb0_sound r2split_T) r2small_T) (Eq.mp (by kernel_rfl) (r2ints_vc a hl hr))
theorem r2ints_T : PureT Tryz.prog [] 51 r2ints_t := by
  intro xs ps r h hp
  unfold r2ints_t at h
  split at h
  · skip
    rename_i a
    cases h
    obtain ⟨q0, q1, -⟩ := allC hp
    exact weaken (ys := [.str a]) ⟨avM_refl _, trivial⟩ (r2ints_C a q0 q1)
  · cases h
def r2parts_t : List AV → Option (List Cond × AV)
  | [.str a] => some ([.p (a.length ≤ 4294967280)], .tup 2 (listFn [.str (cutN a), .str (denS a)]))
  | _ => none
theorem r2parts_vc (a : List UInt8) (hl : a.length ≤ 4294967280) :
 bndL [AV.str a] → List.length a ≤ 4294967280 ∧ bsplit (minB a) (bsplit (DB.db (1 + List.length (cutN (ownS a)) ≤ 9223372036854775807)) (bsplit (!slashB (ownS a)) (2 = List.length [AV.junk, AV.junk] ∧ (True ∧ Array.toList (ByteArray.data (ByteArray.mk #[(45 : UInt8)])) ++ cutN (ownS a) = cutN a) ∧ Array.toList (ByteArray.data (ByteArray.mk #[(49 : UInt8)])) = denS a) (2 = List.length [AV.junk, AV.junk] ∧ (True ∧ Array.toList (ByteArray.data (ByteArray.mk #[(45 : UInt8)])) ++ cutN (ownS a) = cutN a) ∧ cutD (ownS a) = denS a)) False) (bsplit (!slashB (ownS a)) (2 = List.length [AV.junk, AV.junk] ∧
 (True ∧ cutN (ownS a) = cutN a) ∧ Array.toList (ByteArray.data (ByteArray.mk #[(49 : UInt8)])) = denS a) (2 = List.length [AV.junk, AV.junk] ∧ (True ∧ cutN (ownS a) = cutN a) ∧ cutD (ownS a) = denS a)) := by
  intro hb
  simp only [sS, dS, ltB_nat]
  obtain ⟨o1, o2, o3, _⟩ := own_parts a
  have l1 := cutN_len (ownS a)
  have l2 := ownS_len a
  unfold denS
  rw [o1, o2, o3]
  refine ⟨hl, bsplit_iff.2 ⟨fun c => ⟨by omega, bsplit_iff.2 ⟨fun h => ?_, fun h => ?_⟩⟩, fun c => bsplit_iff.2 ⟨fun h => ?_, fun h => ?_⟩⟩⟩
  · rw [c, show slashB (ownS a) = false by rw [Bool.not_eq_true'] at h; exact h]; exact ⟨rfl, rfl, rfl⟩
  · rw [c, show slashB (ownS a) = true by rw [Bool.not_eq_false'] at h; exact h]; exact ⟨rfl, rfl, rfl⟩
  · rw [c, show slashB (ownS a) = false by rw [Bool.not_eq_true'] at h; exact h]; exact ⟨rfl, rfl, rfl⟩
  · rw [c, show slashB (ownS a) = true by rw [Bool.not_eq_false'] at h; exact h]; exact ⟨rfl, rfl, rfl⟩
theorem r2parts_C (a : List UInt8) (hl : a.length ≤ 4294967280) : PureCall Tryz.prog [] 52 [.str a] (.tup 2 (listFn [.str (cutN a), .str (denS a)])) :=
  pure_of_vc (T := T0.plus 45 r2split_t) (an := .auto) mixed (TbSound.plus tb0_sound r2split_T) (Eq.mp (by kernel_rfl) (r2parts_vc a hl))
theorem r2parts_T : PureT Tryz.prog [] 52 r2parts_t := by
  intro xs ps r h hp
  unfold r2parts_t at h
  split at h
  · skip
    rename_i a
    cases h
    obtain ⟨q0, -⟩ := allC hp
    exact weaken (ys := [.str a]) ⟨avM_refl _, trivial⟩ (r2parts_C a q0)
  · cases h
noncomputable def Trc0 (G : List (Nat × Obj)) : Tb := (((((tb0 G).plus 50 r2both_t).plus 51 r2ints_t).plus 52 r2parts_t).plus 107 r1Mul_t).plus 54 r1Cmp_t
theorem Trc0_sound {G : List (Nat × Obj)} (hG : TabIn G) : TbSound Tryz.prog (Trc0 G) := TbSound.plus (TbSound.plus (TbSound.plus (TbSound.plus (TbSound.plus tb0_sound (r2both_T hG)) (PureT.mono r2ints_T)) (PureT.mono r2parts_T)) (r1Mul_T hG)) (r1Cmp_T hG)
noncomputable def Tr2c (G : List (Nat × Obj)) : Tb := (Trc0 G).body Tryz.prog [(53, .auto)]
theorem Tr2c_sound {G : List (Nat × Obj)} (hG : TabIn G) : TbSound Tryz.prog (Tr2c G) := TbSound.body mixed (Trc0_sound hG) _
def r2Cmp_t : List AV → Option (List Cond × AV)
  | [.str a, .str b] => some ([.p (a.length ≤ 100000000), .p (b.length ≤ 100000000)], .tup 2 (listFn [.i (rcV a b), .i (rcE a b)]))
  | _ => none
theorem r2Cmp_vc (G : List (Nat × Obj)) (a : List UInt8) (b : List UInt8) (hla : a.length ≤ 100000000) (hlb : b.length ≤ 100000000) :
 let q1 := (bif ratE a != (0 : Int) then ratE a else ratE b); let q2 := (True ∧ IntKind.i64 = .i64 ∧ (0 : Int) = rcV a b); let q4 := ((bif sh9 a then ratN a else (0 : Int)) * bif sh9 b then (↑(ratD b) : Int) else (0 : Int)); let q3 := (DB.db (inK .i64 q4)); let q6 := ((bif sh9 b then ratN b else (0 : Int)) * bif sh9 a then (↑(ratD a) : Int) else (0 : Int)); let q5 := (DB.db (inK .i64 q6)); let q7 := (opE (fun (x1 x2 : Int) => x1 * x2) (cutN a) (denS b) != (0 : Int)); let q8 := (Array.toList (ByteArray.data (ByteArray.mk #[]))); let q9 := (opS (fun (x1 x2 : Int) => x1 * x2) (cutN a) (denS b));
 let q10 := (opS (fun (x1 x2 : Int) => x1 * x2) (cutN b) (denS a)); bndL [AV.str a, AV.str b] → List.length a ≤ 100000000 ∧ List.length b ≤ 100000000 ∧ bsplit (q1 != (0 : Int)) (2 = List.length [AV.junk, AV.junk] ∧ q2 ∧ IntKind.i64 = .i64 ∧ q1 = rcE a b) (List.length a ≤ 4294967280 ∧ ratE a = (0 : Int) ∧ List.length b ≤ 4294967280 ∧ ratE b = (0 : Int) ∧ bsplit (!sh9 a || bsel true (sh9 a)) (bsplit (bif sh9 a then sh9 b else false) (bsplit q3 (bsplit q5 (bsplit (ltB q4 q6) (2 = List.length [AV.junk, AV.junk] ∧ (True ∧ IntKind.i64 = .i64 ∧ (-1 : Int) = rcV a b) ∧ IntKind.i64 = .i64 ∧ (0 : Int) =
 rcE a b) (bsplit q3 (bsplit q5 (bsplit (ltB q6 q4) (2 = List.length [AV.junk, AV.junk] ∧ (True ∧ IntKind.i64 = .i64 ∧ (1 : Int) = rcV a b) ∧ IntKind.i64 = .i64 ∧ (0 : Int) = rcE a b) (2 = List.length [AV.junk, AV.junk] ∧ q2 ∧ IntKind.i64 = .i64 ∧ (0 : Int) = rcE a b)) False) False)) False) False) (List.length a ≤ 4294967280 ∧ List.length b ≤ 4294967280 ∧ List.length (cutN a) ≤ 100000000 ∧ List.length (denS b) ≤ 100000000 ∧ bsplit q7 (bsplit q7 (2 = List.length [AV.junk, AV.junk] ∧ q2 ∧ IntKind.i64 = .i64 ∧ opE (fun (x1 x2 : Int) => x1 * x2) (cutN a) (denS b) = rcE a b) (0 ≤ 100000000 ∧ 0 ≤
 100000000 ∧ 2 = List.length [AV.junk, AV.junk] ∧ (True ∧ IntKind.i64 = .i64 ∧ cmpV q8 q8 = rcV a b) ∧ IntKind.i64 = .i64 ∧ bothE q8 q8 = rcE a b)) (List.length (cutN b) ≤ 100000000 ∧ List.length (denS a) ≤ 100000000 ∧ bsplit (opE (fun (x1 x2 : Int) => x1 * x2) (cutN b) (denS a) != (0 : Int)) (2 = List.length [AV.junk, AV.junk] ∧ q2 ∧ IntKind.i64 = .i64 ∧ opE (fun (x1 x2 : Int) => x1 * x2) (cutN b) (denS a) = rcE a b) (List.length q9 ≤ 100000000 ∧ List.length q10 ≤ 100000000 ∧ 2 = List.length [AV.junk, AV.junk] ∧ (True ∧ IntKind.i64 = .i64 ∧ cmpV q9 q10 = rcV a b) ∧ IntKind.i64 = .i64 ∧ bothE q9
 q10 = rcE a b)))) False) := by
  dsimp only
  intro hb
  simp only [sS, dS, ltB_nat]
  have ncd := cutN_len a
  have ncb := cutN_len b
  refine ⟨hla, hlb, fun h => ?_, fun h => ?_⟩
  · by_cases h0 : ratE a = 0
    · have h1 : ratE b ≠ 0 := fun e => h (by rw [h0, e]; rfl)
      rw [h0]
      exact ⟨rfl, rc_B h0 h1⟩
    · rw [bne_iff_ne.2 h0]
      exact ⟨rfl, rc_A h0⟩
  have h0 : ratE a = 0 := by
    refine Decidable.byContradiction fun e => ?_
    rw [bne_iff_ne.2 e] at h
    exact e h
  have h1 : ratE b = 0 := by rw [h0] at h; exact h
  refine ⟨by omega, h0, by omega, h1, bsplit_iff.2 ⟨fun c => ?_, fun c => ?_⟩⟩
  · rw [Bool.and_eq_true] at c
    obtain ⟨a2, a3⟩ := sh9_rat h0 c.1
    obtain ⟨b2, b3⟩ := sh9_rat h1 c.2
    rw [c.1, c.2]
    simp only [cond_true]
    have m1 : (ratN a * (ratD b : Int)).natAbs ≤ 999999999 * 999999999 := by rw [Int.natAbs_mul, Int.natAbs_natCast]; exact Nat.mul_le_mul a2 b3
    have m2 : (ratN b * (ratD a : Int)).natAbs ≤ 999999999 * 999999999 := by rw [Int.natAbs_mul, Int.natAbs_natCast]; exact Nat.mul_le_mul b2 a3
    obtain ⟨r1, r2⟩ := res_small (n := ratN a * (ratD b : Int)) (k := 20) (by omega) (by omega) (by omega)
    obtain ⟨r3, r4⟩ := res_small (n := ratN b * (ratD a : Int)) (k := 20) (by omega) (by omega) (by omega)
    have e := rc_D h0 h1 r2
    rw [r4] at e
    rw [rc_E e, e]
    unfold cmpI
    generalize ratN a * (ratD b : Int) = x at *
    generalize ratN b * (ratD a : Int) = y at *
    refine ⟨⟨by omega, by omega⟩, ⟨by omega, by omega⟩, fun h => ?_, fun h => ⟨⟨by omega, by omega⟩, ⟨by omega, by omega⟩, fun h2 => ?_, fun h2 => ?_⟩⟩
    · rw [(ltB_iff _ _).2 h]; exact ⟨rfl, rfl, rfl⟩
    · rw [show ltB x y = false from Bool.eq_false_iff.2 fun e => by have := (ltB_iff _ _).1 e; omega, beq_eq_false_iff_ne.2 (by omega)]; exact ⟨rfl, rfl, rfl⟩
    · rw [show x = y by omega, show ltB y y = false from Bool.eq_false_iff.2 fun e => by have := (ltB_iff _ _).1 e; omega, beq_self_eq_true]; exact ⟨rfl, rfl, rfl⟩
  · obtain ⟨p1, p2⟩ := opm h0 h1
    obtain ⟨p3, p4⟩ := opm h1 h0
    have dla := den_len h0
    have dlb := den_len h1
    simp only [p1, p2, p3, p4]
    refine ⟨by omega, by omega, by omega, by omega, fun h => ⟨fun _ => ⟨rfl, rc_C h0 h1 h⟩, fun h2 => absurd h2 h⟩, fun h => ⟨by omega, by omega, fun h2 => ?_, fun h2 => ?_⟩⟩
    · have e := rc_D h0 h1 h
      unfold rcV
      rw [e, beq_eq_false_iff_ne.2 h2]
      exact ⟨rfl, rfl, rfl⟩
    · have e := rc_D h0 h1 h
      rw [h2] at e
      obtain ⟨q1, q2, _⟩ := cmp_res h h2
      have q3 := cmp_len h
      have q4 := cmp_len h2
      rw [rc_E e, e, q1, q2]
      exact ⟨by omega, by omega, rfl, rfl, rfl⟩
theorem r2Cmp_C {G : List (Nat × Obj)} (hG : TabIn G) (a : List UInt8) (b : List UInt8) (hla : a.length ≤ 100000000) (hlb : b.length ≤ 100000000) : PureCall Tryz.prog G 14 [.str a, .str b] (.tup 2 (listFn [.i (rcV a b), .i (rcE a b)])) :=
  pure_of_vc (T := Tr2c G) (an := .auto) mixed (Tr2c_sound hG) (Eq.mp (by kernel_rfl) (r2Cmp_vc G a b hla hlb))
theorem r2Cmp_T {G : List (Nat × Obj)} (hG : TabIn G) : PureT Tryz.prog G 14 r2Cmp_t := by
  intro xs ps r h hp
  unfold r2Cmp_t at h
  split at h
  · skip
    rename_i a b
    cases h
    obtain ⟨q0, q1, -⟩ := allC hp
    exact weaken (ys := [.str a, .str b]) ⟨avM_refl _, avM_refl _, trivial⟩ (r2Cmp_C hG a b q0 q1)
  · cases h
end Go.Te

namespace Go.Te
open Go Go.Sx Go.Proofs Go.Ar Go.RowKit
set_option maxRecDepth 100000
section
variable {H : Type} {enc : TypeId × Value → H} {W : World} {spare : Nat → Bool} {held : Bool}
theorem cells_at {base n : Nat} {A : Addr} {cs : List Value} (h : W.cells? base A n = some cs) : cs.length = n ∧ ∀ i, i < n → W.cell? (A.add i) = some (cs.getD i undef) := by
  unfold World.cells? at h
  split at h
  · refine ⟨by simpa using Lib.mapM_length h, fun i hi => ?_⟩
    obtain ⟨b, hb, hf⟩ := Lib.mapM_at h i i (by simp [hi])
    rw [hf, List.getD_eq_getElem?_getD, hb, Option.getD_some]
  · cases h
theorem cell_lt {A : Addr} {v : Value} (h : W.cell? A = some v) : A.block < W.heap.size := by
  rcases Nat.lt_or_ge A.block W.heap.size with h' | h'
  · exact h'
  · simp [World.cell?, Array.getElem?_eq_none h'] at h
theorem cellsInt : Tryz.prog.cellsOf 3 = 1 := by kernel_rfl
abbrev Old (W : World) : Nat → Prop := fun b => b < W.heap.size
def Tells {α : Type} [Enc α] (W : World) (a : α) (cs : List Value) : Prop :=
  ∀ j, j < Enc.n α → Rel W (Old W) rho0 (Enc.enc a j) (cs.getD j undef) ∧ (cs.getD j undef).oneCell' = true
theorem read_int {n : Nat} {cs : List Value} {x : DataW H × List MemPlace} (h : DataW.trod enc Tryz.prog W 0 spare held n 3 cs = some x) : ∃ m, cs = [.int .i64 m] ∧ inK .i64 m := by
  obtain ⟨m, h1, _, h3⟩ := DataW.trod_int Tryz.underlying3 h
  refine ⟨m, h1, ?_⟩
  simp only [Lit.wf, Bool.and_eq_true, decide_eq_true_eq] at h3
  exact h3
theorem read_slice {α : Type} [Enc α] {t e : TypeId} (hu : Tryz.prog.underlying t = some (.slice e)) (hn : Tryz.prog.cellsOf e = Enc.n α) {Good : α → Prop} (hd : Good Enc.dflt)
    (hel : ∀ {n : Nat} {cs : List Value} {x : DataW H × List MemPlace}, DataW.trod enc Tryz.prog W 0 spare held n e cs = some x → ∃ a : α, Tells W a cs ∧ Good a)
    {n : Nat} {cs : List Value} {x : DataW H × List MemPlace} (h : DataW.trod enc Tryz.prog W 0 spare held n t cs = some x) :
    ∃ (v : Value) (l : List α), cs = [v] ∧ v.oneCell' = true ∧ Rel W (Old W) rho0 (slE l) v ∧ ∀ j, Good (l.getD j Enc.dflt) := by
  rcases DataW.trod_slice hu h with ⟨h1, _⟩ | ⟨a, len, cap, elems, rest, m, _, h1, _, _, h2, h3, h4, h5, _, _⟩
  · exact ⟨_, [], h1, rfl, .xl none 0 (fun _ _ => undef) (Nat.le_refl _) (Nat.zero_le _) (fun _ => rfl) (fun i j hi => absurd hi (Nat.not_lt_zero _)) (fun i j hi => absurd hi (Nat.not_lt_zero _)), fun j => by simpa using hd⟩
  · rw [hn] at h5
    have key : ∀ i, ∃ u : α, (i < len → ∀ j, j < Enc.n α → ∃ c, W.cell? (a.add (i * Enc.n α + j)) = some c ∧ Rel W (Old W) rho0 (Enc.enc u j) c ∧ c.oneCell' = true) ∧ Good u := fun i => by
      by_cases hi : i < len
      · have := h5 i hi
        rw [List.getElem?_eq_getElem (by omega)] at this
        obtain ⟨cs', hc, hd'⟩ := Option.bind_eq_some_iff.1 this
        obtain ⟨u, h6, h7⟩ := hel hd'
        refine ⟨u, fun _ j hj => ⟨cs'.getD j undef, ?_, h6 j hj⟩, h7⟩
        have := (cells_at hc).2 j hj
        rw [add_of_add] at this
        exact this
      · exact ⟨Enc.dflt, fun h => absurd h hi, hd⟩
    obtain ⟨f, hf⟩ : ∃ f : Nat → α, ∀ i, (i < len → ∀ j, j < Enc.n α → ∃ c, W.cell? (a.add (i * Enc.n α + j)) = some c ∧ Rel W (Old W) rho0 (Enc.enc (f i) j) c ∧ c.oneCell' = true) ∧ Good (f i) :=
      ⟨fun i => Classical.choose (key i), fun i => Classical.choose_spec (key i)⟩
    have hg : ∀ i, i < len → (listOf len f).getD i Enc.dflt = f i := fun i hi => by simp [listOf, List.getD_eq_getElem?_getD, hi]
    have hlen : (listOf len f).length = len := by simp [listOf]
    refine ⟨_, listOf len f, h1, rfl, ?_, fun i => ?_⟩
    · unfold slE
      rw [hlen]
      refine .xl (some a) cap (fun i j => (W.cell? (a.add (i * Enc.n α + j))).getD undef) h2 h3 (fun e => by cases e) (fun i j hi hj => ?_) (fun i j hi hj => ?_)
      · obtain ⟨c, hc, _, ho⟩ := (hf i).1 hi j hj
        refine ⟨a, rfl, ?_, ?_, ?_⟩
        · have := cell_lt hc
          rw [block_of_add] at this
          exact this
        · show W.cell? (a.add (i * Enc.n α + j)) = some _
          rw [hc]; rfl
        · rw [hc]; exact ho
      · obtain ⟨c, hc, hr, _⟩ := (hf i).1 hi j hj
        rw [hg i hi, hc]
        exact hr
    · by_cases hi : i < len
      · rw [hg i hi]; exact (hf i).2
      · rw [List.getD_eq_getElem?_getD, List.getElem?_eq_none (by omega)]
        exact hd
theorem cellsrow : Tryz.prog.cellsOf 38 = 5 := by kernel_rfl
theorem read_row {n : Nat} {cs : List Value} {x : DataW H × List MemPlace} (h : DataW.trod enc Tryz.prog W 0 spare held n 38 cs = some x) : ∃ g : Row, Tells W g cs ∧ True := by
  obtain ⟨xs, m, _, _, hl, hx, hf⟩ := DataW.trod_struct Tryz.underlying38 h
  rw [cellsrow] at hl
  match cs, hl with
  | [c0, c1, c2, c3, c4], _ =>
  have hx3 : xs.length = 5 := hx
  have g0 : DataW.trod enc Tryz.prog W 0 spare held m 3 (([c0, c1, c2, c3, c4].drop 0).take (Tryz.prog.cellsOf 3)) = xs[0]? := hf 0 _ rfl
  have g1 : DataW.trod enc Tryz.prog W 0 spare held m 3 (([c0, c1, c2, c3, c4].drop 1).take (Tryz.prog.cellsOf 3)) = xs[1]? := hf 1 _ rfl
  have g2 : DataW.trod enc Tryz.prog W 0 spare held m 3 (([c0, c1, c2, c3, c4].drop 2).take (Tryz.prog.cellsOf 3)) = xs[2]? := hf 2 _ rfl
  have g3 : DataW.trod enc Tryz.prog W 0 spare held m 3 (([c0, c1, c2, c3, c4].drop 3).take (Tryz.prog.cellsOf 3)) = xs[3]? := hf 3 _ rfl
  have g4 : DataW.trod enc Tryz.prog W 0 spare held m 3 (([c0, c1, c2, c3, c4].drop 4).take (Tryz.prog.cellsOf 3)) = xs[4]? := hf 4 _ rfl
  rw [cellsInt] at g0 g1 g2 g3 g4
  rw [List.getElem?_eq_getElem (by omega)] at g0 g1 g2 g3 g4
  obtain ⟨z0, e0, _⟩ := read_int g0
  obtain ⟨z1, e1, _⟩ := read_int g1
  obtain ⟨z2, e2, _⟩ := read_int g2
  obtain ⟨z3, e3, _⟩ := read_int g3
  obtain ⟨z4, e4, _⟩ := read_int g4
  simp only [List.drop_zero, List.drop_succ_cons, List.take_succ_cons, List.take_zero, List.cons.injEq, and_true] at e0 e1 e2 e3 e4
  subst e0 e1 e2 e3 e4
  refine ⟨⟨z0, z1, z2, z3, z4⟩, fun j hj => ?_, trivial⟩
  match j, hj with
  | 0, _ => exact ⟨.v _, rfl⟩
  | 1, _ => exact ⟨.v _, rfl⟩
  | 2, _ => exact ⟨.v _, rfl⟩
  | 3, _ => exact ⟨.v _, rfl⟩
  | 4, _ => exact ⟨.v _, rfl⟩
end
end Go.Te

namespace Go.Te
open Go Go.Sx Go.Proofs Go.Ar Go.RowKit
set_option maxRecDepth 100000
structure Qu where
  l : List Row
  w : Int
  d : Int
  s : Int
  q : Int
  sp : Str
instance : Enc Qu := ⟨6, ⟨[], 0, 0, 0, 0, []⟩, fun c => listFn [slE c.l, .i c.w, .i c.d, .i c.s, .i c.q, .str c.sp], fun cs => ⟨slD (cs 0), AV.int (cs 1), AV.int (cs 2), AV.int (cs 3), AV.int (cs 4), AV.bytes (cs 5)⟩,
  fun cs => slOk Row (cs 0) && isI64 (cs 1) && isI64 (cs 2) && isI64 (cs 3) && isI64 (cs 4) && isStr (cs 5), fun cs h j hj => by
  simp only [Bool.and_eq_true] at h
  match j, hj with
  | 0, _ => exact slE_sound h.1.1.1.1.1
  | 1, _ => exact avM_of_eq (isI64_eq h.1.1.1.1.2)
  | 2, _ => exact avM_of_eq (isI64_eq h.1.1.1.2)
  | 3, _ => exact avM_of_eq (isI64_eq h.1.1.2)
  | 4, _ => exact avM_of_eq (isI64_eq h.1.2)
  | 5, _ => exact avM_of_eq (isStr_eq h.2)⟩
instance : LawEnc Qu := ⟨fun c => by cases c; simp [Enc.enc, Enc.dec, listFn, slD_slE, AV.int, AV.bytes], fun c => by cases c; simp [Enc.enc, Enc.ok, listFn, slOk_slE, isI64, isStr]⟩
section
variable {H : Type} {enc : TypeId × Value → H} {W : World} {spare : Nat → Bool} {held : Bool}
theorem rel_string (s : ByteArray) {S : Nat → Prop} {ρ : Nat → Sx.Own} : Rel W S ρ (.str s.data.toList) (.string s) := by
  have h : Rel W S ρ (.str s.data.toList) (.string ⟨s.data.toList.toArray⟩) := .str _
  simpa using h
theorem cellsqu : Tryz.prog.cellsOf 25 = 6 := by kernel_rfl
theorem cellsStr : Tryz.prog.cellsOf 23 = 1 := by kernel_rfl
theorem cellsRows : Tryz.prog.cellsOf 22 = 1 := by kernel_rfl
theorem read_rows {n : Nat} {cs : List Value} {x : DataW H × List MemPlace} (h : DataW.trod enc Tryz.prog W 0 spare held n 22 cs = some x) :
    ∃ (v : Value) (l : List Row), cs = [v] ∧ v.oneCell' = true ∧ Rel W (Old W) rho0 (slE l) v ∧ ∀ j : Nat, True :=
  read_slice (α := Row) (Good := fun _ => True) Tryz.underlying22 cellsrow trivial read_row h
theorem read_qu {n : Nat} {cs : List Value} {x : DataW H × List MemPlace} (h : DataW.trod enc Tryz.prog W 0 spare held n 25 cs = some x) : ∃ g : Qu, Tells W g cs ∧ True := by
  obtain ⟨xs, m, _, _, hl, hx, hf⟩ := DataW.trod_struct Tryz.underlying25 h
  rw [cellsqu] at hl
  match cs, hl with
  | [c0, c1, c2, c3, c4, c5], _ =>
  have hx3 : xs.length = 6 := hx
  have g0 : DataW.trod enc Tryz.prog W 0 spare held m 22 (([c0, c1, c2, c3, c4, c5].drop 0).take (Tryz.prog.cellsOf 22)) = xs[0]? := hf 0 _ rfl
  have g1 : DataW.trod enc Tryz.prog W 0 spare held m 3 (([c0, c1, c2, c3, c4, c5].drop 1).take (Tryz.prog.cellsOf 3)) = xs[1]? := hf 1 _ rfl
  have g2 : DataW.trod enc Tryz.prog W 0 spare held m 3 (([c0, c1, c2, c3, c4, c5].drop 2).take (Tryz.prog.cellsOf 3)) = xs[2]? := hf 2 _ rfl
  have g3 : DataW.trod enc Tryz.prog W 0 spare held m 3 (([c0, c1, c2, c3, c4, c5].drop 3).take (Tryz.prog.cellsOf 3)) = xs[3]? := hf 3 _ rfl
  have g4 : DataW.trod enc Tryz.prog W 0 spare held m 3 (([c0, c1, c2, c3, c4, c5].drop 4).take (Tryz.prog.cellsOf 3)) = xs[4]? := hf 4 _ rfl
  have g5 : DataW.trod enc Tryz.prog W 0 spare held m 23 (([c0, c1, c2, c3, c4, c5].drop 5).take (Tryz.prog.cellsOf 23)) = xs[5]? := hf 5 _ rfl
  rw [cellsInt] at g1 g2 g3 g4
  rw [cellsRows] at g0
  rw [cellsStr] at g5
  rw [List.getElem?_eq_getElem (by omega)] at g0 g1 g2 g3 g4 g5
  obtain ⟨v, l, e0, o, r, _⟩ := read_rows g0
  obtain ⟨z1, e1, _⟩ := read_int g1
  obtain ⟨z2, e2, _⟩ := read_int g2
  obtain ⟨z3, e3, _⟩ := read_int g3
  obtain ⟨z4, e4, _⟩ := read_int g4
  obtain ⟨s5, e5, _⟩ := DataW.trod_string Tryz.underlying23 g5
  simp only [List.drop_zero, List.drop_succ_cons, List.take_succ_cons, List.take_zero, List.cons.injEq, and_true] at e0 e1 e2 e3 e4 e5
  subst e0 e1 e2 e3 e4 e5
  refine ⟨⟨l, z1, z2, z3, z4, s5.data.toList⟩, fun j hj => ?_, trivial⟩
  match j, hj with
  | 0, _ => exact ⟨r, o⟩
  | 1, _ => exact ⟨.v _, rfl⟩
  | 2, _ => exact ⟨.v _, rfl⟩
  | 3, _ => exact ⟨.v _, rfl⟩
  | 4, _ => exact ⟨.v _, rfl⟩
  | 5, _ => exact ⟨rel_string s5, rfl⟩
theorem read_quV {cs : Array Value} {d : DataW H} {ps : List MemPlace} (h : DataW.Trod enc Tryz.prog W 0 spare held 25 (.agg cs) d ps) (hs : cs.size = 6) : ∃ b : Qu, Rel W (Old W) rho0 (agE b) (.agg cs) := by
  obtain ⟨m, h⟩ := h
  have hcs : (Value.agg cs).cells.toList = cs.toList := rfl
  rw [hcs] at h
  obtain ⟨b, hb, _⟩ := read_qu h
  refine ⟨b, .agg cs hs fun i hi => ?_⟩
  have e : cs.getD i undef = cs.toList.getD i undef := by
    rw [Array.getD_eq_getD_getElem?, List.getD_eq_getElem?_getD, Array.getElem?_toList]
  rw [e]
  exact (hb i hi).1
end
end Go.Te

namespace Go.Te
open Go Go.Sx Go.Proofs Go.Ar Go.Lib
set_option maxRecDepth 100000
set_option maxHeartbeats 4000000
def rstart_t : List AV → Option (List Cond × AV)
  | [x_l, .v (.int .i64 w), .v (.int .i64 d), .v (.int .i64 s), .v (.int .i64 q)] => some ([.b (slOk Row x_l)], .i (askE (slD (α := Row) x_l) w d s q))
  | _ => none
theorem rstart_vc (l : List Row) (w : Int) (d : Int) (s : Int) (q : Int) :
 bndL [AV.xl false 5 (List.length l) fun i j => Enc.enc (List.getD l i Enc.dflt) j, AV.v (Value.int .i64 w), AV.v (Value.int .i64 d), AV.v (Value.int .i64 s), AV.v (Value.int .i64 q)] → bsplit (slOk Row (AV.xl false 5 (List.length l) fun i j => Enc.enc (List.getD l i Enc.dflt) j)) (bsplit (tabE (rowsOf (AV.xl false 5 (List.length l) fun i j => Enc.enc (List.getD l i Enc.dflt) j)) != (0 : Int)) (IntKind.i64 = .i64 ∧ (1 : Int) = askE l w d s q) (IntKind.i64 = .i64 ∧ (bif rangB w d s q then (0 : Int) else (2 : Int)) = askE l w d s q)) False := by
  intro hb
  have e2 : (Enc.dflt : Row) = r0 := rfl
  simp only [sS, agD_row, agOk_row, agD_row', agOk_row', okIn, okIn', deI, deI', okR, okR', deR, deR', deRo, deRo', e2]
  unfold askE
  refine ⟨fun h => by rw [bne_iff_ne.2 h]; rfl, fun h => ?_⟩
  rw [h]
  cases rangB w d s q <;> rfl
theorem rstart_C (l : List Row) (w : Int) (d : Int) (s : Int) (q : Int) : PureCall Tryz.prog [] 84 [slE l, .i w, .i d, .i s, .i q] (.i (askE l w d s q)) :=
  pure_of_vc (T := ((T0.plus 20 rcheck_t).plus 62 rconds_t)) (an := .auto) mixed (TbSound.plus (TbSound.plus tb0_sound rcheck_T) rconds_T) (Eq.mp (by kernel_rfl) (rstart_vc l w d s q))
theorem rstart_T : PureT Tryz.prog [] 84 rstart_t := by
  intro xs ps r h hp
  unfold rstart_t at h
  split at h
  · skip
    rename_i x_l w d s q
    cases h
    obtain ⟨q0, -⟩ := allC hp
    exact weaken (ys := [slE (slD (α := Row) x_l), .i w, .i d, .i s, .i q]) ⟨slE_sound q0, avM_refl _, avM_refl _, avM_refl _, avM_refl _, trivial⟩ (rstart_C (slD (α := Row) x_l) w d s q)
  · cases h
def rfind_t : List AV → Option (List Cond × AV)
  | [x_l, .v (.int .i64 w), .v (.int .i64 d), .v (.int .i64 s), .v (.int .i64 q)] => some ([.b (slOk Row x_l)], .tup 2 (listFn [.i (findV (slD (α := Row) x_l) w d s q), .i (findE (slD (α := Row) x_l) w d s q)]))
  | _ => none
theorem rfind_vc (l : List Row) (w : Int) (d : Int) (s : Int) (q : Int) :
 let q2 := (AV.xl false 5 (List.length l) fun i j => Enc.enc (List.getD l i Enc.dflt) j); let q1 := (slOk Row q2); let q3 := (slD q2); let q4 := (True ∧ IntKind.i64 = .i64 ∧ (0 : Int) = findV l w d s q); let q5 := (rowsOf q2); bndL [AV.xl false 5 (List.length l) fun i j => Enc.enc (List.getD l i Enc.dflt) j, AV.v (Value.int .i64 w), AV.v (Value.int .i64 d), AV.v (Value.int .i64 s), AV.v (Value.int .i64 q)] → bsplit q1 (bsplit (askE q3 w d s q != (0 : Int)) (2 = List.length [AV.junk, AV.junk] ∧ q4 ∧ IntKind.i64 = .i64 ∧ askE q3 w d s q = findE l w d s q) (bsplit q1 (bsplit (findR q5 w d s q == (0
 : Int)) (2 = List.length [AV.junk, AV.junk] ∧ q4 ∧ IntKind.i64 = .i64 ∧ (25 : Int) = findE l w d s q) (2 = List.length [AV.junk, AV.junk] ∧ (True ∧ IntKind.i64 = .i64 ∧ findR q5 w d s q = findV l w d s q) ∧ IntKind.i64 = .i64 ∧ (0 : Int) = findE l w d s q)) False)) False := by
  dsimp only
  intro hb
  have e2 : (Enc.dflt : Row) = r0 := rfl
  simp only [sS, agD_row, agOk_row, agD_row', agOk_row', okIn, okIn', deI, deI', okR, okR', deR, deR', deRo, deRo', e2]
  refine ⟨fun h => ?_, fun h => ⟨fun h2 => ?_, fun h2 => ?_⟩⟩
  · have e : findE l w d s q = askE l w d s q := by unfold findE; rw [bne_iff_ne.2 h]; rfl
    exact ⟨rfl, by unfold findV; rw [e, beq_false_of_ne h]; rfl, e.symm⟩
  · have e : findE l w d s q = 25 := by unfold findE; rw [h, h2]; rfl
    exact ⟨rfl, by unfold findV; rw [e]; rfl, e.symm⟩
  · have e : findE l w d s q = 0 := by unfold findE; rw [h, beq_false_of_ne h2]; rfl
    exact ⟨rfl, by unfold findV; rw [e]; rfl, e.symm⟩
theorem rfind_C (l : List Row) (w : Int) (d : Int) (s : Int) (q : Int) : PureCall Tryz.prog [] 34 [slE l, .i w, .i d, .i s, .i q] (.tup 2 (listFn [.i (findV l w d s q), .i (findE l w d s q)])) :=
  pure_of_vc (T := ((T0.plus 84 rstart_t).plus 80 rfnd_t)) (an := .auto) mixed (TbSound.plus (TbSound.plus tb0_sound rstart_T) rfnd_T) (Eq.mp (by kernel_rfl) (rfind_vc l w d s q))
theorem rfind_T : PureT Tryz.prog [] 34 rfind_t := by
  intro xs ps r h hp
  unfold rfind_t at h
  split at h
  · skip
    rename_i x_l w d s q
    cases h
    obtain ⟨q0, -⟩ := allC hp
    exact weaken (ys := [slE (slD (α := Row) x_l), .i w, .i d, .i s, .i q]) ⟨slE_sound q0, avM_refl _, avM_refl _, avM_refl _, avM_refl _, trivial⟩ (rfind_C (slD (α := Row) x_l) w d s q)
  · cases h
def fineB (c : Qu) : Bool := leB c.l.length 12 && leB c.sp.length 40 && ratE c.sp == 0 && !(c.sp.getD 0 0 == 45) && (findE c.l c.w c.d c.s c.q == 0 || findE c.l c.w c.d c.s c.q == 25)
noncomputable def Tfi (G : List (Nat × Obj)) : Tb := ((tb0 G).plus 12 r2check_t).plus 34 rfind_t
theorem Tfi_sound {G : List (Nat × Obj)} (hG : TabIn G) : TbSound Tryz.prog (Tfi G) := TbSound.plus (TbSound.plus tb0_sound (r2check_T hG)) (PureT.mono rfind_T)
def fine_t : List AV → Option (List Cond × AV)
  | [x_c] => some ([.b (agOk Qu x_c)], .b (fineB (agD (α := Qu) x_c)))
  | _ => none
theorem fine_vc (G : List (Nat × Obj)) (c : Qu) :
 let q2 := (ltB (12 : Int) (↑(List.length (Qu.l c)) : Int)); let q1 := (!bsel false q2 || bsel false q2); let q4 := (bif ltB (12 : Int) (↑(List.length (Qu.l c)) : Int) then true else ltB (40 : Int) (↑(List.length (Qu.sp c)) : Int)); let q3 := (!bsel false q4 || bsel false q4); let q6 := (bif bif ltB (12 : Int) (↑(List.length (Qu.l c)) : Int) then true else ltB (40 : Int) (↑(List.length (Qu.sp c)) : Int) then true else ratE (Qu.sp c) != (0 : Int)); let q5 := (!bsel false q6 || bsel false q6); let q7 := (AV.xl false 5 (List.length (Qu.l c)) fun i j => Enc.enc (List.getD (Qu.l c) i Enc.dflt) j);
 let q9 := (slD q7); let q8 := (findE q9 (Qu.w c) (Qu.d c) (Qu.s c) (Qu.q c) == (0 : Int)); bndL [AV.agg 6 (Enc.enc c)] → bsplit q1 (bsplit q1 (bsplit q1 (bsplit (!!ltB (12 : Int) (↑(List.length (Qu.l c)) : Int) || bsel false q2) (bsplit q3 (bsplit q3 ((bsel false q4 = true → List.length (Qu.sp c) ≤ 100000000) ∧ bsplit q3 (bsplit ((!!bif ltB (12 : Int) (↑(List.length (Qu.l c)) : Int) then true else ltB (40 : Int) (↑(List.length (Qu.sp c)) : Int)) || bsel false q4) (bsplit q5 (bsplit q5 (bsplit (!bsel false q6 || DB.db ((0 : Int) ≤ (0 : Int) ∧ (0 : Int) < (↑(List.length (Qu.sp c)) : Int)))
 (bsplit q5 (bsplit ((!!bif bif ltB (12 : Int) (↑(List.length (Qu.l c)) : Int) then true else ltB (40 : Int) (↑(List.length (Qu.sp c)) : Int) then true else ratE (Qu.sp c) != (0 : Int)) || bsel false q6) (bsplit (bif bif bif ltB (12 : Int) (↑(List.length (Qu.l c)) : Int) then true else ltB (40 : Int) (↑(List.length (Qu.sp c)) : Int) then true else ratE (Qu.sp c) != (0 : Int) then true else (↑(UInt8.toNat (List.getD (Qu.sp c) 0 (0 : UInt8))) : Int) == (45 : Int)) (false = fineB c) (bsplit (slOk Row q7) (bsplit (!bsel false q8 || bsel false q8) (bsplit (!!findE q9 (Qu.w c) (Qu.d c) (Qu.s c) (Qu.q
 c) == (0 : Int) || bsel false q8) ((bif findE q9 (Qu.w c) (Qu.d c) (Qu.s c) (Qu.q c) == (0 : Int) then true else findE q9 (Qu.w c) (Qu.d c) (Qu.s c) (Qu.q c) == (25 : Int)) = fineB c) False) False) False)) False) False) False) False) False) False) False) False) False) False) False) False) False := by
  dsimp only
  intro hb
  have e2 : (Enc.dflt : Row) = r0 := rfl
  simp only [↓vc_db, ↓vc_gdb, row_one]
  simp only [sS, agD_row, agOk_row, agD_row', agOk_row', okIn, okIn', deI, deI', okR, okR', deR, deR', deRo, deRo', e2]
  have pos : ratE c.sp = 0 → 0 < c.sp.length := fun h => by
    obtain ⟨h1, _⟩ := ratE_zero.1 h
    match c.sp, h1 with
    | [], h1 => cases h1
    | x :: r, _ => simp
  rw [show (((c.sp.getD 0 0).toNat : Int) == 45) = (c.sp.getD 0 0 == 45) from byte_eq (c.sp.getD 0 0) 45 (by decide)]
  refine ⟨fun h => ?_, fun h => ⟨Int.le_refl _, ?_⟩, bsplit_iff.2 ⟨fun h => ?_, fun h => ?_⟩⟩
  · rw [Bool.not_eq_true', Bool.or_eq_false_iff, Bool.eq_false_iff, Bool.eq_false_iff, Ne, Ne, ltB_iff, ltB_iff] at h; omega
  · rw [Bool.not_eq_true', Bool.or_eq_false_iff, bne_eq_false_iff_eq] at h
    have := pos h.2
    omega
  · unfold fineB
    refine (Bool.eq_false_iff.2 fun e => ?_).symm
    simp only [Bool.and_eq_true, Bool.not_eq_true', beq_iff_eq, leB_iff] at e
    rw [e.1.2, e.1.1.2, show ltB 12 (c.l.length : Int) = false by rw [Bool.eq_false_iff, Ne, ltB_iff]; omega, show ltB 40 (c.sp.length : Int) = false by rw [Bool.eq_false_iff, Ne, ltB_iff]; omega] at h
    cases h
  · unfold fineB
    simp only [Bool.or_eq_false_iff, bne_eq_false_iff_eq] at h
    obtain ⟨⟨⟨h1, h2⟩, h3⟩, h4⟩ := h
    rw [Bool.eq_false_iff, Ne, ltB_iff] at h1 h2
    rw [h3, h4, (leB_iff _ _).2 (by omega), (leB_iff _ _).2 (by omega)]
    rfl
theorem fine_C {G : List (Nat × Obj)} (hG : TabIn G) (c : Qu) : PureCall Tryz.prog G 11 [agE c] (.b (fineB c)) :=
  pure_of_vc (T := (Tfi G)) (an := .auto) mixed (Tfi_sound hG) (Eq.mp (by kernel_rfl) (fine_vc G c))
theorem fine_T {G : List (Nat × Obj)} (hG : TabIn G) : PureT Tryz.prog G 11 fine_t := by
  intro xs ps r h hp
  unfold fine_t at h
  split at h
  · skip
    rename_i x_c
    cases h
    obtain ⟨q0, -⟩ := allC hp
    exact weaken (ys := [agE (agD (α := Qu) x_c)]) ⟨agE_sound q0, trivial⟩ (fine_C hG (agD (α := Qu) x_c))
  · cases h
theorem agD_qu (c : Qu) : agD (.agg 6 fun i => Enc.enc c i) = c := agD_agE c
theorem agOk_qu (c : Qu) : agOk Qu (.agg 6 fun i => Enc.enc c i) = true := agOk_agE c
end Go.Te

namespace Go.Te
open Go Go.Sx Go.Proofs Go.Ar
set_option maxRecDepth 100000
set_option maxHeartbeats 4000000
def lnE (a : Str) : Int := bif ratE a != 0 then ratE a else bif a.getD 0 0 == 45 then 2 else 0
theorem rat_pos {a : Str} (h : ratE a = 0) : 0 < a.length := by
  obtain ⟨h1, _⟩ := ratE_zero.1 h
  match a, h1 with
  | [], h1 => cases h1
  | x :: r, _ => simp
def csp_t : List AV → Option (List Cond × AV)
  | [.str a] => some ([.p (a.length ≤ 4294967280)], .i (lnE a))
  | _ => none
theorem csp_vc (G : List (Nat × Obj)) (a : List UInt8) (hl : a.length ≤ 4294967280) :
 bndL [AV.str a] → List.length a ≤ 4294967280 ∧ bsplit (ratE a != (0 : Int)) (IntKind.i64 = .i64 ∧ ratE a = lnE a) (bsplit (DB.db ((0 : Int) ≤ (0 : Int) ∧ (0 : Int) < (↑(List.length a) : Int))) (bsplit ((↑(UInt8.toNat (List.getD a 0 (0 : UInt8))) : Int) == (45 : Int)) (IntKind.i64 = .i64 ∧ (2 : Int) = lnE a) (IntKind.i64 = .i64 ∧ (0 : Int) = lnE a)) False) := by
  intro hb
  simp only [sS, agD_row, agOk_row, agD_row', agOk_row', okIn, okIn', deI, deI', okR, okR', deR, deR', deRo, deRo', ltB_nat]
  have e45 : (((a.getD 0 0).toNat : Int) = 45) ↔ (a.getD 0 0 == 45) = true := by
    have := byte_eq (a.getD 0 0) 45 (by decide)
    rw [← beq_iff_eq (a := ((a.getD 0 0).toNat : Int)) (b := 45)]
    rw [show (((a.getD 0 0).toNat : Int) == 45) = (a.getD 0 0 == 45) from this]
  unfold lnE
  refine ⟨hl, fun h => by rw [bne_iff_ne.2 h]; rfl, fun h => ⟨⟨Int.le_refl _, by have := rat_pos h; omega⟩, fun h2 => ?_, fun h2 => ?_⟩⟩
  · rw [h, e45.1 h2]; rfl
  · rw [h, show (a.getD 0 0 == 45) = false from Bool.eq_false_iff.2 fun e => h2 (e45.2 e)]; rfl
theorem csp_C {G : List (Nat × Obj)} (hG : TabIn G) (a : List UInt8) (hl : a.length ≤ 4294967280) : PureCall Tryz.prog G 56 [.str a] (.i (lnE a)) :=
  pure_of_vc (T := (tb0 G).plus 110 rchk_t) (an := .auto) mixed (TbSound.plus tb0_sound (rchk_T hG)) (Eq.mp (by kernel_rfl) (csp_vc G a hl))
theorem csp_T {G : List (Nat × Obj)} (hG : TabIn G) : PureT Tryz.prog G 56 csp_t := by
  intro xs ps r h hp
  unfold csp_t at h
  split at h
  · skip
    rename_i a
    cases h
    obtain ⟨q0, -⟩ := allC hp
    exact weaken (ys := [.str a]) ⟨avM_refl _, trivial⟩ (csp_C hG a q0)
  · cases h
theorem rat_itoa {n : Int} (h : inK .i64 n) : ratE (Lib.itoa n) = 0 ∧ ratN (Lib.itoa n) = n ∧ ratD (Lib.itoa n) = 1 ∧ (Lib.itoa n).length ≤ 21 := by
  have hs : showR n 1 = Lib.itoa n := by unfold showR; show Lib.itoa n ++ [] = _; rw [List.append_nil]
  obtain ⟨p1, p2, p3, p4, p5⟩ := showR_parts n (d := 1) (by omega)
  rw [hs] at p1 p2 p3 p4 p5
  simp only [inK] at h
  have hn : nDg n ≤ 20 := nDg_le (by omega) (by omega)
  refine ⟨ratE_zero.2 ⟨p1, by omega, by rw [p5]; simp, by rw [p3]; exact Nat.gcd_one_right _⟩, p2, p3, ?_⟩
  rw [itoa_len]
  split <;> omega
def of1_t : List AV → Option (List Cond × AV)
  | [.v (.int .i64 n), .v (.int .i64 d)] => some ([.b (d == 1), .p (inK .i64 n)], .tup 2 (listFn [.str (Lib.itoa n), .i 0]))
  | _ => none
theorem of1_T {G : List (Nat × Obj)} (hG : TabIn G) : PureT Tryz.prog G 89 of1_t := by
  intro xs ps r h hp
  unfold of1_t at h
  split at h
  · rename_i n d
    cases h
    have q : (d == 1) = true := hp _ List.mem_cons_self
    have q1 : inK .i64 n := hp _ (List.mem_cons_of_mem _ List.mem_cons_self)
    obtain rfl := eq_of_beq q
    exact of1_C hG n q1
  · cases h
def fitE (n : Int) (a : Str) : Int := rcE a (Lib.itoa n)
def fitB (n : Int) (a : Str) : Bool := fitE n a == 0 && ltB 0 n && leB (ratN a) (n * (ratD a : Int))
def sfits_t : List AV → Option (List Cond × AV)
  | [.v (.int .i64 n), .str a] => some ([.p (inK .i64 n), .p (a.length ≤ 4294967280), .p (ratE a = 0)], .tup 2 (listFn [.b (fitB n a), .i (fitE n a)]))
  | _ => none
theorem sfits_vc (G : List (Nat × Obj)) (n : Int) (a : List UInt8) (hn : inK .i64 n) (hl : a.length ≤ 4294967280) (hr : ratE a = 0) :
 bndL [AV.v (Value.int .i64 n), AV.str a] → ((-9223372036854775808 : Int) ≤ n ∧ n ≤ (9223372036854775807 : Int)) ∧ List.length a ≤ 4294967280 ∧ List.length (Lib.itoa n) ≤ 4294967280 ∧ bsplit (!bsel true (rcE a (Lib.itoa n) == (0 : Int)) || bsel true (rcE a (Lib.itoa n) == (0 : Int))) (bsplit (!rcE a (Lib.itoa n) == (0 : Int) || bsel true (rcE a (Lib.itoa n) == (0 : Int))) (bsplit (!bsel true (bif rcE a (Lib.itoa n) == (0 : Int) then ltB (0 : Int) n else false) || bsel true (bif rcE a (Lib.itoa n) == (0 : Int) then ltB (0 : Int) n else false)) (bsplit ((!bif rcE a (Lib.itoa n) == (0 : Int) then
 ltB (0 : Int) n else false) || bsel true (bif rcE a (Lib.itoa n) == (0 : Int) then ltB (0 : Int) n else false)) (2 = List.length [AV.junk, AV.junk] ∧ (True ∧ (bif bif rcE a (Lib.itoa n) == (0 : Int) then ltB (0 : Int) n else false then leB (rcV a (Lib.itoa n)) (0 : Int) else false) = fitB n a) ∧ IntKind.i64 = .i64 ∧ rcE a (Lib.itoa n) = fitE n a) False) False) False) False := by
  intro hb
  simp only [sS, agD_row, agOk_row, agD_row', agOk_row', okIn, okIn', deI, deI', okR, okR', deR, deR', deRo, deRo', ltB_nat]
  obtain ⟨r1, r2, r3, r4⟩ := rat_itoa hn
  refine ⟨hn, hl, by omega, rfl, ?_, rfl⟩
  unfold fitB fitE
  cases he : rcE a (Lib.itoa n) == 0 with
  | false => rfl
  | true =>
    rw [rc_E (eq_of_beq he), r2, r3]
    have : leB (cmpI (ratN a * ((1 : Nat) : Int)) (n * (ratD a : Int))) 0 = leB (ratN a) (n * (ratD a : Int)) := by
      rw [Bool.eq_iff_iff, leB_iff, leB_iff, show ratN a * ((1 : Nat) : Int) = ratN a from Int.mul_one _]
      unfold cmpI
      generalize n * (ratD a : Int) = m
      by_cases h1 : ratN a < m
      · rw [(ltB_iff _ _).2 h1]; simp; omega
      · rw [show ltB (ratN a) m = false from Bool.eq_false_iff.2 fun e => h1 ((ltB_iff _ _).1 e)]
        by_cases h2 : ratN a = m
        · rw [h2, beq_self_eq_true]; simp
        · rw [beq_eq_false_iff_ne.2 h2]; simp; omega
    rw [this]
theorem sfits_C {G : List (Nat × Obj)} (hG : TabIn G) (n : Int) (a : List UInt8) (hn : inK .i64 n) (hl : a.length ≤ 4294967280) (hr : ratE a = 0) : PureCall Tryz.prog G 57 [.i n, .str a] (.tup 2 (listFn [.b (fitB n a), .i (fitE n a)])) :=
  pure_of_vc (T := ((tb0 G).plus 89 of1_t).plus 90 rCmp_t) (an := .auto) mixed (TbSound.plus (TbSound.plus tb0_sound (of1_T hG)) (rCmp_T hG)) (Eq.mp (by kernel_rfl) (sfits_vc G n a hn hl hr))
theorem sfits_T {G : List (Nat × Obj)} (hG : TabIn G) : PureT Tryz.prog G 57 sfits_t := by
  intro xs ps r h hp
  unfold sfits_t at h
  split at h
  · skip
    rename_i n a
    cases h
    obtain ⟨q0, q1, q2, -⟩ := allC hp
    exact weaken (ys := [.i n, .str a]) ⟨avM_refl _, avM_refl _, trivial⟩ (sfits_C hG n a q0 q1 q2)
  · cases h
theorem find_bound {l : List Row} {w d s q : Int} (h : tabE l = 0) : 0 ≤ findR l w d s q ∧ findR l w d s q ≤ 1073741824 := by
  refine ⟨findZ_nonneg _ _ _ _ _ _, findZ_le (by omega) fun i hi => ?_⟩
  obtain ⟨_, h2⟩ := rowE_ok ((tabE_ok h).2 i hi)
  have := between_iff.1 h2
  omega
def alE (l : List Row) (w d s q : Int) (a : Str) : Int := bif askE l w d s q != 0 then askE l w d s q else bif lnE a != 0 then lnE a else fitE (findR l w d s q) a
def alB (l : List Row) (w d s q : Int) (a : Str) : Bool := bif askE l w d s q != 0 then false else bif lnE a != 0 then false else fitB (findR l w d s q) a
def sallow_t : List AV → Option (List Cond × AV)
  | [x_l, .v (.int .i64 w), .v (.int .i64 d), .v (.int .i64 s), .v (.int .i64 q), .str a] => some ([.b (slOk Row x_l), .p (a.length ≤ 4294967280)], .tup 2 (listFn [.b (alB (slD (α := Row) x_l) w d s q a), .i (alE (slD (α := Row) x_l) w d s q a)]))
  | _ => none
theorem sallow_vc (G : List (Nat × Obj)) (l : List Row) (w : Int) (d : Int) (s : Int) (q : Int) (a : List UInt8) (hl : a.length ≤ 4294967280) :
 let q2 := (AV.xl false 5 (List.length l) fun i j => Enc.enc (List.getD l i Enc.dflt) j); let q1 := (slOk Row q2); let q3 := (rowsOf q2); let q4 := (findR q3 w d s q); bndL [AV.xl false 5 (List.length l) fun i j => Enc.enc (List.getD l i Enc.dflt) j, AV.v (Value.int .i64 w), AV.v (Value.int .i64 d), AV.v (Value.int .i64 s), AV.v (Value.int .i64 q), AV.str a] → bsplit q1 (bsplit (askE q3 w d s q != (0 : Int)) (2 = List.length [AV.junk, AV.junk] ∧ (True ∧ false = alB l w d s q a) ∧ IntKind.i64 = .i64 ∧ askE q3 w d s q = alE l w d s q a) (List.length a ≤ 4294967280 ∧ bsplit (lnE a != (0 : Int)) (2
 = List.length [AV.junk, AV.junk] ∧ (True ∧ false = alB l w d s q a) ∧ IntKind.i64 = .i64 ∧ lnE a = alE l w d s q a) (bsplit q1 (((-9223372036854775808 : Int) ≤ findR q3 w d s q ∧ findR q3 w d s q ≤ (9223372036854775807 : Int)) ∧ List.length a ≤ 4294967280 ∧ ratE a = (0 : Int) ∧ 2 = List.length [AV.junk, AV.junk] ∧ (True ∧ fitB q4 a = alB l w d s q a) ∧ IntKind.i64 = .i64 ∧ fitE q4 a = alE l w d s q a) False))) False := by
  dsimp only
  intro hb
  have e2 : (Enc.dflt : Row) = r0 := rfl
  simp only [sS, agD_row, agOk_row, agD_row', agOk_row', okIn, okIn', deI, deI', okR, okR', deR, deR', deRo, deRo', e2]
  refine ⟨fun h => ?_, fun h => ⟨hl, fun h2 => ?_, fun h2 => ?_⟩⟩
  · unfold alB alE
    rw [bne_iff_ne.2 h]
    exact ⟨rfl, rfl, rfl⟩
  · unfold alB alE
    rw [h, bne_iff_ne.2 h2]
    exact ⟨rfl, rfl, rfl⟩
  · have ht : tabE l = 0 := by
      refine Decidable.byContradiction fun e => ?_
      unfold askE at h
      rw [bne_iff_ne.2 e] at h
      cases h
    have hr : ratE a = 0 := by
      refine Decidable.byContradiction fun e => ?_
      unfold lnE at h2
      rw [bne_iff_ne.2 e] at h2
      exact e h2
    have hb := find_bound (w := w) (d := d) (s := s) (q := q) ht
    unfold alB alE
    rw [h, h2]
    exact ⟨⟨by omega, by omega⟩, hl, hr, rfl, rfl, rfl⟩
theorem sallow_C {G : List (Nat × Obj)} (hG : TabIn G) (l : List Row) (w : Int) (d : Int) (s : Int) (q : Int) (a : List UInt8) (hl : a.length ≤ 4294967280) : PureCall Tryz.prog G 15 [slE l, .i w, .i d, .i s, .i q, .str a] (.tup 2 (listFn [.b (alB l w d s q a), .i (alE l w d s q a)])) :=
  pure_of_vc (T := ((((tb0 G).plus 55 ask_t).plus 56 csp_t).plus 58 allowed_t).plus 57 sfits_t) (an := .auto) mixed (TbSound.plus (TbSound.plus (TbSound.plus (TbSound.plus tb0_sound (PureT.mono ask_T)) (csp_T hG)) (PureT.mono allowed_T)) (sfits_T hG)) (Eq.mp (by kernel_rfl) (sallow_vc G l w d s q a hl))
theorem sallow_T {G : List (Nat × Obj)} (hG : TabIn G) : PureT Tryz.prog G 15 sallow_t := by
  intro xs ps r h hp
  unfold sallow_t at h
  split at h
  · skip
    rename_i x_l w d s q a
    cases h
    obtain ⟨q0, q1, -⟩ := allC hp
    exact weaken (ys := [slE (slD (α := Row) x_l), .i w, .i d, .i s, .i q, .str a]) ⟨slE_sound q0, avM_refl _, avM_refl _, avM_refl _, avM_refl _, avM_refl _, trivial⟩ (sallow_C hG (slD (α := Row) x_l) w d s q a q1)
  · cases h
end Go.Te

namespace Go.Te
open Go Go.Sx Go.Proofs Go.Ar
set_option maxRecDepth 100000
set_option maxHeartbeats 4000000
section
variable {H : Type} {enc : TypeId × Value → H} {W : World} {spare : Nat → Bool} {held : Bool}
theorem read_u16 {n : Int} {d : DataW H} {ps : List MemPlace} (h : DataW.Trod enc Tryz.prog W 0 spare held 26 (.int .u16 n) d ps) : 0 ≤ n ∧ n ≤ 65535 := by
  obtain ⟨m, h⟩ := h
  obtain ⟨k, h1, _, h3⟩ := DataW.trod_int Tryz.underlying26 h
  have e : [Value.int .u16 n] = [.int .u16 k] := h1
  cases e
  simp only [Lit.wf, Bool.and_eq_true, decide_eq_true_eq] at h3
  have h4 : (0 : Int) ≤ n ∧ n ≤ 65535 := h3
  exact h4
end
theorem find_mono {l : List Row} {w d s q w' d' s' q' : Int} (h1 : w ≤ w') (h2 : d ≤ d') (h3 : s' ≤ s) (h4 : q' ≤ q) : findR l w d s q ≤ findR l w' d' s' q' := by
  unfold findR
  rcases findZ_from (l := l) (w := w) (d := d) (s := s) (q := q) (z := l.length) with h | ⟨i, hi, he, hn⟩
  · rw [h]; exact findZ_nonneg _ _ _ _ _ _
  · rw [← hn]
    refine findZ_ge hi ?_
    unfold enoB at he ⊢
    simp only [Bool.and_eq_true, leB_iff] at he ⊢
    omega
theorem rat_len {a : Str} (hr : ratE a = 0) (hl : a.length ≤ 40) : (ratN a).natAbs < 10 ^ 40 ∧ ratD a < 10 ^ 40 ∧ 0 < ratD a := by
  obtain ⟨g1, g2, g3⟩ := form_iff.1 (rat_form hr)
  have l1 := cutN_len (ownS a)
  have l2 := cutD_len (ownS a)
  have l3 := ownS_len a
  refine ⟨by rw [ratN_abs]; exact decV_bound g1 (by omega), ?_, ratD_pos (ratE_zero.1 hr).1⟩
  rw [(own_cut (a := a)).2]
  cases hs : slashB (ownS a) with
  | false => show 1 < 10 ^ 40; decide
  | true => exact decV_bound (g3 hs).1 (by omega)
theorem al_ok {l : List Row} {w d s q : Int} {a : Str} (hA : askE l w d s q = 0) (hr : ratE a = 0) (h45 : (a.getD 0 0 == 45) = false) (hl : a.length ≤ 40) :
    alE l w d s q a = 0 ∧ alB l w d s q a = (ltB 0 (findR l w d s q) && leB (ratN a) (findR l w d s q * (ratD a : Int))) := by
  have ht : tabE l = 0 := by
    refine Decidable.byContradiction fun e => ?_
    unfold askE at hA
    rw [bne_iff_ne.2 e] at hA
    cases hA
  have hn := find_bound (w := w) (d := d) (s := s) (q := q) ht
  have hL : lnE a = 0 := by unfold lnE; rw [hr, h45]; rfl
  obtain ⟨b1, b2, b3⟩ := rat_len hr hl
  unfold alE alB fitB fitE
  rw [hA, hL]
  generalize findR l w d s q = n at *
  obtain ⟨i1, i2, i3, _⟩ := rat_itoa (n := n) ⟨by omega, by omega⟩
  have e1 : resE (ratN a * (ratD (Lib.itoa n) : Int)) = 0 := by
    rw [i3, show ratN a * ((1 : Nat) : Int) = ratN a from Int.mul_one _]
    exact (res_small (k := 40) (by omega) (by omega) b1).2
  have e2 : resE (ratN (Lib.itoa n) * (ratD a : Int)) = 0 := by
    rw [i2]
    refine (res_small (k := 50) (by omega) (by omega) ?_).2
    rw [Int.natAbs_mul, Int.natAbs_natCast, show 10 ^ 50 = 10 ^ 10 * 10 ^ 40 from Nat.pow_add 10 10 40]
    exact Nat.mul_lt_mul'' (by omega) b2
  have e : rcE a (Lib.itoa n) = 0 := by rw [rc_D hr i1 e1, e2]
  rw [e]
  exact ⟨rfl, rfl⟩
theorem fine_ask {c : Qu} (h : fineB c = true) : askE c.l c.w c.d c.s c.q = 0 ∧ ratE c.sp = 0 ∧ (c.sp.getD 0 0 == 45) = false ∧ c.sp.length ≤ 40 := by
  unfold fineB at h
  simp only [Bool.and_eq_true, Bool.not_eq_true', Bool.or_eq_true, beq_iff_eq, leB_iff] at h
  obtain ⟨⟨⟨⟨h1, h2⟩, h3⟩, h4⟩, h5⟩ := h
  refine ⟨?_, h3, by simpa using h4, by omega⟩
  unfold findE at h5
  unfold askE at h5 ⊢
  cases ht : tabE c.l != 0 with
  | true =>
    rw [ht] at h5
    simp at h5
  | false =>
    rw [ht] at h5
    cases hr : rangB c.w c.d c.s c.q with
    | true => rfl
    | false =>
      rw [hr] at h5
      simp at h5
theorem ask_split {l : List Row} {w d s q : Int} : askE l w d s q = 0 ↔ tabE l = 0 ∧ (1 ≤ w ∧ w ≤ 1000) ∧ (1 ≤ d ∧ d ≤ 1000) ∧ (1 ≤ s ∧ s ≤ 65536) ∧ (0 ≤ q ∧ q ≤ 1048576) := by
  have hr : rangB w d s q = true ↔ (1 ≤ w ∧ w ≤ 1000) ∧ (1 ≤ d ∧ d ≤ 1000) ∧ (1 ≤ s ∧ s ≤ 65536) ∧ (0 ≤ q ∧ q ≤ 1048576) := by
    unfold rangB condB
    rw [Bool.and_eq_true, Bool.and_eq_true, Bool.and_eq_true, between_iff, between_iff, between_iff, between_iff]
    constructor
    · rintro ⟨⟨a, b⟩, c, d⟩; exact ⟨a, b, c, d⟩
    · rintro ⟨a, b, c, d⟩; exact ⟨⟨a, b⟩, c, d⟩
  rw [← hr]
  unfold askE
  cases ht : tabE l != 0 with
  | true =>
    rw [bne_iff_ne] at ht
    exact ⟨fun h => (by cases h), fun h => absurd h.1 ht⟩
  | false =>
    rw [bne_eq_false_iff_eq] at ht
    cases hq : rangB w d s q with
    | true => exact ⟨fun _ => ⟨ht, rfl⟩, fun _ => rfl⟩
    | false => exact ⟨fun h => (by cases h), fun h => (by cases h.2)⟩
theorem al_mono {l : List Row} {w d s q w' d' s' q' : Int} {a b : Str} (hA : askE l w d s q = 0) (hA' : askE l w' d' s' q' = 0) (ra : ratE a = 0) (rb : ratE b = 0) (a45 : (a.getD 0 0 == 45) = false) (b45 : (b.getD 0 0 == 45) = false)
    (la : a.length ≤ 40) (lb : b.length ≤ 40) (h1 : w ≤ w') (h2 : d ≤ d') (h3 : s' ≤ s) (h4 : q' ≤ q) (hle : ratN b * (ratD a : Int) ≤ ratN a * (ratD b : Int)) :
    (alE l w d s q a == 0 && alE l w' d' s' q' b == 0 && (!alB l w d s q a || alB l w' d' s' q' b)) = true := by
  obtain ⟨e1, e2⟩ := al_ok hA ra a45 la
  obtain ⟨f1, f2⟩ := al_ok hA' rb b45 lb
  have hm := find_mono (l := l) h1 h2 h3 h4
  obtain ⟨_, _, da⟩ := rat_len ra la
  obtain ⟨_, _, db⟩ := rat_len rb lb
  rw [e1, f1, e2, f2]
  generalize findR l w d s q = n at *
  generalize findR l w' d' s' q' = n' at *
  rw [beq_self_eq_true, Bool.true_and, Bool.true_and]
  cases hc : (ltB 0 n && leB (ratN a) (n * (ratD a : Int))) with
  | false => rfl
  | true =>
    rw [Bool.and_eq_true, ltB_iff, leB_iff] at hc
    obtain ⟨c1, c2⟩ := hc
    rw [Bool.not_true, Bool.false_or, Bool.and_eq_true, ltB_iff, leB_iff]
    refine ⟨by omega, ?_⟩
    have t1 : ratN a * (ratD b : Int) ≤ n * (ratD a : Int) * (ratD b : Int) := Int.mul_le_mul_of_nonneg_right c2 (by omega)
    have t2 : ratN b * (ratD a : Int) ≤ n * (ratD b : Int) * (ratD a : Int) := by
      rw [Int.mul_right_comm] at t1
      omega
    have t3 : ratN b ≤ n * (ratD b : Int) := Int.le_of_mul_le_mul_right t2 (by omega)
    have t4 : n * (ratD b : Int) ≤ n' * (ratD b : Int) := Int.mul_le_mul_of_nonneg_right hm (by omega)
    omega
noncomputable def Tea (G : List (Nat × Obj)) : Tb := (((((tb0 G).plus 11 fine_t).plus 12 r2check_t).plus 14 r2Cmp_t).plus 15 sallow_t).plus 13 (inst [] (.b true))
theorem Tea_sound {G : List (Nat × Obj)} (hG : TabIn G) : TbSound Tryz.prog (Tea G) :=
  TbSound.plus (TbSound.plus (TbSound.plus (TbSound.plus (TbSound.plus tb0_sound (fine_T hG)) (r2check_T hG)) (r2Cmp_T hG)) (sallow_T hG)) (inst_T (awake_C hG))
theorem easier_vc (G : List (Nat × Obj)) (c : Qu) (u1 u2 u3 u4 : Int) (less : Str) (hu1 : 0 ≤ u1 ∧ u1 ≤ 65535) (hu2 : 0 ≤ u2 ∧ u2 ≤ 65535) (hu3 : 0 ≤ u3 ∧ u3 ≤ 65535) (hu4 : 0 ≤ u4 ∧ u4 ≤ 65535) :
 let q1 := (AV.agg 6 fun (i : Nat) => Enc.enc c (0 + i)); let q3 := (agD q1); let q2 := (!bsel false !fineB q3 || bsel false !fineB q3); let q5 := (bif !fineB q3 then true else ltB (40 : Int) (↑(List.length less) : Int)); let q4 := (!bsel false q5 || bsel false q5); let q7 := (bif rcE less (Qu.sp c) == (0 : Int) then ltB (rcV less (Qu.sp c)) (0 : Int) else false); let q6 := (!bsel true q7 || bsel true q7); let q9 := (AV.xl false 5 (List.length (Qu.l c)) fun i j => Enc.enc (List.getD (Qu.l c) i Enc.dflt) j); let q8 := (slOk Row q9); let q12 := (slD q9); let q11 := (alE q12 (Qu.w c) (Qu.d c) (Qu.s
 c) (Qu.q c) (Qu.sp c) == (0 : Int)); let q10 := (!bsel true q11 || bsel true q11); let q13 := (!alE q12 (Qu.w c) (Qu.d c) (Qu.s c) (Qu.q c) (Qu.sp c) == (0 : Int) || bsel true q11); let q16 := (if Qu.w c + u1 < (1000 : Int) then Qu.w c + u1 else (1000 : Int)); let q17 := (if Qu.d c + u2 < (1000 : Int) then Qu.d c + u2 else (1000 : Int)); let q18 := (if Qu.s c - u3 > (1 : Int) then Qu.s c - u3 else (1 : Int)); let q19 := (if Qu.q c - u4 > (0 : Int) then Qu.q c - u4 else (0 : Int)); let q15 := (bif alE q12 (Qu.w c) (Qu.d c) (Qu.s c) (Qu.q c) (Qu.sp c) == (0 : Int) then alE q12 q16 q17 q18 q19
 less == (0 : Int) else false); let q14 := (!bsel true q15 || bsel true q15); let q20 := (bif bif alE q12 (Qu.w c) (Qu.d c) (Qu.s c) (Qu.q c) (Qu.sp c) == (0 : Int) then alE q12 q16 q17 q18 q19 less == (0 : Int) else false then bif !alB q12 (Qu.w c) (Qu.d c) (Qu.s c) (Qu.q c) (Qu.sp c) then true else alB q12 q16 q17 q18 q19 less else false); let q22 := (bif alE q12 (Qu.w c) (Qu.d c) (Qu.s c) (Qu.q c) (Qu.sp c) == (0 : Int) then alE q12 q16 q17 q18 q19 (Qu.sp c) == (0 : Int) else false); let q21 := (!bsel true q22 || bsel true q22); let q23 := (bif bif alE q12 (Qu.w c) (Qu.d c) (Qu.s c) (Qu.q c)
 (Qu.sp c) == (0 : Int) then alE q12 q16 q17 q18 q19 (Qu.sp c) == (0 : Int) else false then bif !alB q12 (Qu.w c) (Qu.d c) (Qu.s c) (Qu.q c) (Qu.sp c) then true else alB q12 q16 q17 q18 q19 (Qu.sp c) else false); bndL [AV.agg 6 (Enc.enc c), AV.v (Value.int IntKind.u16 u1), AV.v (Value.int IntKind.u16 u2), AV.v (Value.int IntKind.u16 u3), AV.v (Value.int IntKind.u16 u4), AV.str less] → bsplit (agOk Qu q1) (bsplit q2 (bsplit q2 (bsplit (!!!fineB q3 || bsel false !fineB q3) (bsplit q4 ((bsel false q5 = true → List.length less ≤ 100000000) ∧ bsplit q4 (bsplit ((!!bif !fineB q3 then true else ltB (40
 : Int) (↑(List.length less) : Int)) || bsel false q5) (bsplit (bif bif !fineB q3 then true else ltB (40 : Int) (↑(List.length less) : Int) then true else ratE less != (0 : Int)) (Wk [] [] ∧ true = true) (bsplit (DB.db (inK .i64 u1)) (bsplit (DB.db (inK .i64 (Qu.w c + u1))) (bsplit (DB.db (inK .i64 u2)) (bsplit (DB.db (inK .i64 (Qu.d c + u2))) (bsplit (DB.db (inK .i64 u3)) (bsplit (DB.db (inK .i64 (Qu.s c - u3))) (bsplit (DB.db (inK .i64 u4)) (bsplit (DB.db (inK .i64 (Qu.q c - u4))) (List.length less ≤ 100000000 ∧ List.length (Qu.sp c) ≤ 100000000 ∧ bsplit (!bsel true (rcE less (Qu.sp c) == (0 :
 Int)) || bsel true (rcE less (Qu.sp c) == (0 : Int))) (bsplit (!rcE less (Qu.sp c) == (0 : Int) || bsel true (rcE less (Qu.sp c) == (0 : Int))) (bsplit q6 (bsplit (!bsel true q7 || DB.db ((0 : Int) ≤ (0 : Int) ∧ (0 : Int) < (↑(List.length less) : Int))) (bsplit q6 (bsplit ((!bif rcE less (Qu.sp c) == (0 : Int) then ltB (rcV less (Qu.sp c)) (0 : Int) else false) || bsel true q7) (bsplit (bif bif rcE less (Qu.sp c) == (0 : Int) then ltB (rcV less (Qu.sp c)) (0 : Int) else false then (↑(UInt8.toNat (List.getD less 0 (0 : UInt8))) : Int) != (45 : Int) else false) (bsplit q8 (List.length (Qu.sp c) ≤
 4294967280 ∧ bsplit q8 (List.length less ≤ 4294967280 ∧ bsplit q10 (bsplit q13 (bsplit q14 (bsplit q14 (bsplit q14 (bsplit (!bsel true q15 || (!!!alB q12 (Qu.w c) (Qu.d c) (Qu.s c) (Qu.q c) (Qu.sp c) || bsel true q15 && bsel false !alB q12 (Qu.w c) (Qu.d c) (Qu.s c) (Qu.q c) (Qu.sp c))) (bsplit ((!bif alE q12 (Qu.w c) (Qu.d c) (Qu.s c) (Qu.q c) (Qu.sp c) == (0 : Int) then alE q12 q16 q17 q18 q19 less == (0 : Int) else false) || bsel true q15) ((bsel true q20 = true → Wk [] []) ∧ bsplit ((!bif bif alE q12 (Qu.w c) (Qu.d c) (Qu.s c) (Qu.q c) (Qu.sp c) == (0 : Int) then alE q12 q16 q17 q18 q19
 less == (0 : Int) else false then bif !alB q12 (Qu.w c) (Qu.d c) (Qu.s c) (Qu.q c) (Qu.sp c) then true else alB q12 q16 q17 q18 q19 less else false) || bsel true q20) ((bif bif bif alE q12 (Qu.w c) (Qu.d c) (Qu.s c) (Qu.q c) (Qu.sp c) == (0 : Int) then alE q12 q16 q17 q18 q19 less == (0 : Int) else false then bif !alB q12 (Qu.w c) (Qu.d c) (Qu.s c) (Qu.q c) (Qu.sp c) then true else alB q12 q16 q17 q18 q19 less else false then true else false) = true) False) False) False) False) False) False) False) False) False) False) (bsplit q8 (List.length (Qu.sp c) ≤ 4294967280 ∧ bsplit q8 (List.length
 (Qu.sp c) ≤ 4294967280 ∧ bsplit q10 (bsplit q13 (bsplit q21 (bsplit q21 (bsplit q21 (bsplit (!bsel true q22 || (!!!alB q12 (Qu.w c) (Qu.d c) (Qu.s c) (Qu.q c) (Qu.sp c) || bsel true q22 && bsel false !alB q12 (Qu.w c) (Qu.d c) (Qu.s c) (Qu.q c) (Qu.sp c))) (bsplit ((!bif alE q12 (Qu.w c) (Qu.d c) (Qu.s c) (Qu.q c) (Qu.sp c) == (0 : Int) then alE q12 q16 q17 q18 q19 (Qu.sp c) == (0 : Int) else false) || bsel true q22) ((bsel true q23 = true → Wk [] []) ∧ bsplit ((!bif bif alE q12 (Qu.w c) (Qu.d c) (Qu.s c) (Qu.q c) (Qu.sp c) == (0 : Int) then alE q12 q16 q17 q18 q19 (Qu.sp c) == (0 : Int) else
 false then bif !alB q12 (Qu.w c) (Qu.d c) (Qu.s c) (Qu.q c) (Qu.sp c) then true else alB q12 q16 q17 q18 q19 (Qu.sp c) else false) || bsel true q23) ((bif bif bif alE q12 (Qu.w c) (Qu.d c) (Qu.s c) (Qu.q c) (Qu.sp c) == (0 : Int) then alE q12 q16 q17 q18 q19 (Qu.sp c) == (0 : Int) else false then bif !alB q12 (Qu.w c) (Qu.d c) (Qu.s c) (Qu.q c) (Qu.sp c) then true else alB q12 q16 q17 q18 q19 (Qu.sp c) else false then true else false) = true) False) False) False) False) False) False) False) False) False) False)) False) False) False) False) False) False) False) False) False) False) False) False)
 False) False)) False) False) False) False) False) False) False := by
  dsimp only
  intro hb
  have e2 : (Enc.dflt : Row) = r0 := rfl
  simp only [↓vc_db, ↓vc_gdb, row_one]
  simp only [sS, agD_row, agOk_row, agD_row', agOk_row', okIn, okIn', deI, deI', okR, okR', deR, deR', deRo, deRo', e2, agD_qu, agOk_qu]
  refine ⟨fun h => ?_, bsplit_iff.2 ⟨fun _ => Wk.refl _, fun hg => ?_⟩⟩
  · rw [Bool.not_eq_true', Bool.or_eq_false_iff] at h
    have : ¬ (40 : Int) < (less.length : Int) := fun e => by rw [(ltB_iff _ _).2 e] at h; cases h.2
    omega
  rw [Bool.or_eq_false_iff, Bool.or_eq_false_iff, Bool.not_eq_false', bne_eq_false_iff_eq] at hg
  obtain ⟨⟨hf, hl40⟩, hrl⟩ := hg
  have hl : less.length ≤ 40 := by
    have : ¬ (40 : Int) < (less.length : Int) := fun e => by rw [(ltB_iff _ _).2 e] at hl40; cases hl40
    omega
  obtain ⟨hA, hrs, hs45, hsl⟩ := fine_ask hf
  obtain ⟨ht, hw, hd, hss, hq⟩ := ask_split.1 hA
  have hA' : askE c.l (if c.w + u1 < 1000 then c.w + u1 else 1000) (if c.d + u2 < 1000 then c.d + u2 else 1000) (if c.s - u3 > 1 then c.s - u3 else 1) (if c.q - u4 > 0 then c.q - u4 else 0) = 0 := ask_split.2 ⟨ht, by split <;> omega, by split <;> omega, by split <;> omega, by split <;> omega⟩
  have m1 : c.w ≤ (if c.w + u1 < 1000 then c.w + u1 else 1000) := by split <;> omega
  have m2 : c.d ≤ (if c.d + u2 < 1000 then c.d + u2 else 1000) := by split <;> omega
  have m3 : (if c.s - u3 > 1 then c.s - u3 else 1) ≤ c.s := by split <;> omega
  have m4 : (if c.q - u4 > 0 then c.q - u4 else 0) ≤ c.q := by split <;> omega
  have lp := rat_pos hrl
  have taut : ∀ x y : Bool, (!x || (!!!y || x && !!y)) = true := by decide
  refine ⟨⟨by omega, by omega⟩, ⟨by omega, by omega⟩, ⟨by omega, by omega⟩, ⟨by omega, by omega⟩, ⟨by omega, by omega⟩, ⟨by omega, by omega⟩, ⟨by omega, by omega⟩, ⟨by omega, by omega⟩, by omega, by omega, fun _ => ⟨Int.le_refl _, by omega⟩, bsplit_iff.2 ⟨fun k => ?_, fun k => ?_⟩⟩
  · rw [Bool.and_eq_true, Bool.and_eq_true, beq_iff_eq, ltB_iff, bne_iff_ne] at k
    obtain ⟨⟨k1, k2⟩, k3⟩ := k
    have b45 : (less.getD 0 0 == 45) = false := by
      rw [show (less.getD 0 0 == 45) = (((less.getD 0 0).toNat : Int) == 45) from (byte_eq (less.getD 0 0) 45 (by decide)).symm]
      exact beq_eq_false_iff_ne.2 k3
    have hle : ratN less * (ratD c.sp : Int) ≤ ratN c.sp * (ratD less : Int) := by
      rw [rc_E k1] at k2
      unfold cmpI at k2
      refine Decidable.byContradiction fun hn => ?_
      rw [show ltB (ratN less * (ratD c.sp : Int)) (ratN c.sp * (ratD less : Int)) = false from Bool.eq_false_iff.2 fun e => by have := (ltB_iff _ _).1 e; omega, beq_eq_false_iff_ne.2 (by omega)] at k2
      exact absurd k2 (by decide)
    have hm := al_mono hA hA' hrs hrl hs45 b45 hsl hl m1 m2 m3 m4 hle
    exact ⟨by omega, by omega, bsp_t (taut _ _) ⟨fun _ => Wk.refl _, by rw [hm]; rfl⟩⟩
  · have hm := al_mono hA hA' hrs hrs hs45 hs45 hsl hsl m1 m2 m3 m4 (Int.le_refl _)
    exact ⟨by omega, by omega, bsp_t (taut _ _) ⟨fun _ => Wk.refl _, by rw [hm]; rfl⟩⟩
theorem easier_C {G : List (Nat × Obj)} (hG : TabIn G) (c : Qu) (u1 u2 u3 u4 : Int) (less : Str) (hu1 : 0 ≤ u1 ∧ u1 ≤ 65535) (hu2 : 0 ≤ u2 ∧ u2 ≤ 65535) (hu3 : 0 ≤ u3 ∧ u3 ≤ 65535) (hu4 : 0 ≤ u4 ∧ u4 ≤ 65535) : PureCall Tryz.prog G 3 [agE c, .v (.int .u16 u1), .v (.int .u16 u2), .v (.int .u16 u3), .v (.int .u16 u4), .str less] (.b true) :=
  pure_of_vc (T := Tea G) (an := .auto) mixed (Tea_sound hG) (Eq.mp (by kernel_rfl) (easier_vc G c u1 u2 u3 u4 less hu1 hu2 hu3 hu4))
end Go.Te
