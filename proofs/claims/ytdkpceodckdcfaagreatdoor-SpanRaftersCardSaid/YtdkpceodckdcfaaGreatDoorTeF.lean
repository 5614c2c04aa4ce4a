/- kingpostref01: contracts of the small functions. -/
import Derived.Test.YtdkpceodckdcfaaGreatDoorTeA
import Derived.Test.YtdkpceodckdcfaaGreatDoorArI
set_option linter.unusedSimpArgs false
set_option linter.unusedVariables false
namespace Go.Te
open Go Go.Sx Go.Proofs Go.Ar
set_option maxRecDepth 100000
set_option maxHeartbeats 4000000
def r1check_an (a : Str) : Ann :=
 .two .auto (.two .auto (.two .auto (.two .auto (.two (.two .auto (.one (.loop Nat (fun σ z => [(0, σ.tm 0), (3, σ.tm 3), (4, .i z)]) (fun σ z => []) 0 (fun σ z => (AV.int (σ.tm 3)).toNat ≤ z ∧ z ≤ a.length ∧ ∀ i, (AV.int (σ.tm 3)).toNat ≤ i → i < z → isDg (a.getD i 0) = true) (fun σ z => a.length - z) .auto))) .auto))))
def r1check_t : List AV → Option (List Cond × AV)
 | [.str a] => some ([.p (a.length ≤ 4294967280)], .i (intE a))
 | _ => none
theorem r1check_vc (a : List UInt8) (hl : a.length ≤ 4294967280) :
 let q2 := (ltB iZ (lZ a)); let q1 := (!bsel true q2 || bsel true q2); let q3 := (iZ ≤ iZ ∧ iZ < (lZ a)); let q4 := (↑(UInt8.toNat (gD a 0 (0 : UInt8))) : Int); let q5 := (!bsel false (iO == (lZ a)) || bsel false (iO == (lZ a))); let q8 := (↑(UInt8.toNat (gD a 1 (0 : UInt8))) : Int); let q7 := (q8 == (48 : Int)); let q6 := (!(bsel false (iO == (lZ a)) && bsel true q7) || bsel false (iO == (lZ a)) && bsel true q7); let q9
 := (kI ∧ (11 : Int) = intE a); let q10 := (AV.int (aI iO)); let q11 := (kI ∧ iO = iO); let q16 := (kI ∧ (4 : Int) = intE a); let q17 := (kI ∧ iZ = intE a); let q18 := (!bsel false (iZ == (lZ a)) || bsel false (iZ == (lZ a))); let q20 := (q4 == (48 : Int)); let q19 := (!(bsel false (iZ == (lZ a)) && bsel true q20) || bsel false (iZ == (lZ a)) && bsel true q20); let q21 := (AV.int (AV.v
 (Value.int .i64 iZ))); let q22 := (kI ∧ iZ = iZ); bndL [AV.str a] → bsplit q1 (bsplit (!bsel true q2 || DB.db q3) (bsplit q1 (bsplit (!ltB iZ (lZ a) || bsel true q2) (bsplit (bif ltB iZ (lZ a) then q4 == (45 : Int) else false) (bsplit q5 (bsplit q5 (bsplit (!bsel false (iO == (lZ a)) || DB.db (iZ ≤ iO ∧ iO < (lZ a))) (bsplit q5 (bsplit q5 (bsplit q6 (bsplit q6 (bsplit q5 (bsplit (!bsel false (iO == (lZ a)) || (!q8 == (48
 : Int) || bsel false (iO == (lZ a)) && bsel true q7)) (bsplit (!!iO == (lZ a) || bsel false (iO == (lZ a))) (bsplit (bif iO == (lZ a) then true else bif q8 == (48 : Int) then ltB iO (lZ a) else false) q9 ((∃ (z : Nat), ((Int.toNat q10 ≤ z ∧ z ≤ lN a ∧ ∀ (i : Nat), Int.toNat q10 ≤ i → i < z → isDg (gD a i (0 : UInt8)) = true) ∧ a = a ∧ q11 ∧ kI ∧ iO = (↑z : Int)) ∧ True) ∧ ∀ (z : Nat), let q12 := (iZ ≤ (↑z : Int) ∧ (↑z : Int) <
 (lZ a)); let q15 := (↑(UInt8.toNat (gD a (Int.toNat (↑z : Int)) (0 : UInt8))) : Int); let q14 := (ltB q15 (48 : Int)); let q13 := (!bsel false q14 || bsel false q14); (Int.toNat q10 ≤ z ∧ z ≤ lN a ∧ ∀ (i : Nat), Int.toNat q10 ≤ i → i < z → isDg (gD a i (0 : UInt8)) = true) → bsplit (ltB (↑z : Int) (lZ a)) (bsplit (DB.db q12) (bsplit q13 (bsplit q13 (bsplit (!bsel false q14 || DB.db q12) (bsplit q13 (bsplit (!!ltB q15 (48 : Int) || bsel false q14) (bsplit (bif ltB q15 (48 : Int) then true else ltB (57 : Int) q15) q9 (bsplit (DB.db (inK
 .i64 ((↑z : Int) + iO))) (∃ (z' : Nat), (((Int.toNat q10 ≤ z' ∧ z' ≤ lN a ∧ ∀ (i : Nat), Int.toNat q10 ≤ i → i < z' → isDg (gD a i (0 : UInt8)) = true) ∧ lN a - z' < lN a - z) ∧ a = a ∧ q11 ∧ kI ∧ (↑z : Int) + iO = (↑z' : Int)) ∧ True) False)) False) False) False) False) False) False) (bsplit (DB.db (inK .i64 ((lZ a) - iO))) (bsplit (ltB (300 : Int) ((lZ a) - iO)) q16 q17) False))) False) False) False) False) False) False) False) False) False) False) (bsplit q18 (bsplit q18 (bsplit
 (!bsel false (iZ == (lZ a)) || DB.db q3) (bsplit q18 (bsplit q18 (bsplit q19 (bsplit q19 (bsplit q18 (bsplit (!bsel false (iZ == (lZ a)) || (!q4 == (48 : Int) || bsel false (iZ == (lZ a)) && bsel true q20)) (bsplit (!!iZ == (lZ a) || bsel false (iZ == (lZ a))) (bsplit (bif iZ == (lZ a) then true else bif q4 == (48 : Int) then ltB iO (lZ a) else false) q9 ((∃ (z : Nat), ((Int.toNat q21 ≤ z ∧ z ≤ lN a ∧ ∀ (i : Nat),
 Int.toNat q21 ≤ i → i < z → isDg (gD a i (0 : UInt8)) = true) ∧ a = a ∧ q22 ∧ kI ∧ iZ = (↑z : Int)) ∧ True) ∧ ∀ (z : Nat), let q23 := (iZ ≤ (↑z : Int) ∧ (↑z : Int) < (lZ a)); let q26 := (↑(UInt8.toNat (gD a (Int.toNat (↑z : Int)) (0 : UInt8))) : Int); let q25 := (ltB q26 (48 : Int)); let q24 := (!bsel false q25 || bsel false q25); (Int.toNat q21 ≤ z ∧ z ≤ lN a ∧ ∀ (i : Nat), Int.toNat q21 ≤ i → i < z → isDg (gD a i (0 : UInt8)) = true) → bsplit (ltB (↑z : Int) (lZ a)) (bsplit (DB.db q23) (bsplit q24
 (bsplit q24 (bsplit (!bsel false q25 || DB.db q23) (bsplit q24 (bsplit (!!ltB q26 (48 : Int) || bsel false q25) (bsplit (bif ltB q26 (48 : Int) then true else ltB (57 : Int) q26) q9 (bsplit (DB.db (inK .i64 ((↑z : Int) + iO))) (∃ (z' : Nat), (((Int.toNat q21 ≤ z' ∧ z' ≤ lN a ∧ ∀ (i : Nat), Int.toNat q21 ≤ i → i < z' → isDg (gD a i (0 : UInt8)) = true) ∧ lN a - z' < lN a - z) ∧ a = a ∧ q22 ∧ kI ∧ (↑z : Int) + iO = (↑z' : Int)) ∧ True) False)) False) False) False) False) False) False) (bsplit (DB.db (inK .i64 ((↑(lN a) :
 Int) - iZ))) (bsplit (ltB (300 : Int) ((lZ a) - iZ)) q16 q17) False))) False) False) False) False) False) False) False) False) False) False)) False) False) False) False := by
 delta kI lZ lN gD iZ iO aI
 dsimp only
 intro hb
 simp only [sS, dS, ltB_nat, dgc]
 have loop : ∀ (k : Nat), (intB a = true ↔ k < a.length ∧ (∀ i, k ≤ i → i < a.length → isDg (a.getD i 0) = true) ∧ ¬ (a.getD k 0 = 48 ∧ 1 < a.length)) → lenD a = a.length - k → k ≤ a.length →
   ((!((k : Int) == (a.length : Int))) = true → 0 ≤ (k : Int) ∧ (k : Int) < (a.length : Int)) ∧
    bsplit (!!((k : Int) == (a.length : Int)) || (!((a.getD k 0).toNat : Int) == 48 || !((k : Int) == (a.length : Int)) && ((a.getD k 0).toNat : Int) == 48))
     (bsplit ((k : Int) == (a.length : Int) || ((a.getD k 0).toNat : Int) == 48 && ltB 1 (a.length : Int)) (11 = intE a)
      ((∃ z : Nat, (k ≤ z ∧ z ≤ a.length ∧ ∀ (i : Nat), k ≤ i → i < z → isDg (a.getD i 0) = true) ∧ (k : Int) = z) ∧
       ∀ (z : Nat), (k ≤ z ∧ z ≤ a.length ∧ ∀ (i : Nat), k ≤ i → i < z → isDg (a.getD i 0) = true) →
         ((z : Int) < (a.length : Int) → (0 ≤ (z : Int) ∧ (z : Int) < (a.length : Int)) ∧ ((!ltB ((a.getD z 0).toNat : Int) 48) = true → 0 ≤ (z : Int) ∧ (z : Int) < (a.length : Int)) ∧
           bsplit (!isDg (a.getD z 0)) (11 = intE a) (inK .i64 ((z : Int) + 1) ∧ ∃ z' : Nat, ((k ≤ z' ∧ z' ≤ a.length ∧ ∀ (i : Nat), k ≤ i → i < z' → isDg (a.getD i 0) = true) ∧ a.length - z' < a.length - z) ∧ (z : Int) + 1 = z')) ∧
          ((a.length : Int) ≤ (z : Int) → inK .i64 ((a.length : Int) - (k : Int)) ∧ (300 < (a.length : Int) - (k : Int) → 4 = intE a) ∧ ((a.length : Int) - (k : Int) ≤ 300 → 0 = intE a)))) False := by
  intro k hI hD hk
  by_cases hl : k < a.length
  ·rw [show ((k : Int) == (a.length : Int)) = false from beq_eq_false_iff_ne.2 (by omega)]
   refine ⟨fun _ => ⟨by omega, by omega⟩, ?_⟩
   simp only [Bool.not_false, Bool.not_true, Bool.false_or, Bool.true_and]
   rw [show (!((a.getD k 0).toNat : Int) == 48 || ((a.getD k 0).toNat : Int) == 48) = true by cases ((a.getD k 0).toNat : Int) == 48 <;> rfl, vc_tt]
   have e48 : (((a.getD k 0).toNat : Int) == 48) = (a.getD k 0 == 48) := byte_eq (a.getD k 0) 48 (by decide)
   rw [e48]
   refine bsplit_iff.2 ⟨fun c => ?_, fun c => ⟨⟨k, ⟨Nat.le_refl _, by omega, fun i h1 h2 => by omega⟩, rfl⟩, fun z ⟨z1, z2, z3⟩ => ⟨fun hz => ⟨⟨by omega, hz⟩, fun _ => ⟨by omega, hz⟩, bsplit_iff.2 ⟨fun c2 => ?_, fun c2 => ⟨⟨by omega, by omega⟩, z + 1, ⟨⟨by omega, by omega, fun i h1 h2 => ?_⟩, by omega⟩, by omega⟩⟩⟩, fun hz => ?_⟩⟩⟩
   ·rw [Bool.and_eq_true, beq_iff_eq, ltB_iff] at c
    exact (intE_not fun e => (hI.1 e).2.2 ⟨c.1, by omega⟩).symm
   ·rw [Bool.not_eq_true'] at c2
    refine (intE_not fun e => ?_).symm
    have := (hI.1 e).2.1 z z1 (by omega)
    rw [c2] at this
    cases this
   ·rw [Bool.not_eq_false'] at c2
    by_cases e : i = z
    ·rw [e]; exact c2
    ·exact z3 i h1 (by omega)
   ·have hall : intB a = true := hI.2 ⟨hl, fun i h1 h2 => z3 i h1 (by omega), fun h => by
     rw [Bool.and_eq_false_iff] at c
     rcases c with c | c
     ·rw [beq_eq_false_iff_ne] at c; exact c h.1
     ·rw [Bool.eq_false_iff, Ne, ltB_iff] at c; omega⟩
    rw [intE_of hall, hD]
    refine ⟨⟨by omega, by omega⟩, fun h => ?_, fun h => ?_⟩
    ·rw [(blt_iff _ _).2 (by omega)]; rfl
    ·rw [show Nat.blt 300 (a.length - k) = false from Bool.eq_false_iff.2 fun e => by have := (blt_iff _ _).1 e; omega]; rfl
  ·have hE : 11 = intE a := (intE_not fun e => hl (hI.1 e).1).symm
   rw [show ((k : Int) == (a.length : Int)) = true from beq_iff_eq.2 (by omega)]
   refine ⟨fun h => (by cases h), ?_⟩
   simp only [Bool.not_true, Bool.not_false, Bool.true_or, vc_tt]
   exact hE
 refine ⟨fun h => ⟨Int.le_refl _, by have := (blt_iff _ _).1 h; omega⟩, bsplit_iff.2 ⟨fun c => ?_, fun c => ?_⟩⟩
 ·rw [Bool.and_eq_true, blt_iff, show (((a.getD 0 0).toNat : Int) == 45) = (a.getD 0 0 == 45) from byte_eq (a.getD 0 0) 45 (by decide), beq_iff_eq] at c
  refine loop 1 ?_ (int_minus c.1 c.2).2.2.1 c.1
  rw [intB_minus c.1 c.2]
  exact ⟨fun ⟨h1, h2, h3⟩ => ⟨h1, h2, fun h => h3 h.1⟩, fun ⟨h1, h2, h3⟩ => ⟨h1, h2, fun h => h3 ⟨h, h1⟩⟩⟩
 ·rw [show (((a.getD 0 0).toNat : Int) == 45) = (a.getD 0 0 == 45) from byte_eq (a.getD 0 0) 45 (by decide)] at c
  obtain ⟨e1, e2, _⟩ := int_plain (a := a) fun h => by rw [(blt_iff _ _).2 h.1, h.2] at c; cases c
  refine loop 0 ?_ e2 (Nat.zero_le _)
  rw [e1, digS_at]
  exact ⟨fun ⟨h1, h2, h3⟩ => ⟨h1, fun i _ h => h2 i h, fun h => h3 h.2 h.1⟩, fun ⟨h1, h2, h3⟩ => ⟨h1, fun i h => h2 i (Nat.zero_le _) h, fun h e => h3 ⟨e, h⟩⟩⟩
theorem r1check_C (a : List UInt8) (hl : a.length ≤ 4294967280) : PureCall Tryz.prog [] 152 [.str a] (.i (intE a)) :=
 pure_of_vc (T := T0) (an := r1check_an a) mixed tb0_sound (Eq.mp (by kernel_rfl) (r1check_vc a hl))
theorem r1check_T : PureT Tryz.prog [] 152 r1check_t := by
 intro xs ps r h hp
 unfold r1check_t at h
 split at h
 ·skip
  rename_i a
  cases h
  obtain ⟨q0, -⟩ := allC hp
  exact weaken (ys := [.str a]) ⟨avM_refl _, trivial⟩ (r1check_C a q0)
 ·cases h
def r1trim_an (l : List Int) : Ann :=
 .two .auto (.two .auto (.two (.one (.loop Nat (fun σ z => [(0, σ.tm 0), (3, .i z)]) (fun σ z => []) 0 (fun σ z => z ≤ l.length ∧ ∀ i, z ≤ i → l.getD i 0 = 0) (fun σ z => z) .auto)) .auto))
def r1trim_t : List AV → Option (List Cond × AV)
 | [x_l] => some ([.b (slOk Int x_l)], slE (trimL (intsOf x_l)))
 | _ => none
theorem r1trim_vc (l : List Int) :
 let q1 := (AV.xl false 1 (lN l) fun i j => aI (gD l i Enc.dflt)); bndL [AV.xl false 1 (lN l) fun i j => aI (gD l i Enc.dflt)] → (∃ (z : Nat), ((z ≤ lN l ∧ ∀ (i : Nat), z ≤ i → gD l i iZ = iZ) ∧ avM q1 q1 ∧ kI ∧ (lZ l) = (↑z : Int)) ∧ True) ∧ ∀ (z : Nat), let q2 := (!bsel true (ltB iZ (↑z : Int)) || bsel true (ltB iZ (↑z : Int))); (z ≤ lN l ∧ ∀ (i : Nat), z ≤ i → gD l i iZ = iZ) → bsplit q2 (bsplit (!bsel true (ltB (0 :
 Int) (↑z : Int)) || DB.db (inK .i64 ((↑z : Int) - iO))) (bsplit q2 (bsplit q2 (bsplit (!bsel true (ltB iZ (↑z : Int)) || DB.db (iZ ≤ (↑z : Int) - iO ∧ (↑z : Int) - iO < (lZ l))) (bsplit q2 (bsplit q2 (bsplit (!ltB iZ (↑z : Int) || bsel true (ltB iZ (↑z : Int))) (bsplit (bif ltB iZ (↑z : Int) then gD l (Int.toNat ((↑z : Int) - iO)) Enc.dflt == iZ else false) (bsplit (DB.db (inK .i64 ((↑z : Int) - iO))) (∃ (z' : Nat), (((z' ≤ lN l ∧ ∀ (i : Nat), z' ≤ i → gD l i iZ = (0 :
 Int)) ∧ z' < z) ∧ avM q1 q1 ∧ kI ∧ (↑z : Int) - iO = (↑z' : Int)) ∧ True) False) (bsplit (DB.db (iZ ≤ (↑z : Int) ∧ (↑z : Int) ≤ (lZ l))) ((false = true → false = true) ∧ 1 = 1 ∧ lN (trimL l) = Int.toNat (↑z : Int) ∧ ∀ (i j : Nat), i < Int.toNat (↑z : Int) → j < 1 → kI ∧ gD l i Enc.dflt = gD (trimL l) i Enc.dflt) False)) False) False) False) False) False) False) False) False := by
 delta kI lZ lN gD iZ iO aI
 dsimp only
 intro hb
 have e0 : (Enc.dflt : Int) = 0 := rfl
 simp only [sS, dS, e0, ltB_nat, pred_nat]
 have hb1 : l.length ≤ 9223372036854775807 := hb.1
 refine ⟨⟨l.length, ⟨Nat.le_refl _, fun i hi => getD_outI hi⟩, rfl⟩, fun z ⟨h1, h2⟩ => ⟨fun hp => ⟨by omega, by omega⟩, fun hp => ?_, bsplit_iff.2 ⟨fun c => ?_, fun c => ?_⟩⟩⟩
 ·have := (blt_iff _ _).1 hp; omega
 ·rw [Bool.and_eq_true, beq_iff_eq] at c
  have hp := (blt_iff _ _).1 c.1
  refine ⟨⟨by omega, by omega⟩, z - 1, ⟨⟨by omega, fun i hi => ?_⟩, by omega⟩, by omega⟩
  by_cases e : i = z - 1
  ·rw [e]; exact c.2
  ·exact h2 i (by omega)
 ·have ht := trim_take h1 h2 (by
   by_cases hz : z = 0
   ·exact .inl hz
   ·refine .inr fun e => ?_
    rw [e, (blt_iff _ _).2 (by omega)] at c
    cases c)
  rw [ht]
  refine ⟨⟨by omega, by omega⟩, fun h => h, by rw [List.length_take]; omega, fun i j hi _ => (getD_takeI hi).symm⟩
theorem r1trim_C (l : List Int) : PureCall Tryz.prog [] 154 [slE l] (slE (trimL l)) :=
 pure_of_vc (T := T0) (an := r1trim_an l) mixed tb0_sound (Eq.mp (by kernel_rfl) (r1trim_vc l))
theorem r1trim_T : PureT Tryz.prog [] 154 r1trim_t := by
 intro xs ps r h hp
 unfold r1trim_t at h
 split at h
 ·skip
  rename_i x_l
  cases h
  obtain ⟨q0, -⟩ := allC hp
  exact weaken (ys := [slE (intsOf x_l)]) ⟨slE_sound q0, trivial⟩ (r1trim_C (intsOf x_l))
 ·cases h
def r1limb_t : List AV → Option (List Cond × AV)
 | [x_l, .v (.int .i64 i)] => some ([.b (slOk Int x_l), .p (0 ≤ i)], .i ((intsOf x_l).getD i.toNat 0))
 | _ => none
theorem r1limb_vc (l : List Int) (i : Int) (h0 : 0 ≤ i) :
 bndL [AV.xl false 1 (lN l) fun i j => aI (gD l i Enc.dflt), aI i] → bsplit (ltB i (lZ l)) (bsplit (DB.db (iZ ≤ i ∧ i < (lZ l))) (kI ∧ gD l (Int.toNat i) Enc.dflt = gD l (Int.toNat i) iZ) False) (kI ∧ iZ = gD l (Int.toNat i) iZ) := by
 delta kI lZ lN gD iZ aI
 intro hb
 have e0 : (Enc.dflt : Int) = 0 := rfl
 simp only [sS, dS, e0, ltB_nat]
 exact ⟨fun h => ⟨h0, h⟩, fun h => (getD_outI (by omega)).symm⟩
theorem r1limb_C (l : List Int) (i : Int) (h0 : 0 ≤ i) : PureCall Tryz.prog [] 156 [slE l, .i i] (.i (l.getD i.toNat 0)) :=
 pure_of_vc (T := T0) (an := .auto) mixed tb0_sound (Eq.mp (by kernel_rfl) (r1limb_vc l i h0))
theorem r1limb_T : PureT Tryz.prog [] 156 r1limb_t := by
 intro xs ps r h hp
 unfold r1limb_t at h
 split at h
 ·skip
  rename_i x_l i
  cases h
  obtain ⟨q0, q1, -⟩ := allC hp
  exact weaken (ys := [slE (intsOf x_l), .i i]) ⟨slE_sound q0, avM_refl _, trivial⟩ (r1limb_C (intsOf x_l) i q1)
 ·cases h
def r1size_an (x y : List Int) : Ann :=
 .two .auto (.two .auto (.two (.two .auto (.one (.loop Nat (fun σ z => [(0, σ.tm 0), (1, σ.tm 1), (5, .i ((z : Int) - 1))]) (fun σ z => []) 0 (fun σ z => z ≤ x.length ∧ ∀ i, z ≤ i → i < x.length → x.getD i 0 = y.getD i 0) (fun σ z => z) .auto))) .auto))
def r1size_t : List AV → Option (List Cond × AV)
 | [x_x, x_y] => some ([.b (slOk Int x_x), .b (slOk Int x_y)], .i (sgn (cmpL (intsOf x_x) (intsOf x_y))))
 | _ => none
theorem r1size_vc (x : List Int) (y : List Int) :
 let q1 := (kI ∧ (-1 : Int) = sgn (cmpL x y)); let q2 := (kI ∧ iO = sgn (cmpL x y)); let q3 := (AV.xl false 1 (lN x) fun i j => aI (gD x i Enc.dflt)); let q4 := (AV.xl false 1 (lN y) fun i j => aI (gD y i Enc.dflt)); bndL [AV.xl false 1 (lN x) fun i j => aI (gD x i Enc.dflt), AV.xl false 1 (lN y) fun i j => aI (gD y i Enc.dflt)] → bsplit ((lZ x) != (lZ y)) (bsplit (ltB (↑(List.length
 x) : Int) (lZ y)) q1 q2) (bsplit (DB.db (inK .i64 ((lZ x) - iO))) ((∃ (z : Nat), ((z ≤ lN x ∧ ∀ (i : Nat), z ≤ i → i < lN x → gD x i iZ = gD y i iZ) ∧ avM q3 q3 ∧ avM q4 q4 ∧ kI ∧ (lZ x) - iO = (↑z : Int) - iO) ∧ True) ∧ ∀ (z : Nat), let q5 := (DB.db (iZ ≤ (↑z : Int) - iO ∧ (↑z : Int) - iO < (lZ x))); let q6 := (DB.db (iZ ≤ (↑z : Int) - iO ∧ (↑z : Int) - iO < (lZ y))); let q7 :=
 (gD x (Int.toNat ((↑z : Int) - iO)) Enc.dflt); let q8 := (gD y (Int.toNat ((↑z : Int) - iO)) Enc.dflt); (z ≤ lN x ∧ ∀ (i : Nat), z ≤ i → i < lN x → gD x i iZ = gD y i iZ) → bsplit (leB iZ ((↑z : Int) - iO)) (bsplit q5 (bsplit q6 (bsplit (ltB q7 q8) q1 (bsplit q5 (bsplit q6 (bsplit (ltB q8 q7) q2 (bsplit (DB.db (inK .i64 ((↑z : Int) - iO - iO))) (∃ (z' : Nat), (((z' ≤ lN x ∧ ∀ (i : Nat), z' ≤ i → i < lN x → gD x i iZ = gD y i iZ) ∧ z' < z) ∧ avM q3
 q3 ∧ avM q4 q4 ∧ kI ∧ (↑z : Int) - iO - iO = (↑z' : Int) - iO) ∧ True) False)) False) False)) False) False) (kI ∧ iZ = sgn (cmpL x y))) False) := by
 delta kI lZ lN gD iZ iO aI
 dsimp only
 intro hb
 have e0 : (Enc.dflt : Int) = 0 := rfl
 simp only [sS, dS, e0, ltB_nat, pred_nat]
 have hx : x.length ≤ 9223372036854775807 := hb.1.1
 have hy : y.length ≤ 9223372036854775807 := hb.2.1
 refine ⟨fun hne => ?_, fun heq => ⟨⟨by omega, by omega⟩, ⟨x.length, ⟨Nat.le_refl _, fun i h1 h2 => by omega⟩, rfl⟩, fun z ⟨h1, h2⟩ => ⟨fun hz => ?_, fun hz => ?_⟩⟩⟩
 ·rw [cmpL_ne (fun e => hne (by omega))]
  exact ⟨fun h => (sgn_neg (by omega)).symm, fun h => (sgn_pos (by omega)).symm⟩
 ·have hd : cmpL x y = difL x y z := by rw [cmpL_eq (by omega), difL_skip h1 h2]
  have hd2 : difL x y z = bif x.getD (z - 1) 0 != y.getD (z - 1) 0 then x.getD (z - 1) 0 - y.getD (z - 1) 0 else difL x y (z - 1) := by
   conv => lhs; rw [show z = z - 1 + 1 by omega]
   rfl
  refine ⟨⟨by omega, by omega⟩, ⟨by omega, by omega⟩, fun h => ?_, fun h => ⟨⟨by omega, by omega⟩, ⟨by omega, by omega⟩, fun h3 => ?_, fun h3 => ⟨⟨by omega, by omega⟩, z - 1, ⟨⟨by omega, fun i h4 h5 => ?_⟩, by omega⟩, by omega⟩⟩⟩
  ·rw [hd, hd2, bne_iff_ne.2 (by omega)]
   exact (sgn_neg (by simp only [cond_true]; omega)).symm
  ·rw [hd, hd2, bne_iff_ne.2 (by omega)]
   exact (sgn_pos (by simp only [cond_true]; omega)).symm
  ·by_cases e : i = z - 1
   ·rw [e]; omega
   ·exact h2 i (by omega) h5
 ·rw [cmpL_eq (by omega), difL_skip h1 h2, show z = 0 by omega]; rfl
theorem r1size_C (x : List Int) (y : List Int) : PureCall Tryz.prog [] 159 [slE x, slE y] (.i (sgn (cmpL x y))) :=
 pure_of_vc (T := T0) (an := r1size_an x y) mixed tb0_sound (Eq.mp (by kernel_rfl) (r1size_vc x y))
theorem r1size_T : PureT Tryz.prog [] 159 r1size_t := by
 intro xs ps r h hp
 unfold r1size_t at h
 split at h
 ·skip
  rename_i x_x x_y
  cases h
  obtain ⟨q0, q1, -⟩ := allC hp
  exact weaken (ys := [slE (intsOf x_x), slE (intsOf x_y)]) ⟨slE_sound q0, slE_sound q1, trivial⟩ (r1size_C (intsOf x_x) (intsOf x_y))
 ·cases h
end Go.Te
