/- kingpostref01: reading, small integers. -/
import Derived.Test.YtdkpceodckdcfaaGreatDoorTeF
import Derived.Test.YtdkpceodckdcfaaGreatDoorArL
import Derived.Test.YtdkpceodckdcfaaGreatDoorArI
set_option linter.unusedSimpArgs false
set_option linter.unusedVariables false
namespace Go.Te
open Go Go.Sx Go.Proofs Go.Ar
set_option maxRecDepth 100000
set_option maxHeartbeats 4000000
def r1both_t : List AV → Option (List Cond × AV)
 | [.str a, .str b] => some ([.p (a.length ≤ 4294967280), .p (b.length ≤ 4294967280)], .i (bothE a b))
 | _ => none
theorem r1both_vc (a : List UInt8) (b : List UInt8) (hl : a.length ≤ 4294967280) (hm : b.length ≤ 4294967280) :
 bndL [AV.str a, AV.str b] → lN a ≤ 4294967280 ∧ bsplit (intE a != iZ) (kI ∧ intE a = bothE a b) (lN b ≤ 4294967280 ∧ kI ∧ intE b = bothE a b) := by
 delta kI lN iZ
 intro hb
 simp only [sS, dS]
 exact ⟨hl, fun h => by unfold bothE; rw [bne_iff_ne.2 h]; rfl, fun h => ⟨hm, by unfold bothE; rw [h]; rfl⟩⟩
theorem r1both_C (a : List UInt8) (b : List UInt8) (hl : a.length ≤ 4294967280) (hm : b.length ≤ 4294967280) : PureCall Tryz.prog [] 102 [.str a, .str b] (.i (bothE a b)) :=
 pure_of_vc (T := T0.plus 152 r1check_t) (an := .auto) mixed (TbSound.plus tb0_sound r1check_T) (Eq.mp (by kernel_rfl) (r1both_vc a b hl hm))
theorem r1both_T : PureT Tryz.prog [] 102 r1both_t := by
 intro xs ps r h hp
 unfold r1both_t at h
 split at h
 ·skip
  rename_i a b
  cases h
  obtain ⟨q0, q1, -⟩ := allC hp
  exact weaken (ys := [.str a, .str b]) ⟨avM_refl _, avM_refl _, trivial⟩ (r1both_C a b q0 q1)
 ·cases h
def r1small_an (a : Str) : Ann :=
 .two .auto (.two .auto (.two .auto (.two (.two .auto (.one (.loop Nat (fun σ z => [(0, σ.tm 0), (4, .i (decV (nums a z) : Int)), (5, .i z)]) (fun σ z => []) 0 (fun σ z => z ≤ a.length) (fun σ z => a.length - z) .auto))) .auto)))
def r1small_t : List AV → Option (List Cond × AV)
 | [.str a] => some ([.p (intB a = true), .p (a.length ≤ 4294967280)], .tup 2 (listFn [.i (bif leB a.length 17 then valI a else 0), .b (leB a.length 17)]))
 | _ => none
theorem r1small_vc (a : List UInt8) (hi : intB a = true) (hl : a.length ≤ 4294967280) :
 bndL [AV.str a] → bsplit (ltB (17 : Int) (lZ a)) (j2 ∧ (True ∧ kI ∧ iZ = bif leB (lZ a) (17 : Int) then valI a else iZ) ∧ false = leB (lZ a) (17 : Int)) ((∃ (z : Nat), (z ≤ lN a ∧ a = a ∧ (kI ∧ iZ = (↑(decV (nums a z)) : Int)) ∧ kI ∧ iZ = (↑z : Int)) ∧ True) ∧ ∀ (z : Nat), z ≤ lN a → bsplit (ltB (↑z : Int) (lZ a)) (bsplit (DB.db (iZ ≤ (↑z : Int) ∧ (↑z : Int) < (lZ a)))
 (bsplit ((↑(UInt8.toNat (gD a (Int.toNat (↑z : Int)) (0 : UInt8))) : Int) != (45 : Int)) (bsplit (DB.db (inK .i64 ((10 : Int) * (↑(decV (nums a z)) : Int)))) (bsplit (DB.db (iZ ≤ (↑z : Int) ∧ (↑z : Int) < (lZ a))) (bsplit (DB.db (inK IntKind.u8 ((↑(UInt8.toNat (gD a (Int.toNat (↑z : Int)) (0 : UInt8))) : Int) - (48 : Int)))) (bsplit (DB.db (inK .i64 ((↑(UInt8.toNat (gD a (Int.toNat (↑z : Int)) (0 : UInt8))) : Int) - (48 : Int)))) (bsplit (DB.db (inK .i64 ((10 : Int) * (↑(decV (nums a z)) : Int) + ((↑(UInt8.toNat (gD a (Int.toNat (↑z : Int))
 (0 : UInt8))) : Int) - (48 : Int))))) (bsplit (DB.db (inK .i64 ((↑z : Int) + iO))) (∃ (z' : Nat), ((z' ≤ lN a ∧ lN a - z' < lN a - z) ∧ a = a ∧ (kI ∧ (10 : Int) * (↑(decV (nums a z)) : Int) + ((↑(UInt8.toNat (gD a (Int.toNat (↑z : Int)) (0 : UInt8))) : Int) - (48 : Int)) = (↑(decV (nums a z')) : Int)) ∧ kI ∧ (↑z : Int) + iO = (↑z' : Int)) ∧ True) False) False) False) False) False) False) (bsplit (DB.db (inK .i64 ((↑z : Int) + iO))) (∃ (z' : Nat), ((z' ≤ lN a ∧ lN a - z' < lN a - z)
 ∧ a = a ∧ (kI ∧ (↑(decV (nums a z)) : Int) = (↑(decV (nums a z')) : Int)) ∧ kI ∧ (↑z : Int) + iO = (↑z' : Int)) ∧ True) False)) False) (bsplit (DB.db (iZ ≤ iZ ∧ iZ < (lZ a))) (bsplit ((↑(UInt8.toNat (gD a 0 (0 : UInt8))) : Int) == (45 : Int)) (bsplit (DB.db (inK .i64 (-(↑(decV (nums a z)) : Int)))) (j2 ∧ (True ∧ kI ∧ -(↑(decV (nums a z)) : Int) = bif leB (lZ a) (17 : Int) then valI a else iZ) ∧ true = leB (lZ a) (17 :
 Int)) False) (j2 ∧ (True ∧ kI ∧ (↑(decV (nums a z)) : Int) = bif leB (lZ a) (17 : Int) then valI a else iZ) ∧ true = leB (lZ a) (17 : Int))) False)) := by
 delta kI j2 lZ lN gD iZ iO
 intro hb
 simp only [sS, dS]
 have h0 : 0 < a.length := by
  match a, hi with
  | [], hi => cases hi
  | c :: r, _ => simp
 have e45 : ∀ z, (((a.getD z 0).toNat : Int) = 45) ↔ a.getD z 0 = 45 := fun z => by
  have := byte_eq (a.getD z 0) 45 (by decide)
  rw [Bool.eq_iff_iff, beq_iff_eq, beq_iff_eq] at this
  exact this
 refine ⟨fun h => ?_, fun h => ?_⟩
 ·rw [show leB (a.length : Int) 17 = false by rw [Bool.eq_false_iff, Ne, leB_iff]; omega]
  exact ⟨rfl, rfl, rfl⟩
 rw [show leB (a.length : Int) 17 = true from (leB_iff _ _).2 h]
 have hv := valI_nums hi
 refine ⟨⟨0, Nat.zero_le _, rfl, rfl⟩, fun z hz => ⟨fun hlt => ⟨⟨by omega, hlt⟩, fun hne => ?_, fun he => ?_⟩, fun hge => ⟨⟨Int.le_refl _, by omega⟩, fun he => ?_, fun hne => ?_⟩⟩⟩
 ·have hne' : a.getD z 0 ≠ 45 := fun e => hne ((e45 z).2 e)
  have hd := int_bytes hi (i := z) (by omega) hne'
  have hdi := isDg_iff.1 hd
  have b1 := nums_bound hi (by omega) z
  have hst : (decV (nums a (z + 1)) : Int) = 10 * (decV (nums a z) : Int) + (((a.getD z 0).toNat : Int) - 48) := by
   rw [nums_dg (by omega) hne', decV_snoc]
   unfold dgV
   omega
  exact ⟨⟨by omega, by omega⟩, ⟨by omega, hlt⟩, ⟨by omega, by omega⟩, ⟨by omega, by omega⟩, ⟨by omega, by omega⟩, ⟨by omega, by omega⟩, z + 1, ⟨by omega, by omega⟩, hst.symm, by omega⟩
 ·have he' := (e45 z).1 he
  exact ⟨⟨by omega, by omega⟩, z + 1, ⟨by omega, by omega⟩, by rw [nums_minus (by omega) he'], by omega⟩
 ·obtain rfl : z = a.length := by omega
  have b1 := nums_bound hi (by omega) a.length
  rw [if_pos ((e45 0).1 he)] at hv
  exact ⟨⟨by omega, by omega⟩, rfl, hv.symm, rfl⟩
 ·rw [if_neg fun e => hne ((e45 0).2 e)] at hv
  rw [show z = a.length by omega]
  exact ⟨rfl, hv.symm, rfl⟩
theorem r1small_C (a : List UInt8) (hi : intB a = true) (hl : a.length ≤ 4294967280) : PureCall Tryz.prog [] 153 [.str a] (.tup 2 (listFn [.i (bif leB a.length 17 then valI a else 0), .b (leB a.length 17)])) :=
 pure_of_vc (T := T0) (an := r1small_an a) mixed tb0_sound (Eq.mp (by kernel_rfl) (r1small_vc a hi hl))
theorem r1small_T : PureT Tryz.prog [] 153 r1small_t := by
 intro xs ps r h hp
 unfold r1small_t at h
 split at h
 ·skip
  rename_i a
  cases h
  obtain ⟨q0, q1, -⟩ := allC hp
  exact weaken (ys := [.str a]) ⟨avM_refl _, trivial⟩ (r1small_C a q0 q1)
 ·cases h
def cellB : OB → Nat → AV
 | .box _ _ cs, j => cs j
 | _, _ => .junk
def iArr (l : List Int) : OB := .arr 3 1 l.length fun i _ => .i (l.getD i 0)
def r1read_an (a : Str) : Ann :=
 .two .auto (.two .auto (.two .auto (.two (.two .auto (.one (.loop RdL (fun σ z => [(0, σ.tm 0), (2, σ.tm 2), (3, σ.tm 3), (4, .i (((AV.bytes (σ.tm 0)).length : Int) - 6 * (z.k : Int)))]) (fun σ z => [(1, .box 143 2 (listFn [cellB (σ.bl 1) 0, .ns σ.nb 0 z.L.length])), (σ.nb, iArr z.L)]) 1 (fun σ z => Rd6 (AV.bytes (σ.tm 0)) z) (fun σ z => (AV.bytes (σ.tm 0)).length + 6 - 6 * z.k) (.two .auto (.two (.one (.two .auto (.two (.two .auto (.one (.loop Nat (fun σ z => [(0, σ.tm 0), (2, σ.tm 2), (3, σ.tm 3), (4, σ.tm 4), (5, .i (decV (((AV.bytes (σ.tm 0)).take z).drop ((AV.int (σ.tm 4)).toNat - 6)) : Int)), (6, .i z)]) (fun σ z => []) 0 (fun σ z => (AV.int (σ.tm 4)).toNat - 6 ≤ z ∧ z ≤ (AV.int (σ.tm 4)).toNat) (fun σ z => (AV.int (σ.tm 4)).toNat - z) .auto))) .auto))) .auto))))) .auto)))
def r1read_t : List AV → Option (List Cond × AV)
 | [.str a] => some ([.p (intB a = true), .p (a.length ≤ 4294967280)], .agg 2 (listFn [.b (a.getD 0 0 == 45), slE (limbs 1000000 (valI a).natAbs)]))
 | _ => none
theorem r1read_vc (a : List UInt8) (hi : intB a = true) (hl : a.length ≤ 4294967280) :
 let q1 := (lZ (AV.bytes (AV.str (List.drop 1 a)))); let q2 := (143 = 143 ∧ 2 = 2 ∧ false = false ∧ Value.slice (Non Addr) 0 0 = Array.getD (Value.cells (Value.agg #[Value.bool false, Value.slice (Non Addr) 0 0])) (nat_lit 1) undef); let q12 := (gD a 0 (0 : UInt8) == (45 : UInt8)); let q14 := (lZ (AV.bytes (AV.str a))); bndL [AV.str a] → bsplit (DB.db (iZ ≤ iZ ∧ iZ < (lZ a))) (bsplit ((↑(UInt8.toNat (gD a 0 (0 : UInt8))) : Int) == (45 : Int)) (bsplit (DB.db (iZ ≤ iO ∧ iO ≤ (↑(List.length
 a) : Int))) ((∃ (z : RdL), (Rd6 (AV.bytes (AV.str (List.drop 1 a))) z ∧ List.drop 1 a = List.drop 1 a ∧ (nat_lit 0 = 0 ∧ 0 = 0) ∧ (nat_lit 1 = 1 ∧ 0 = 0) ∧ kI ∧ (lZ (List.drop 1 a)) = q1 - (6 : Int) * (↑(RdL.k z) : Int)) ∧ (q2 ∧ (143 : TypeId) = 143 ∧ 2 = 2 ∧ true = true ∧ some (Non Nat) = some (Non Nat) ∧ 0 = 0 ∧ lN (RdL.L z) = 0) ∧ lN (RdL.L z) = 0) ∧ ∀ (z : RdL), let q3 := (q1 - (6 : Int) * (↑(RdL.k z) : Int)); let q4 := (DB.db (inK .i64 (q1 - (6 : Int) * (↑(RdL.k z) : Int) - (6 : Int)))); let q5 := (AV.int (aI q3)); let
 q6 := (kI ∧ q1 - (6 : Int) * (↑(RdL.k z) : Int) = q1 - (6 : Int) * (↑(RdL.k z) : Int)); let q7 := (Int.toNat q5 - 6); let q8 := (q2 ∧ 143 = 143 ∧ 2 = 2 ∧ true = true ∧ nat_lit 2 = 2 ∧ 0 = 0 ∧ lN (RdL.L z) = lN (RdL.L z)); let q11 := (AV.xl false 1 (lN (RdL.L z)) fun i j => aI (gD (RdL.L z) (0 + i) iZ)); let q13 := (trimL (intsOf q11)); Rd6 (AV.bytes (AV.str (List.drop 1 a))) z → bsplit (ltB iZ q3) (bsplit q4 ((∃ (z_1 : Nat), ((Int.toNat q5 - 6 ≤ z_1 ∧ z_1 ≤ Int.toNat q5) ∧ List.drop 1 a = List.drop 1 a ∧ (nat_lit
 0 = 0 ∧ 0 = 0) ∧ (nat_lit 1 = 1 ∧ 0 = 0) ∧ q6 ∧ (kI ∧ iZ = (↑(decV (List.drop q7 (List.take z_1 (AV.bytes (AV.str (List.drop 1 a)))))) : Int)) ∧ kI ∧ (if q1 - (6 : Int) * (↑(RdL.k z) : Int) - (6 : Int) > iZ then q1 - (6 : Int) * (↑(RdL.k z) : Int) - (6 : Int) else iZ) = (↑z_1 : Int)) ∧ q8 ∧ 3 = 3 ∧ 1 = 1 ∧ lN (RdL.L z) = lN (RdL.L z) ∧ ∀ (i j : Nat), i < lN (RdL.L z) → j < 1 → kI ∧ gD (RdL.L z) i iZ = gD (RdL.L z) i iZ) ∧ ∀ (z_1 : Nat), let q9 := (↑(decV (List.drop q7
 (List.take z_1 (AV.bytes (AV.str (List.drop 1 a)))))) : Int); let q10 := ((↑(UInt8.toNat (gD (List.drop 1 a) (Int.toNat (↑z_1 : Int)) (0 : UInt8))) : Int) - (48 : Int)); Int.toNat q5 - 6 ≤ z_1 ∧ z_1 ≤ Int.toNat q5 → bsplit (ltB (↑z_1 : Int) q3) (bsplit (DB.db (inK .i64 ((10 : Int) * q9))) (bsplit (DB.db (iZ ≤ (↑z_1 : Int) ∧ (↑z_1 : Int) < (lZ (List.drop 1 a)))) (bsplit (DB.db (inK IntKind.u8 q10)) (bsplit (DB.db (inK .i64 q10)) (bsplit (DB.db (inK .i64 ((10 : Int) * q9 + q10))) (bsplit (DB.db (inK .i64 ((↑z_1 : Int) + iO))) (∃ (z' : Nat), (((Int.toNat q5 -
 6 ≤ z' ∧ z' ≤ Int.toNat q5) ∧ Int.toNat q5 - z' < Int.toNat q5 - z_1) ∧ List.drop 1 a = List.drop 1 a ∧ (nat_lit 0 = 0 ∧ 0 = 0) ∧ (nat_lit 1 = 1 ∧ 0 = 0) ∧ q6 ∧ (kI ∧ (10 : Int) * q9 + q10 = (↑(decV (List.drop q7 (List.take z' (AV.bytes (AV.str (List.drop 1 a)))))) : Int)) ∧ kI ∧ (↑z_1 : Int) + iO = (↑z' : Int)) ∧ q8 ∧ 3 = 3 ∧ 1 = 1 ∧ lN (RdL.L z) = lN (RdL.L z) ∧ ∀ (i j : Nat), i < lN (RdL.L z) → j < 1 → kI ∧ gD (RdL.L z) i iZ = gD (RdL.L z) i iZ) False) False) False) False) False)
 False) (bsplit (DB.db ((lN (RdL.L z) + 1) * 8 ≤ 140737488355328)) (bsplit q4 (∃ (z' : RdL), ((Rd6 (AV.bytes (AV.str (List.drop 1 a))) z' ∧ lN (AV.bytes (AV.str (List.drop 1 a))) + 6 - 6 * RdL.k z' < lN (AV.bytes (AV.str (List.drop 1 a))) + 6 - 6 * RdL.k z) ∧ List.drop 1 a = List.drop 1 a ∧ (nat_lit 0 = 0 ∧ 0 = 0) ∧ (nat_lit 1 = 1 ∧ 0 = 0) ∧ kI ∧ q1 - (6 : Int) * (↑(RdL.k z) : Int) - (6 : Int) = q1 - (6 : Int) * (↑(RdL.k z') : Int)) ∧ (q2 ∧ 143 = 143 ∧ 2 = 2 ∧ true = true ∧ nat_lit 2 = 2 ∧ 0 = 0 ∧ lN (RdL.L z') = lN (RdL.L z) + 1) ∧ (3
 : TypeId) = 3 ∧ 1 = 1 ∧ lN (RdL.L z') = lN (RdL.L z) + 1 ∧ ∀ (i j : Nat), i < lN (RdL.L z) + 1 → j < 1 → avM (if i < lN (RdL.L z) then aI (gD (RdL.L z) i iZ) else Sx.rowAt [fun (x : Nat) => aI q9] (i - lN (RdL.L z)) j) (aI (gD (RdL.L z') i iZ))) False) False)) False) (bsplit (slOk Int q11) (2 = 2 ∧ true = q12 ∧ (false = true → false = true) ∧ 1 = 1 ∧ lN (limbs 1000000 (Int.natAbs (valI a))) = lN q13 ∧ ∀ (i j : Nat), i < lN q13 → j < 1 →
 kI ∧ gD q13 i Enc.dflt = gD (limbs 1000000 (Int.natAbs (valI a))) i Enc.dflt) False)) False) ((∃ (z : RdL), (Rd6 (AV.bytes (AV.str a)) z ∧ a = a ∧ (nat_lit 0 = 0 ∧ 0 = 0) ∧ (nat_lit 1 = 1 ∧ 0 = 0) ∧ kI ∧ (lZ a) = q14 - (6 : Int) * (↑(RdL.k z) : Int)) ∧ (q2 ∧ (143 : TypeId) = 143 ∧ 2 = 2 ∧ false = false ∧ some (Non Nat) = some (Non Nat) ∧ 0 = 0 ∧ lN (RdL.L z) = 0) ∧ lN (RdL.L z) = 0) ∧ ∀ (z : RdL), let q15 := (q14 - (6 : Int) * (↑(RdL.k z) : Int)); let q16 := (DB.db (inK .i64 (q14 - (6 : Int) * (↑(RdL.k z) : Int) -
 (6 : Int)))); let q17 := (AV.int (aI q15)); let q18 := (kI ∧ q14 - (6 : Int) * (↑(RdL.k z) : Int) = q14 - (6 : Int) * (↑(RdL.k z) : Int)); let q19 := (Int.toNat q17 - 6); let q20 := (q2 ∧ 143 = 143 ∧ 2 = 2 ∧ false = false ∧ nat_lit 2 = 2 ∧ 0 = 0 ∧ lN (RdL.L z) = lN (RdL.L z)); let q23 := (AV.xl false 1 (lN (RdL.L z)) fun i j => aI (gD (RdL.L z) (0 + i) iZ)); let q24 := (trimL (intsOf q23)); Rd6 (AV.bytes (AV.str a)) z → bsplit (ltB iZ q15) (bsplit q16 ((∃ (z_1 : Nat), ((Int.toNat q17 - 6 ≤ z_1
 ∧ z_1 ≤ Int.toNat q17) ∧ a = a ∧ (nat_lit 0 = 0 ∧ 0 = 0) ∧ (nat_lit 1 = 1 ∧ 0 = 0) ∧ q18 ∧ (kI ∧ iZ = (↑(decV (List.drop q19 (List.take z_1 (AV.bytes (AV.str a))))) : Int)) ∧ kI ∧ (if q14 - (6 : Int) * (↑(RdL.k z) : Int) - (6 : Int) > iZ then q14 - (6 : Int) * (↑(RdL.k z) : Int) - (6 : Int) else iZ) = (↑z_1 : Int)) ∧ q20 ∧ 3 = 3 ∧ 1 = 1 ∧ lN (RdL.L z) = lN (RdL.L z) ∧ ∀ (i j : Nat), i < lN (RdL.L z) → j < 1 → kI ∧ gD (RdL.L z) i iZ = gD (RdL.L z) i iZ) ∧ ∀ (z_1 : Nat), let
 q21 := (↑(decV (List.drop q19 (List.take z_1 (AV.bytes (AV.str a))))) : Int); let q22 := ((↑(UInt8.toNat (gD a (Int.toNat (↑z_1 : Int)) (0 : UInt8))) : Int) - (48 : Int)); Int.toNat q17 - 6 ≤ z_1 ∧ z_1 ≤ Int.toNat q17 → bsplit (ltB (↑z_1 : Int) q15) (bsplit (DB.db (inK .i64 ((10 : Int) * q21))) (bsplit (DB.db (iZ ≤ (↑z_1 : Int) ∧ (↑z_1 : Int) < (lZ a))) (bsplit (DB.db (inK IntKind.u8 q22)) (bsplit (DB.db (inK .i64 q22)) (bsplit (DB.db (inK .i64 ((10 : Int) * q21 + q22))) (bsplit (DB.db (inK .i64 ((↑z_1 : Int) + iO))) (∃ (z' : Nat), (((Int.toNat q17 - 6 ≤
 z' ∧ z' ≤ Int.toNat q17) ∧ Int.toNat q17 - z' < Int.toNat q17 - z_1) ∧ a = a ∧ (nat_lit 0 = 0 ∧ 0 = 0) ∧ (nat_lit 1 = 1 ∧ 0 = 0) ∧ q18 ∧ (kI ∧ (10 : Int) * q21 + q22 = (↑(decV (List.drop q19 (List.take z' (AV.bytes (AV.str a))))) : Int)) ∧ kI ∧ (↑z_1 : Int) + iO = (↑z' : Int)) ∧ q20 ∧ 3 = 3 ∧ 1 = 1 ∧ lN (RdL.L z) = lN (RdL.L z) ∧ ∀ (i j : Nat), i < lN (RdL.L z) → j < 1 → kI ∧ gD (RdL.L z) i iZ = gD (RdL.L z) i iZ) False) False) False) False) False) False) (bsplit (DB.db ((List.length
 (RdL.L z) + 1) * 8 ≤ 140737488355328)) (bsplit q16 (∃ (z' : RdL), ((Rd6 (AV.bytes (AV.str a)) z' ∧ lN (AV.bytes (AV.str a)) + 6 - 6 * RdL.k z' < lN (AV.bytes (AV.str a)) + 6 - 6 * RdL.k z) ∧ a = a ∧ (nat_lit 0 = 0 ∧ 0 = 0) ∧ (nat_lit 1 = 1 ∧ 0 = 0) ∧ kI ∧ q14 - (6 : Int) * (↑(RdL.k z) : Int) - (6 : Int) = q14 - (6 : Int) * (↑(RdL.k z') : Int)) ∧ (q2 ∧ 143 = 143 ∧ 2 = 2 ∧ false = false ∧ nat_lit 2 = 2 ∧ 0 = 0 ∧ lN (RdL.L z') = lN (RdL.L z) + 1) ∧ (3 : TypeId) = 3 ∧ 1 = 1 ∧ lN (RdL.L z') = lN (RdL.L z) + 1 ∧ ∀ (i j : Nat), i <
 lN (RdL.L z) + 1 → j < 1 → avM (if i < lN (RdL.L z) then aI (gD (RdL.L z) i iZ) else Sx.rowAt [fun (x : Nat) => aI q21] (i - lN (RdL.L z)) j) (aI (gD (RdL.L z') i iZ))) False) False)) False) (bsplit (slOk Int q23) (2 = 2 ∧ false = q12 ∧ (false = true → false = true) ∧ 1 = 1 ∧ lN (limbs 1000000 (Int.natAbs (valI a))) = lN q24 ∧ ∀ (i j : Nat), i < lN q24 → j < 1 → kI ∧ gD q24 i Enc.dflt = gD (limbs 1000000 (Int.natAbs (valI a))) i
 Enc.dflt) False))) False := by
 delta kI lZ lN gD iZ iO aI
 dsimp only
 intro hb
 have eb : ∀ l : Str, AV.bytes (.str l) = l := fun _ => rfl
 have e0 : (Enc.dflt : Int) = 0 := rfl
 simp only [↓vc_db, ↓vc_gdb, row_one, eb]
 simp only [sS, dS, e0]
 have h0 : 0 < a.length := by
  match a, hi with
  | [], hi => cases hi
  | c :: r, _ => simp
 have e45 : (((a.getD 0 0).toNat : Int) = 45) ↔ a.getD 0 0 = 45 := by
  have := byte_eq (a.getD 0 0) 45 (by decide)
  rw [Bool.eq_iff_iff, beq_iff_eq, beq_iff_eq] at this
  exact this
 refine ⟨⟨Int.le_refl _, by omega⟩, fun h => ⟨⟨by omega, by omega⟩, ?_⟩, fun h => ?_⟩
 ·have hm := e45.1 h
  obtain ⟨_, hm1, _, hm4⟩ := int_minus h0 hm
  have hd1 : digS (a.drop 1) = true := by
   rw [hi] at hm1
   cases hx : digS (a.drop 1) with
   | true => rfl
   | false => rw [hx] at hm1; cases hm1
  have hm2 : (a.getD 0 0 == 45) = true := beq_iff_eq.2 hm
  have hs : ∀ c ∈ a.drop 1, isDg c = true := (digS_iff.1 hd1).2.1
  have hsl : (a.drop 1).length ≤ 4294967280 := by rw [List.length_drop]; omega
  generalize hS : a.drop 1 = s at *
  refine ⟨⟨⟨0, []⟩, ⟨.start s, by simp⟩, ⟨rfl, rfl⟩, rfl⟩, fun z hz => ⟨fun hlt => ?_, fun hge => ?_⟩⟩
  ·have hk : 6 * z.k < s.length := by omega
   have ht : ((s.length : Int) - 6 * (z.k : Int)).toNat = s.length - 6 * z.k := by omega
   rw [ht]
   refine ⟨⟨by omega, by omega⟩, ⟨s.length - 6 * z.k - 6, ⟨⟨Nat.le_refl _, by omega⟩, ?_, by split <;> omega⟩, rfl, fun _ _ _ _ => trivial⟩, fun i ⟨i1, i2⟩ => ⟨fun hi2 => ?_, fun hi2 => ?_⟩⟩
   ·rw [List.drop_of_length_le (by rw [List.length_take]; omega)]; rfl
   ·have hd := hs (s.getD i 0) (by rw [List.getD_eq_getElem?_getD, List.getElem?_eq_getElem (by omega)]; exact List.getElem_mem _)
    have hdi := isDg_iff.1 hd
    have b1 := chunk_lt hs (k := z.k) i2
    have hst : (decV (chunk s z.k (i + 1)) : Int) = 10 * (decV (chunk s z.k i) : Int) + (((s.getD i 0).toNat : Int) - 48) := by
     rw [chunk_step (by omega) i1, decV_snoc]
     unfold dgV
     omega
    have ec : ∀ i, (s.take i).drop (s.length - 6 * z.k - 6) = chunk s z.k i := fun i => rfl
    simp only [ec]
    exact ⟨⟨by omega, by omega⟩, ⟨by omega, by omega⟩, ⟨by omega, by omega⟩, ⟨by omega, by omega⟩, ⟨by omega, by omega⟩, ⟨by omega, by omega⟩, i + 1, ⟨⟨⟨by omega, by omega⟩, by omega⟩, hst.symm, by omega⟩, rfl, fun _ _ _ _ => trivial⟩
   ·have hlen := hz.len
    refine ⟨by omega, ⟨by omega, by omega⟩, ⟨z.k + 1, z.L ++ [(decV (chunk s z.k (s.length - 6 * z.k)) : Int)]⟩, ⟨⟨hz.step hs hk, by simp only; omega⟩, by simp only; omega⟩, ⟨rfl, by simp⟩, by simp, fun x y hx _ => ?_⟩
    have ei : i = s.length - 6 * z.k := by omega
    subst ei
    split
    ·rename_i hlt2
     rw [List.getD_eq_getElem?_getD, List.getD_eq_getElem?_getD, List.getElem?_append_left hlt2]; exact avM_refl _
    ·rename_i hge2
     have ex : x = z.L.length := by omega
     subst ex
     show avM _ (AV.v (Value.int .i64 ((z.L ++ [(decV (chunk s z.k (s.length - 6 * z.k)) : Int)]).getD z.L.length 0)))
     rw [List.getD_eq_getElem?_getD, List.getElem?_append_right (Nat.le_refl _), Nat.sub_self]
     exact avM_refl _
  ·have he := hz.end_ (by omega)
   rw [he, show (valI a).natAbs = decV s by rw [hm4]; omega]
   exact ⟨hm2.symm, fun h => h, rfl, fun _ _ _ _ => rfl⟩
 ·have hm : a.getD 0 0 ≠ 45 := fun e => h (e45.2 e)
  obtain ⟨hp1, _, hp3⟩ := int_plain (a := a) fun e => hm e.2
  rw [hi] at hp1
  have hp1 := hp1.symm
  have hp4 : (a.getD 0 0 == 45) = false := beq_eq_false_iff_ne.2 hm
  have hs : ∀ c ∈ a, isDg c = true := (digS_iff.1 hp1).2.1
  have hsl : a.length ≤ 4294967280 := by exact hl
  generalize hS : a = s at *
  refine ⟨⟨⟨0, []⟩, ⟨.start s, by simp⟩, ⟨rfl, rfl⟩, rfl⟩, fun z hz => ⟨fun hlt => ?_, fun hge => ?_⟩⟩
  ·have hk : 6 * z.k < s.length := by omega
   have ht : ((s.length : Int) - 6 * (z.k : Int)).toNat = s.length - 6 * z.k := by omega
   rw [ht]
   refine ⟨⟨by omega, by omega⟩, ⟨s.length - 6 * z.k - 6, ⟨⟨Nat.le_refl _, by omega⟩, ?_, by split <;> omega⟩, rfl, fun _ _ _ _ => trivial⟩, fun i ⟨i1, i2⟩ => ⟨fun hi2 => ?_, fun hi2 => ?_⟩⟩
   ·rw [List.drop_of_length_le (by rw [List.length_take]; omega)]; rfl
   ·have hd := hs (s.getD i 0) (by rw [List.getD_eq_getElem?_getD, List.getElem?_eq_getElem (by omega)]; exact List.getElem_mem _)
    have hdi := isDg_iff.1 hd
    have b1 := chunk_lt hs (k := z.k) i2
    have hst : (decV (chunk s z.k (i + 1)) : Int) = 10 * (decV (chunk s z.k i) : Int) + (((s.getD i 0).toNat : Int) - 48) := by
     rw [chunk_step (by omega) i1, decV_snoc]
     unfold dgV
     omega
    have ec : ∀ i, (s.take i).drop (s.length - 6 * z.k - 6) = chunk s z.k i := fun i => rfl
    simp only [ec]
    exact ⟨⟨by omega, by omega⟩, ⟨by omega, by omega⟩, ⟨by omega, by omega⟩, ⟨by omega, by omega⟩, ⟨by omega, by omega⟩, ⟨by omega, by omega⟩, i + 1, ⟨⟨⟨by omega, by omega⟩, by omega⟩, hst.symm, by omega⟩, rfl, fun _ _ _ _ => trivial⟩
   ·have hlen := hz.len
    refine ⟨by omega, ⟨by omega, by omega⟩, ⟨z.k + 1, z.L ++ [(decV (chunk s z.k (s.length - 6 * z.k)) : Int)]⟩, ⟨⟨hz.step hs hk, by simp only; omega⟩, by simp only; omega⟩, ⟨rfl, by simp⟩, by simp, fun x y hx _ => ?_⟩
    have ei : i = s.length - 6 * z.k := by omega
    subst ei
    split
    ·rename_i hlt2
     rw [List.getD_eq_getElem?_getD, List.getD_eq_getElem?_getD, List.getElem?_append_left hlt2]; exact avM_refl _
    ·rename_i hge2
     have ex : x = z.L.length := by omega
     subst ex
     show avM _ (AV.v (Value.int .i64 ((z.L ++ [(decV (chunk s z.k (s.length - 6 * z.k)) : Int)]).getD z.L.length 0)))
     rw [List.getD_eq_getElem?_getD, List.getElem?_append_right (Nat.le_refl _), Nat.sub_self]
     exact avM_refl _
  ·have he := hz.end_ (by omega)
   rw [he, show (valI s).natAbs = decV s by rw [hp3]; omega]
   exact ⟨hp4.symm, fun h => h, rfl, fun _ _ _ _ => rfl⟩
theorem r1read_C (a : List UInt8) (hi : intB a = true) (hl : a.length ≤ 4294967280) : PureCall Tryz.prog [] 104 [.str a] (.agg 2 (listFn [.b (a.getD 0 0 == 45), slE (limbs 1000000 (valI a).natAbs)])) :=
 pure_of_vc (T := T0.plus 154 r1trim_t) (an := r1read_an a) mixed (TbSound.plus tb0_sound r1trim_T) (Eq.mp (by kernel_rfl) (r1read_vc a hi hl))
theorem r1read_T : PureT Tryz.prog [] 104 r1read_t := by
 intro xs ps r h hp
 unfold r1read_t at h
 split at h
 ·skip
  rename_i a
  cases h
  obtain ⟨q0, q1, -⟩ := allC hp
  exact weaken (ys := [.str a]) ⟨avM_refl _, trivial⟩ (r1read_C a q0 q1)
 ·cases h
end Go.Te

namespace Go.Te
open Go Go.Sx Go.Proofs Go.Ar
set_option maxRecDepth 100000
set_option maxHeartbeats 4000000
theorem snocI (l : List Int) (v : Int) (i j : Nat) (hi : i < l.length + 1) (_ : j < 1) : avM (if i < l.length then AV.v (Value.int IntKind.i64 (l.getD i 0)) else AV.v (Value.int IntKind.i64 v)) (AV.v (Value.int IntKind.i64 ((l ++ [v]).getD i 0))) := by
 refine avM_of_eq ?_
 split
 ·rename_i h
  rw [List.getD_eq_getElem?_getD, List.getD_eq_getElem?_getD, List.getElem?_append_left h]
 ·obtain rfl : i = l.length := by omega
  rw [List.getD_eq_getElem?_getD (l := l ++ [v]), List.getElem?_append_right (Nat.le_refl _), Nat.sub_self]; rfl
theorem setI (l : List Int) (k : Nat) (v : Int) (hk : k < l.length) (i j : Nat) (hj : j < 1) : avM (if i = k ∧ j < 1 then AV.v (Value.int IntKind.i64 v) else AV.v (Value.int IntKind.i64 (l.getD i 0))) (AV.v (Value.int IntKind.i64 ((l.set k v).getD i 0))) := by
 refine avM_of_eq ?_
 rw [getD_setI l i k v hk]
 by_cases e : i = k
 ·rw [if_pos ⟨e, hj⟩, if_pos e]
 ·rw [if_neg fun h => e h.1, if_neg e]
theorem zeroI (n i j : Nat) (hj : j < 1) : avM (zcell (Value.int IntKind.i64 0) j) (AV.v (Value.int IntKind.i64 ((List.replicate n (0 : Int)).getD i 0))) := by
 obtain rfl : j = 0 := by omega
 rw [getD_rep]; exact avM_of_eq rfl
theorem _root_.Go.Ar.MulK.fin {b : Int} {x y : List Int} {z k : Nat} {out : List Int} {c : Int} (h : MulK b x y z k out c) (hk : y.length ≤ k) (hk2 : k ≤ y.length + 1) (hc : c = 0) : MulZ b x y (z + 1) out := by
 subst hc
 refine ⟨h.len, h.in_, fun i hi => h.zero i (by omega) (by omega), ?_⟩
 have hv := h.val
 rw [Int.mul_zero, Int.add_zero, take_max (x := y) hk] at hv
 rw [hv, valL_takeB b x, Int.add_mul, Int.mul_assoc]
structure LbC where
 out : List Int
 c : Int
def r1minus_an (x y : List Int) : Ann :=
 .two .auto (.two .auto (.two .auto (.two (.two .auto (.one (.loop LbC (fun σ z => [(0, σ.tm 0), (1, σ.tm 1), (5, .ns σ.nb 0 z.out.length), (6, .i z.c), (7, .i (z.out.length : Int))]) (fun σ z => [(σ.nb, iArr z.out)]) 1 (fun σ z => DifZ 1000000 x y z.out.length z.out z.c ∧ z.out.length ≤ x.length) (fun σ z => x.length - z.out.length) .auto))) .auto)))
def r1minus_t : List AV → Option (List Cond × AV)
 | [x_x, x_y] => some ([.b (slOk Int x_x), .b (slOk Int x_y), .p (InL 1000000 (intsOf x_x)), .p (InL 1000000 (intsOf x_y)), .p ((intsOf x_y).length ≤ (intsOf x_x).length), .p ((intsOf x_x).length ≤ 1000000000), .p (valL 1000000 (intsOf x_y) ≤ valL 1000000 (intsOf x_x))], slE (limbs 1000000 (valL 1000000 (intsOf x_x) - valL 1000000 (intsOf x_y)).toNat))
 | _ => none
theorem r1minus_vc (x : List Int) (y : List Int) (hx : InL 1000000 x) (hy : InL 1000000 y) (hl : y.length ≤ x.length) (hlx : x.length ≤ 1000000000) (hle : valL 1000000 y ≤ valL 1000000 x) :
 let q1 := (AV.xl false 1 (lN x) fun i j => aI (gD x i Enc.dflt)); let q2 := (AV.xl false 1 (lN y) fun i j => aI (gD y i Enc.dflt)); let q4 := (intsOf q2); let q10 := (limbs 1000000 (Int.toNat (valL (1000000 : Int) x - valL (1000000 : Int) y))); bndL [AV.xl false 1 (lN x) fun i j => aI (gD x i Enc.dflt), AV.xl false 1 (lN y) fun i j => aI (gD y i Enc.dflt)] → (∃ (z : LbC), ((DifZ (1000000 : Int) x y (lN (LbC.out z)) (LbC.out z) (LbC.c z) ∧
 lN (LbC.out z) ≤ lN x) ∧ avM q1 q1 ∧ avM q2 q2 ∧ (some (Non Nat) = some (Non Nat) ∧ 0 = 0 ∧ lN (LbC.out z) = 0 ∧ true = true ∧ 0 = 0) ∧ (kI ∧ iZ = LbC.c z) ∧ kI ∧ iZ = (lZ (LbC.out z))) ∧ lN (LbC.out z) = 0) ∧ ∀ (z : LbC), let q3 := (Int.toNat (lZ (LbC.out z))); let q5 := (gD x q3 Enc.dflt - gD q4 q3 iZ - LbC.c z); let q6 := (gD x q3 Enc.dflt - gD q4 q3 iZ - LbC.c z + (1000000 : Int)); let q7 := (DB.db ((lN (LbC.out z) + 1) * 8
 ≤ 140737488355328)); let q8 := (DB.db (inK .i64 ((lZ (LbC.out z)) + iO))); let q9 := (AV.xl false 1 (lN (LbC.out z)) fun i j => aI (gD (LbC.out z) (0 + i) iZ)); let q11 := (trimL (intsOf q9)); DifZ (1000000 : Int) x y (lN (LbC.out z)) (LbC.out z) (LbC.c z) ∧ lN (LbC.out z) ≤ lN x → bsplit (ltB (lZ (LbC.out z)) (lZ x)) (bsplit (DB.db (iZ ≤ (lZ (LbC.out z)) ∧ (lZ (LbC.out z)) < (lZ x))) (bsplit (slOk Int q2)
 (iZ ≤ (lZ (LbC.out z)) ∧ bsplit (DB.db (inK .i64 (gD x q3 Enc.dflt - gD q4 q3 iZ))) (bsplit (DB.db (inK .i64 q5)) (bsplit (ltB q5 iZ) (bsplit (DB.db (inK .i64 q6)) (bsplit q7 (bsplit q8 (∃ (z' : LbC), (((DifZ (1000000 : Int) x y (lN (LbC.out z')) (LbC.out z') (LbC.c z') ∧ lN (LbC.out z') ≤ lN x) ∧ lN x - lN (LbC.out z') < lN x - lN (LbC.out z)) ∧ avM q1 q1 ∧ avM q2 q2 ∧ (nat_lit 0 = 0 ∧ 0 = 0 ∧ lN (LbC.out z') = lN (LbC.out z) + 1) ∧ (kI ∧ (1 :
 Int) = LbC.c z') ∧ kI ∧ (lZ (LbC.out z)) + iO = (lZ (LbC.out z'))) ∧ (3 : TypeId) = 3 ∧ 1 = 1 ∧ lN (LbC.out z') = lN (LbC.out z) + 1 ∧ ∀ (i j : Nat), i < lN (LbC.out z) + 1 → j < 1 → avM (if i < lN (LbC.out z) then aI (gD (LbC.out z) i iZ) else Sx.rowAt [fun (x_1 : Nat) => aI q6] (i - lN (LbC.out z)) j) (aI (gD (LbC.out z') i iZ))) False) False) False) (bsplit q7 (bsplit q8 (∃ (z' : LbC), (((DifZ (1000000 :
 Int) x y (lN (LbC.out z')) (LbC.out z') (LbC.c z') ∧ lN (LbC.out z') ≤ lN x) ∧ lN x - lN (LbC.out z') < lN x - lN (LbC.out z)) ∧ avM q1 q1 ∧ avM q2 q2 ∧ (nat_lit 0 = 0 ∧ 0 = 0 ∧ lN (LbC.out z') = lN (LbC.out z) + 1) ∧ (kI ∧ iZ = LbC.c z') ∧ kI ∧ (lZ (LbC.out z)) + iO = (lZ (LbC.out z'))) ∧ (3 : TypeId) = 3 ∧ 1 = 1 ∧ lN (LbC.out z') = lN (LbC.out z) + 1 ∧ ∀ (i j : Nat), i < lN (LbC.out z) + 1 → j < 1 → avM
 (if i < lN (LbC.out z) then aI (gD (LbC.out z) i iZ) else Sx.rowAt [fun (x_1 : Nat) => aI q5] (i - lN (LbC.out z)) j) (aI (gD (LbC.out z') i iZ))) False) False)) False) False) False) False) (bsplit (slOk Int q9) ((false = true → false = true) ∧ 1 = 1 ∧ lN q10 = lN q11 ∧ ∀ (i j : Nat), i < lN q11 → j < 1 → kI ∧ gD q11 i Enc.dflt = gD q10 i Enc.dflt) False) := by
 delta kI lZ lN gD iZ iO aI
 dsimp only
 intro hb
 have e0 : (Enc.dflt : Int) = 0 := rfl
 simp only [↓vc_db, ↓vc_gdb, row_one]
 simp only [sS, dS, e0]
 have hx1 : x.length ≤ 9223372036854775807 := hb.1.1
 refine ⟨⟨⟨[], 0⟩, ⟨⟨.zero _ _ _, by simp⟩, rfl, rfl, rfl⟩, rfl⟩, fun z ⟨z1, z2⟩ => ⟨fun hz => ?_, fun hz => ?_⟩⟩
 ·have g1 := hx.get (by omega) z.out.length
  have g2 := hy.get (by omega) z.out.length
  have c0 := z1.c0
  have c1 := z1.c1
  have hs := DifZ.step (by omega) hx hy z1
  refine ⟨⟨by omega, hz⟩, by omega, ⟨by omega, by omega⟩, ⟨by omega, by omega⟩, fun hn => ⟨⟨by omega, by omega⟩, by omega, ⟨by omega, by omega⟩, ⟨_, 1⟩, ⟨⟨⟨by simpa using hs.2 hn, by simp; omega⟩, by simp; omega⟩, by simp, rfl, by simp⟩, by simp, fun i j => snocI _ _ i j⟩, fun hn => ⟨by omega, ⟨by omega, by omega⟩, ⟨_, 0⟩, ⟨⟨⟨by simpa using hs.1 hn, by simp; omega⟩, by simp; omega⟩, by simp, rfl, by simp⟩, by simp, fun i j => snocI _ _ i j⟩⟩
 ·have he := z1.end_ (b := 1000000) (by omega) (by omega) (by omega) hle
  rw [he]
  exact ⟨fun h => h, rfl, fun _ _ _ _ => rfl⟩
theorem r1minus_C (x : List Int) (y : List Int) (hx : InL 1000000 x) (hy : InL 1000000 y) (hl : y.length ≤ x.length) (hlx : x.length ≤ 1000000000) (hle : valL 1000000 y ≤ valL 1000000 x) : PureCall Tryz.prog [] 157 [slE x, slE y] (slE (limbs 1000000 (valL 1000000 x - valL 1000000 y).toNat)) :=
 pure_of_vc (T := (T0.plus 154 r1trim_t).plus 156 r1limb_t) (an := r1minus_an x y) mixed (TbSound.plus (TbSound.plus tb0_sound r1trim_T) r1limb_T) (Eq.mp (by kernel_rfl) (r1minus_vc x y hx hy hl hlx hle))
theorem r1minus_T : PureT Tryz.prog [] 157 r1minus_t := by
 intro xs ps r h hp
 unfold r1minus_t at h
 split at h
 ·skip
  rename_i x_x x_y
  cases h
  obtain ⟨q0, q1, q2, q3, q4, q5, q6, -⟩ := allC hp
  exact weaken (ys := [slE (intsOf x_x), slE (intsOf x_y)]) ⟨slE_sound q0, slE_sound q1, trivial⟩ (r1minus_C (intsOf x_x) (intsOf x_y) q2 q3 q4 q5 q6)
 ·cases h
structure MlZ where
 i : Nat
 out : List Int
structure MlK where
 k : Nat
 c : Int
 out : List Int
def r1times_an (x y : List Int) : Ann :=
 .two .auto (.two .auto (.two (.two .auto (.one (.loop MlZ (fun σ z => [(0, σ.tm 0), (1, σ.tm 1), (5, σ.tm 5), (6, .i (z.i : Int))]) (fun σ z => [(blkAt (σ.tm 5), iArr z.out)]) 0 (fun σ z => MulZ 1000000 x y z.i z.out ∧ z.i ≤ x.length) (fun σ z => x.length - z.i) (.two .auto (.two (.one (.two .auto (.two .auto (.one (.loop MlK (fun σ z => [(0, σ.tm 0), (1, σ.tm 1), (5, σ.tm 5), (6, σ.tm 6), (7, .i z.c), (8, .i (z.k : Int))]) (fun σ z => [(blkAt (σ.tm 5), iArr z.out)]) 0 (fun σ z => MulK 1000000 x y (AV.int (σ.tm 6)).toNat z.k z.out z.c ∧ z.k ≤ y.length + 1 ∧ (z.k = y.length + 1 → z.c = 0)) (fun σ z => y.length + 1 - z.k) .auto))))) .auto))))) .auto))
def r1times_t : List AV → Option (List Cond × AV)
 | [x_x, x_y] => some ([.b (slOk Int x_x), .b (slOk Int x_y), .p (InL 1000000 (intsOf x_x)), .p (InL 1000000 (intsOf x_y)), .p ((intsOf x_x).length ≤ 1000000000), .p ((intsOf x_y).length ≤ 1000000000)], slE (limbs 1000000 (valL 1000000 (intsOf x_x) * valL 1000000 (intsOf x_y)).toNat))
 | _ => none
theorem r1times_vc (x : List Int) (y : List Int) (hx : InL 1000000 x) (hy : InL 1000000 y) (hlx : x.length ≤ 1000000000) (hly : y.length ≤ 1000000000) :
 let q1 := ((lZ x) + (lZ y) + iO); let q2 := (AV.xl false 1 (lN x) fun i j => aI (gD x i Enc.dflt)); let q3 := (AV.xl false 1 (lN y) fun i j => aI (gD y i Enc.dflt)); let q4 := (nat_lit 0 = 0 ∧ 0 = 0 ∧ Int.toNat q1 = Int.toNat q1); let q11 := (Int.toNat q1); let q12 := (intsOf q3); let q16 := (limbs 1000000 (Int.toNat (valL (1000000 : Int) x * valL (1000000 : Int) y))); bndL [AV.xl false 1 (lN x) fun i j => aI (gD x i Enc.dflt), AV.xl false 1
 (lN y) fun i j => aI (gD y i Enc.dflt)] → bsplit (DB.db (inK .i64 ((lZ x) + (lZ y)))) (bsplit (DB.db (inK .i64 q1)) (bsplit (DB.db (iZ ≤ (lZ x) + (lZ y) + iO ∧ (lZ x) + (lZ y) + iO ≤ (lZ x) + (lZ y) + iO ∧ (↑8 : Int) * q1 ≤ (140737488355328 : Int))) ((∃ (z : MlZ), ((MulZ (1000000 : Int) x y (MlZ.i z) (MlZ.out z) ∧ MlZ.i z ≤ lN x) ∧ avM q2 q2 ∧ avM q3 q3 ∧ q4 ∧ kI ∧
 iZ = (↑(MlZ.i z) : Int)) ∧ (3 : TypeId) = 3 ∧ 1 = 1 ∧ lN (MlZ.out z) = Int.toNat q1 ∧ ∀ (i j : Nat), i < Int.toNat q1 → j < 1 → avM (zcell (Value.int .i64 iZ) j) (aI (gD (MlZ.out z) i iZ))) ∧ ∀ (z : MlZ), let q5 := (Int.toNat (AV.int (aI (↑(MlZ.i z) : Int)))); let q6 := (kI ∧ (↑(MlZ.i z) : Int) = (↑(MlZ.i z) : Int)); let q15 := (AV.xl false 1 q11 fun i j => aI (gD (MlZ.out z) (0 + i) iZ)); let q17 := (trimL (intsOf q15)); MulZ (1000000 : Int) x y (MlZ.i z) (MlZ.out z) ∧
 MlZ.i z ≤ lN x → bsplit (ltB (↑(MlZ.i z) : Int) (lZ x)) ((∃ (z_1 : MlK), ((MulK (1000000 : Int) x y q5 (MlK.k z_1) (MlK.out z_1) (MlK.c z_1) ∧ MlK.k z_1 ≤ lN y + 1 ∧ (MlK.k z_1 = lN y + 1 → MlK.c z_1 = iZ)) ∧ avM q2 q2 ∧ avM q3 q3 ∧ q4 ∧ q6 ∧ (kI ∧ iZ = MlK.c z_1) ∧ kI ∧ iZ = (↑(MlK.k z_1) : Int)) ∧ 3 = 3 ∧ 1 = 1 ∧ lN (MlK.out z_1) = lN (MlZ.out z) ∧ ∀ (i j : Nat), i < lN (MlZ.out z) → j < 1 → kI ∧ gD (MlZ.out z) i iZ = gD (MlK.out
 z_1) i iZ) ∧ ∀ (z_1 : MlK), let q7 := (ltB (↑(MlK.k z_1) : Int) (lZ y)); let q9 := ((↑(MlZ.i z) : Int) + (↑(MlK.k z_1) : Int)); let q8 := (DB.db (inK .i64 q9)); let q10 := (DB.db (iZ ≤ (↑(MlZ.i z) : Int) + (↑(MlK.k z_1) : Int) ∧ (↑(MlZ.i z) : Int) + (↑(MlK.k z_1) : Int) < (↑q11 : Int))); let q13 := (0 + Int.toNat q9); let q14 := (gD (MlK.out z_1) q13 iZ + gD x (Int.toNat (↑(MlZ.i z) : Int)) Enc.dflt * gD q12 (Int.toNat (↑(MlK.k z_1) : Int)) iZ + MlK.c z_1); MulK (1000000 : Int) x y q5 (MlK.k z_1) (MlK.out z_1) (MlK.c z_1) ∧
 MlK.k z_1 ≤ lN y + 1 ∧ (MlK.k z_1 = lN y + 1 → MlK.c z_1 = iZ) → bsplit (!bsel false q7 || bsel false q7) (bsplit (!!ltB (↑(MlK.k z_1) : Int) (lZ y) || bsel false q7) (bsplit (bif ltB (↑(MlK.k z_1) : Int) (lZ y) then true else ltB iZ (MlK.c z_1)) (bsplit q8 (bsplit q10 (bsplit (DB.db (iZ ≤ (↑(MlZ.i z) : Int) ∧ (↑(MlZ.i z) : Int) < (lZ x))) (bsplit (slOk Int q3) (iZ ≤ (↑(MlK.k z_1) : Int) ∧ bsplit (DB.db (inK .i64 (gD x (Int.toNat (↑(MlZ.i z) : Int)) Enc.dflt * gD q12 (Int.toNat
 (↑(MlK.k z_1) : Int)) iZ))) (bsplit (DB.db (inK .i64 (gD (MlK.out z_1) q13 iZ + gD x (Int.toNat (↑(MlZ.i z) : Int)) Enc.dflt * gD q12 (Int.toNat (↑(MlK.k z_1) : Int)) iZ))) (bsplit (DB.db (inK .i64 q14)) (bsplit q8 (bsplit q10 (bsplit (DB.db (inK .i64 (Int.tdiv q14 (1000000 : Int)))) (bsplit (DB.db (inK .i64 ((↑(MlK.k z_1) : Int) + iO))) (∃ (z' : MlK), (((MulK (1000000 : Int) x y q5 (MlK.k z') (MlK.out z') (MlK.c z') ∧ MlK.k z' ≤ lN y + 1 ∧ (MlK.k z' = lN y + 1 → MlK.c z' = iZ)) ∧ lN y + 1 - MlK.k z' <
 lN y + 1 - MlK.k z_1) ∧ avM q2 q2 ∧ avM q3 q3 ∧ q4 ∧ q6 ∧ (kI ∧ Int.tdiv q14 (1000000 : Int) = MlK.c z') ∧ kI ∧ (↑(MlK.k z_1) : Int) + iO = (↑(MlK.k z') : Int)) ∧ 3 = 3 ∧ 1 = 1 ∧ lN (MlK.out z') = lN (MlK.out z_1) ∧ ∀ (i j : Nat), i < lN (MlK.out z_1) → j < 1 → avM (if i = 0 + Int.toNat q9 ∧ 0 ≤ j ∧ j < 1 then aI (Int.tmod q14 (1000000 : Int)) else aI (gD (MlK.out z_1) i iZ)) (aI (gD (MlK.out z') i iZ))) False) False) False) False)
 False) False) False) False) False) False) False) (bsplit (DB.db (inK .i64 ((↑(MlZ.i z) : Int) + iO))) (∃ (z' : MlZ), (((MulZ (1000000 : Int) x y (MlZ.i z') (MlZ.out z') ∧ MlZ.i z' ≤ lN x) ∧ lN x - MlZ.i z' < lN x - MlZ.i z) ∧ avM q2 q2 ∧ avM q3 q3 ∧ q4 ∧ kI ∧ (↑(MlZ.i z) : Int) + iO = (↑(MlZ.i z') : Int)) ∧ 3 = 3 ∧ 1 = 1 ∧ lN (MlZ.out z') = lN (MlK.out z_1) ∧ ∀ (i j : Nat), i < lN (MlK.out z_1) → j < 1 → kI ∧ gD (MlK.out z_1) i iZ = gD (MlZ.out z') i iZ) False)) False)
 False) (bsplit (slOk Int q15) ((false = true → false = true) ∧ 1 = 1 ∧ lN q16 = lN q17 ∧ ∀ (i j : Nat), i < lN q17 → j < 1 → kI ∧ gD q17 i Enc.dflt = gD q16 i Enc.dflt) False)) False) False) False := by
 delta kI lZ lN gD iZ iO aI
 dsimp only
 intro hb
 have e0 : (Enc.dflt : Int) = 0 := rfl
 simp only [↓vc_db, ↓vc_gdb, row_one]
 simp only [sS, dS, e0]
 have en : ((x.length : Int) + (y.length : Int) + 1).toNat = x.length + y.length + 1 := by omega
 rw [en]
 refine ⟨⟨by omega, by omega⟩, ⟨by omega, by omega⟩, ⟨by omega, Int.le_refl _, by omega⟩, ⟨⟨0, List.replicate (x.length + y.length + 1) 0⟩, ⟨⟨.zero_ (by omega) _ _, Nat.zero_le _⟩, rfl⟩, by simp, fun i j _ hj => zeroI _ i j hj⟩, fun z ⟨z1, z2⟩ => ⟨fun hz => ⟨⟨⟨0, 0, z.out⟩, ⟨⟨z1.start (by omega), Nat.zero_le _, fun h => rfl⟩, rfl, rfl⟩, rfl, fun _ _ _ _ => rfl⟩, fun w ⟨w1, w2, w3⟩ => ?_⟩, fun hz => ?_⟩⟩
 ·have hz' : z.i < x.length := by omega
  have w4 := w1.len
  refine bsplit_iff.2 ⟨fun c => ?_, fun c => ?_⟩
  ·have hk : w.k ≤ y.length := by
    rcases Nat.lt_or_ge y.length w.k with h | h
    ·have := w3 (by omega)
     rw [Bool.or_eq_true, ltB_iff, ltB_iff] at c
     omega
    ·exact h
   have ek : ((z.i : Int) + (w.k : Int)).toNat = z.i + w.k := by omega
   rw [ek]
   obtain ⟨⟨n0, n1⟩, hs⟩ := w1.step (by omega) hx hy hz' hk
   have g1 := hx.get (by omega) z.i
   have g2 := hy.get (by omega) w.k
   have g3 := w1.in_.get (by omega) (z.i + w.k)
   have c0 := w1.c0
   have c1 := w1.c1
   have p0 : 0 ≤ x.getD z.i 0 * y.getD w.k 0 := Int.mul_nonneg g1.1 g2.1
   have d0 := hs.c0
   have d1 := hs.c1
   refine ⟨⟨by omega, by omega⟩, ⟨by omega, by omega⟩, ⟨by omega, hz⟩, by omega, ⟨by omega, by omega⟩, ⟨by omega, by omega⟩, ⟨by omega, by omega⟩, ⟨by omega, by omega⟩, ⟨by omega, by omega⟩, ⟨by omega, by omega⟩, ⟨by omega, by omega⟩, ⟨w.k + 1, _, _⟩, ⟨⟨⟨hs, by simp only; omega, fun h => ?_⟩, by simp only; omega⟩, rfl, rfl⟩, by simp, fun i j _ => setI _ _ _ (by omega) i j⟩
   have hk' : w.k = y.length := by simp only at h; omega
   have := (hk' ▸ w1 : MulK 1000000 x y z.i y.length w.out w.c).last (by omega)
   rw [← hk'] at this
   exact this
  ·rw [Bool.or_eq_false_iff, Bool.eq_false_iff, Bool.eq_false_iff, Ne, Ne, ltB_iff, ltB_iff] at c
   have c0 := w1.c0
   exact ⟨⟨by omega, by omega⟩, ⟨z.i + 1, w.out⟩, ⟨⟨⟨w1.fin (by omega) w2 (by omega), by simp only; omega⟩, by simp only; omega⟩, rfl⟩, rfl, fun _ _ _ _ => rfl⟩
 ·have hz' : z.i = x.length := by omega
  have he := (hz' ▸ z1 : MulZ 1000000 x y x.length z.out).end_ (b := 1000000) (by omega)
  rw [← z1.len]
  simp only [sS, dS, e0]
  rw [he]
  exact ⟨fun h => h, rfl, fun _ _ _ _ => rfl⟩
theorem r1times_C (x : List Int) (y : List Int) (hx : InL 1000000 x) (hy : InL 1000000 y) (hlx : x.length ≤ 1000000000) (hly : y.length ≤ 1000000000) : PureCall Tryz.prog [] 158 [slE x, slE y] (slE (limbs 1000000 (valL 1000000 x * valL 1000000 y).toNat)) :=
 pure_of_vc (T := (T0.plus 154 r1trim_t).plus 156 r1limb_t) (an := r1times_an x y) mixed (TbSound.plus (TbSound.plus tb0_sound r1trim_T) r1limb_T) (Eq.mp (by kernel_rfl) (r1times_vc x y hx hy hlx hly))
theorem r1times_T : PureT Tryz.prog [] 158 r1times_t := by
 intro xs ps r h hp
 unfold r1times_t at h
 split at h
 ·skip
  rename_i x_x x_y
  cases h
  obtain ⟨q0, q1, q2, q3, q4, q5, -⟩ := allC hp
  exact weaken (ys := [slE (intsOf x_x), slE (intsOf x_y)]) ⟨slE_sound q0, slE_sound q1, trivial⟩ (r1times_C (intsOf x_x) (intsOf x_y) q2 q3 q4 q5)
 ·cases h
structure ShS where
 z : Nat
 q : List Int
 r : Int
def r1short_an (x : List Int) (d : Int) : Ann :=
 .two .auto (.two .auto (.two .auto (.two (.two .auto (.one (.loop ShS (fun σ z => [(0, σ.tm 0), (1, σ.tm 1), (6, σ.tm 6), (7, .i z.r), (8, .i ((z.z : Int) - 1))]) (fun σ z => [(blkAt (σ.tm 6), iArr z.q)]) 0 (fun σ z => ShZ 1000000 d x z.z z.q z.r) (fun σ z => z.z) .auto))) .auto)))
def r1short_t : List AV → Option (List Cond × AV)
 | [x_x, .v (.int .i64 d)] => some ([.b (slOk Int x_x), .p (InL 1000000 (intsOf x_x)), .p (0 < d), .p (d ≤ 1000000), .p ((intsOf x_x).length ≤ 1000000000)], .tup 2 (listFn [slE (limbs 1000000 ((valL 1000000 (intsOf x_x)).toNat / d.toNat)), slE (limbs 1000000 ((valL 1000000 (intsOf x_x)).toNat % d.toNat))]))
 | _ => none
theorem r1short_vc (x : List Int) (d : Int) (hx : InL 1000000 x) (hd0 : 0 < d) (hd1 : d ≤ 1000000) (hlx : x.length ≤ 1000000000) :
 let q1 := (AV.xl false 1 (lN x) fun i j => aI (gD x i Enc.dflt)); let q2 := (nat_lit 0 = 0 ∧ 0 = 0 ∧ Int.toNat (lZ x) = Int.toNat (lZ x)); let q7 := (limbs 1000000 (Int.toNat (valL (1000000 : Int) x) / Int.toNat d)); let q9 := (limbs 1000000 (Int.toNat (valL (1000000 : Int) x) % Int.toNat d)); bndL [AV.xl false 1 (lN x) fun i j => aI (gD x i Enc.dflt), aI d] → bsplit (DB.db (iZ ≤ (lZ x) ∧ (lZ x) ≤ (lZ x) ∧ (↑8 :
 Int) * (lZ x) ≤ (140737488355328 : Int))) (bsplit (DB.db (inK .i64 ((lZ x) - iO))) ((∃ (z : ShS), (ShZ (1000000 : Int) d x (ShS.z z) (ShS.q z) (ShS.r z) ∧ avM q1 q1 ∧ (kI ∧ d = d) ∧ q2 ∧ (kI ∧ iZ = ShS.r z) ∧ kI ∧ (lZ x) - iO = (↑(ShS.z z) : Int) - iO) ∧ (3 : TypeId) = 3 ∧ 1 = 1 ∧ lN (ShS.q z) = Int.toNat (lZ x) ∧ ∀ (i j : Nat), i < Int.toNat (lZ x) → j < 1 → avM (zcell (Value.int .i64 iZ) j) (AV.v (Value.int .i64
 (gD (ShS.q z) i iZ)))) ∧ ∀ (z : ShS), let q3 := (ShS.r z * (1000000 : Int) + gD x (Int.toNat ((↑(ShS.z z) : Int) - iO)) Enc.dflt); let q4 := (Int.tdiv q3 d); let q5 := (AV.xl false 1 (Int.toNat (lZ x)) fun i j => aI (gD (ShS.q z) (0 + i) iZ)); let q6 := (trimL (intsOf q5)); let q8 := (trimL (intsOf (AV.xl true 1 1 (Sx.rowAt [fun (x : Nat) => aI (ShS.r z)])))); ShZ (1000000 : Int) d x (ShS.z z) (ShS.q z) (ShS.r z) → bsplit (leB iZ ((↑(ShS.z z) : Int) - iO)) (bsplit (DB.db (inK .i64
 (ShS.r z * (1000000 : Int)))) (bsplit (DB.db (iZ ≤ (↑(ShS.z z) : Int) - iO ∧ (↑(ShS.z z) : Int) - iO < (lZ x))) (bsplit (DB.db (inK .i64 q3)) (bsplit (DB.db (d ≠ iZ)) (bsplit (DB.db (inK .i64 q4)) (bsplit (DB.db (iZ ≤ (↑(ShS.z z) : Int) - iO ∧ (↑(ShS.z z) : Int) - iO < (↑(Int.toNat (lZ x)) : Int))) (bsplit (DB.db (d ≠ iZ)) (bsplit (DB.db (inK .i64 ((↑(ShS.z z) : Int) - iO - iO))) (∃ (z' : ShS), ((ShZ (1000000 : Int) d x (ShS.z z') (ShS.q z') (ShS.r z') ∧ ShS.z z' < ShS.z z) ∧ avM q1 q1 ∧
 (kI ∧ d = d) ∧ q2 ∧ (kI ∧ Int.tmod q3 d = ShS.r z') ∧ kI ∧ (↑(ShS.z z) : Int) - iO - iO = (↑(ShS.z z') : Int) - iO) ∧ 3 = 3 ∧ 1 = 1 ∧ lN (ShS.q z') = lN (ShS.q z) ∧ ∀ (i j : Nat), i < lN (ShS.q z) → j < 1 → avM (if i = 0 + Int.toNat ((↑(ShS.z z) : Int) - iO) ∧ 0 ≤ j ∧ j < 1 then aI q4 else aI (gD (ShS.q z) i iZ)) (aI (gD (ShS.q z') i iZ))) False) False) False) False) False) False) False) False) (bsplit (slOk
 Int q5) (j2 ∧ (True ∧ avM (AV.xl false 1 (lN q6) fun i j => aI (gD q6 i Enc.dflt)) (AV.xl false 1 (lN q7) fun i j => aI (gD q7 i Enc.dflt))) ∧ avM (AV.xl false 1 (lN q8) fun i j => aI (gD q8 i Enc.dflt)) (AV.xl false 1 (lN q9) fun i j => aI (gD q9 i Enc.dflt))) False)) False) False := by
 delta kI j2 lZ lN gD iZ iO aI
 dsimp only
 intro hb
 have e0 : (Enc.dflt : Int) = 0 := rfl
 simp only [↓vc_db, ↓vc_gdb, row_one]
 simp only [sS, dS, e0]
 have er : ∀ r : Int, intsOf (AV.xl true 1 1 fun x j => AV.v (Value.int IntKind.i64 r)) = [r] := fun r => rfl
 refine ⟨⟨by omega, Int.le_refl _, by omega⟩, ⟨by omega, by omega⟩, ⟨⟨x.length, List.replicate x.length 0, 0⟩, ⟨.start (by omega) hd0 x, rfl, rfl⟩, by simp, fun i j _ hj => zeroI _ i j hj⟩, fun z z1 => ⟨fun hz => ?_, fun hz => ?_⟩⟩
 ·have hle := z1.le
  obtain ⟨k, hk⟩ : ∃ k, z.z = k + 1 := ⟨z.z - 1, by omega⟩
  obtain ⟨zz, q, r⟩ := z
  simp only at hk hle z1 hz ⊢
  subst hk
  have ek : (((k + 1 : Nat) : Int) - 1).toNat = k := by omega
  rw [ek]
  obtain ⟨⟨n0, n1⟩, hs⟩ := z1.step (by omega) hx
  rw [Int.add_comm] at n0 n1 hs
  have g1 := hx.get (by omega) k
  have r0 := z1.r0
  have r1 := z1.r1
  have s0 := hs.r0
  have s1 := hs.r1
  have q1 := hs.in_.get (by omega) k
  rw [getD_setI _ _ _ _ (by rw [z1.len]; omega), if_pos rfl] at q1
  exact ⟨⟨by omega, by omega⟩, ⟨by omega, by omega⟩, ⟨by omega, by omega⟩, by omega, ⟨by omega, by omega⟩, ⟨by omega, by omega⟩, by omega, ⟨by omega, by omega⟩, ⟨k, _, _⟩, ⟨⟨hs, by simp only; omega⟩, rfl, by simp only; omega⟩, by simp, fun i j _ => setI _ _ _ (by rw [z1.len]; omega) i j⟩
 ·have v0 := valL_nonneg (b := 1000000) (by omega) hx
  have hz' : z.z = 0 := by omega
  have z2 : ShZ 1000000 d x 0 z.q z.r := hz' ▸ z1
  rw [← z1.len, er]
  simp only [sS, dS, e0]
  obtain ⟨D, rfl⟩ : ∃ D : Nat, d = D := ⟨d.toNat, by omega⟩
  obtain ⟨t1, _, t3⟩ := z2.end_ (b := 1000000) (by omega) (by omega) (by omega) (valL 1000000 x).toNat (by show valL 1000000 x = _; omega)
  rw [t1, t3]
  exact ⟨rfl, avM_refl _, avM_refl _⟩
theorem r1short_C (x : List Int) (d : Int) (hx : InL 1000000 x) (hd0 : 0 < d) (hd1 : d ≤ 1000000) (hlx : x.length ≤ 1000000000) : PureCall Tryz.prog [] 155 [slE x, .i d] (.tup 2 (listFn [slE (limbs 1000000 ((valL 1000000 x).toNat / d.toNat)), slE (limbs 1000000 ((valL 1000000 x).toNat % d.toNat))])) :=
 pure_of_vc (T := T0.plus 154 r1trim_t) (an := r1short_an x d) mixed (TbSound.plus tb0_sound r1trim_T) (Eq.mp (by kernel_rfl) (r1short_vc x d hx hd0 hd1 hlx))
theorem r1short_T : PureT Tryz.prog [] 155 r1short_t := by
 intro xs ps r h hp
 unfold r1short_t at h
 split at h
 ·skip
  rename_i x_x d
  cases h
  obtain ⟨q0, q1, q2, q3, q4, -⟩ := allC hp
  exact weaken (ys := [slE (intsOf x_x), .i d]) ⟨slE_sound q0, avM_refl _, trivial⟩ (r1short_C (intsOf x_x) d q1 q2 q3 q4)
 ·cases h
end Go.Te
