/- kingpostref01: reading, small integers. -/
import Derived.Test.YtdkpceodckdcfaaGreatDoorTeF
import Derived.Test.YtdkpceodckdcfaaGreatDoorArL
import Derived.Test.YtdkpceodckdcfaaGreatDoorArI
set_option linter.unusedSimpArgs false
set_option linter.unusedVariables false
namespace Go.Te
open Go Go.Sx Go.Proofs Go.Ar
set_option maxRecDepth 100000
set_option maxHeartbeats 4000000
def VP : List AV → Option (List zN × AV)
 | [.str a, .str b] => some ([.p (a.length ≤ 4294967280), .p (b.length ≤ 4294967280)], .i (zI a b))
 | _ => none
theorem OW (a : List UInt8) (b : List UInt8) (hl : a.length ≤ 4294967280) (hm : b.length ≤ 4294967280) :
 zB [AV.str a, AV.str b] → lN a ≤ nM ∧ zZ (Zt a != iZ) (kI ∧ Zt a = zI a b) (lN b ≤ nM ∧ kI ∧ Zt b = zI a b) := by
 delta nM kI lN iZ
 intro hb
 simp only [sS, dS]
 exact ⟨hl, fun h => by unfold zI; rw [bne_iff_ne.2 h]; rfl, fun h => ⟨hm, by unfold zI; rw [h]; rfl⟩⟩
theorem mo (a : List UInt8) (b : List UInt8) (hl : a.length ≤ 4294967280) (hm : b.length ≤ 4294967280) : zS Tryz.prog [] 102 [.str a, .str b] (.i (zI a b)) :=
 zV (T := T0.plus 152 WG) (an := .auto) mixed (zY.plus zr ss) (Eq.mp (by kernel_rfl) (OW a b hl hm))
theorem qT : zQ Tryz.prog [] 102 VP := by
 intro xs ps r h hp
 unfold VP at h
 split at h
 ·skip
  rename_i a b
  cases h
  obtain ⟨q0, q1, -⟩ := Zx hp
  exact weaken (ys := [.str a, .str b]) ⟨zX _, zX _, trivial⟩ (mo a b q0 q1)
 ·cases h
def Qs (a : zh) : yW :=
 .two .auto (.two .auto (.two .auto (.two (.two .auto (.one (.loop Nat (fun σ z => [(0, σ.tm 0), (4, .i (zk (nums a z) : Int)), (5, .i z)]) (fun σ z => []) 0 (fun σ z => z ≤ a.length) (fun σ z => a.length - z) .auto))) .auto)))
def VB : List AV → Option (List zN × AV)
 | [.str a] => some ([.p (Zy a = true), .p (a.length ≤ 4294967280)], .tup 2 (zT [.i (bif leB a.length 17 then zt a else 0), .b (leB a.length 17)]))
 | _ => none
theorem Qd (a : List UInt8) (hi : Zy a = true) (hl : a.length ≤ 4294967280) :
 zB [AV.str a] → zZ (zn (17 : Int) (lZ a)) (j2 ∧ (True ∧ kI ∧ iZ = bif leB (lZ a) (17 : Int) then zt a else iZ) ∧ false = leB (lZ a) (17 : Int)) ((∃ (z : Nat), (z ≤ lN a ∧ a = a ∧ (kI ∧ iZ = (cI (zk (nums a z)))) ∧ kI ∧ iZ = (cI z)) ∧ True) ∧ ∀ (z : Nat), z ≤ lN a → zZ (zn (cI z) (lZ a)) (zZ (DB.db (iZ ≤ (cI z) ∧ (cI z) < (lZ a)))
 (zZ ((cI (UInt8.toNat (gD a (Int.toNat (↑z : Int)) (0 : UInt8)))) != (45 : Int)) (bF (dK ((10 : Int) * (cI (zk (nums a z))))) (bF (DB.db (iZ ≤ (cI z) ∧ (cI z) < (lZ a))) (bF (DB.db (YZ IntKind.u8 ((cI (UInt8.toNat (gD a (Int.toNat (↑z : Int)) (0 : UInt8)))) - (48 : Int)))) (bF (DB.db (YZ .i64 ((cI (UInt8.toNat (gD a (Int.toNat (↑z : Int)) (0 : UInt8)))) - (48 : Int)))) (bF (DB.db (YZ .i64 ((10 : Int) * (cI (zk (nums a z))) + ((cI (UInt8.toNat (gD a (Int.toNat (↑z : Int))
 (0 : UInt8)))) - (48 : Int))))) (bF (dK ((cI z) + iO)) (∃ (z' : Nat), ((z' ≤ lN a ∧ lN a - z' < lN a - z) ∧ a = a ∧ (kI ∧ (10 : Int) * (cI (zk (nums a z))) + ((cI (UInt8.toNat (gD a (Int.toNat (↑z : Int)) (0 : UInt8)))) - (48 : Int)) = (cI (zk (nums a z')))) ∧ kI ∧ (cI z) + iO = (cI z')) ∧ True))))))) (bF (dK ((cI z) + iO)) (∃ (z' : Nat), ((z' ≤ lN a ∧ lN a - z' < lN a - z)
 ∧ a = a ∧ (kI ∧ (cI (zk (nums a z))) = (cI (zk (nums a z')))) ∧ kI ∧ (cI z) + iO = (cI z')) ∧ True))) False) (bF (DB.db (iZ ≤ iZ ∧ iZ < (lZ a))) (zZ ((cI (UInt8.toNat (gD a 0 (0 : UInt8)))) == (45 : Int)) (bF (dK (-(cI (zk (nums a z))))) (j2 ∧ (True ∧ kI ∧ -(cI (zk (nums a z))) = bif leB (lZ a) (17 : Int) then zt a else iZ) ∧ true = leB (lZ a) (17 :
 Int))) (j2 ∧ (True ∧ kI ∧ (cI (zk (nums a z))) = bif leB (lZ a) (17 : Int) then zt a else iZ) ∧ true = leB (lZ a) (17 : Int))))) := by
 delta bF dK cI kI j2 lZ lN gD iZ iO
 intro hb
 simp only [sS, dS]
 have h0 : 0 < a.length := by
  match a, hi with
  | [], hi => cases hi
  | c :: r, _ => simp
 have nD : ∀ z, (((a.getD z 0).toNat : Int) = 45) ↔ a.getD z 0 = 45 := fun z => by
  have := yb (a.getD z 0) 45 (by decide)
  rw [Bool.eq_iff_iff, beq_iff_eq, beq_iff_eq] at this
  exact this
 refine ⟨fun h => ?_, fun h => ?_⟩
 ·rw [show leB (a.length : Int) 17 = false by rw [Bool.eq_false_iff, Ne, zF]; omega]
  exact ⟨rfl, rfl, rfl⟩
 rw [show leB (a.length : Int) 17 = true from (zF _ _).2 h]
 have hv := ON hi
 refine ⟨⟨0, Nat.zero_le _, rfl, rfl⟩, fun z hz => ⟨fun hlt => ⟨⟨by omega, hlt⟩, fun hne => ?_, fun he => ?_⟩, fun hge => ⟨⟨Int.le_refl _, by omega⟩, fun he => ?_, fun hne => ?_⟩⟩⟩
 ·have hne' : a.getD z 0 ≠ 45 := fun e => hne ((nD z).2 e)
  have hd := T6 hi (i := z) (by omega) hne'
  have hdi := Z6.1 hd
  have b1 := tn hi (by omega) z
  have hst : (zk (nums a (z + 1)) : Int) = 10 * (zk (nums a z) : Int) + (((a.getD z 0).toNat : Int) - 48) := by
   rw [kU (by omega) hne', xt]
   unfold vQ
   omega
  exact ⟨⟨by omega, by omega⟩, ⟨by omega, hlt⟩, ⟨by omega, by omega⟩, ⟨by omega, by omega⟩, ⟨by omega, by omega⟩, ⟨by omega, by omega⟩, z + 1, ⟨by omega, by omega⟩, hst.symm, by omega⟩
 ·have he' := (nD z).1 he
  exact ⟨⟨by omega, by omega⟩, z + 1, ⟨by omega, by omega⟩, by rw [Qv (by omega) he'], by omega⟩
 ·obtain rfl : z = a.length := by omega
  have b1 := tn hi (by omega) a.length
  rw [if_pos ((nD 0).1 he)] at hv
  exact ⟨⟨by omega, by omega⟩, rfl, hv.symm, rfl⟩
 ·rw [if_neg fun e => hne ((nD 0).2 e)] at hv
  rw [show z = a.length by omega]
  exact ⟨rfl, hv.symm, rfl⟩
theorem nP (a : List UInt8) (hi : Zy a = true) (hl : a.length ≤ 4294967280) : zS Tryz.prog [] 153 [.str a] (.tup 2 (zT [.i (bif leB a.length 17 then zt a else 0), .b (leB a.length 17)])) :=
 zV (T := T0) (an := Qs a) mixed zr (Eq.mp (by kernel_rfl) (Qd a hi hl))
theorem Ot : zQ Tryz.prog [] 153 VB := by
 intro xs ps r h hp
 unfold VB at h
 split at h
 ·skip
  rename_i a
  cases h
  obtain ⟨q0, q1, -⟩ := Zx hp
  exact weaken (ys := [.str a]) ⟨zX _, trivial⟩ (nP a q0 q1)
 ·cases h
def gS : OB → Nat → AV
 | .box _ _ cs, j => cs j
 | _, _ => .junk
def w8 (l : List Int) : OB := .arr 3 1 l.length fun i _ => .i (l.getD i 0)
def O1 (a : zh) : yW :=
 .two .auto (.two .auto (.two .auto (.two (.two .auto (.one (.loop yC (fun σ z => [(0, σ.tm 0), (2, σ.tm 2), (3, σ.tm 3), (4, .i (((AV.bytes (σ.tm 0)).length : Int) - 6 * (z.k : Int)))]) (fun σ z => [(1, .box 143 2 (zT [gS (σ.bl 1) 0, .ns σ.nb 0 z.L.length])), (σ.nb, w8 z.L)]) 1 (fun σ z => P6 (AV.bytes (σ.tm 0)) z) (fun σ z => (AV.bytes (σ.tm 0)).length + 6 - 6 * z.k) (.two .auto (.two (.one (.two .auto (.two (.two .auto (.one (.loop Nat (fun σ z => [(0, σ.tm 0), (2, σ.tm 2), (3, σ.tm 3), (4, σ.tm 4), (5, .i (zk (((AV.bytes (σ.tm 0)).take z).drop ((AV.int (σ.tm 4)).toNat - 6)) : Int)), (6, .i z)]) (fun σ z => []) 0 (fun σ z => (AV.int (σ.tm 4)).toNat - 6 ≤ z ∧ z ≤ (AV.int (σ.tm 4)).toNat) (fun σ z => (AV.int (σ.tm 4)).toNat - z) .auto))) .auto))) .auto))))) .auto)))
def vC : List AV → Option (List zN × AV)
 | [.str a] => some ([.p (Zy a = true), .p (a.length ≤ 4294967280)], .agg 2 (zT [.b (a.getD 0 0 == 45), Zp (zw 1000000 (zt a).natAbs)]))
 | _ => none
theorem nO (a : List UInt8) (hi : Zy a = true) (hl : a.length ≤ 4294967280) :
 let q1 := (lZ (AV.bytes (AV.str (List.drop 1 a)))); let q2 := (143 = 143 ∧ 2 = 2 ∧ false = false ∧ Value.slice (xf Addr) 0 0 = Array.getD (Value.cells (Value.agg #[Value.bool false, Value.slice (xf Addr) 0 0])) (nat_lit 1) undef); let q12 := (gD a 0 (0 : UInt8) == (45 : UInt8)); let q14 := (lZ (AV.bytes (AV.str a))); zB [AV.str a] → bF (DB.db (iZ ≤ iZ ∧ iZ < (lZ a))) (zZ ((cI (UInt8.toNat (gD a 0 (0 : UInt8)))) == (45 : Int)) (bF (DB.db (iZ ≤ iO ∧ iO ≤ (cI (List.length
 a)))) ((∃ (z : yC), (P6 (AV.bytes (AV.str (List.drop 1 a))) z ∧ List.drop 1 a = List.drop 1 a ∧ (nat_lit 0 = 0 ∧ 0 = 0) ∧ (nat_lit 1 = 1 ∧ 0 = 0) ∧ kI ∧ (lZ (List.drop 1 a)) = q1 - (6 : Int) * (cI (yC.k z))) ∧ (q2 ∧ (143 : TypeId) = 143 ∧ 2 = 2 ∧ true = true ∧ some (xf Nat) = some (xf Nat) ∧ 0 = 0 ∧ lN (yC.L z) = 0) ∧ lN (yC.L z) = 0) ∧ ∀ (z : yC), let q3 := (q1 - (6 : Int) * (cI (yC.k z))); let q4 := (dK (q1 - (6 : Int) * (cI (yC.k z)) - (6 : Int))); let q5 := (AV.int (aI q3)); let
 q6 := (kI ∧ q1 - (6 : Int) * (cI (yC.k z)) = q1 - (6 : Int) * (cI (yC.k z))); let q7 := (Int.toNat q5 - 6); let q8 := (q2 ∧ 143 = 143 ∧ 2 = 2 ∧ true = true ∧ nat_lit 2 = 2 ∧ 0 = 0 ∧ lN (yC.L z) = lN (yC.L z)); let q11 := (AV.xl false 1 (lN (yC.L z)) fun i j => aI (gD (yC.L z) (0 + i) iZ)); let q13 := (zm (zv q11)); P6 (AV.bytes (AV.str (List.drop 1 a))) z → zZ (zn iZ q3) (bF q4 ((∃ (z_1 : Nat), ((Int.toNat q5 - 6 ≤ z_1 ∧ z_1 ≤ Int.toNat q5) ∧ List.drop 1 a = List.drop 1 a ∧ (nat_lit
 0 = 0 ∧ 0 = 0) ∧ (nat_lit 1 = 1 ∧ 0 = 0) ∧ q6 ∧ (kI ∧ iZ = (↑(zk (List.drop q7 (List.take z_1 (AV.bytes (AV.str (List.drop 1 a)))))) : Int)) ∧ kI ∧ (if q1 - (6 : Int) * (cI (yC.k z)) - (6 : Int) > iZ then q1 - (6 : Int) * (cI (yC.k z)) - (6 : Int) else iZ) = (cI z_1)) ∧ q8 ∧ 3 = 3 ∧ 1 = 1 ∧ lN (yC.L z) = lN (yC.L z) ∧ ∀ (i j : Nat), i < lN (yC.L z) → j < 1 → kI ∧ gD (yC.L z) i iZ = gD (yC.L z) i iZ) ∧ ∀ (z_1 : Nat), let q9 := (↑(zk (List.drop q7
 (List.take z_1 (AV.bytes (AV.str (List.drop 1 a)))))) : Int); let q10 := ((cI (UInt8.toNat (gD (List.drop 1 a) (Int.toNat (↑z_1 : Int)) (0 : UInt8)))) - (48 : Int)); Int.toNat q5 - 6 ≤ z_1 ∧ z_1 ≤ Int.toNat q5 → zZ (zn (cI z_1) q3) (zZ (dK ((10 : Int) * q9)) (bF (DB.db (iZ ≤ (cI z_1) ∧ (cI z_1) < (lZ (List.drop 1 a)))) (bF (DB.db (YZ IntKind.u8 q10)) (bF (dK q10) (bF (dK ((10 : Int) * q9 + q10)) (bF (dK ((cI z_1) + iO)) (∃ (z' : Nat), (((Int.toNat q5 -
 6 ≤ z' ∧ z' ≤ Int.toNat q5) ∧ Int.toNat q5 - z' < Int.toNat q5 - z_1) ∧ List.drop 1 a = List.drop 1 a ∧ (nat_lit 0 = 0 ∧ 0 = 0) ∧ (nat_lit 1 = 1 ∧ 0 = 0) ∧ q6 ∧ (kI ∧ (10 : Int) * q9 + q10 = (↑(zk (List.drop q7 (List.take z' (AV.bytes (AV.str (List.drop 1 a)))))) : Int)) ∧ kI ∧ (cI z_1) + iO = (cI z')) ∧ q8 ∧ 3 = 3 ∧ 1 = 1 ∧ lN (yC.L z) = lN (yC.L z) ∧ ∀ (i j : Nat), i < lN (yC.L z) → j < 1 → kI ∧ gD (yC.L z) i iZ = gD (yC.L z) i iZ))))))
 False) (bF (DB.db ((lN (yC.L z) + 1) * 8 ≤ 140737488355328)) (bF q4 (∃ (z' : yC), ((P6 (AV.bytes (AV.str (List.drop 1 a))) z' ∧ lN (AV.bytes (AV.str (List.drop 1 a))) + 6 - 6 * yC.k z' < lN (AV.bytes (AV.str (List.drop 1 a))) + 6 - 6 * yC.k z) ∧ List.drop 1 a = List.drop 1 a ∧ (nat_lit 0 = 0 ∧ 0 = 0) ∧ (nat_lit 1 = 1 ∧ 0 = 0) ∧ kI ∧ q1 - (6 : Int) * (cI (yC.k z)) - (6 : Int) = q1 - (6 : Int) * (cI (yC.k z'))) ∧ (q2 ∧ 143 = 143 ∧ 2 = 2 ∧ true = true ∧ nat_lit 2 = 2 ∧ 0 = 0 ∧ lN (yC.L z') = lN (yC.L z) + 1) ∧ (3
 : TypeId) = 3 ∧ 1 = 1 ∧ lN (yC.L z') = lN (yC.L z) + 1 ∧ ∀ (i j : Nat), i < lN (yC.L z) + 1 → j < 1 → zc (if i < lN (yC.L z) then aI (gD (yC.L z) i iZ) else Sx.rowAt [fun (x : Nat) => aI q9] (i - lN (yC.L z)) j) (aI (gD (yC.L z') i iZ))))))) (bF (za Int q11) (2 = 2 ∧ true = q12 ∧ (false = true → false = true) ∧ 1 = 1 ∧ lN (zw 1000000 (Int.natAbs (zt a))) = lN q13 ∧ ∀ (i j : Nat), i < lN q13 → j < 1 →
 kI ∧ gD q13 i zp.dflt = gD (zw 1000000 (Int.natAbs (zt a))) i zp.dflt)))) ((∃ (z : yC), (P6 (AV.bytes (AV.str a)) z ∧ a = a ∧ (nat_lit 0 = 0 ∧ 0 = 0) ∧ (nat_lit 1 = 1 ∧ 0 = 0) ∧ kI ∧ (lZ a) = q14 - (6 : Int) * (cI (yC.k z))) ∧ (q2 ∧ (143 : TypeId) = 143 ∧ 2 = 2 ∧ false = false ∧ some (xf Nat) = some (xf Nat) ∧ 0 = 0 ∧ lN (yC.L z) = 0) ∧ lN (yC.L z) = 0) ∧ ∀ (z : yC), let q15 := (q14 - (6 : Int) * (cI (yC.k z))); let q16 := (dK (q14 - (6 : Int) * (cI (yC.k z)) -
 (6 : Int))); let q17 := (AV.int (aI q15)); let q18 := (kI ∧ q14 - (6 : Int) * (cI (yC.k z)) = q14 - (6 : Int) * (cI (yC.k z))); let q19 := (Int.toNat q17 - 6); let q20 := (q2 ∧ 143 = 143 ∧ 2 = 2 ∧ false = false ∧ nat_lit 2 = 2 ∧ 0 = 0 ∧ lN (yC.L z) = lN (yC.L z)); let q23 := (AV.xl false 1 (lN (yC.L z)) fun i j => aI (gD (yC.L z) (0 + i) iZ)); let q24 := (zm (zv q23)); P6 (AV.bytes (AV.str a)) z → zZ (zn iZ q15) (bF q16 ((∃ (z_1 : Nat), ((Int.toNat q17 - 6 ≤ z_1
 ∧ z_1 ≤ Int.toNat q17) ∧ a = a ∧ (nat_lit 0 = 0 ∧ 0 = 0) ∧ (nat_lit 1 = 1 ∧ 0 = 0) ∧ q18 ∧ (kI ∧ iZ = (↑(zk (List.drop q19 (List.take z_1 (AV.bytes (AV.str a))))) : Int)) ∧ kI ∧ (if q14 - (6 : Int) * (cI (yC.k z)) - (6 : Int) > iZ then q14 - (6 : Int) * (cI (yC.k z)) - (6 : Int) else iZ) = (cI z_1)) ∧ q20 ∧ 3 = 3 ∧ 1 = 1 ∧ lN (yC.L z) = lN (yC.L z) ∧ ∀ (i j : Nat), i < lN (yC.L z) → j < 1 → kI ∧ gD (yC.L z) i iZ = gD (yC.L z) i iZ) ∧ ∀ (z_1 : Nat), let
 q21 := (↑(zk (List.drop q19 (List.take z_1 (AV.bytes (AV.str a))))) : Int); let q22 := ((cI (UInt8.toNat (gD a (Int.toNat (↑z_1 : Int)) (0 : UInt8)))) - (48 : Int)); Int.toNat q17 - 6 ≤ z_1 ∧ z_1 ≤ Int.toNat q17 → zZ (zn (cI z_1) q15) (bF (dK ((10 : Int) * q21)) (bF (DB.db (iZ ≤ (cI z_1) ∧ (cI z_1) < (lZ a))) (bF (DB.db (YZ IntKind.u8 q22)) (bF (dK q22) (bF (dK ((10 : Int) * q21 + q22)) (bF (dK ((cI z_1) + iO)) (∃ (z' : Nat), (((Int.toNat q17 - 6 ≤
 z' ∧ z' ≤ Int.toNat q17) ∧ Int.toNat q17 - z' < Int.toNat q17 - z_1) ∧ a = a ∧ (nat_lit 0 = 0 ∧ 0 = 0) ∧ (nat_lit 1 = 1 ∧ 0 = 0) ∧ q18 ∧ (kI ∧ (10 : Int) * q21 + q22 = (↑(zk (List.drop q19 (List.take z' (AV.bytes (AV.str a))))) : Int)) ∧ kI ∧ (cI z_1) + iO = (cI z')) ∧ q20 ∧ 3 = 3 ∧ 1 = 1 ∧ lN (yC.L z) = lN (yC.L z) ∧ ∀ (i j : Nat), i < lN (yC.L z) → j < 1 → kI ∧ gD (yC.L z) i iZ = gD (yC.L z) i iZ))))))) (bF (DB.db ((List.length
 (yC.L z) + 1) * 8 ≤ 140737488355328)) (bF q16 (∃ (z' : yC), ((P6 (AV.bytes (AV.str a)) z' ∧ lN (AV.bytes (AV.str a)) + 6 - 6 * yC.k z' < lN (AV.bytes (AV.str a)) + 6 - 6 * yC.k z) ∧ a = a ∧ (nat_lit 0 = 0 ∧ 0 = 0) ∧ (nat_lit 1 = 1 ∧ 0 = 0) ∧ kI ∧ q14 - (6 : Int) * (cI (yC.k z)) - (6 : Int) = q14 - (6 : Int) * (cI (yC.k z'))) ∧ (q2 ∧ 143 = 143 ∧ 2 = 2 ∧ false = false ∧ nat_lit 2 = 2 ∧ 0 = 0 ∧ lN (yC.L z') = lN (yC.L z) + 1) ∧ (3 : TypeId) = 3 ∧ 1 = 1 ∧ lN (yC.L z') = lN (yC.L z) + 1 ∧ ∀ (i j : Nat), i <
 lN (yC.L z) + 1 → j < 1 → zc (if i < lN (yC.L z) then aI (gD (yC.L z) i iZ) else Sx.rowAt [fun (x : Nat) => aI q21] (i - lN (yC.L z)) j) (aI (gD (yC.L z') i iZ))))))) (bF (za Int q23) (2 = 2 ∧ false = q12 ∧ (false = true → false = true) ∧ 1 = 1 ∧ lN (zw 1000000 (Int.natAbs (zt a))) = lN q24 ∧ ∀ (i j : Nat), i < lN q24 → j < 1 → kI ∧ gD q24 i zp.dflt = gD (zw 1000000 (Int.natAbs (zt a))) i
 zp.dflt)))) := by
 delta bF dK cI kI lZ lN gD iZ iO aI
 dsimp only
 intro hb
 have eb : ∀ l : zh, AV.bytes (.str l) = l := fun _ => rfl
 have e0 : (zp.dflt : Int) = 0 := rfl
 simp only [↓ZK, ↓ZT, row_one, eb]
 simp only [sS, dS, e0]
 have h0 : 0 < a.length := by
  match a, hi with
  | [], hi => cases hi
  | c :: r, _ => simp
 have nD : (((a.getD 0 0).toNat : Int) = 45) ↔ a.getD 0 0 = 45 := by
  have := yb (a.getD 0 0) 45 (by decide)
  rw [Bool.eq_iff_iff, beq_iff_eq, beq_iff_eq] at this
  exact this
 refine ⟨⟨Int.le_refl _, by omega⟩, fun h => ⟨⟨by omega, by omega⟩, ?_⟩, fun h => ?_⟩
 ·have hm := nD.1 h
  obtain ⟨_, hm1, _, hm4⟩ := xw h0 hm
  have hd1 : Zw (a.drop 1) = true := by
   rw [hi] at hm1
   cases hx : Zw (a.drop 1) with
   | true => rfl
   | false => rw [hx] at hm1; cases hm1
  have hm2 : (a.getD 0 0 == 45) = true := beq_iff_eq.2 hm
  have hs : ∀ c ∈ a.drop 1, Zm c = true := (ZX.1 hd1).2.1
  have hsl : (a.drop 1).length ≤ 4294967280 := by rw [List.length_drop]; omega
  generalize hS : a.drop 1 = s at *
  refine ⟨⟨⟨0, []⟩, ⟨.start s, by simp⟩, ⟨rfl, rfl⟩, rfl⟩, fun z hz => ⟨fun hlt => ?_, fun hge => ?_⟩⟩
  ·have hk : 6 * z.k < s.length := by omega
   have ht : ((s.length : Int) - 6 * (z.k : Int)).toNat = s.length - 6 * z.k := by omega
   rw [ht]
   refine ⟨⟨by omega, by omega⟩, ⟨s.length - 6 * z.k - 6, ⟨⟨Nat.le_refl _, by omega⟩, ?_, by split <;> omega⟩, rfl, fun _ _ _ _ => trivial⟩, fun i ⟨i1, i2⟩ => ⟨fun hi2 => ?_, fun hi2 => ?_⟩⟩
   ·rw [List.drop_of_length_le (by rw [List.length_take]; omega)]; rfl
   ·have hd := hs (s.getD i 0) (by rw [List.getD_eq_getElem?_getD, List.getElem?_eq_getElem (by omega)]; exact List.getElem_mem _)
    have hdi := Z6.1 hd
    have b1 := tY hs (k := z.k) i2
    have hst : (zk (YG s z.k (i + 1)) : Int) = 10 * (zk (YG s z.k i) : Int) + (((s.getD i 0).toNat : Int) - 48) := by
     rw [tV (by omega) i1, xt]
     unfold vQ
     omega
    have ec : ∀ i, (s.take i).drop (s.length - 6 * z.k - 6) = YG s z.k i := fun i => rfl
    simp only [ec]
    exact ⟨⟨by omega, by omega⟩, ⟨by omega, by omega⟩, ⟨by omega, by omega⟩, ⟨by omega, by omega⟩, ⟨by omega, by omega⟩, ⟨by omega, by omega⟩, i + 1, ⟨⟨⟨by omega, by omega⟩, by omega⟩, hst.symm, by omega⟩, rfl, fun _ _ _ _ => trivial⟩
   ·have hlen := hz.len
    refine ⟨by omega, ⟨by omega, by omega⟩, ⟨z.k + 1, z.L ++ [(zk (YG s z.k (s.length - 6 * z.k)) : Int)]⟩, ⟨⟨hz.step hs hk, by simp only; omega⟩, by simp only; omega⟩, ⟨rfl, by simp⟩, by simp, fun x y hx _ => ?_⟩
    have ei : i = s.length - 6 * z.k := by omega
    subst ei
    split
    ·rename_i hlt2
     rw [List.getD_eq_getElem?_getD, List.getD_eq_getElem?_getD, List.getElem?_append_left hlt2]; exact zX _
    ·rename_i hge2
     have ex : x = z.L.length := by omega
     subst ex
     show zc _ (AV.v (Value.int .i64 ((z.L ++ [(zk (YG s z.k (s.length - 6 * z.k)) : Int)]).getD z.L.length 0)))
     rw [List.getD_eq_getElem?_getD, List.getElem?_append_right (Nat.le_refl _), Nat.sub_self]
     exact zX _
  ·have he := hz.end_ (by omega)
   rw [he, show (zt a).natAbs = zk s by rw [hm4]; omega]
   exact ⟨hm2.symm, fun h => h, rfl, fun _ _ _ _ => rfl⟩
 ·have hm : a.getD 0 0 ≠ 45 := fun e => h (nD.2 e)
  obtain ⟨hp1, _, hp3⟩ := Yl (a := a) fun e => hm e.2
  rw [hi] at hp1
  have hp1 := hp1.symm
  have hp4 : (a.getD 0 0 == 45) = false := beq_eq_false_iff_ne.2 hm
  have hs : ∀ c ∈ a, Zm c = true := (ZX.1 hp1).2.1
  have hsl : a.length ≤ 4294967280 := by exact hl
  generalize hS : a = s at *
  refine ⟨⟨⟨0, []⟩, ⟨.start s, by simp⟩, ⟨rfl, rfl⟩, rfl⟩, fun z hz => ⟨fun hlt => ?_, fun hge => ?_⟩⟩
  ·have hk : 6 * z.k < s.length := by omega
   have ht : ((s.length : Int) - 6 * (z.k : Int)).toNat = s.length - 6 * z.k := by omega
   rw [ht]
   refine ⟨⟨by omega, by omega⟩, ⟨s.length - 6 * z.k - 6, ⟨⟨Nat.le_refl _, by omega⟩, ?_, by split <;> omega⟩, rfl, fun _ _ _ _ => trivial⟩, fun i ⟨i1, i2⟩ => ⟨fun hi2 => ?_, fun hi2 => ?_⟩⟩
   ·rw [List.drop_of_length_le (by rw [List.length_take]; omega)]; rfl
   ·have hd := hs (s.getD i 0) (by rw [List.getD_eq_getElem?_getD, List.getElem?_eq_getElem (by omega)]; exact List.getElem_mem _)
    have hdi := Z6.1 hd
    have b1 := tY hs (k := z.k) i2
    have hst : (zk (YG s z.k (i + 1)) : Int) = 10 * (zk (YG s z.k i) : Int) + (((s.getD i 0).toNat : Int) - 48) := by
     rw [tV (by omega) i1, xt]
     unfold vQ
     omega
    have ec : ∀ i, (s.take i).drop (s.length - 6 * z.k - 6) = YG s z.k i := fun i => rfl
    simp only [ec]
    exact ⟨⟨by omega, by omega⟩, ⟨by omega, by omega⟩, ⟨by omega, by omega⟩, ⟨by omega, by omega⟩, ⟨by omega, by omega⟩, ⟨by omega, by omega⟩, i + 1, ⟨⟨⟨by omega, by omega⟩, by omega⟩, hst.symm, by omega⟩, rfl, fun _ _ _ _ => trivial⟩
   ·have hlen := hz.len
    refine ⟨by omega, ⟨by omega, by omega⟩, ⟨z.k + 1, z.L ++ [(zk (YG s z.k (s.length - 6 * z.k)) : Int)]⟩, ⟨⟨hz.step hs hk, by simp only; omega⟩, by simp only; omega⟩, ⟨rfl, by simp⟩, by simp, fun x y hx _ => ?_⟩
    have ei : i = s.length - 6 * z.k := by omega
    subst ei
    split
    ·rename_i hlt2
     rw [List.getD_eq_getElem?_getD, List.getD_eq_getElem?_getD, List.getElem?_append_left hlt2]; exact zX _
    ·rename_i hge2
     have ex : x = z.L.length := by omega
     subst ex
     show zc _ (AV.v (Value.int .i64 ((z.L ++ [(zk (YG s z.k (s.length - 6 * z.k)) : Int)]).getD z.L.length 0)))
     rw [List.getD_eq_getElem?_getD, List.getElem?_append_right (Nat.le_refl _), Nat.sub_self]
     exact zX _
  ·have he := hz.end_ (by omega)
   rw [he, show (zt s).natAbs = zk s by rw [hp3]; omega]
   exact ⟨hp4.symm, fun h => h, rfl, fun _ _ _ _ => rfl⟩
theorem mG (a : List UInt8) (hi : Zy a = true) (hl : a.length ≤ 4294967280) : zS Tryz.prog [] 104 [.str a] (.agg 2 (zT [.b (a.getD 0 0 == 45), Zp (zw 1000000 (zt a).natAbs)])) :=
 zV (T := T0.plus 154 xJ) (an := O1 a) mixed (zY.plus zr wS) (Eq.mp (by kernel_rfl) (nO a hi hl))
theorem R4 : zQ Tryz.prog [] 104 vC := by
 intro xs ps r h hp
 unfold vC at h
 split at h
 ·skip
  rename_i a
  cases h
  obtain ⟨q0, q1, -⟩ := Zx hp
  exact weaken (ys := [.str a]) ⟨zX _, trivial⟩ (mG a q0 q1)
 ·cases h
end Go.Te

namespace Go.Te
open Go Go.Sx Go.Proofs Go.Ar
set_option maxRecDepth 100000
set_option maxHeartbeats 4000000
theorem uL (l : List Int) (v : Int) (i j : Nat) (hi : i < l.length + 1) (_ : j < 1) : zc (if i < l.length then AV.v (Value.int IntKind.i64 (l.getD i 0)) else AV.v (Value.int IntKind.i64 v)) (AV.v (Value.int IntKind.i64 ((l ++ [v]).getD i 0))) := by
 refine zf ?_
 split
 ·rename_i h
  rw [List.getD_eq_getElem?_getD, List.getD_eq_getElem?_getD, List.getElem?_append_left h]
 ·obtain rfl : i = l.length := by omega
  rw [List.getD_eq_getElem?_getD (l := l ++ [v]), List.getElem?_append_right (Nat.le_refl _), Nat.sub_self]; rfl
theorem uG (l : List Int) (k : Nat) (v : Int) (hk : k < l.length) (i j : Nat) (hj : j < 1) : zc (if i = k ∧ j < 1 then AV.v (Value.int IntKind.i64 v) else AV.v (Value.int IntKind.i64 (l.getD i 0))) (AV.v (Value.int IntKind.i64 ((l.set k v).getD i 0))) := by
 refine zf ?_
 rw [Yv l i k v hk]
 by_cases e : i = k
 ·rw [if_pos ⟨e, hj⟩, if_pos e]
 ·rw [if_neg fun h => e h.1, if_neg e]
theorem wB (n i j : Nat) (hj : j < 1) : zc (Zf (Value.int IntKind.i64 0) j) (AV.v (Value.int IntKind.i64 ((List.replicate n (0 : Int)).getD i 0))) := by
 obtain rfl : j = 0 := by omega
 rw [Vo]; exact zf rfl
theorem _root_.Go.Ar.MulK.fin {b : Int} {x y : List Int} {z k : Nat} {out : List Int} {c : Int} (h : MulK b x y z k out c) (hk : y.length ≤ k) (hk2 : k ≤ y.length + 1) (hc : c = 0) : XJ b x y (z + 1) out := by
 subst hc
 refine ⟨h.len, h.in_, fun i hi => h.zero i (by omega) (by omega), ?_⟩
 have hv := h.val
 rw [Int.mul_zero, Int.add_zero, Y8 (x := y) hk] at hv
 rw [hv, ZL b x, Int.add_mul, Int.mul_assoc]
structure ZU where
 out : List Int
 c : Int
def pd (x y : List Int) : yW :=
 .two .auto (.two .auto (.two .auto (.two (.two .auto (.one (.loop ZU (fun σ z => [(0, σ.tm 0), (1, σ.tm 1), (5, .ns σ.nb 0 z.out.length), (6, .i z.c), (7, .i (z.out.length : Int))]) (fun σ z => [(σ.nb, w8 z.out)]) 1 (fun σ z => wd 1000000 x y z.out.length z.out z.c ∧ z.out.length ≤ x.length) (fun σ z => x.length - z.out.length) .auto))) .auto)))
def WE : List AV → Option (List zN × AV)
 | [x_x, x_y] => some ([.b (za Int x_x), .b (za Int x_y), .p (Zv 1000000 (zv x_x)), .p (Zv 1000000 (zv x_y)), .p ((zv x_y).length ≤ (zv x_x).length), .p ((zv x_x).length ≤ 1000000000), .p (zW 1000000 (zv x_y) ≤ zW 1000000 (zv x_x))], Zp (zw 1000000 (zW 1000000 (zv x_x) - zW 1000000 (zv x_y)).toNat))
 | _ => none
theorem Qj (x : List Int) (y : List Int) (hx : Zv 1000000 x) (hy : Zv 1000000 y) (hl : y.length ≤ x.length) (hlx : x.length ≤ 1000000000) (hle : zW 1000000 y ≤ zW 1000000 x) :
 let q1 := (xI x); let q2 := (xI y); let q4 := (zv q2); let q10 := (zw 1000000 (Int.toNat (zW (1000000 : Int) x - zW (1000000 : Int) y))); zB [xI x, xI y] → (∃ (z : ZU), ((wd (1000000 : Int) x y (lN (ZU.out z)) (ZU.out z) (ZU.c z) ∧
 lN (ZU.out z) ≤ lN x) ∧ zc q1 q1 ∧ zc q2 q2 ∧ (some (xf Nat) = some (xf Nat) ∧ 0 = 0 ∧ lN (ZU.out z) = 0 ∧ true = true ∧ 0 = 0) ∧ (kI ∧ iZ = ZU.c z) ∧ kI ∧ iZ = (lZ (ZU.out z))) ∧ lN (ZU.out z) = 0) ∧ ∀ (z : ZU), let q3 := (Int.toNat (lZ (ZU.out z))); let q5 := (gD x q3 zp.dflt - gD q4 q3 iZ - ZU.c z); let q6 := (gD x q3 zp.dflt - gD q4 q3 iZ - ZU.c z + (1000000 : Int)); let q7 := (DB.db ((lN (ZU.out z) + 1) * 8
 ≤ 140737488355328)); let q8 := (dK ((lZ (ZU.out z)) + iO)); let q9 := (AV.xl false 1 (lN (ZU.out z)) fun i j => aI (gD (ZU.out z) (0 + i) iZ)); let q11 := (zm (zv q9)); wd (1000000 : Int) x y (lN (ZU.out z)) (ZU.out z) (ZU.c z) ∧ lN (ZU.out z) ≤ lN x → zZ (zn (lZ (ZU.out z)) (lZ x)) (bF (DB.db (iZ ≤ (lZ (ZU.out z)) ∧ (lZ (ZU.out z)) < (lZ x))) (zZ (za Int q2)
 (iZ ≤ (lZ (ZU.out z)) ∧ bF (dK (gD x q3 zp.dflt - gD q4 q3 iZ)) (bF (dK q5) (zZ (zn q5 iZ) (bF (dK q6) (bF q7 (bF q8 (∃ (z' : ZU), (((wd (1000000 : Int) x y (lN (ZU.out z')) (ZU.out z') (ZU.c z') ∧ lN (ZU.out z') ≤ lN x) ∧ lN x - lN (ZU.out z') < lN x - lN (ZU.out z)) ∧ zc q1 q1 ∧ zc q2 q2 ∧ (nat_lit 0 = 0 ∧ 0 = 0 ∧ lN (ZU.out z') = lN (ZU.out z) + 1) ∧ (kI ∧ (1 :
 Int) = ZU.c z') ∧ kI ∧ (lZ (ZU.out z)) + iO = (lZ (ZU.out z'))) ∧ (3 : TypeId) = 3 ∧ 1 = 1 ∧ lN (ZU.out z') = lN (ZU.out z) + 1 ∧ ∀ (i j : Nat), i < lN (ZU.out z) + 1 → j < 1 → zc (if i < lN (ZU.out z) then aI (gD (ZU.out z) i iZ) else Sx.rowAt [fun (x_1 : Nat) => aI q6] (i - lN (ZU.out z)) j) (aI (gD (ZU.out z') i iZ)))))) (bF q7 (bF q8 (∃ (z' : ZU), (((wd (1000000 :
 Int) x y (lN (ZU.out z')) (ZU.out z') (ZU.c z') ∧ lN (ZU.out z') ≤ lN x) ∧ lN x - lN (ZU.out z') < lN x - lN (ZU.out z)) ∧ zc q1 q1 ∧ zc q2 q2 ∧ (nat_lit 0 = 0 ∧ 0 = 0 ∧ lN (ZU.out z') = lN (ZU.out z) + 1) ∧ (kI ∧ iZ = ZU.c z') ∧ kI ∧ (lZ (ZU.out z)) + iO = (lZ (ZU.out z'))) ∧ (3 : TypeId) = 3 ∧ 1 = 1 ∧ lN (ZU.out z') = lN (ZU.out z) + 1 ∧ ∀ (i j : Nat), i < lN (ZU.out z) + 1 → j < 1 → zc
 (if i < lN (ZU.out z) then aI (gD (ZU.out z) i iZ) else Sx.rowAt [fun (x_1 : Nat) => aI q5] (i - lN (ZU.out z)) j) (aI (gD (ZU.out z') i iZ)))))))) False)) (bF (za Int q9) ((false = true → false = true) ∧ 1 = 1 ∧ lN q10 = lN q11 ∧ ∀ (i j : Nat), i < lN q11 → j < 1 → kI ∧ gD q11 i zp.dflt = gD q10 i zp.dflt)) := by
 delta bF dK xI kI lZ lN gD iZ iO aI
 dsimp only
 intro hb
 have e0 : (zp.dflt : Int) = 0 := rfl
 simp only [↓ZK, ↓ZT, row_one]
 simp only [sS, dS, e0]
 have hx1 : x.length ≤ 9223372036854775807 := hb.1.1
 refine ⟨⟨⟨[], 0⟩, ⟨⟨.zero _ _ _, by simp⟩, rfl, rfl, rfl⟩, rfl⟩, fun z ⟨z1, z2⟩ => ⟨fun hz => ?_, fun hz => ?_⟩⟩
 ·have g1 := hx.get (by omega) z.out.length
  have g2 := hy.get (by omega) z.out.length
  have c0 := z1.c0
  have c1 := z1.c1
  have hs := wd.step (by omega) hx hy z1
  refine ⟨⟨by omega, hz⟩, by omega, ⟨by omega, by omega⟩, ⟨by omega, by omega⟩, fun hn => ⟨⟨by omega, by omega⟩, by omega, ⟨by omega, by omega⟩, ⟨_, 1⟩, ⟨⟨⟨by simpa using hs.2 hn, by simp; omega⟩, by simp; omega⟩, by simp, rfl, by simp⟩, by simp, fun i j => uL _ _ i j⟩, fun hn => ⟨by omega, ⟨by omega, by omega⟩, ⟨_, 0⟩, ⟨⟨⟨by simpa using hs.1 hn, by simp; omega⟩, by simp; omega⟩, by simp, rfl, by simp⟩, by simp, fun i j => uL _ _ i j⟩⟩
 ·have he := z1.end_ (b := 1000000) (by omega) (by omega) (by omega) hle
  rw [he]
  exact ⟨fun h => h, rfl, fun _ _ _ _ => rfl⟩
theorem Ol (x : List Int) (y : List Int) (hx : Zv 1000000 x) (hy : Zv 1000000 y) (hl : y.length ≤ x.length) (hlx : x.length ≤ 1000000000) (hle : zW 1000000 y ≤ zW 1000000 x) : zS Tryz.prog [] 157 [Zp x, Zp y] (Zp (zw 1000000 (zW 1000000 x - zW 1000000 y).toNat)) :=
 zV (T := (T0.plus 154 xJ).plus 156 wU) (an := pd x y) mixed (zY.plus (zY.plus zr wS) VV) (Eq.mp (by kernel_rfl) (Qj x y hx hy hl hlx hle))
theorem T9 : zQ Tryz.prog [] 157 WE := by
 intro xs ps r h hp
 unfold WE at h
 split at h
 ·skip
  rename_i x_x x_y
  cases h
  obtain ⟨q0, q1, q2, q3, q4, q5, q6, -⟩ := Zx hp
  exact weaken (ys := [Zp (zv x_x), Zp (zv x_y)]) ⟨zi q0, zi q1, trivial⟩ (Ol (zv x_x) (zv x_y) q2 q3 q4 q5 q6)
 ·cases h
structure Zd where
 i : Nat
 out : List Int
structure ZI where
 k : Nat
 c : Int
 out : List Int
def Qo (x y : List Int) : yW :=
 .two .auto (.two .auto (.two (.two .auto (.one (.loop Zd (fun σ z => [(0, σ.tm 0), (1, σ.tm 1), (5, σ.tm 5), (6, .i (z.i : Int))]) (fun σ z => [(Yx (σ.tm 5), w8 z.out)]) 0 (fun σ z => XJ 1000000 x y z.i z.out ∧ z.i ≤ x.length) (fun σ z => x.length - z.i) (.two .auto (.two (.one (.two .auto (.two .auto (.one (.loop ZI (fun σ z => [(0, σ.tm 0), (1, σ.tm 1), (5, σ.tm 5), (6, σ.tm 6), (7, .i z.c), (8, .i (z.k : Int))]) (fun σ z => [(Yx (σ.tm 5), w8 z.out)]) 0 (fun σ z => MulK 1000000 x y (AV.int (σ.tm 6)).toNat z.k z.out z.c ∧ z.k ≤ y.length + 1 ∧ (z.k = y.length + 1 → z.c = 0)) (fun σ z => y.length + 1 - z.k) .auto))))) .auto))))) .auto))
def Wb : List AV → Option (List zN × AV)
 | [x_x, x_y] => some ([.b (za Int x_x), .b (za Int x_y), .p (Zv 1000000 (zv x_x)), .p (Zv 1000000 (zv x_y)), .p ((zv x_x).length ≤ 1000000000), .p ((zv x_y).length ≤ 1000000000)], Zp (zw 1000000 (zW 1000000 (zv x_x) * zW 1000000 (zv x_y)).toNat))
 | _ => none
theorem qa (x : List Int) (y : List Int) (hx : Zv 1000000 x) (hy : Zv 1000000 y) (hlx : x.length ≤ 1000000000) (hly : y.length ≤ 1000000000) :
 let q1 := ((lZ x) + (lZ y) + iO); let q2 := (xI x); let q3 := (xI y); let q4 := (nat_lit 0 = 0 ∧ 0 = 0 ∧ Int.toNat q1 = Int.toNat q1); let q11 := (Int.toNat q1); let q12 := (zv q3); let q16 := (zw 1000000 (Int.toNat (zW (1000000 : Int) x * zW (1000000 : Int) y))); zB [xI x, AV.xl false 1
 (lN y) fun i j => aI (gD y i zp.dflt)] → bF (dK ((lZ x) + (lZ y))) (bF (dK q1) (bF (DB.db (iZ ≤ (lZ x) + (lZ y) + iO ∧ (lZ x) + (lZ y) + iO ≤ (lZ x) + (lZ y) + iO ∧ (↑8 : Int) * q1 ≤ (140737488355328 : Int))) ((∃ (z : Zd), ((XJ (1000000 : Int) x y (Zd.i z) (Zd.out z) ∧ Zd.i z ≤ lN x) ∧ zc q2 q2 ∧ zc q3 q3 ∧ q4 ∧ kI ∧
 iZ = (cI (Zd.i z))) ∧ (3 : TypeId) = 3 ∧ 1 = 1 ∧ lN (Zd.out z) = Int.toNat q1 ∧ ∀ (i j : Nat), i < Int.toNat q1 → j < 1 → zc (Zf (Value.int .i64 iZ) j) (aI (gD (Zd.out z) i iZ))) ∧ ∀ (z : Zd), let q5 := (Int.toNat (AV.int (aI (cI (Zd.i z))))); let q6 := (kI ∧ (cI (Zd.i z)) = (cI (Zd.i z))); let q15 := (AV.xl false 1 q11 fun i j => aI (gD (Zd.out z) (0 + i) iZ)); let q17 := (zm (zv q15)); XJ (1000000 : Int) x y (Zd.i z) (Zd.out z) ∧
 Zd.i z ≤ lN x → zZ (zn (cI (Zd.i z)) (lZ x)) ((∃ (z_1 : ZI), ((MulK (1000000 : Int) x y q5 (ZI.k z_1) (ZI.out z_1) (ZI.c z_1) ∧ ZI.k z_1 ≤ lN y + 1 ∧ (ZI.k z_1 = lN y + 1 → ZI.c z_1 = iZ)) ∧ zc q2 q2 ∧ zc q3 q3 ∧ q4 ∧ q6 ∧ (kI ∧ iZ = ZI.c z_1) ∧ kI ∧ iZ = (cI (ZI.k z_1))) ∧ 3 = 3 ∧ 1 = 1 ∧ lN (ZI.out z_1) = lN (Zd.out z) ∧ ∀ (i j : Nat), i < lN (Zd.out z) → j < 1 → kI ∧ gD (Zd.out z) i iZ = gD (ZI.out
 z_1) i iZ) ∧ ∀ (z_1 : ZI), let q7 := (zn (cI (ZI.k z_1)) (lZ y)); let q9 := ((cI (Zd.i z)) + (cI (ZI.k z_1))); let q8 := (dK q9); let q10 := (DB.db (iZ ≤ (cI (Zd.i z)) + (cI (ZI.k z_1)) ∧ (cI (Zd.i z)) + (cI (ZI.k z_1)) < (cI q11))); let q13 := (0 + Int.toNat q9); let q14 := (gD (ZI.out z_1) q13 iZ + gD x (Int.toNat (cI (Zd.i z))) zp.dflt * gD q12 (Int.toNat (cI (ZI.k z_1))) iZ + ZI.c z_1); MulK (1000000 : Int) x y q5 (ZI.k z_1) (ZI.out z_1) (ZI.c z_1) ∧
 ZI.k z_1 ≤ lN y + 1 ∧ (ZI.k z_1 = lN y + 1 → ZI.c z_1 = iZ) → zZ (!zU false q7 || zU false q7) (bF (!!zn (cI (ZI.k z_1)) (lZ y) || zU false q7) (zZ (bif zn (cI (ZI.k z_1)) (lZ y) then true else zn iZ (ZI.c z_1)) (bF q8 (bF q10 (bF (DB.db (iZ ≤ (cI (Zd.i z)) ∧ (cI (Zd.i z)) < (lZ x))) (bF (za Int q3) (iZ ≤ (cI (ZI.k z_1)) ∧ bF (dK (gD x (Int.toNat (cI (Zd.i z))) zp.dflt * gD q12 (Int.toNat
 (cI (ZI.k z_1))) iZ)) (bF (dK (gD (ZI.out z_1) q13 iZ + gD x (Int.toNat (cI (Zd.i z))) zp.dflt * gD q12 (Int.toNat (cI (ZI.k z_1))) iZ)) (zZ (dK q14) (bF q8 (bF q10 (bF (dK (Int.tdiv q14 (1000000 : Int))) (bF (dK ((cI (ZI.k z_1)) + iO)) (∃ (z' : ZI), (((MulK (1000000 : Int) x y q5 (ZI.k z') (ZI.out z') (ZI.c z') ∧ ZI.k z' ≤ lN y + 1 ∧ (ZI.k z' = lN y + 1 → ZI.c z' = iZ)) ∧ lN y + 1 - ZI.k z' <
 lN y + 1 - ZI.k z_1) ∧ zc q2 q2 ∧ zc q3 q3 ∧ q4 ∧ q6 ∧ (kI ∧ Int.tdiv q14 (1000000 : Int) = ZI.c z') ∧ kI ∧ (cI (ZI.k z_1)) + iO = (cI (ZI.k z'))) ∧ 3 = 3 ∧ 1 = 1 ∧ lN (ZI.out z') = lN (ZI.out z_1) ∧ ∀ (i j : Nat), i < lN (ZI.out z_1) → j < 1 → zc (if i = 0 + Int.toNat q9 ∧ 0 ≤ j ∧ j < 1 then aI (Int.tmod q14 (1000000 : Int)) else aI (gD (ZI.out z_1) i iZ)) (aI (gD (ZI.out z') i iZ)))))))
 False))))))) (bF (dK ((cI (Zd.i z)) + iO)) (∃ (z' : Zd), (((XJ (1000000 : Int) x y (Zd.i z') (Zd.out z') ∧ Zd.i z' ≤ lN x) ∧ lN x - Zd.i z' < lN x - Zd.i z) ∧ zc q2 q2 ∧ zc q3 q3 ∧ q4 ∧ kI ∧ (cI (Zd.i z)) + iO = (cI (Zd.i z'))) ∧ 3 = 3 ∧ 1 = 1 ∧ lN (Zd.out z') = lN (ZI.out z_1) ∧ ∀ (i j : Nat), i < lN (ZI.out z_1) → j < 1 → kI ∧ gD (ZI.out z_1) i iZ = gD (Zd.out z') i iZ))))
 False) (bF (za Int q15) ((false = true → false = true) ∧ 1 = 1 ∧ lN q16 = lN q17 ∧ ∀ (i j : Nat), i < lN q17 → j < 1 → kI ∧ gD q17 i zp.dflt = gD q16 i zp.dflt))))) := by
 delta bF dK xI cI kI lZ lN gD iZ iO aI
 dsimp only
 intro hb
 have e0 : (zp.dflt : Int) = 0 := rfl
 simp only [↓ZK, ↓ZT, row_one]
 simp only [sS, dS, e0]
 have en : ((x.length : Int) + (y.length : Int) + 1).toNat = x.length + y.length + 1 := by omega
 rw [en]
 refine ⟨⟨by omega, by omega⟩, ⟨by omega, by omega⟩, ⟨by omega, Int.le_refl _, by omega⟩, ⟨⟨0, List.replicate (x.length + y.length + 1) 0⟩, ⟨⟨.zero_ (by omega) _ _, Nat.zero_le _⟩, rfl⟩, by simp, fun i j _ hj => wB _ i j hj⟩, fun z ⟨z1, z2⟩ => ⟨fun hz => ⟨⟨⟨0, 0, z.out⟩, ⟨⟨z1.start (by omega), Nat.zero_le _, fun h => rfl⟩, rfl, rfl⟩, rfl, fun _ _ _ _ => rfl⟩, fun w ⟨w1, w2, w3⟩ => ?_⟩, fun hz => ?_⟩⟩
 ·have hz' : z.i < x.length := by omega
  have w4 := w1.len
  refine zu.2 ⟨fun c => ?_, fun c => ?_⟩
  ·have hk : w.k ≤ y.length := by
    rcases Nat.lt_or_ge y.length w.k with h | h
    ·have := w3 (by omega)
     rw [Bool.or_eq_true, zq, zq] at c
     omega
    ·exact h
   have ek : ((z.i : Int) + (w.k : Int)).toNat = z.i + w.k := by omega
   rw [ek]
   obtain ⟨⟨n0, n1⟩, hs⟩ := w1.step (by omega) hx hy hz' hk
   have g1 := hx.get (by omega) z.i
   have g2 := hy.get (by omega) w.k
   have g3 := w1.in_.get (by omega) (z.i + w.k)
   have c0 := w1.c0
   have c1 := w1.c1
   have p0 : 0 ≤ x.getD z.i 0 * y.getD w.k 0 := Int.mul_nonneg g1.1 g2.1
   have d0 := hs.c0
   have d1 := hs.c1
   refine ⟨⟨by omega, by omega⟩, ⟨by omega, by omega⟩, ⟨by omega, hz⟩, by omega, ⟨by omega, by omega⟩, ⟨by omega, by omega⟩, ⟨by omega, by omega⟩, ⟨by omega, by omega⟩, ⟨by omega, by omega⟩, ⟨by omega, by omega⟩, ⟨by omega, by omega⟩, ⟨w.k + 1, _, _⟩, ⟨⟨⟨hs, by simp only; omega, fun h => ?_⟩, by simp only; omega⟩, rfl, rfl⟩, by simp, fun i j _ => uG _ _ _ (by omega) i j⟩
   have hk' : w.k = y.length := by simp only at h; omega
   have := (hk' ▸ w1 : MulK 1000000 x y z.i y.length w.out w.c).last (by omega)
   rw [← hk'] at this
   exact this
  ·rw [Bool.or_eq_false_iff, Bool.eq_false_iff, Bool.eq_false_iff, Ne, Ne, zq, zq] at c
   have c0 := w1.c0
   exact ⟨⟨by omega, by omega⟩, ⟨z.i + 1, w.out⟩, ⟨⟨⟨w1.fin (by omega) w2 (by omega), by simp only; omega⟩, by simp only; omega⟩, rfl⟩, rfl, fun _ _ _ _ => rfl⟩
 ·have hz' : z.i = x.length := by omega
  have he := (hz' ▸ z1 : XJ 1000000 x y x.length z.out).end_ (b := 1000000) (by omega)
  rw [← z1.len]
  simp only [sS, dS, e0]
  rw [he]
  exact ⟨fun h => h, rfl, fun _ _ _ _ => rfl⟩
theorem Oz (x : List Int) (y : List Int) (hx : Zv 1000000 x) (hy : Zv 1000000 y) (hlx : x.length ≤ 1000000000) (hly : y.length ≤ 1000000000) : zS Tryz.prog [] 158 [Zp x, Zp y] (Zp (zw 1000000 (zW 1000000 x * zW 1000000 y).toNat)) :=
 zV (T := (T0.plus 154 xJ).plus 156 wU) (an := Qo x y) mixed (zY.plus (zY.plus zr wS) VV) (Eq.mp (by kernel_rfl) (qa x y hx hy hlx hly))
theorem TE : zQ Tryz.prog [] 158 Wb := by
 intro xs ps r h hp
 unfold Wb at h
 split at h
 ·skip
  rename_i x_x x_y
  cases h
  obtain ⟨q0, q1, q2, q3, q4, q5, -⟩ := Zx hp
  exact weaken (ys := [Zp (zv x_x), Zp (zv x_y)]) ⟨zi q0, zi q1, trivial⟩ (Oz (zv x_x) (zv x_y) q2 q3 q4 q5)
 ·cases h
structure wF where
 z : Nat
 q : List Int
 r : Int
def Qy (x : List Int) (d : Int) : yW :=
 .two .auto (.two .auto (.two .auto (.two (.two .auto (.one (.loop wF (fun σ z => [(0, σ.tm 0), (1, σ.tm 1), (6, σ.tm 6), (7, .i z.r), (8, .i ((z.z : Int) - 1))]) (fun σ z => [(Yx (σ.tm 6), w8 z.q)]) 0 (fun σ z => UV 1000000 d x z.z z.q z.r) (fun σ z => z.z) .auto))) .auto)))
def Vg : List AV → Option (List zN × AV)
 | [x_x, .v (.int .i64 d)] => some ([.b (za Int x_x), .p (Zv 1000000 (zv x_x)), .p (0 < d), .p (d ≤ 1000000), .p ((zv x_x).length ≤ 1000000000)], .tup 2 (zT [Zp (zw 1000000 ((zW 1000000 (zv x_x)).toNat / d.toNat)), Zp (zw 1000000 ((zW 1000000 (zv x_x)).toNat % d.toNat))]))
 | _ => none
theorem po (x : List Int) (d : Int) (hx : Zv 1000000 x) (hd0 : 0 < d) (hd1 : d ≤ 1000000) (hlx : x.length ≤ 1000000000) :
 let q1 := (xI x); let q2 := (nat_lit 0 = 0 ∧ 0 = 0 ∧ Int.toNat (lZ x) = Int.toNat (lZ x)); let q7 := (zw 1000000 (Int.toNat (zW (1000000 : Int) x) / Int.toNat d)); let q9 := (zw 1000000 (Int.toNat (zW (1000000 : Int) x) % Int.toNat d)); zB [xI x, aI d] → bF (DB.db (iZ ≤ (lZ x) ∧ (lZ x) ≤ (lZ x) ∧ (↑8 :
 Int) * (lZ x) ≤ (140737488355328 : Int))) (bF (dK ((lZ x) - iO)) ((∃ (z : wF), (UV (1000000 : Int) d x (wF.z z) (wF.q z) (wF.r z) ∧ zc q1 q1 ∧ (kI ∧ d = d) ∧ q2 ∧ (kI ∧ iZ = wF.r z) ∧ kI ∧ (lZ x) - iO = (cI (wF.z z)) - iO) ∧ (3 : TypeId) = 3 ∧ 1 = 1 ∧ lN (wF.q z) = Int.toNat (lZ x) ∧ ∀ (i j : Nat), i < Int.toNat (lZ x) → j < 1 → zc (Zf (Value.int .i64 iZ) j) (AV.v (Value.int .i64
 (gD (wF.q z) i iZ)))) ∧ ∀ (z : wF), let q3 := (wF.r z * (1000000 : Int) + gD x (Int.toNat ((cI (wF.z z)) - iO)) zp.dflt); let q4 := (Int.tdiv q3 d); let q5 := (AV.xl false 1 (Int.toNat (lZ x)) fun i j => aI (gD (wF.q z) (0 + i) iZ)); let q6 := (zm (zv q5)); let q8 := (zm (zv (AV.xl true 1 1 (Sx.rowAt [fun (x : Nat) => aI (wF.r z)])))); UV (1000000 : Int) d x (wF.z z) (wF.q z) (wF.r z) → zZ (leB iZ ((cI (wF.z z)) - iO)) (bF (DB.db (YZ .i64
 (wF.r z * (1000000 : Int)))) (bF (DB.db (iZ ≤ (cI (wF.z z)) - iO ∧ (cI (wF.z z)) - iO < (lZ x))) (bF (dK q3) (bF (DB.db (d ≠ iZ)) (bF (dK q4) (bF (DB.db (iZ ≤ (cI (wF.z z)) - iO ∧ (cI (wF.z z)) - iO < (cI (Int.toNat (lZ x))))) (bF (DB.db (d ≠ iZ)) (bF (dK ((cI (wF.z z)) - iO - iO)) (∃ (z' : wF), ((UV (1000000 : Int) d x (wF.z z') (wF.q z') (wF.r z') ∧ wF.z z' < wF.z z) ∧ zc q1 q1 ∧
 (kI ∧ d = d) ∧ q2 ∧ (kI ∧ Int.tmod q3 d = wF.r z') ∧ kI ∧ (cI (wF.z z)) - iO - iO = (cI (wF.z z')) - iO) ∧ 3 = 3 ∧ 1 = 1 ∧ lN (wF.q z') = lN (wF.q z) ∧ ∀ (i j : Nat), i < lN (wF.q z) → j < 1 → zc (if i = 0 + Int.toNat ((cI (wF.z z)) - iO) ∧ 0 ≤ j ∧ j < 1 then aI q4 else aI (gD (wF.q z) i iZ)) (aI (gD (wF.q z') i iZ))))))))))) (bF (za
 Int q5) (j2 ∧ (True ∧ zc (xI q6) (xI q7)) ∧ zc (xI q8) (xI q9))))) := by
 delta bF dK xI cI kI j2 lZ lN gD iZ iO aI
 dsimp only
 intro hb
 have e0 : (zp.dflt : Int) = 0 := rfl
 simp only [↓ZK, ↓ZT, row_one]
 simp only [sS, dS, e0]
 have er : ∀ r : Int, zv (AV.xl true 1 1 fun x j => AV.v (Value.int IntKind.i64 r)) = [r] := fun r => rfl
 refine ⟨⟨by omega, Int.le_refl _, by omega⟩, ⟨by omega, by omega⟩, ⟨⟨x.length, List.replicate x.length 0, 0⟩, ⟨.start (by omega) hd0 x, rfl, rfl⟩, by simp, fun i j _ hj => wB _ i j hj⟩, fun z z1 => ⟨fun hz => ?_, fun hz => ?_⟩⟩
 ·have hle := z1.le
  obtain ⟨k, hk⟩ : ∃ k, z.z = k + 1 := ⟨z.z - 1, by omega⟩
  obtain ⟨zz, q, r⟩ := z
  simp only at hk hle z1 hz ⊢
  subst hk
  have ek : (((k + 1 : Nat) : Int) - 1).toNat = k := by omega
  rw [ek]
  obtain ⟨⟨n0, n1⟩, hs⟩ := z1.step (by omega) hx
  rw [Int.add_comm] at n0 n1 hs
  have g1 := hx.get (by omega) k
  have r0 := z1.r0
  have r1 := z1.r1
  have s0 := hs.r0
  have s1 := hs.r1
  have q1 := hs.in_.get (by omega) k
  rw [Yv _ _ _ _ (by rw [z1.len]; omega), if_pos rfl] at q1
  exact ⟨⟨by omega, by omega⟩, ⟨by omega, by omega⟩, ⟨by omega, by omega⟩, by omega, ⟨by omega, by omega⟩, ⟨by omega, by omega⟩, by omega, ⟨by omega, by omega⟩, ⟨k, _, _⟩, ⟨⟨hs, by simp only; omega⟩, rfl, by simp only; omega⟩, by simp, fun i j _ => uG _ _ _ (by rw [z1.len]; omega) i j⟩
 ·have v0 := zj (b := 1000000) (by omega) hx
  have hz' : z.z = 0 := by omega
  have z2 : UV 1000000 d x 0 z.q z.r := hz' ▸ z1
  rw [← z1.len, er]
  simp only [sS, dS, e0]
  obtain ⟨D, rfl⟩ : ∃ D : Nat, d = D := ⟨d.toNat, by omega⟩
  obtain ⟨t1, _, t3⟩ := z2.end_ (b := 1000000) (by omega) (by omega) (by omega) (zW 1000000 x).toNat (by show zW 1000000 x = _; omega)
  rw [t1, t3]
  exact ⟨rfl, zX _, zX _⟩
theorem Oi (x : List Int) (d : Int) (hx : Zv 1000000 x) (hd0 : 0 < d) (hd1 : d ≤ 1000000) (hlx : x.length ≤ 1000000000) : zS Tryz.prog [] 155 [Zp x, .i d] (.tup 2 (zT [Zp (zw 1000000 ((zW 1000000 x).toNat / d.toNat)), Zp (zw 1000000 ((zW 1000000 x).toNat % d.toNat))])) :=
 zV (T := T0.plus 154 xJ) (an := Qy x d) mixed (zY.plus zr wS) (Eq.mp (by kernel_rfl) (po x d hx hd0 hd1 hlx))
theorem Ov : zQ Tryz.prog [] 155 Vg := by
 intro xs ps r h hp
 unfold Vg at h
 split at h
 ·skip
  rename_i x_x d
  cases h
  obtain ⟨q0, q1, q2, q3, q4, -⟩ := Zx hp
  exact weaken (ys := [Zp (zv x_x), .i d]) ⟨zi q0, zX _, trivial⟩ (Oi (zv x_x) d q1 q2 q3 q4)
 ·cases h
end Go.Te
