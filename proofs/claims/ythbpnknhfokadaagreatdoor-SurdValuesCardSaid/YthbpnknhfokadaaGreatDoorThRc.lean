/- rational: Add, Sub, Mul. -/
import Derived.Test.YthbpnknhfokadaaGreatDoorThIk
set_option linter.unusedSimpArgs false
set_option linter.unusedVariables false
namespace Go.Te
open Go Go.Sx Go.Proofs Go.Ar
set_option maxRecDepth 100000
set_option maxHeartbeats 4000000
def Ke (f : Int → Int → Int) (a b : zj) : Int := f (zL a * (zP b : Int)) (zL b * (zP a : Int))
def tR (f : Int → Int → Int) (a b : zj) : Int := bif vG a b != 0 then vG a b else bif ZM (Ke f a b) != 0 then ZM (Ke f a b) else ZM ((zP a : Int) * (zP b : Int))
def Q9 (f : Int → Int → Int) (a b : zj) : zj := bif tR f a b == 0 then ZX (Ke f a b) (zP a * zP b) else []
def tK (a b : zj) : Int := bif zh a != 0 then zh a else bif zh b != 0 then zh b else bif ZM (zL a * zL b) != 0 then ZM (zL a * zL b) else ZM ((zP a : Int) * (zP b : Int))
def pJ (a b : zj) : zj := bif tK a b == 0 then ZX (zL a * zL b) (zP a * zP b) else []
noncomputable def Hk (G : List (Nat × Obj)) : Tb := (((((WS G).plus 57 ws).plus 55 Vr).plus 101 sF).plus 61 nO).plus 76 O4 |>.plus 77 N4
theorem T1 {G : List (Nat × Obj)} (hG : zo G) : zz Tryz.prog (Hk G) :=
 zz.plus (zz.plus (zz.plus (zz.plus (zz.plus (zz.plus zQ (vJ hG)) (zp.mono sM)) (nz hG)) (zp.mono ij)) (zp.mono It)) (ID hG)
def gv : List (FuncId × yt) := [(60, .auto), (62, .auto), (63, .auto)]
theorem VT {a : zj} (h : zh a = 0) : tj ⟨zn a, yy a⟩ := by
 obtain ⟨a1, a2, a3, a4⟩ := MJ h
 refine ⟨a1, a2, ?_⟩
 rw [a4]
 have := yo (Zr.1 h).1
 omega
theorem iF {f : Int → Int → Int} {a b : zj} (ha : zh a = 0) (hb : zh b = 0) : R2 f ⟨zn a, yy a⟩ ⟨zn b, yy b⟩ = Q9 f a b ∧ Vv f ⟨zn a, yy a⟩ ⟨zn b, yy b⟩ = tR f a b := by
 obtain ⟨_, _, a3, a4⟩ := MJ ha
 obtain ⟨_, _, b3, b4⟩ := MJ hb
 have pa := yo (Zr.1 ha).1
 have pb := yo (Zr.1 hb).1
 have e : Vv f ⟨zn a, yy a⟩ ⟨zn b, yy b⟩ = tR f a b := by
  unfold Vv tR vG Ke
  rw [a3, a4, b3, b4, ha, hb]
  simp only [bne_self_eq_false, cond_false]
  cases h1 : ZM (zL a * (zP b : Int)) != 0 with
  | true => simp only [cond_true, h1]
  | false => simp only [cond_false]
 refine ⟨?_, e⟩
 unfold R2 Q9
 rw [e]
 cases tR f a b == 0 with
 | false => rfl
 | true =>
  simp only [cond_true]
  rw [a3, a4, b3, b4]
  have hp : (0 : Int) < (zP a : Int) * (zP b : Int) := Int.mul_pos (by omega) (by omega)
  unfold xX Ke
  rw [show zg ((zP a : Int) * (zP b : Int)) 0 = false from Bool.eq_false_iff.2 fun e => by have := (zq _ _).1 e; omega, cond_false, ← Int.natCast_mul, Int.toNat_natCast]
theorem TO {a : zj} (h : z8 a = true) : tr ⟨zL a, (zP a : Int)⟩ := by
 obtain ⟨h1, h2, h3⟩ := yi h
 have := yo (Zr.1 h1).1
 exact ⟨⟨by simp only; omega, by simp only; omega⟩, by simp only; omega, by simp only; omega⟩
theorem Mz {f : Int → Int → Int} (hf : ∀ u v, (f u v).natAbs ≤ u.natAbs + v.natAbs) {a b : zj} (ha : z8 a = true) (hb : z8 b = true) :
  tR f a b = 0 ∧ Q9 f a b = xX (f (zL a * (zP b : Int)) (zL b * (zP a : Int))) ((zP a : Int) * (zP b : Int)) ∧ (zP a : Int) * (zP b : Int) ≠ 0 ∧
  (-1000000000000000000 ≤ (zP a : Int) * (zP b : Int) ∧ (zP a : Int) * (zP b : Int) ≤ 1000000000000000000) ∧
  (-1000000000000000000 ≤ f (zL a * (zP b : Int)) (zL b * (zP a : Int)) ∧ f (zL a * (zP b : Int)) (zL b * (zP a : Int)) ≤ 1000000000000000000) := by
 obtain ⟨a1, a2, a3⟩ := yi ha
 obtain ⟨b1, b2, b3⟩ := yi hb
 have pa := yo (Zr.1 a1).1
 have pb := yo (Zr.1 b1).1
 have m1 := Yu (a := zL a) (b := (zP b : Int)) ⟨by omega, by omega⟩ ⟨by omega, by omega⟩
 have m2 := Yu (a := zL b) (b := (zP a : Int)) ⟨by omega, by omega⟩ ⟨by omega, by omega⟩
 have m3 := Yu (a := (zP a : Int)) (b := (zP b : Int)) ⟨by omega, by omega⟩ ⟨by omega, by omega⟩
 have hp : (0 : Int) < (zP a : Int) * (zP b : Int) := Int.mul_pos (by omega) (by omega)
 have hN := hf (zL a * (zP b : Int)) (zL b * (zP a : Int))
 have eN : Ke f a b = f (zL a * (zP b : Int)) (zL b * (zP a : Int)) := rfl
 have e : tR f a b = 0 := by
  unfold tR vG
  rw [a1, b1, (ZP (n := zL a * (zP b : Int)) (k := 20) (by omega) (by omega) (by omega)).2, (ZP (n := zL b * (zP a : Int)) (k := 20) (by omega) (by omega) (by omega)).2, eN,
   (ZP (n := f (zL a * (zP b : Int)) (zL b * (zP a : Int))) (k := 20) (by omega) (by omega) (by omega)).2, (ZP (n := (zP a : Int) * (zP b : Int)) (k := 20) (by omega) (by omega) (by omega)).2]
  rfl
 refine ⟨e, ?_, by omega, ⟨by omega, by omega⟩, ⟨by omega, by omega⟩⟩
 unfold Q9
 rw [e]
 show ZX (Ke f a b) _ = _
 unfold xX
 rw [show zg ((zP a : Int) * (zP b : Int)) 0 = false from Bool.eq_false_iff.2 fun e => by have := (zq _ _).1 e; omega, cond_false, ← Int.natCast_mul, Int.toNat_natCast, eN]
theorem Hl {f : Int → Int → Int} {a b : zj} (h : zh a ≠ 0) : [] = Q9 f a b ∧ zh a = tR f a b := by
 have e : tR f a b = zh a := by
  unfold tR vG
  rw [bne_iff_ne.2 h]
  simp only [cond_true]
  rw [bne_iff_ne.2 h]; rfl
 exact ⟨by unfold Q9; rw [e, beq_eq_false_iff_ne.2 h]; rfl, e.symm⟩
theorem HO {f : Int → Int → Int} {a b : zj} (h0 : zh a = 0) (h : zh b ≠ 0) : [] = Q9 f a b ∧ zh b = tR f a b := by
 have e : tR f a b = zh b := by
  unfold tR vG
  rw [h0, bne_iff_ne.2 h]
  simp only [bne_self_eq_false, cond_false, cond_true]
  rw [bne_iff_ne.2 h]; rfl
 exact ⟨by unfold Q9; rw [e, beq_eq_false_iff_ne.2 h]; rfl, e.symm⟩
theorem l9 (G : List (Nat × Obj)) (a : List UInt8) (b : List UInt8) (hla : a.length ≤ 9223372036854775807) (hlb : b.length ≤ 9223372036854775807) :
 let q2 := (True ∧ bA #[] = Q9 (fun (x1 x2 : Int) => x1 + x2) a b); let q3 := (Pt.mk (AV.bytes (AV.str (bif zh a == iZ then zn a else []))) (AV.bytes (AV.str (bif zh a == iZ then yy a else [])))); let q4 := (Pt.d q3); let q5 := (Pt.mk (AV.bytes (AV.str (bif zh b == iZ then zn b else []))) (AV.bytes (AV.str (bif zh b == iZ then yy b else [])))); let q6 := (Pt.d q5); let q1 := (lN a ≤ nX ∧ zZ (zh a != iZ) (j2 ∧ q2 ∧ kI ∧ zh
 a = tR (fun (x1 x2 : Int) => x1 + x2) a b) (lN b ≤ nX ∧ zZ (zh b != iZ) (j2 ∧ q2 ∧ kI ∧ zh b = tR (fun (x1 x2 : Int) => x1 + x2) a b) ((ZR (Pt.n q3) = iZ ∧ ZR q4 = iZ ∧ zY q4 ≠ iZ) ∧ (ZR (Pt.n q5) = iZ ∧ ZR q6 = iZ ∧ zY q6 ≠ iZ) ∧ j2 ∧ (True ∧ R2 (fun (x1 x2 : Int) => x1 + x2) q3 q5 = Q9 (fun (x1 x2 : Int) => x1 + x2) a b) ∧ kI ∧ Vv (fun (x1 x2 : Int) => x1 + x2) q3 q5 = tR (fun (x1 x2 : Int) => x1 +
 x2) a b))); let q9 := (Value.agg #[Value.int .i64 iZ, Value.int .i64 iZ]); let q8 := (fun (i : Nat) => if 0 ≤ i ∧ i < 0 + 2 then zw [AV.i (bif z8 a then zL a else iZ), AV.i (bif z8 a then (cI (zP a)) else iZ)] (i - 0) else Z1 q9 i); let q7 := (Nt.mk (AV.int (q8 0)) (AV.int (q8 1))); let q11 := (fun (i : Nat) => if 0 ≤ i ∧ i < 0 + 2 then zw [AV.i (bif z8 b then zL b else iZ), AV.i (bif z8 b then (cI (zP b)) else iZ)] (i - 0) else Z1 q9 i); let q10 := (Nt.mk (AV.int (q11 0)) (AV.int (q11 1))); let q13 := (Nt.mk (Nt.n
 q7 * Nt.d q10 + Nt.n q10 * Nt.d q7) (Nt.d q7 * Nt.d q10)); let q12 := (Nt.mk (AV.int (aI (Nt.n q13))) (AV.int (aI (Nt.d q13)))); Zw [AV.str a, AV.str b] → lN a ≤ nX ∧ zZ (!z8 a) q1 (lN b ≤ nX ∧ zZ (!z8 b) q1 ((((-99999999 : Int) ≤ Nt.n q7 ∧ Nt.n q7 ≤ (99999999 : Int)) ∧ iZ < Nt.d q7 ∧ Nt.d q7 ≤ (99999999 : Int)) ∧ (((-99999999 : Int) ≤ Nt.n q10 ∧ Nt.n q10 ≤ (99999999 : Int)) ∧ iZ < Nt.d q10 ∧ Nt.d q10 ≤ (99999999 : Int)) ∧ Nt.d q12 ≠ iZ ∧ ((-1000000000000000000 : Int) ≤
 Nt.d q12 ∧ Nt.d q12 ≤ (1000000000000000000 : Int)) ∧ ((-1000000000000000000 : Int) ≤ Nt.n q12 ∧ Nt.n q12 ≤ (1000000000000000000 : Int)) ∧ j2 ∧ (True ∧ xX (Nt.n q12) (Nt.d q12) = Q9 (fun (x1 x2 : Int) => x1 + x2) a b) ∧ kI ∧ iZ = tR (fun (x1 x2 : Int) => x1 + x2) a b)) := by
 delta bA nX cI kI j2 lN iZ aI
 dsimp only
 intro hb
 simp only [sS, dS]
 refine ⟨hla, zX.2 ⟨fun c => ?_, fun c => ⟨hlb, zX.2 ⟨fun c2 => ?_, fun c2 => ?_⟩⟩⟩⟩
 rotate_left 2
 ·rw [Bool.not_eq_false'] at c c2
  obtain ⟨q1, q2, q3, q4, q5⟩ := Mz (f := fun x1 x2 => x1 + x2) (fun u v => by omega) c c2
  rw [q1, q2, c, c2]
  exact ⟨TO c, TO c2, q3, q4, q5, rfl, rfl, rfl⟩
 all_goals
  refine ⟨hla, fun h => ⟨rfl, Hl h⟩, fun h0 => ⟨hlb, fun h => ⟨rfl, HO h0 h⟩, fun h1 => ?_⟩⟩
  obtain ⟨q1, q2⟩ := iF (f := fun x1 x2 => x1 + x2) h0 h1
  rw [h0, h1]
  exact ⟨VT h0, VT h1, rfl, q1, q2⟩
theorem JP {G : List (Nat × Obj)} (hG : zo G) (a : List UInt8) (b : List UInt8) (hla : a.length ≤ 9223372036854775807) (hlb : b.length ≤ 9223372036854775807) : zt Tryz.prog G 30 [.str a, .str b] (.tup 2 (zw [.str (Q9 (· + ·) a b), .i (tR (· + ·) a b)])) :=
 zW (T := ((Hk G).plus 102 nU).body Tryz.prog gv) (an := .auto) mixed (zz.body mixed (zz.plus (T1 hG) (Ig hG)) _) (Eq.mp (by kernel_rfl) (l9 G a b hla hlb))
theorem Hr {a b : zj} (h : zh a ≠ 0) : [] = pJ a b ∧ zh a = tK a b := by
 have e : tK a b = zh a := by unfold tK; rw [bne_iff_ne.2 h]; rfl
 exact ⟨by unfold pJ; rw [e, beq_eq_false_iff_ne.2 h]; rfl, e.symm⟩
theorem Hh {a b : zj} (h0 : zh a = 0) (h : zh b ≠ 0) : [] = pJ a b ∧ zh b = tK a b := by
 have e : tK a b = zh b := by unfold tK; rw [h0, bne_iff_ne.2 h]; rfl
 exact ⟨by unfold pJ; rw [e, beq_eq_false_iff_ne.2 h]; rfl, e.symm⟩
theorem iH {a b : zj} (ha : zh a = 0) (hb : zh b = 0) : Mk ⟨zn a, yy a⟩ ⟨zn b, yy b⟩ = pJ a b ∧ R3 ⟨zn a, yy a⟩ ⟨zn b, yy b⟩ = tK a b := by
 obtain ⟨_, _, a3, a4⟩ := MJ ha
 obtain ⟨_, _, b3, b4⟩ := MJ hb
 have pa := yo (Zr.1 ha).1
 have pb := yo (Zr.1 hb).1
 have e : R3 ⟨zn a, yy a⟩ ⟨zn b, yy b⟩ = tK a b := by
  unfold R3 tK
  rw [a3, a4, b3, b4, ha, hb]; rfl
 refine ⟨?_, e⟩
 unfold Mk pJ
 rw [e]
 cases tK a b == 0 with
 | false => rfl
 | true =>
  simp only [cond_true]
  rw [a3, a4, b3, b4]
  have hp : (0 : Int) < (zP a : Int) * (zP b : Int) := Int.mul_pos (by omega) (by omega)
  unfold xX
  rw [show zg ((zP a : Int) * (zP b : Int)) 0 = false from Bool.eq_false_iff.2 fun e => by have := (zq _ _).1 e; omega, cond_false, ← Int.natCast_mul, Int.toNat_natCast]
theorem nh {a b : zj} (ha : z8 a = true) (hb : z8 b = true) :
  tK a b = 0 ∧ pJ a b = xX (zL a * zL b) ((zP a : Int) * (zP b : Int)) ∧ (zP a : Int) * (zP b : Int) ≠ 0 ∧
  (-1000000000000000000 ≤ (zP a : Int) * (zP b : Int) ∧ (zP a : Int) * (zP b : Int) ≤ 1000000000000000000) ∧
  (-1000000000000000000 ≤ zL a * zL b ∧ zL a * zL b ≤ 1000000000000000000) := by
 obtain ⟨a1, a2, a3⟩ := yi ha
 obtain ⟨b1, b2, b3⟩ := yi hb
 have pa := yo (Zr.1 a1).1
 have pb := yo (Zr.1 b1).1
 have m1 := Yu (a := zL a) (b := zL b) ⟨by omega, by omega⟩ ⟨by omega, by omega⟩
 have m3 := Yu (a := (zP a : Int)) (b := (zP b : Int)) ⟨by omega, by omega⟩ ⟨by omega, by omega⟩
 have hp : (0 : Int) < (zP a : Int) * (zP b : Int) := Int.mul_pos (by omega) (by omega)
 have e : tK a b = 0 := by
  unfold tK
  rw [a1, b1, (ZP (n := zL a * zL b) (k := 20) (by omega) (by omega) (by omega)).2, (ZP (n := (zP a : Int) * (zP b : Int)) (k := 20) (by omega) (by omega) (by omega)).2]
  rfl
 refine ⟨e, ?_, by omega, ⟨by omega, by omega⟩, ⟨by omega, by omega⟩⟩
 unfold pJ
 rw [e]
 show ZX _ _ = _
 unfold xX
 rw [show zg ((zP a : Int) * (zP b : Int)) 0 = false from Bool.eq_false_iff.2 fun e => by have := (zq _ _).1 e; omega, cond_false, ← Int.natCast_mul, Int.toNat_natCast]
theorem lY (G : List (Nat × Obj)) (a : List UInt8) (b : List UInt8) (hla : a.length ≤ 9223372036854775807) (hlb : b.length ≤ 9223372036854775807) :
 let q2 := (True ∧ bA #[] = pJ a b); let q5 := (Value.agg #[Value.string (ByteArray.mk #[]), Value.string (ByteArray.mk #[])]); let q4 := (fun (i : Nat) => if 0 ≤ i ∧ i < 0 + 2 then zw [AV.str (bif zh a == iZ then zn a else []), AV.str (bif zh a == iZ then yy a else [])] (i - 0) else Z1 q5 i); let q3 := (Pt.mk (AV.bytes (q4 0)) (AV.bytes (q4 1))); let q6 := (Pt.d q3); let q8 := (fun (i : Nat) => if 0 ≤ i ∧ i < 0 + 2 then zw [AV.str (bif zh b == iZ then zn b else []), AV.str (bif zh b == iZ then yy b
 else [])] (i - 0) else Z1 q5 i); let q7 := (Pt.mk (AV.bytes (q8 0)) (AV.bytes (q8 1))); let q9 := (Pt.d q7); let q1 := (lN a ≤ nX ∧ zZ (zh a != iZ) (j2 ∧ q2 ∧ kI ∧ zh a = tK a b) (lN b ≤ nX ∧ zZ (zh b != iZ) (j2 ∧ q2 ∧ kI ∧ zh b = tK a b) ((ZR (Pt.n q3) = iZ ∧ ZR q6 = iZ ∧ zY q6 ≠ iZ) ∧ (ZR (Pt.n q7) = iZ ∧ ZR q9 = iZ ∧ zY q9 ≠ iZ) ∧ 2 = lN [AV.junk,
 AV.junk] ∧ (True ∧ Mk q3 q7 = pJ a b) ∧ kI ∧ R3 q3 q7 = tK a b))); let q12 := (Value.agg #[Value.int .i64 iZ, Value.int .i64 iZ]); let q11 := (fun (i : Nat) => if 0 ≤ i ∧ i < 0 + 2 then zw [AV.i (bif z8 a then zL a else iZ), AV.i (bif z8 a then (cI (zP a)) else iZ)] (i - 0) else Z1 q12 i); let q10 := (Nt.mk (AV.int (q11 0)) (AV.int (q11 1))); let q14 := (fun (i : Nat) => if 0 ≤ i ∧ i < 0 + 2 then zw [AV.i (bif z8 b then zL b else iZ), AV.i (bif z8 b then (cI (zP b)) else iZ)] (i - 0) else Z1 q12
 i); let q13 := (Nt.mk (AV.int (q14 0)) (AV.int (q14 1))); let q16 := (Nt.mk (Nt.n q10 * Nt.n q13) (Nt.d q10 * Nt.d q13)); let q15 := (Nt.mk (AV.int (aI (Nt.n q16))) (AV.int (aI (Nt.d q16)))); Zw [AV.str a, AV.str b] → lN a ≤ nX ∧ zZ (!z8 a) q1 (lN b ≤ nX ∧ zZ (!z8 b) q1 ((((-99999999 : Int) ≤ Nt.n q10 ∧ Nt.n q10 ≤ (99999999 : Int)) ∧ iZ < Nt.d q10 ∧ Nt.d q10 ≤ (99999999 : Int)) ∧ (((-99999999 : Int) ≤ Nt.n q13 ∧ Nt.n q13 ≤ (99999999 : Int)) ∧ iZ < Nt.d q13 ∧ Nt.d q13 ≤ (99999999
 : Int)) ∧ Nt.d q15 ≠ iZ ∧ ((-1000000000000000000 : Int) ≤ Nt.d q15 ∧ Nt.d q15 ≤ (1000000000000000000 : Int)) ∧ ((-1000000000000000000 : Int) ≤ Nt.n q15 ∧ Nt.n q15 ≤ (1000000000000000000 : Int)) ∧ j2 ∧ (True ∧ xX (Nt.n q15) (Nt.d q15) = pJ a b) ∧ kI ∧ iZ = tK a b)) := by
 delta bA nX cI kI j2 lN iZ aI
 dsimp only
 intro hb
 simp only [sS, dS]
 refine ⟨hla, zX.2 ⟨fun c => ?_, fun c => ⟨hlb, zX.2 ⟨fun c2 => ?_, fun c2 => ?_⟩⟩⟩⟩
 rotate_left 2
 ·rw [Bool.not_eq_false'] at c c2
  obtain ⟨q1, q2, q3, q4, q5⟩ := nh c c2
  rw [q1, q2, c, c2]
  exact ⟨TO c, TO c2, q3, q4, q5, rfl, rfl, rfl⟩
 all_goals
  refine ⟨hla, fun h => ⟨rfl, Hr h⟩, fun h0 => ⟨hlb, fun h => ⟨rfl, Hh h0 h⟩, fun h1 => ?_⟩⟩
  obtain ⟨q1, q2⟩ := iH h0 h1
  rw [h0, h1]
  exact ⟨VT h0, VT h1, rfl, q1, q2⟩
theorem Jk {G : List (Nat × Obj)} (hG : zo G) (a : List UInt8) (b : List UInt8) (hla : a.length ≤ 9223372036854775807) (hlb : b.length ≤ 9223372036854775807) : zt Tryz.prog G 40 [.str a, .str b] (.tup 2 (zw [.str (pJ a b), .i (tK a b)])) :=
 zW (T := (Hk G).body Tryz.prog gv) (an := .auto) mixed (zz.body mixed (T1 hG) _) (Eq.mp (by kernel_rfl) (lY G a b hla hlb))
end Go.Te
