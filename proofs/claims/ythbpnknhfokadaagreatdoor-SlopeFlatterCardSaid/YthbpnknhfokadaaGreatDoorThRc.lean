/- rational: Add, Sub, Mul. -/
import Derived.Test.YthbpnknhfokadaaGreatDoorThIk
set_option linter.unusedSimpArgs false
set_option linter.unusedVariables false
namespace Go.Te
open Go Go.Sx Go.Proofs Go.Ar
set_option maxRecDepth 100000
set_option maxHeartbeats 4000000
def jU (f : Int → Int → Int) (a b : zj) : Int := f (zK a * (zn b : Int)) (zK b * (zn a : Int))
def tc (f : Int → Int → Int) (a b : zj) : Int := bif VY a b != 0 then VY a b else bif Zl (jU f a b) != 0 then Zl (jU f a b) else Zl ((zn a : Int) * (zn b : Int))
def Pd (f : Int → Int → Int) (a b : zj) : zj := bif tc f a b == 0 then ZL (jU f a b) (zn a * zn b) else []
def TV (a b : zj) : Int := bif zH a != 0 then zH a else bif zH b != 0 then zH b else bif Zl (zK a * zK b) != 0 then Zl (zK a * zK b) else Zl ((zn a : Int) * (zn b : Int))
def PY (a b : zj) : zj := bif TV a b == 0 then ZL (zK a * zK b) (zn a * zn b) else []
noncomputable def GX (G : List (Nat × Obj)) : Tb := (((((Xh G).plus 57 wn).plus 55 Vj).plus 101 SD).plus 61 mN).plus 76 mg |>.plus 77 MN
theorem TR {G : List (Nat × Obj)} (hG : zO G) : zz Tryz.prog (GX G) :=
 zz.plus (zz.plus (zz.plus (zz.plus (zz.plus (zz.plus zq (vj hG)) (zP.mono rR)) (mt hG)) (zP.mono Hs)) (zP.mono Hx)) (Ha hG)
def Gi : List (FuncId × yQ) := [(60, .auto), (62, .auto), (63, .auto)]
theorem VR {a : zj} (h : zH a = 0) : Tx ⟨zm a, yx a⟩ := by
 obtain ⟨a1, a2, a3, a4⟩ := lQ h
 refine ⟨a1, a2, ?_⟩
 rw [a4]
 have := yG (Zq.1 h).1
 omega
theorem HF {f : Int → Int → Int} {a b : zj} (ha : zH a = 0) (hb : zH b = 0) : qP f ⟨zm a, yx a⟩ ⟨zm b, yx b⟩ = Pd f a b ∧ VI f ⟨zm a, yx a⟩ ⟨zm b, yx b⟩ = tc f a b := by
 obtain ⟨_, _, a3, a4⟩ := lQ ha
 obtain ⟨_, _, b3, b4⟩ := lQ hb
 have pa := yG (Zq.1 ha).1
 have pb := yG (Zq.1 hb).1
 have e : VI f ⟨zm a, yx a⟩ ⟨zm b, yx b⟩ = tc f a b := by
  unfold VI tc VY jU
  rw [a3, a4, b3, b4, ha, hb]
  simp only [bne_self_eq_false, cond_false]
  cases h1 : Zl (zK a * (zn b : Int)) != 0 with
  | true => simp only [cond_true, h1]
  | false => simp only [cond_false]
 refine ⟨?_, e⟩
 unfold qP Pd
 rw [e]
 cases tc f a b == 0 with
 | false => rfl
 | true =>
  simp only [cond_true]
  rw [a3, a4, b3, b4]
  have hp : (0 : Int) < (zn a : Int) * (zn b : Int) := Int.mul_pos (by omega) (by omega)
  unfold xx jU
  rw [show zG ((zn a : Int) * (zn b : Int)) 0 = false from Bool.eq_false_iff.2 fun e => by have := (zp _ _).1 e; omega, cond_false, ← Int.natCast_mul, Int.toNat_natCast]
theorem Tp {a : zj} (h : z8 a = true) : tD ⟨zK a, (zn a : Int)⟩ := by
 obtain ⟨h1, h2, h3⟩ := yh h
 have := yG (Zq.1 h1).1
 exact ⟨⟨by simp only; omega, by simp only; omega⟩, by simp only; omega, by simp only; omega⟩
theorem NU {f : Int → Int → Int} (hf : ∀ u v, (f u v).natAbs ≤ u.natAbs + v.natAbs) {a b : zj} (ha : z8 a = true) (hb : z8 b = true) :
  tc f a b = 0 ∧ Pd f a b = xx (f (zK a * (zn b : Int)) (zK b * (zn a : Int))) ((zn a : Int) * (zn b : Int)) ∧ (zn a : Int) * (zn b : Int) ≠ 0 ∧
  (-1000000000000000000 ≤ (zn a : Int) * (zn b : Int) ∧ (zn a : Int) * (zn b : Int) ≤ 1000000000000000000) ∧
  (-1000000000000000000 ≤ f (zK a * (zn b : Int)) (zK b * (zn a : Int)) ∧ f (zK a * (zn b : Int)) (zK b * (zn a : Int)) ≤ 1000000000000000000) := by
 obtain ⟨a1, a2, a3⟩ := yh ha
 obtain ⟨b1, b2, b3⟩ := yh hb
 have pa := yG (Zq.1 a1).1
 have pb := yG (Zq.1 b1).1
 have m1 := Yq (a := zK a) (b := (zn b : Int)) ⟨by omega, by omega⟩ ⟨by omega, by omega⟩
 have m2 := Yq (a := zK b) (b := (zn a : Int)) ⟨by omega, by omega⟩ ⟨by omega, by omega⟩
 have m3 := Yq (a := (zn a : Int)) (b := (zn b : Int)) ⟨by omega, by omega⟩ ⟨by omega, by omega⟩
 have hp : (0 : Int) < (zn a : Int) * (zn b : Int) := Int.mul_pos (by omega) (by omega)
 have hN := hf (zK a * (zn b : Int)) (zK b * (zn a : Int))
 have eN : jU f a b = f (zK a * (zn b : Int)) (zK b * (zn a : Int)) := rfl
 have e : tc f a b = 0 := by
  unfold tc VY
  rw [a1, b1, (ZO (n := zK a * (zn b : Int)) (k := 20) (by omega) (by omega) (by omega)).2, (ZO (n := zK b * (zn a : Int)) (k := 20) (by omega) (by omega) (by omega)).2, eN,
   (ZO (n := f (zK a * (zn b : Int)) (zK b * (zn a : Int))) (k := 20) (by omega) (by omega) (by omega)).2, (ZO (n := (zn a : Int) * (zn b : Int)) (k := 20) (by omega) (by omega) (by omega)).2]
  rfl
 refine ⟨e, ?_, by omega, ⟨by omega, by omega⟩, ⟨by omega, by omega⟩⟩
 unfold Pd
 rw [e]
 show ZL (jU f a b) _ = _
 unfold xx
 rw [show zG ((zn a : Int) * (zn b : Int)) 0 = false from Bool.eq_false_iff.2 fun e => by have := (zp _ _).1 e; omega, cond_false, ← Int.natCast_mul, Int.toNat_natCast, eN]
theorem gK {f : Int → Int → Int} {a b : zj} (h : zH a ≠ 0) : [] = Pd f a b ∧ zH a = tc f a b := by
 have e : tc f a b = zH a := by
  unfold tc VY
  rw [bne_iff_ne.2 h]
  simp only [cond_true]
  rw [bne_iff_ne.2 h]; rfl
 exact ⟨by unfold Pd; rw [e, beq_eq_false_iff_ne.2 h]; rfl, e.symm⟩
theorem gE {f : Int → Int → Int} {a b : zj} (h0 : zH a = 0) (h : zH b ≠ 0) : [] = Pd f a b ∧ zH b = tc f a b := by
 have e : tc f a b = zH b := by
  unfold tc VY
  rw [h0, bne_iff_ne.2 h]
  simp only [bne_self_eq_false, cond_false, cond_true]
  rw [bne_iff_ne.2 h]; rfl
 exact ⟨by unfold Pd; rw [e, beq_eq_false_iff_ne.2 h]; rfl, e.symm⟩
theorem kP (G : List (Nat × Obj)) (a : List UInt8) (b : List UInt8) (hla : a.length ≤ 9223372036854775807) (hlb : b.length ≤ 9223372036854775807) :
 let q2 := (True ∧ bA #[] = Pd (fun (x1 x2 : Int) => x1 + x2) a b); let q3 := (Pt.mk (AV.bytes (AV.str (bif zH a == iZ then zm a else []))) (AV.bytes (AV.str (bif zH a == iZ then yx a else [])))); let q4 := (Pt.d q3); let q5 := (Pt.mk (AV.bytes (AV.str (bif zH b == iZ then zm b else []))) (AV.bytes (AV.str (bif zH b == iZ then yx b else [])))); let q6 := (Pt.d q5); let q1 := (lN a ≤ nX ∧ zZ (zH a != iZ) (j2 ∧ q2 ∧ kI ∧ zH
 a = tc (fun (x1 x2 : Int) => x1 + x2) a b) (lN b ≤ nX ∧ zZ (zH b != iZ) (j2 ∧ q2 ∧ kI ∧ zH b = tc (fun (x1 x2 : Int) => x1 + x2) a b) ((ZQ (Pt.n q3) = iZ ∧ ZQ q4 = iZ ∧ zY q4 ≠ iZ) ∧ (ZQ (Pt.n q5) = iZ ∧ ZQ q6 = iZ ∧ zY q6 ≠ iZ) ∧ j2 ∧ (True ∧ qP (fun (x1 x2 : Int) => x1 + x2) q3 q5 = Pd (fun (x1 x2 : Int) => x1 + x2) a b) ∧ kI ∧ VI (fun (x1 x2 : Int) => x1 + x2) q3 q5 = tc (fun (x1 x2 : Int) => x1 +
 x2) a b))); let q9 := (Value.agg #[Value.int .i64 iZ, Value.int .i64 iZ]); let q8 := (fun (i : Nat) => if 0 ≤ i ∧ i < 0 + 2 then zw [AV.i (bif z8 a then zK a else iZ), AV.i (bif z8 a then (cI (zn a)) else iZ)] (i - 0) else Z4 q9 i); let q7 := (Nt.mk (AV.int (q8 0)) (AV.int (q8 1))); let q11 := (fun (i : Nat) => if 0 ≤ i ∧ i < 0 + 2 then zw [AV.i (bif z8 b then zK b else iZ), AV.i (bif z8 b then (cI (zn b)) else iZ)] (i - 0) else Z4 q9 i); let q10 := (Nt.mk (AV.int (q11 0)) (AV.int (q11 1))); let q13 := (Nt.mk (Nt.n
 q7 * Nt.d q10 + Nt.n q10 * Nt.d q7) (Nt.d q7 * Nt.d q10)); let q12 := (Nt.mk (AV.int (aI (Nt.n q13))) (AV.int (aI (Nt.d q13)))); Zy [AV.str a, AV.str b] → lN a ≤ nX ∧ zZ (!z8 a) q1 (lN b ≤ nX ∧ zZ (!z8 b) q1 ((((-99999999 : Int) ≤ Nt.n q7 ∧ Nt.n q7 ≤ (99999999 : Int)) ∧ iZ < Nt.d q7 ∧ Nt.d q7 ≤ (99999999 : Int)) ∧ (((-99999999 : Int) ≤ Nt.n q10 ∧ Nt.n q10 ≤ (99999999 : Int)) ∧ iZ < Nt.d q10 ∧ Nt.d q10 ≤ (99999999 : Int)) ∧ Nt.d q12 ≠ iZ ∧ ((-1000000000000000000 : Int) ≤
 Nt.d q12 ∧ Nt.d q12 ≤ (1000000000000000000 : Int)) ∧ ((-1000000000000000000 : Int) ≤ Nt.n q12 ∧ Nt.n q12 ≤ (1000000000000000000 : Int)) ∧ j2 ∧ (True ∧ xx (Nt.n q12) (Nt.d q12) = Pd (fun (x1 x2 : Int) => x1 + x2) a b) ∧ kI ∧ iZ = tc (fun (x1 x2 : Int) => x1 + x2) a b)) := by
 delta bA nX cI kI j2 lN iZ aI
 dsimp only
 intro hb
 simp only [sS, dS]
 refine ⟨hla, zX.2 ⟨fun c => ?_, fun c => ⟨hlb, zX.2 ⟨fun c2 => ?_, fun c2 => ?_⟩⟩⟩⟩
 rotate_left 2
 ·rw [Bool.not_eq_false'] at c c2
  obtain ⟨q1, q2, q3, q4, q5⟩ := NU (f := fun x1 x2 => x1 + x2) (fun u v => by omega) c c2
  rw [q1, q2, c, c2]
  exact ⟨Tp c, Tp c2, q3, q4, q5, rfl, rfl, rfl⟩
 all_goals
  refine ⟨hla, fun h => ⟨rfl, gK h⟩, fun h0 => ⟨hlb, fun h => ⟨rfl, gE h0 h⟩, fun h1 => ?_⟩⟩
  obtain ⟨q1, q2⟩ := HF (f := fun x1 x2 => x1 + x2) h0 h1
  rw [h0, h1]
  exact ⟨VR h0, VR h1, rfl, q1, q2⟩
theorem ia {G : List (Nat × Obj)} (hG : zO G) (a : List UInt8) (b : List UInt8) (hla : a.length ≤ 9223372036854775807) (hlb : b.length ≤ 9223372036854775807) : zu Tryz.prog G 30 [.str a, .str b] (.tup 2 (zw [.str (Pd (· + ·) a b), .i (tc (· + ·) a b)])) :=
 zv (T := ((GX G).plus 102 Mp).body Tryz.prog Gi) (an := .auto) mixed (zz.body mixed (zz.plus (TR hG) (H5 hG)) _) (Eq.mp (by kernel_rfl) (kP G a b hla hlb))
theorem Gv {a b : zj} (h : zH a ≠ 0) : [] = PY a b ∧ zH a = TV a b := by
 have e : TV a b = zH a := by unfold TV; rw [bne_iff_ne.2 h]; rfl
 exact ⟨by unfold PY; rw [e, beq_eq_false_iff_ne.2 h]; rfl, e.symm⟩
theorem GZ {a b : zj} (h0 : zH a = 0) (h : zH b ≠ 0) : [] = PY a b ∧ zH b = TV a b := by
 have e : TV a b = zH b := by unfold TV; rw [h0, bne_iff_ne.2 h]; rfl
 exact ⟨by unfold PY; rw [e, beq_eq_false_iff_ne.2 h]; rfl, e.symm⟩
theorem HN {a b : zj} (ha : zH a = 0) (hb : zH b = 0) : lM ⟨zm a, yx a⟩ ⟨zm b, yx b⟩ = PY a b ∧ qQ ⟨zm a, yx a⟩ ⟨zm b, yx b⟩ = TV a b := by
 obtain ⟨_, _, a3, a4⟩ := lQ ha
 obtain ⟨_, _, b3, b4⟩ := lQ hb
 have pa := yG (Zq.1 ha).1
 have pb := yG (Zq.1 hb).1
 have e : qQ ⟨zm a, yx a⟩ ⟨zm b, yx b⟩ = TV a b := by
  unfold qQ TV
  rw [a3, a4, b3, b4, ha, hb]; rfl
 refine ⟨?_, e⟩
 unfold lM PY
 rw [e]
 cases TV a b == 0 with
 | false => rfl
 | true =>
  simp only [cond_true]
  rw [a3, a4, b3, b4]
  have hp : (0 : Int) < (zn a : Int) * (zn b : Int) := Int.mul_pos (by omega) (by omega)
  unfold xx
  rw [show zG ((zn a : Int) * (zn b : Int)) 0 = false from Bool.eq_false_iff.2 fun e => by have := (zp _ _).1 e; omega, cond_false, ← Int.natCast_mul, Int.toNat_natCast]
theorem mo {a b : zj} (ha : z8 a = true) (hb : z8 b = true) :
  TV a b = 0 ∧ PY a b = xx (zK a * zK b) ((zn a : Int) * (zn b : Int)) ∧ (zn a : Int) * (zn b : Int) ≠ 0 ∧
  (-1000000000000000000 ≤ (zn a : Int) * (zn b : Int) ∧ (zn a : Int) * (zn b : Int) ≤ 1000000000000000000) ∧
  (-1000000000000000000 ≤ zK a * zK b ∧ zK a * zK b ≤ 1000000000000000000) := by
 obtain ⟨a1, a2, a3⟩ := yh ha
 obtain ⟨b1, b2, b3⟩ := yh hb
 have pa := yG (Zq.1 a1).1
 have pb := yG (Zq.1 b1).1
 have m1 := Yq (a := zK a) (b := zK b) ⟨by omega, by omega⟩ ⟨by omega, by omega⟩
 have m3 := Yq (a := (zn a : Int)) (b := (zn b : Int)) ⟨by omega, by omega⟩ ⟨by omega, by omega⟩
 have hp : (0 : Int) < (zn a : Int) * (zn b : Int) := Int.mul_pos (by omega) (by omega)
 have e : TV a b = 0 := by
  unfold TV
  rw [a1, b1, (ZO (n := zK a * zK b) (k := 20) (by omega) (by omega) (by omega)).2, (ZO (n := (zn a : Int) * (zn b : Int)) (k := 20) (by omega) (by omega) (by omega)).2]
  rfl
 refine ⟨e, ?_, by omega, ⟨by omega, by omega⟩, ⟨by omega, by omega⟩⟩
 unfold PY
 rw [e]
 show ZL _ _ = _
 unfold xx
 rw [show zG ((zn a : Int) * (zn b : Int)) 0 = false from Bool.eq_false_iff.2 fun e => by have := (zp _ _).1 e; omega, cond_false, ← Int.natCast_mul, Int.toNat_natCast]
theorem KN (G : List (Nat × Obj)) (a : List UInt8) (b : List UInt8) (hla : a.length ≤ 9223372036854775807) (hlb : b.length ≤ 9223372036854775807) :
 let q2 := (True ∧ bA #[] = PY a b); let q5 := (Value.agg #[Value.string (ByteArray.mk #[]), Value.string (ByteArray.mk #[])]); let q4 := (fun (i : Nat) => if 0 ≤ i ∧ i < 0 + 2 then zw [AV.str (bif zH a == iZ then zm a else []), AV.str (bif zH a == iZ then yx a else [])] (i - 0) else Z4 q5 i); let q3 := (Pt.mk (AV.bytes (q4 0)) (AV.bytes (q4 1))); let q6 := (Pt.d q3); let q8 := (fun (i : Nat) => if 0 ≤ i ∧ i < 0 + 2 then zw [AV.str (bif zH b == iZ then zm b else []), AV.str (bif zH b == iZ then yx b
 else [])] (i - 0) else Z4 q5 i); let q7 := (Pt.mk (AV.bytes (q8 0)) (AV.bytes (q8 1))); let q9 := (Pt.d q7); let q1 := (lN a ≤ nX ∧ zZ (zH a != iZ) (j2 ∧ q2 ∧ kI ∧ zH a = TV a b) (lN b ≤ nX ∧ zZ (zH b != iZ) (j2 ∧ q2 ∧ kI ∧ zH b = TV a b) ((ZQ (Pt.n q3) = iZ ∧ ZQ q6 = iZ ∧ zY q6 ≠ iZ) ∧ (ZQ (Pt.n q7) = iZ ∧ ZQ q9 = iZ ∧ zY q9 ≠ iZ) ∧ 2 = lN [AV.junk,
 AV.junk] ∧ (True ∧ lM q3 q7 = PY a b) ∧ kI ∧ qQ q3 q7 = TV a b))); let q12 := (Value.agg #[Value.int .i64 iZ, Value.int .i64 iZ]); let q11 := (fun (i : Nat) => if 0 ≤ i ∧ i < 0 + 2 then zw [AV.i (bif z8 a then zK a else iZ), AV.i (bif z8 a then (cI (zn a)) else iZ)] (i - 0) else Z4 q12 i); let q10 := (Nt.mk (AV.int (q11 0)) (AV.int (q11 1))); let q14 := (fun (i : Nat) => if 0 ≤ i ∧ i < 0 + 2 then zw [AV.i (bif z8 b then zK b else iZ), AV.i (bif z8 b then (cI (zn b)) else iZ)] (i - 0) else Z4 q12
 i); let q13 := (Nt.mk (AV.int (q14 0)) (AV.int (q14 1))); let q16 := (Nt.mk (Nt.n q10 * Nt.n q13) (Nt.d q10 * Nt.d q13)); let q15 := (Nt.mk (AV.int (aI (Nt.n q16))) (AV.int (aI (Nt.d q16)))); Zy [AV.str a, AV.str b] → lN a ≤ nX ∧ zZ (!z8 a) q1 (lN b ≤ nX ∧ zZ (!z8 b) q1 ((((-99999999 : Int) ≤ Nt.n q10 ∧ Nt.n q10 ≤ (99999999 : Int)) ∧ iZ < Nt.d q10 ∧ Nt.d q10 ≤ (99999999 : Int)) ∧ (((-99999999 : Int) ≤ Nt.n q13 ∧ Nt.n q13 ≤ (99999999 : Int)) ∧ iZ < Nt.d q13 ∧ Nt.d q13 ≤ (99999999
 : Int)) ∧ Nt.d q15 ≠ iZ ∧ ((-1000000000000000000 : Int) ≤ Nt.d q15 ∧ Nt.d q15 ≤ (1000000000000000000 : Int)) ∧ ((-1000000000000000000 : Int) ≤ Nt.n q15 ∧ Nt.n q15 ≤ (1000000000000000000 : Int)) ∧ j2 ∧ (True ∧ xx (Nt.n q15) (Nt.d q15) = PY a b) ∧ kI ∧ iZ = TV a b)) := by
 delta bA nX cI kI j2 lN iZ aI
 dsimp only
 intro hb
 simp only [sS, dS]
 refine ⟨hla, zX.2 ⟨fun c => ?_, fun c => ⟨hlb, zX.2 ⟨fun c2 => ?_, fun c2 => ?_⟩⟩⟩⟩
 rotate_left 2
 ·rw [Bool.not_eq_false'] at c c2
  obtain ⟨q1, q2, q3, q4, q5⟩ := mo c c2
  rw [q1, q2, c, c2]
  exact ⟨Tp c, Tp c2, q3, q4, q5, rfl, rfl, rfl⟩
 all_goals
  refine ⟨hla, fun h => ⟨rfl, Gv h⟩, fun h0 => ⟨hlb, fun h => ⟨rfl, GZ h0 h⟩, fun h1 => ?_⟩⟩
  obtain ⟨q1, q2⟩ := HN h0 h1
  rw [h0, h1]
  exact ⟨VR h0, VR h1, rfl, q1, q2⟩
theorem JW {G : List (Nat × Obj)} (hG : zO G) (a : List UInt8) (b : List UInt8) (hla : a.length ≤ 9223372036854775807) (hlb : b.length ≤ 9223372036854775807) : zu Tryz.prog G 40 [.str a, .str b] (.tup 2 (zw [.str (PY a b), .i (TV a b)])) :=
 zv (T := (GX G).body Tryz.prog Gi) (an := .auto) mixed (zz.body mixed (TR hG) _) (Eq.mp (by kernel_rfl) (KN G a b hla hlb))
end Go.Te
