/- rational: Add, Sub, Mul. -/
import Derived.Test.YthbpnknhfokadaaGreatDoorThIk
set_option linter.unusedSimpArgs false
set_option linter.unusedVariables false
namespace Go.Te
open Go Go.Sx Go.Proofs Go.Ar
set_option maxRecDepth 100000
set_option maxHeartbeats 4000000
def js (f : Int → Int → Int) (a b : zj) : Int := f (zK a * (zn b : Int)) (zK b * (zn a : Int))
def tc (f : Int → Int → Int) (a b : zj) : Int := bif vF a b != 0 then vF a b else bif ZL (js f a b) != 0 then ZL (js f a b) else ZL ((zn a : Int) * (zn b : Int))
def Pu (f : Int → Int → Int) (a b : zj) : zj := bif tc f a b == 0 then Zj (js f a b) (zn a * zn b) else []
def TV (a b : zj) : Int := bif zH a != 0 then zH a else bif zH b != 0 then zH b else bif ZL (zK a * zK b) != 0 then ZL (zK a * zK b) else ZL ((zn a : Int) * (zn b : Int))
def Pa (a b : zj) : zj := bif TV a b == 0 then Zj (zK a * zK b) (zn a * zn b) else []
noncomputable def gh (G : List (Nat × Obj)) : Tb := (((((Xh G).plus 57 ws).plus 55 Vn).plus 101 S5).plus 61 Mn).plus 76 ml |>.plus 77 N7
theorem Tl {G : List (Nat × Obj)} (hG : zO G) : zz Tryz.prog (gh G) :=
 zz.plus (zz.plus (zz.plus (zz.plus (zz.plus (zz.plus zq (vM hG)) (zP.mono sd)) (MA hG)) (zP.mono HF)) (zP.mono gY)) (I7 hG)
def Gm : List (FuncId × yQ) := [(60, .auto), (62, .auto), (63, .auto)]
theorem VO {a : zj} (h : zH a = 0) : TY ⟨zm a, yw a⟩ := by
 obtain ⟨a1, a2, a3, a4⟩ := lK h
 refine ⟨a1, a2, ?_⟩
 rw [a4]
 have := ye (ZR.1 h).1
 omega
theorem Ib {f : Int → Int → Int} {a b : zj} (ha : zH a = 0) (hb : zH b = 0) : qP f ⟨zm a, yw a⟩ ⟨zm b, yw b⟩ = Pu f a b ∧ VV f ⟨zm a, yw a⟩ ⟨zm b, yw b⟩ = tc f a b := by
 obtain ⟨_, _, a3, a4⟩ := lK ha
 obtain ⟨_, _, b3, b4⟩ := lK hb
 have pa := ye (ZR.1 ha).1
 have pb := ye (ZR.1 hb).1
 have e : VV f ⟨zm a, yw a⟩ ⟨zm b, yw b⟩ = tc f a b := by
  unfold VV tc vF js
  rw [a3, a4, b3, b4, ha, hb]
  simp only [bne_self_eq_false, cond_false]
  cases h1 : ZL (zK a * (zn b : Int)) != 0 with
  | true => simp only [cond_true, h1]
  | false => simp only [cond_false]
 refine ⟨?_, e⟩
 unfold qP Pu
 rw [e]
 cases tc f a b == 0 with
 | false => rfl
 | true =>
  simp only [cond_true]
  rw [a3, a4, b3, b4]
  have hp : (0 : Int) < (zn a : Int) * (zn b : Int) := Int.mul_pos (by omega) (by omega)
  unfold xU js
  rw [show zG ((zn a : Int) * (zn b : Int)) 0 = false from Bool.eq_false_iff.2 fun e => by have := (zp _ _).1 e; omega, cond_false, ← Int.natCast_mul, Int.toNat_natCast]
theorem sY {a : zj} (h : z7 a = true) : tD ⟨zK a, (zn a : Int)⟩ := by
 obtain ⟨h1, h2, h3⟩ := yH h
 have := ye (ZR.1 h1).1
 exact ⟨⟨by simp only; omega, by simp only; omega⟩, by simp only; omega, by simp only; omega⟩
theorem Mx {f : Int → Int → Int} (hf : ∀ u v, (f u v).natAbs ≤ u.natAbs + v.natAbs) {a b : zj} (ha : z7 a = true) (hb : z7 b = true) :
  tc f a b = 0 ∧ Pu f a b = xU (f (zK a * (zn b : Int)) (zK b * (zn a : Int))) ((zn a : Int) * (zn b : Int)) ∧ (zn a : Int) * (zn b : Int) ≠ 0 ∧
  (-1000000000000000000 ≤ (zn a : Int) * (zn b : Int) ∧ (zn a : Int) * (zn b : Int) ≤ 1000000000000000000) ∧
  (-1000000000000000000 ≤ f (zK a * (zn b : Int)) (zK b * (zn a : Int)) ∧ f (zK a * (zn b : Int)) (zK b * (zn a : Int)) ≤ 1000000000000000000) := by
 obtain ⟨a1, a2, a3⟩ := yH ha
 obtain ⟨b1, b2, b3⟩ := yH hb
 have pa := ye (ZR.1 a1).1
 have pb := ye (ZR.1 b1).1
 have m1 := Yq (a := zK a) (b := (zn b : Int)) ⟨by omega, by omega⟩ ⟨by omega, by omega⟩
 have m2 := Yq (a := zK b) (b := (zn a : Int)) ⟨by omega, by omega⟩ ⟨by omega, by omega⟩
 have m3 := Yq (a := (zn a : Int)) (b := (zn b : Int)) ⟨by omega, by omega⟩ ⟨by omega, by omega⟩
 have hp : (0 : Int) < (zn a : Int) * (zn b : Int) := Int.mul_pos (by omega) (by omega)
 have hN := hf (zK a * (zn b : Int)) (zK b * (zn a : Int))
 have eN : js f a b = f (zK a * (zn b : Int)) (zK b * (zn a : Int)) := rfl
 have e : tc f a b = 0 := by
  unfold tc vF
  rw [a1, b1, (ZO (n := zK a * (zn b : Int)) (k := 20) (by omega) (by omega) (by omega)).2, (ZO (n := zK b * (zn a : Int)) (k := 20) (by omega) (by omega) (by omega)).2, eN,
   (ZO (n := f (zK a * (zn b : Int)) (zK b * (zn a : Int))) (k := 20) (by omega) (by omega) (by omega)).2, (ZO (n := (zn a : Int) * (zn b : Int)) (k := 20) (by omega) (by omega) (by omega)).2]
  rfl
 refine ⟨e, ?_, by omega, ⟨by omega, by omega⟩, ⟨by omega, by omega⟩⟩
 unfold Pu
 rw [e]
 show Zj (js f a b) _ = _
 unfold xU
 rw [show zG ((zn a : Int) * (zn b : Int)) 0 = false from Bool.eq_false_iff.2 fun e => by have := (zp _ _).1 e; omega, cond_false, ← Int.natCast_mul, Int.toNat_natCast, eN]
theorem Gz {f : Int → Int → Int} {a b : zj} (h : zH a ≠ 0) : [] = Pu f a b ∧ zH a = tc f a b := by
 have e : tc f a b = zH a := by
  unfold tc vF
  rw [bne_iff_ne.2 h]
  simp only [cond_true]
  rw [bne_iff_ne.2 h]; rfl
 exact ⟨by unfold Pu; rw [e, beq_eq_false_iff_ne.2 h]; rfl, e.symm⟩
theorem gj {f : Int → Int → Int} {a b : zj} (h0 : zH a = 0) (h : zH b ≠ 0) : [] = Pu f a b ∧ zH b = tc f a b := by
 have e : tc f a b = zH b := by
  unfold tc vF
  rw [h0, bne_iff_ne.2 h]
  simp only [bne_self_eq_false, cond_false, cond_true]
  rw [bne_iff_ne.2 h]; rfl
 exact ⟨by unfold Pu; rw [e, beq_eq_false_iff_ne.2 h]; rfl, e.symm⟩
theorem KP (G : List (Nat × Obj)) (a : List UInt8) (b : List UInt8) (hla : a.length ≤ 9223372036854775807) (hlb : b.length ≤ 9223372036854775807) :
 let q2 := (True ∧ bA #[] = Pu (fun (x1 x2 : Int) => x1 + x2) a b); let q3 := (Pt.mk (AV.bytes (AV.str (bif zH a == iZ then zm a else []))) (AV.bytes (AV.str (bif zH a == iZ then yw a else [])))); let q4 := (Pt.d q3); let q5 := (Pt.mk (AV.bytes (AV.str (bif zH b == iZ then zm b else []))) (AV.bytes (AV.str (bif zH b == iZ then yw b else [])))); let q6 := (Pt.d q5); let q1 := (lN a ≤ nX ∧ zZ (zH a != iZ) (j2 ∧ q2 ∧ kI ∧ zH
 a = tc (fun (x1 x2 : Int) => x1 + x2) a b) (lN b ≤ nX ∧ zZ (zH b != iZ) (j2 ∧ q2 ∧ kI ∧ zH b = tc (fun (x1 x2 : Int) => x1 + x2) a b) ((Zq (Pt.n q3) = iZ ∧ Zq q4 = iZ ∧ zY q4 ≠ iZ) ∧ (Zq (Pt.n q5) = iZ ∧ Zq q6 = iZ ∧ zY q6 ≠ iZ) ∧ j2 ∧ (True ∧ qP (fun (x1 x2 : Int) => x1 + x2) q3 q5 = Pu (fun (x1 x2 : Int) => x1 + x2) a b) ∧ kI ∧ VV (fun (x1 x2 : Int) => x1 + x2) q3 q5 = tc (fun (x1 x2 : Int) => x1 +
 x2) a b))); let q9 := (Value.agg #[Value.int .i64 iZ, Value.int .i64 iZ]); let q8 := (fun (i : Nat) => if 0 ≤ i ∧ i < 0 + 2 then zw [AV.i (bif z7 a then zK a else iZ), AV.i (bif z7 a then (cI (zn a)) else iZ)] (i - 0) else Z5 q9 i); let q7 := (Nt.mk (AV.int (q8 0)) (AV.int (q8 1))); let q11 := (fun (i : Nat) => if 0 ≤ i ∧ i < 0 + 2 then zw [AV.i (bif z7 b then zK b else iZ), AV.i (bif z7 b then (cI (zn b)) else iZ)] (i - 0) else Z5 q9 i); let q10 := (Nt.mk (AV.int (q11 0)) (AV.int (q11 1))); let q13 := (Nt.mk (Nt.n
 q7 * Nt.d q10 + Nt.n q10 * Nt.d q7) (Nt.d q7 * Nt.d q10)); let q12 := (Nt.mk (AV.int (aI (Nt.n q13))) (AV.int (aI (Nt.d q13)))); ZY [AV.str a, AV.str b] → lN a ≤ nX ∧ zZ (!z7 a) q1 (lN b ≤ nX ∧ zZ (!z7 b) q1 ((((-99999999 : Int) ≤ Nt.n q7 ∧ Nt.n q7 ≤ (99999999 : Int)) ∧ iZ < Nt.d q7 ∧ Nt.d q7 ≤ (99999999 : Int)) ∧ (((-99999999 : Int) ≤ Nt.n q10 ∧ Nt.n q10 ≤ (99999999 : Int)) ∧ iZ < Nt.d q10 ∧ Nt.d q10 ≤ (99999999 : Int)) ∧ Nt.d q12 ≠ iZ ∧ ((-1000000000000000000 : Int) ≤
 Nt.d q12 ∧ Nt.d q12 ≤ (1000000000000000000 : Int)) ∧ ((-1000000000000000000 : Int) ≤ Nt.n q12 ∧ Nt.n q12 ≤ (1000000000000000000 : Int)) ∧ j2 ∧ (True ∧ xU (Nt.n q12) (Nt.d q12) = Pu (fun (x1 x2 : Int) => x1 + x2) a b) ∧ kI ∧ iZ = tc (fun (x1 x2 : Int) => x1 + x2) a b)) := by
 delta bA nX cI kI j2 lN iZ aI
 dsimp only
 intro hb
 simp only [sS, dS]
 refine ⟨hla, zX.2 ⟨fun c => ?_, fun c => ⟨hlb, zX.2 ⟨fun c2 => ?_, fun c2 => ?_⟩⟩⟩⟩
 rotate_left 2
 ·rw [Bool.not_eq_false'] at c c2
  obtain ⟨q1, q2, q3, q4, q5⟩ := Mx (f := fun x1 x2 => x1 + x2) (fun u v => by omega) c c2
  rw [q1, q2, c, c2]
  exact ⟨sY c, sY c2, q3, q4, q5, rfl, rfl, rfl⟩
 all_goals
  refine ⟨hla, fun h => ⟨rfl, Gz h⟩, fun h0 => ⟨hlb, fun h => ⟨rfl, gj h0 h⟩, fun h1 => ?_⟩⟩
  obtain ⟨q1, q2⟩ := Ib (f := fun x1 x2 => x1 + x2) h0 h1
  rw [h0, h1]
  exact ⟨VO h0, VO h1, rfl, q1, q2⟩
theorem Ij {G : List (Nat × Obj)} (hG : zO G) (a : List UInt8) (b : List UInt8) (hla : a.length ≤ 9223372036854775807) (hlb : b.length ≤ 9223372036854775807) : zu Tryz.prog G 30 [.str a, .str b] (.tup 2 (zw [.str (Pu (· + ·) a b), .i (tc (· + ·) a b)])) :=
 zv (T := ((gh G).plus 102 NT).body Tryz.prog Gm) (an := .auto) mixed (zz.body mixed (zz.plus (Tl hG) (HJ hG)) _) (Eq.mp (by kernel_rfl) (KP G a b hla hlb))
theorem gG {a b : zj} (h : zH a ≠ 0) : [] = Pa a b ∧ zH a = TV a b := by
 have e : TV a b = zH a := by unfold TV; rw [bne_iff_ne.2 h]; rfl
 exact ⟨by unfold Pa; rw [e, beq_eq_false_iff_ne.2 h]; rfl, e.symm⟩
theorem GU {a b : zj} (h0 : zH a = 0) (h : zH b ≠ 0) : [] = Pa a b ∧ zH b = TV a b := by
 have e : TV a b = zH b := by unfold TV; rw [h0, bne_iff_ne.2 h]; rfl
 exact ⟨by unfold Pa; rw [e, beq_eq_false_iff_ne.2 h]; rfl, e.symm⟩
theorem I4 {a b : zj} (ha : zH a = 0) (hb : zH b = 0) : lJ ⟨zm a, yw a⟩ ⟨zm b, yw b⟩ = Pa a b ∧ qQ ⟨zm a, yw a⟩ ⟨zm b, yw b⟩ = TV a b := by
 obtain ⟨_, _, a3, a4⟩ := lK ha
 obtain ⟨_, _, b3, b4⟩ := lK hb
 have pa := ye (ZR.1 ha).1
 have pb := ye (ZR.1 hb).1
 have e : qQ ⟨zm a, yw a⟩ ⟨zm b, yw b⟩ = TV a b := by
  unfold qQ TV
  rw [a3, a4, b3, b4, ha, hb]; rfl
 refine ⟨?_, e⟩
 unfold lJ Pa
 rw [e]
 cases TV a b == 0 with
 | false => rfl
 | true =>
  simp only [cond_true]
  rw [a3, a4, b3, b4]
  have hp : (0 : Int) < (zn a : Int) * (zn b : Int) := Int.mul_pos (by omega) (by omega)
  unfold xU
  rw [show zG ((zn a : Int) * (zn b : Int)) 0 = false from Bool.eq_false_iff.2 fun e => by have := (zp _ _).1 e; omega, cond_false, ← Int.natCast_mul, Int.toNat_natCast]
theorem Md {a b : zj} (ha : z7 a = true) (hb : z7 b = true) :
  TV a b = 0 ∧ Pa a b = xU (zK a * zK b) ((zn a : Int) * (zn b : Int)) ∧ (zn a : Int) * (zn b : Int) ≠ 0 ∧
  (-1000000000000000000 ≤ (zn a : Int) * (zn b : Int) ∧ (zn a : Int) * (zn b : Int) ≤ 1000000000000000000) ∧
  (-1000000000000000000 ≤ zK a * zK b ∧ zK a * zK b ≤ 1000000000000000000) := by
 obtain ⟨a1, a2, a3⟩ := yH ha
 obtain ⟨b1, b2, b3⟩ := yH hb
 have pa := ye (ZR.1 a1).1
 have pb := ye (ZR.1 b1).1
 have m1 := Yq (a := zK a) (b := zK b) ⟨by omega, by omega⟩ ⟨by omega, by omega⟩
 have m3 := Yq (a := (zn a : Int)) (b := (zn b : Int)) ⟨by omega, by omega⟩ ⟨by omega, by omega⟩
 have hp : (0 : Int) < (zn a : Int) * (zn b : Int) := Int.mul_pos (by omega) (by omega)
 have e : TV a b = 0 := by
  unfold TV
  rw [a1, b1, (ZO (n := zK a * zK b) (k := 20) (by omega) (by omega) (by omega)).2, (ZO (n := (zn a : Int) * (zn b : Int)) (k := 20) (by omega) (by omega) (by omega)).2]
  rfl
 refine ⟨e, ?_, by omega, ⟨by omega, by omega⟩, ⟨by omega, by omega⟩⟩
 unfold Pa
 rw [e]
 show Zj _ _ = _
 unfold xU
 rw [show zG ((zn a : Int) * (zn b : Int)) 0 = false from Bool.eq_false_iff.2 fun e => by have := (zp _ _).1 e; omega, cond_false, ← Int.natCast_mul, Int.toNat_natCast]
theorem jZ (G : List (Nat × Obj)) (a : List UInt8) (b : List UInt8) (hla : a.length ≤ 9223372036854775807) (hlb : b.length ≤ 9223372036854775807) :
 let q2 := (True ∧ bA #[] = Pa a b); let q5 := (Value.agg #[Value.string (ByteArray.mk #[]), Value.string (ByteArray.mk #[])]); let q4 := (fun (i : Nat) => if 0 ≤ i ∧ i < 0 + 2 then zw [AV.str (bif zH a == iZ then zm a else []), AV.str (bif zH a == iZ then yw a else [])] (i - 0) else Z5 q5 i); let q3 := (Pt.mk (AV.bytes (q4 0)) (AV.bytes (q4 1))); let q6 := (Pt.d q3); let q8 := (fun (i : Nat) => if 0 ≤ i ∧ i < 0 + 2 then zw [AV.str (bif zH b == iZ then zm b else []), AV.str (bif zH b == iZ then yw b
 else [])] (i - 0) else Z5 q5 i); let q7 := (Pt.mk (AV.bytes (q8 0)) (AV.bytes (q8 1))); let q9 := (Pt.d q7); let q1 := (lN a ≤ nX ∧ zZ (zH a != iZ) (j2 ∧ q2 ∧ kI ∧ zH a = TV a b) (lN b ≤ nX ∧ zZ (zH b != iZ) (j2 ∧ q2 ∧ kI ∧ zH b = TV a b) ((Zq (Pt.n q3) = iZ ∧ Zq q6 = iZ ∧ zY q6 ≠ iZ) ∧ (Zq (Pt.n q7) = iZ ∧ Zq q9 = iZ ∧ zY q9 ≠ iZ) ∧ 2 = lN [AV.junk,
 AV.junk] ∧ (True ∧ lJ q3 q7 = Pa a b) ∧ kI ∧ qQ q3 q7 = TV a b))); let q12 := (Value.agg #[Value.int .i64 iZ, Value.int .i64 iZ]); let q11 := (fun (i : Nat) => if 0 ≤ i ∧ i < 0 + 2 then zw [AV.i (bif z7 a then zK a else iZ), AV.i (bif z7 a then (cI (zn a)) else iZ)] (i - 0) else Z5 q12 i); let q10 := (Nt.mk (AV.int (q11 0)) (AV.int (q11 1))); let q14 := (fun (i : Nat) => if 0 ≤ i ∧ i < 0 + 2 then zw [AV.i (bif z7 b then zK b else iZ), AV.i (bif z7 b then (cI (zn b)) else iZ)] (i - 0) else Z5 q12
 i); let q13 := (Nt.mk (AV.int (q14 0)) (AV.int (q14 1))); let q16 := (Nt.mk (Nt.n q10 * Nt.n q13) (Nt.d q10 * Nt.d q13)); let q15 := (Nt.mk (AV.int (aI (Nt.n q16))) (AV.int (aI (Nt.d q16)))); ZY [AV.str a, AV.str b] → lN a ≤ nX ∧ zZ (!z7 a) q1 (lN b ≤ nX ∧ zZ (!z7 b) q1 ((((-99999999 : Int) ≤ Nt.n q10 ∧ Nt.n q10 ≤ (99999999 : Int)) ∧ iZ < Nt.d q10 ∧ Nt.d q10 ≤ (99999999 : Int)) ∧ (((-99999999 : Int) ≤ Nt.n q13 ∧ Nt.n q13 ≤ (99999999 : Int)) ∧ iZ < Nt.d q13 ∧ Nt.d q13 ≤ (99999999
 : Int)) ∧ Nt.d q15 ≠ iZ ∧ ((-1000000000000000000 : Int) ≤ Nt.d q15 ∧ Nt.d q15 ≤ (1000000000000000000 : Int)) ∧ ((-1000000000000000000 : Int) ≤ Nt.n q15 ∧ Nt.n q15 ≤ (1000000000000000000 : Int)) ∧ j2 ∧ (True ∧ xU (Nt.n q15) (Nt.d q15) = Pa a b) ∧ kI ∧ iZ = TV a b)) := by
 delta bA nX cI kI j2 lN iZ aI
 dsimp only
 intro hb
 simp only [sS, dS]
 refine ⟨hla, zX.2 ⟨fun c => ?_, fun c => ⟨hlb, zX.2 ⟨fun c2 => ?_, fun c2 => ?_⟩⟩⟩⟩
 rotate_left 2
 ·rw [Bool.not_eq_false'] at c c2
  obtain ⟨q1, q2, q3, q4, q5⟩ := Md c c2
  rw [q1, q2, c, c2]
  exact ⟨sY c, sY c2, q3, q4, q5, rfl, rfl, rfl⟩
 all_goals
  refine ⟨hla, fun h => ⟨rfl, gG h⟩, fun h0 => ⟨hlb, fun h => ⟨rfl, GU h0 h⟩, fun h1 => ?_⟩⟩
  obtain ⟨q1, q2⟩ := I4 h0 h1
  rw [h0, h1]
  exact ⟨VO h0, VO h1, rfl, q1, q2⟩
theorem iS {G : List (Nat × Obj)} (hG : zO G) (a : List UInt8) (b : List UInt8) (hla : a.length ≤ 9223372036854775807) (hlb : b.length ≤ 9223372036854775807) : zu Tryz.prog G 40 [.str a, .str b] (.tup 2 (zw [.str (Pa a b), .i (TV a b)])) :=
 zv (T := (gh G).body Tryz.prog Gm) (an := .auto) mixed (zz.body mixed (Tl hG) _) (Eq.mp (by kernel_rfl) (jZ G a b hla hlb))
end Go.Te
