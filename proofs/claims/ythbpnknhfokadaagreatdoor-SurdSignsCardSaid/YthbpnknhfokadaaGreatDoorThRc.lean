/- rational: Add, Sub, Mul. -/
import Derived.Test.YthbpnknhfokadaaGreatDoorThIk
set_option linter.unusedSimpArgs false
set_option linter.unusedVariables false
namespace Go.Te
open Go Go.Sx Go.Proofs Go.Ar
set_option maxRecDepth 100000
set_option maxHeartbeats 4000000
def jy (f : Int → Int → Int) (a b : zj) : Int := f (zM a * (zP b : Int)) (zM b * (zP a : Int))
def tF (f : Int → Int → Int) (a b : zj) : Int := bif Vy a b != 0 then Vy a b else bif Zm (jy f a b) != 0 then Zm (jy f a b) else Zm ((zP a : Int) * (zP b : Int))
def pA (f : Int → Int → Int) (a b : zj) : zj := bif tF f a b == 0 then ZW (jy f a b) (zP a * zP b) else []
def tE (a b : zj) : Int := bif zh a != 0 then zh a else bif zh b != 0 then zh b else bif Zm (zM a * zM b) != 0 then Zm (zM a * zM b) else Zm ((zP a : Int) * (zP b : Int))
def PZ (a b : zj) : zj := bif tE a b == 0 then ZW (zM a * zM b) (zP a * zP b) else []
noncomputable def gC (G : List (Nat × Obj)) : Tb := (((((W2 G).plus 57 wz).plus 55 VE).plus 101 rq).plus 61 nC).plus 76 NQ |>.plus 77 My
theorem T5 {G : List (Nat × Obj)} (hG : zo G) : zz Tryz.prog (gC G) :=
 zz.plus (zz.plus (zz.plus (zz.plus (zz.plus (zz.plus zQ (vN hG)) (zp.mono Si)) (mz hG)) (zp.mono Hg)) (zp.mono Hm)) (IG hG)
def Ge : List (FuncId × yS) := [(60, .auto), (62, .auto), (63, .auto)]
theorem Ve {a : zj} (h : zh a = 0) : t8 ⟨zO a, yZ a⟩ := by
 obtain ⟨a1, a2, a3, a4⟩ := lf h
 refine ⟨a1, a2, ?_⟩
 rw [a4]
 have := yn (Zq.1 h).1
 omega
theorem IH {f : Int → Int → Int} {a b : zj} (ha : zh a = 0) (hb : zh b = 0) : qU f ⟨zO a, yZ a⟩ ⟨zO b, yZ b⟩ = pA f a b ∧ VG f ⟨zO a, yZ a⟩ ⟨zO b, yZ b⟩ = tF f a b := by
 obtain ⟨_, _, a3, a4⟩ := lf ha
 obtain ⟨_, _, b3, b4⟩ := lf hb
 have pa := yn (Zq.1 ha).1
 have pb := yn (Zq.1 hb).1
 have e : VG f ⟨zO a, yZ a⟩ ⟨zO b, yZ b⟩ = tF f a b := by
  unfold VG tF Vy jy
  rw [a3, a4, b3, b4, ha, hb]
  simp only [bne_self_eq_false, cond_false]
  cases h1 : Zm (zM a * (zP b : Int)) != 0 with
  | true => simp only [cond_true, h1]
  | false => simp only [cond_false]
 refine ⟨?_, e⟩
 unfold qU pA
 rw [e]
 cases tF f a b == 0 with
 | false => rfl
 | true =>
  simp only [cond_true]
  rw [a3, a4, b3, b4]
  have hp : (0 : Int) < (zP a : Int) * (zP b : Int) := Int.mul_pos (by omega) (by omega)
  unfold Y5 jy
  rw [show zg ((zP a : Int) * (zP b : Int)) 0 = false from Bool.eq_false_iff.2 fun e => by have := (zq _ _).1 e; omega, cond_false, ← Int.natCast_mul, Int.toNat_natCast]
theorem TH {a : zj} (h : Zz a = true) : te ⟨zM a, (zP a : Int)⟩ := by
 obtain ⟨h1, h2, h3⟩ := yI h
 have := yn (Zq.1 h1).1
 exact ⟨⟨by simp only; omega, by simp only; omega⟩, by simp only; omega, by simp only; omega⟩
theorem NJ {f : Int → Int → Int} (hf : ∀ u v, (f u v).natAbs ≤ u.natAbs + v.natAbs) {a b : zj} (ha : Zz a = true) (hb : Zz b = true) :
  tF f a b = 0 ∧ pA f a b = Y5 (f (zM a * (zP b : Int)) (zM b * (zP a : Int))) ((zP a : Int) * (zP b : Int)) ∧ (zP a : Int) * (zP b : Int) ≠ 0 ∧
  (-1000000000000000000 ≤ (zP a : Int) * (zP b : Int) ∧ (zP a : Int) * (zP b : Int) ≤ 1000000000000000000) ∧
  (-1000000000000000000 ≤ f (zM a * (zP b : Int)) (zM b * (zP a : Int)) ∧ f (zM a * (zP b : Int)) (zM b * (zP a : Int)) ≤ 1000000000000000000) := by
 obtain ⟨a1, a2, a3⟩ := yI ha
 obtain ⟨b1, b2, b3⟩ := yI hb
 have pa := yn (Zq.1 a1).1
 have pb := yn (Zq.1 b1).1
 have m1 := YS (a := zM a) (b := (zP b : Int)) ⟨by omega, by omega⟩ ⟨by omega, by omega⟩
 have m2 := YS (a := zM b) (b := (zP a : Int)) ⟨by omega, by omega⟩ ⟨by omega, by omega⟩
 have m3 := YS (a := (zP a : Int)) (b := (zP b : Int)) ⟨by omega, by omega⟩ ⟨by omega, by omega⟩
 have hp : (0 : Int) < (zP a : Int) * (zP b : Int) := Int.mul_pos (by omega) (by omega)
 have hN := hf (zM a * (zP b : Int)) (zM b * (zP a : Int))
 have eN : jy f a b = f (zM a * (zP b : Int)) (zM b * (zP a : Int)) := rfl
 have e : tF f a b = 0 := by
  unfold tF Vy
  rw [a1, b1, (ZP (n := zM a * (zP b : Int)) (k := 20) (by omega) (by omega) (by omega)).2, (ZP (n := zM b * (zP a : Int)) (k := 20) (by omega) (by omega) (by omega)).2, eN,
   (ZP (n := f (zM a * (zP b : Int)) (zM b * (zP a : Int))) (k := 20) (by omega) (by omega) (by omega)).2, (ZP (n := (zP a : Int) * (zP b : Int)) (k := 20) (by omega) (by omega) (by omega)).2]
  rfl
 refine ⟨e, ?_, by omega, ⟨by omega, by omega⟩, ⟨by omega, by omega⟩⟩
 unfold pA
 rw [e]
 show ZW (jy f a b) _ = _
 unfold Y5
 rw [show zg ((zP a : Int) * (zP b : Int)) 0 = false from Bool.eq_false_iff.2 fun e => by have := (zq _ _).1 e; omega, cond_false, ← Int.natCast_mul, Int.toNat_natCast, eN]
theorem gw {f : Int → Int → Int} {a b : zj} (h : zh a ≠ 0) : [] = pA f a b ∧ zh a = tF f a b := by
 have e : tF f a b = zh a := by
  unfold tF Vy
  rw [bne_iff_ne.2 h]
  simp only [cond_true]
  rw [bne_iff_ne.2 h]; rfl
 exact ⟨by unfold pA; rw [e, beq_eq_false_iff_ne.2 h]; rfl, e.symm⟩
theorem gu {f : Int → Int → Int} {a b : zj} (h0 : zh a = 0) (h : zh b ≠ 0) : [] = pA f a b ∧ zh b = tF f a b := by
 have e : tF f a b = zh b := by
  unfold tF Vy
  rw [h0, bne_iff_ne.2 h]
  simp only [bne_self_eq_false, cond_false, cond_true]
  rw [bne_iff_ne.2 h]; rfl
 exact ⟨by unfold pA; rw [e, beq_eq_false_iff_ne.2 h]; rfl, e.symm⟩
theorem kh (G : List (Nat × Obj)) (a : List UInt8) (b : List UInt8) (hla : a.length ≤ 9223372036854775807) (hlb : b.length ≤ 9223372036854775807) :
 let q2 := (True ∧ bA #[] = pA (fun (x1 x2 : Int) => x1 + x2) a b); let q3 := (Pt.mk (AV.bytes (AV.str (bif zh a == iZ then zO a else []))) (AV.bytes (AV.str (bif zh a == iZ then yZ a else [])))); let q4 := (Pt.d q3); let q5 := (Pt.mk (AV.bytes (AV.str (bif zh b == iZ then zO b else []))) (AV.bytes (AV.str (bif zh b == iZ then yZ b else [])))); let q6 := (Pt.d q5); let q1 := (lN a ≤ nX ∧ zZ (zh a != iZ) (j2 ∧ q2 ∧ kI ∧ zh
 a = tF (fun (x1 x2 : Int) => x1 + x2) a b) (lN b ≤ nX ∧ zZ (zh b != iZ) (j2 ∧ q2 ∧ kI ∧ zh b = tF (fun (x1 x2 : Int) => x1 + x2) a b) ((ZQ (Pt.n q3) = iZ ∧ ZQ q4 = iZ ∧ zY q4 ≠ iZ) ∧ (ZQ (Pt.n q5) = iZ ∧ ZQ q6 = iZ ∧ zY q6 ≠ iZ) ∧ j2 ∧ (True ∧ qU (fun (x1 x2 : Int) => x1 + x2) q3 q5 = pA (fun (x1 x2 : Int) => x1 + x2) a b) ∧ kI ∧ VG (fun (x1 x2 : Int) => x1 + x2) q3 q5 = tF (fun (x1 x2 : Int) => x1 +
 x2) a b))); let q9 := (Value.agg #[Value.int .i64 iZ, Value.int .i64 iZ]); let q8 := (fun (i : Nat) => if 0 ≤ i ∧ i < 0 + 2 then zw [AV.i (bif Zz a then zM a else iZ), AV.i (bif Zz a then (cI (zP a)) else iZ)] (i - 0) else Z0 q9 i); let q7 := (Nt.mk (AV.int (q8 0)) (AV.int (q8 1))); let q11 := (fun (i : Nat) => if 0 ≤ i ∧ i < 0 + 2 then zw [AV.i (bif Zz b then zM b else iZ), AV.i (bif Zz b then (cI (zP b)) else iZ)] (i - 0) else Z0 q9 i); let q10 := (Nt.mk (AV.int (q11 0)) (AV.int (q11 1))); let q13 := (Nt.mk (Nt.n
 q7 * Nt.d q10 + Nt.n q10 * Nt.d q7) (Nt.d q7 * Nt.d q10)); let q12 := (Nt.mk (AV.int (aI (Nt.n q13))) (AV.int (aI (Nt.d q13)))); Zt [AV.str a, AV.str b] → lN a ≤ nX ∧ zZ (!Zz a) q1 (lN b ≤ nX ∧ zZ (!Zz b) q1 ((((-99999999 : Int) ≤ Nt.n q7 ∧ Nt.n q7 ≤ (99999999 : Int)) ∧ iZ < Nt.d q7 ∧ Nt.d q7 ≤ (99999999 : Int)) ∧ (((-99999999 : Int) ≤ Nt.n q10 ∧ Nt.n q10 ≤ (99999999 : Int)) ∧ iZ < Nt.d q10 ∧ Nt.d q10 ≤ (99999999 : Int)) ∧ Nt.d q12 ≠ iZ ∧ ((-1000000000000000000 : Int) ≤
 Nt.d q12 ∧ Nt.d q12 ≤ (1000000000000000000 : Int)) ∧ ((-1000000000000000000 : Int) ≤ Nt.n q12 ∧ Nt.n q12 ≤ (1000000000000000000 : Int)) ∧ j2 ∧ (True ∧ Y5 (Nt.n q12) (Nt.d q12) = pA (fun (x1 x2 : Int) => x1 + x2) a b) ∧ kI ∧ iZ = tF (fun (x1 x2 : Int) => x1 + x2) a b)) := by
 delta bA nX cI kI j2 lN iZ aI
 dsimp only
 intro hb
 simp only [sS, dS]
 refine ⟨hla, zX.2 ⟨fun c => ?_, fun c => ⟨hlb, zX.2 ⟨fun c2 => ?_, fun c2 => ?_⟩⟩⟩⟩
 rotate_left 2
 ·rw [Bool.not_eq_false'] at c c2
  obtain ⟨q1, q2, q3, q4, q5⟩ := NJ (f := fun x1 x2 => x1 + x2) (fun u v => by omega) c c2
  rw [q1, q2, c, c2]
  exact ⟨TH c, TH c2, q3, q4, q5, rfl, rfl, rfl⟩
 all_goals
  refine ⟨hla, fun h => ⟨rfl, gw h⟩, fun h0 => ⟨hlb, fun h => ⟨rfl, gu h0 h⟩, fun h1 => ?_⟩⟩
  obtain ⟨q1, q2⟩ := IH (f := fun x1 x2 => x1 + x2) h0 h1
  rw [h0, h1]
  exact ⟨Ve h0, Ve h1, rfl, q1, q2⟩
theorem It {G : List (Nat × Obj)} (hG : zo G) (a : List UInt8) (b : List UInt8) (hla : a.length ≤ 9223372036854775807) (hlb : b.length ≤ 9223372036854775807) : zU Tryz.prog G 30 [.str a, .str b] (.tup 2 (zw [.str (pA (· + ·) a b), .i (tF (· + ·) a b)])) :=
 zW (T := ((gC G).plus 102 Ms).body Tryz.prog Ge) (an := .auto) mixed (zz.body mixed (zz.plus (T5 hG) (Hk hG)) _) (Eq.mp (by kernel_rfl) (kh G a b hla hlb))
theorem gR {a b : zj} (h : zh a ≠ 0) : [] = PZ a b ∧ zh a = tE a b := by
 have e : tE a b = zh a := by unfold tE; rw [bne_iff_ne.2 h]; rfl
 exact ⟨by unfold PZ; rw [e, beq_eq_false_iff_ne.2 h]; rfl, e.symm⟩
theorem gU {a b : zj} (h0 : zh a = 0) (h : zh b ≠ 0) : [] = PZ a b ∧ zh b = tE a b := by
 have e : tE a b = zh b := by unfold tE; rw [h0, bne_iff_ne.2 h]; rfl
 exact ⟨by unfold PZ; rw [e, beq_eq_false_iff_ne.2 h]; rfl, e.symm⟩
theorem Il {a b : zj} (ha : zh a = 0) (hb : zh b = 0) : lI ⟨zO a, yZ a⟩ ⟨zO b, yZ b⟩ = PZ a b ∧ qu ⟨zO a, yZ a⟩ ⟨zO b, yZ b⟩ = tE a b := by
 obtain ⟨_, _, a3, a4⟩ := lf ha
 obtain ⟨_, _, b3, b4⟩ := lf hb
 have pa := yn (Zq.1 ha).1
 have pb := yn (Zq.1 hb).1
 have e : qu ⟨zO a, yZ a⟩ ⟨zO b, yZ b⟩ = tE a b := by
  unfold qu tE
  rw [a3, a4, b3, b4, ha, hb]; rfl
 refine ⟨?_, e⟩
 unfold lI PZ
 rw [e]
 cases tE a b == 0 with
 | false => rfl
 | true =>
  simp only [cond_true]
  rw [a3, a4, b3, b4]
  have hp : (0 : Int) < (zP a : Int) * (zP b : Int) := Int.mul_pos (by omega) (by omega)
  unfold Y5
  rw [show zg ((zP a : Int) * (zP b : Int)) 0 = false from Bool.eq_false_iff.2 fun e => by have := (zq _ _).1 e; omega, cond_false, ← Int.natCast_mul, Int.toNat_natCast]
theorem Nq {a b : zj} (ha : Zz a = true) (hb : Zz b = true) :
  tE a b = 0 ∧ PZ a b = Y5 (zM a * zM b) ((zP a : Int) * (zP b : Int)) ∧ (zP a : Int) * (zP b : Int) ≠ 0 ∧
  (-1000000000000000000 ≤ (zP a : Int) * (zP b : Int) ∧ (zP a : Int) * (zP b : Int) ≤ 1000000000000000000) ∧
  (-1000000000000000000 ≤ zM a * zM b ∧ zM a * zM b ≤ 1000000000000000000) := by
 obtain ⟨a1, a2, a3⟩ := yI ha
 obtain ⟨b1, b2, b3⟩ := yI hb
 have pa := yn (Zq.1 a1).1
 have pb := yn (Zq.1 b1).1
 have m1 := YS (a := zM a) (b := zM b) ⟨by omega, by omega⟩ ⟨by omega, by omega⟩
 have m3 := YS (a := (zP a : Int)) (b := (zP b : Int)) ⟨by omega, by omega⟩ ⟨by omega, by omega⟩
 have hp : (0 : Int) < (zP a : Int) * (zP b : Int) := Int.mul_pos (by omega) (by omega)
 have e : tE a b = 0 := by
  unfold tE
  rw [a1, b1, (ZP (n := zM a * zM b) (k := 20) (by omega) (by omega) (by omega)).2, (ZP (n := (zP a : Int) * (zP b : Int)) (k := 20) (by omega) (by omega) (by omega)).2]
  rfl
 refine ⟨e, ?_, by omega, ⟨by omega, by omega⟩, ⟨by omega, by omega⟩⟩
 unfold PZ
 rw [e]
 show ZW _ _ = _
 unfold Y5
 rw [show zg ((zP a : Int) * (zP b : Int)) 0 = false from Bool.eq_false_iff.2 fun e => by have := (zq _ _).1 e; omega, cond_false, ← Int.natCast_mul, Int.toNat_natCast]
theorem LM (G : List (Nat × Obj)) (a : List UInt8) (b : List UInt8) (hla : a.length ≤ 9223372036854775807) (hlb : b.length ≤ 9223372036854775807) :
 let q2 := (True ∧ bA #[] = PZ a b); let q5 := (Value.agg #[Value.string (ByteArray.mk #[]), Value.string (ByteArray.mk #[])]); let q4 := (fun (i : Nat) => if 0 ≤ i ∧ i < 0 + 2 then zw [AV.str (bif zh a == iZ then zO a else []), AV.str (bif zh a == iZ then yZ a else [])] (i - 0) else Z0 q5 i); let q3 := (Pt.mk (AV.bytes (q4 0)) (AV.bytes (q4 1))); let q6 := (Pt.d q3); let q8 := (fun (i : Nat) => if 0 ≤ i ∧ i < 0 + 2 then zw [AV.str (bif zh b == iZ then zO b else []), AV.str (bif zh b == iZ then yZ b
 else [])] (i - 0) else Z0 q5 i); let q7 := (Pt.mk (AV.bytes (q8 0)) (AV.bytes (q8 1))); let q9 := (Pt.d q7); let q1 := (lN a ≤ nX ∧ zZ (zh a != iZ) (j2 ∧ q2 ∧ kI ∧ zh a = tE a b) (lN b ≤ nX ∧ zZ (zh b != iZ) (j2 ∧ q2 ∧ kI ∧ zh b = tE a b) ((ZQ (Pt.n q3) = iZ ∧ ZQ q6 = iZ ∧ zY q6 ≠ iZ) ∧ (ZQ (Pt.n q7) = iZ ∧ ZQ q9 = iZ ∧ zY q9 ≠ iZ) ∧ 2 = lN [AV.junk,
 AV.junk] ∧ (True ∧ lI q3 q7 = PZ a b) ∧ kI ∧ qu q3 q7 = tE a b))); let q12 := (Value.agg #[Value.int .i64 iZ, Value.int .i64 iZ]); let q11 := (fun (i : Nat) => if 0 ≤ i ∧ i < 0 + 2 then zw [AV.i (bif Zz a then zM a else iZ), AV.i (bif Zz a then (cI (zP a)) else iZ)] (i - 0) else Z0 q12 i); let q10 := (Nt.mk (AV.int (q11 0)) (AV.int (q11 1))); let q14 := (fun (i : Nat) => if 0 ≤ i ∧ i < 0 + 2 then zw [AV.i (bif Zz b then zM b else iZ), AV.i (bif Zz b then (cI (zP b)) else iZ)] (i - 0) else Z0 q12
 i); let q13 := (Nt.mk (AV.int (q14 0)) (AV.int (q14 1))); let q16 := (Nt.mk (Nt.n q10 * Nt.n q13) (Nt.d q10 * Nt.d q13)); let q15 := (Nt.mk (AV.int (aI (Nt.n q16))) (AV.int (aI (Nt.d q16)))); Zt [AV.str a, AV.str b] → lN a ≤ nX ∧ zZ (!Zz a) q1 (lN b ≤ nX ∧ zZ (!Zz b) q1 ((((-99999999 : Int) ≤ Nt.n q10 ∧ Nt.n q10 ≤ (99999999 : Int)) ∧ iZ < Nt.d q10 ∧ Nt.d q10 ≤ (99999999 : Int)) ∧ (((-99999999 : Int) ≤ Nt.n q13 ∧ Nt.n q13 ≤ (99999999 : Int)) ∧ iZ < Nt.d q13 ∧ Nt.d q13 ≤ (99999999
 : Int)) ∧ Nt.d q15 ≠ iZ ∧ ((-1000000000000000000 : Int) ≤ Nt.d q15 ∧ Nt.d q15 ≤ (1000000000000000000 : Int)) ∧ ((-1000000000000000000 : Int) ≤ Nt.n q15 ∧ Nt.n q15 ≤ (1000000000000000000 : Int)) ∧ j2 ∧ (True ∧ Y5 (Nt.n q15) (Nt.d q15) = PZ a b) ∧ kI ∧ iZ = tE a b)) := by
 delta bA nX cI kI j2 lN iZ aI
 dsimp only
 intro hb
 simp only [sS, dS]
 refine ⟨hla, zX.2 ⟨fun c => ?_, fun c => ⟨hlb, zX.2 ⟨fun c2 => ?_, fun c2 => ?_⟩⟩⟩⟩
 rotate_left 2
 ·rw [Bool.not_eq_false'] at c c2
  obtain ⟨q1, q2, q3, q4, q5⟩ := Nq c c2
  rw [q1, q2, c, c2]
  exact ⟨TH c, TH c2, q3, q4, q5, rfl, rfl, rfl⟩
 all_goals
  refine ⟨hla, fun h => ⟨rfl, gR h⟩, fun h0 => ⟨hlb, fun h => ⟨rfl, gU h0 h⟩, fun h1 => ?_⟩⟩
  obtain ⟨q1, q2⟩ := Il h0 h1
  rw [h0, h1]
  exact ⟨Ve h0, Ve h1, rfl, q1, q2⟩
theorem Jw {G : List (Nat × Obj)} (hG : zo G) (a : List UInt8) (b : List UInt8) (hla : a.length ≤ 9223372036854775807) (hlb : b.length ≤ 9223372036854775807) : zU Tryz.prog G 40 [.str a, .str b] (.tup 2 (zw [.str (PZ a b), .i (tE a b)])) :=
 zW (T := (gC G).body Tryz.prog Ge) (an := .auto) mixed (zz.body mixed (T5 hG) _) (Eq.mp (by kernel_rfl) (LM G a b hla hlb))
end Go.Te
