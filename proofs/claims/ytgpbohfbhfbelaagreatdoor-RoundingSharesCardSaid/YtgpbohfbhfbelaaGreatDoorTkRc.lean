/- rational: Add, Sub, Mul. -/
import Derived.Test.YtgpbohfbhfbelaaGreatDoorTkIk
set_option linter.unusedSimpArgs false
set_option linter.unusedVariables false
namespace Go.Te
open Go Go.Sx Go.Proofs Go.Ar
set_option maxRecDepth 100000
set_option maxHeartbeats 4000000
def Je (f : Int → Int → Int) (a b : zj) : Int := f (zL a * (zo b : Int)) (zL b * (zo a : Int))
def um (f : Int → Int → Int) (a b : zj) : Int := bif Vt a b != 0 then Vt a b else bif ZN (Je f a b) != 0 then ZN (Je f a b) else ZN ((zo a : Int) * (zo b : Int))
def Rk (f : Int → Int → Int) (a b : zj) : zj := bif um f a b == 0 then ZI (Je f a b) (zo a * zo b) else []
def TH (a b : zj) : Int := bif zH a != 0 then zH a else bif zH b != 0 then zH b else bif ZN (zL a * zL b) != 0 then ZN (zL a * zL b) else ZN ((zo a : Int) * (zo b : Int))
def o9 (a b : zj) : zj := bif TH a b == 0 then ZI (zL a * zL b) (zo a * zo b) else []
noncomputable def Fq (G : List (Nat × Obj)) : Tb := (((((Xz G).plus 32 XE).plus 30 v7).plus 98 Rv).plus 45 Lz).plus 40 MC |>.plus 42 Me
theorem uZ {G : List (Nat × Obj)} (hG : zO G) : zz Tryz.prog (Fq G) :=
 zz.plus (zz.plus (zz.plus (zz.plus (zz.plus (zz.plus zr (vT hG)) (zQ.mono Uk)) (MQ hG)) (zQ.mono Gi)) (zQ.mono fO)) (Gy hG)
def eY : List (FuncId × yV) := [(39, .auto), (41, .auto), (46, .auto)]
theorem WH {a : zj} (h : zH a = 0) : uW ⟨zm a, Z1 a⟩ := by
 obtain ⟨a1, a2, a3, a4⟩ := N3 h
 refine ⟨a1, a2, ?_⟩
 rw [a4]
 have := Yz (Zr.1 h).1
 omega
theorem JK {f : Int → Int → Int} {a b : zj} (ha : zH a = 0) (hb : zH b = 0) : TD f ⟨zm a, Z1 a⟩ ⟨zm b, Z1 b⟩ = Rk f a b ∧ WU f ⟨zm a, Z1 a⟩ ⟨zm b, Z1 b⟩ = um f a b := by
 obtain ⟨_, _, a3, a4⟩ := N3 ha
 obtain ⟨_, _, b3, b4⟩ := N3 hb
 have pa := Yz (Zr.1 ha).1
 have pb := Yz (Zr.1 hb).1
 have e : WU f ⟨zm a, Z1 a⟩ ⟨zm b, Z1 b⟩ = um f a b := by
  unfold WU um Vt Je
  rw [a3, a4, b3, b4, ha, hb]
  simp only [bne_self_eq_false, cond_false]
  cases h1 : ZN (zL a * (zo b : Int)) != 0 with
  | true => simp only [cond_true, h1]
  | false => simp only [cond_false]
 refine ⟨?_, e⟩
 unfold TD Rk
 rw [e]
 cases um f a b == 0 with
 | false => rfl
 | true =>
  simp only [cond_true]
  rw [a3, a4, b3, b4]
  have hp : (0 : Int) < (zo a : Int) * (zo b : Int) := Int.mul_pos (by omega) (by omega)
  unfold xw Je
  rw [show zM ((zo a : Int) * (zo b : Int)) 0 = false from Bool.eq_false_iff.2 fun e => by have := (zq _ _).1 e; omega, cond_false, ← Int.natCast_mul, Int.toNat_natCast]
theorem uI {a : zj} (h : zC a = true) : Vo ⟨zL a, (zo a : Int)⟩ := by
 obtain ⟨h1, h2, h3⟩ := yk h
 have := Yz (Zr.1 h1).1
 exact ⟨⟨by simp only; omega, by simp only; omega⟩, by simp only; omega, by simp only; omega⟩
theorem qS {f : Int → Int → Int} (hf : ∀ u v, (f u v).natAbs ≤ u.natAbs + v.natAbs) {a b : zj} (ha : zC a = true) (hb : zC b = true) :
  um f a b = 0 ∧ Rk f a b = xw (f (zL a * (zo b : Int)) (zL b * (zo a : Int))) ((zo a : Int) * (zo b : Int)) ∧ (zo a : Int) * (zo b : Int) ≠ 0 ∧
  (-1000000000000000000 ≤ (zo a : Int) * (zo b : Int) ∧ (zo a : Int) * (zo b : Int) ≤ 1000000000000000000) ∧
  (-1000000000000000000 ≤ f (zL a * (zo b : Int)) (zL b * (zo a : Int)) ∧ f (zL a * (zo b : Int)) (zL b * (zo a : Int)) ≤ 1000000000000000000) := by
 obtain ⟨a1, a2, a3⟩ := yk ha
 obtain ⟨b1, b2, b3⟩ := yk hb
 have pa := Yz (Zr.1 a1).1
 have pb := Yz (Zr.1 b1).1
 have m1 := y9 (a := zL a) (b := (zo b : Int)) ⟨by omega, by omega⟩ ⟨by omega, by omega⟩
 have m2 := y9 (a := zL b) (b := (zo a : Int)) ⟨by omega, by omega⟩ ⟨by omega, by omega⟩
 have m3 := y9 (a := (zo a : Int)) (b := (zo b : Int)) ⟨by omega, by omega⟩ ⟨by omega, by omega⟩
 have hp : (0 : Int) < (zo a : Int) * (zo b : Int) := Int.mul_pos (by omega) (by omega)
 have hN := hf (zL a * (zo b : Int)) (zL b * (zo a : Int))
 have eN : Je f a b = f (zL a * (zo b : Int)) (zL b * (zo a : Int)) := rfl
 have e : um f a b = 0 := by
  unfold um Vt
  rw [a1, b1, (Zp (n := zL a * (zo b : Int)) (k := 20) (by omega) (by omega) (by omega)).2, (Zp (n := zL b * (zo a : Int)) (k := 20) (by omega) (by omega) (by omega)).2, eN,
   (Zp (n := f (zL a * (zo b : Int)) (zL b * (zo a : Int))) (k := 20) (by omega) (by omega) (by omega)).2, (Zp (n := (zo a : Int) * (zo b : Int)) (k := 20) (by omega) (by omega) (by omega)).2]
  rfl
 refine ⟨e, ?_, by omega, ⟨by omega, by omega⟩, ⟨by omega, by omega⟩⟩
 unfold Rk
 rw [e]
 show ZI (Je f a b) _ = _
 unfold xw
 rw [show zM ((zo a : Int) * (zo b : Int)) 0 = false from Bool.eq_false_iff.2 fun e => by have := (zq _ _).1 e; omega, cond_false, ← Int.natCast_mul, Int.toNat_natCast, eN]
theorem fh {f : Int → Int → Int} {a b : zj} (h : zH a ≠ 0) : [] = Rk f a b ∧ zH a = um f a b := by
 have e : um f a b = zH a := by
  unfold um Vt
  rw [bne_iff_ne.2 h]
  simp only [cond_true]
  rw [bne_iff_ne.2 h]; rfl
 exact ⟨by unfold Rk; rw [e, beq_eq_false_iff_ne.2 h]; rfl, e.symm⟩
theorem Gf {f : Int → Int → Int} {a b : zj} (h0 : zH a = 0) (h : zH b ≠ 0) : [] = Rk f a b ∧ zH b = um f a b := by
 have e : um f a b = zH b := by
  unfold um Vt
  rw [h0, bne_iff_ne.2 h]
  simp only [bne_self_eq_false, cond_false, cond_true]
  rw [bne_iff_ne.2 h]; rfl
 exact ⟨by unfold Rk; rw [e, beq_eq_false_iff_ne.2 h]; rfl, e.symm⟩
theorem jB (G : List (Nat × Obj)) (a : List UInt8) (b : List UInt8) (hla : a.length ≤ 9223372036854775807) (hlb : b.length ≤ 9223372036854775807) :
 let q2 := (True ∧ bA #[] = Rk (fun (x1 x2 : Int) => x1 + x2) a b); let q3 := (Pt.mk (AV.bytes (AV.str (bif zH a == iZ then zm a else []))) (AV.bytes (AV.str (bif zH a == iZ then Z1 a else [])))); let q4 := (Pt.d q3); let q5 := (Pt.mk (AV.bytes (AV.str (bif zH b == iZ then zm b else []))) (AV.bytes (AV.str (bif zH b == iZ then Z1 b else [])))); let q6 := (Pt.d q5); let q1 := (lN a ≤ nX ∧ zZ (zH a != iZ) (j2 ∧ q2 ∧ kI ∧ zH
 a = um (fun (x1 x2 : Int) => x1 + x2) a b) (lN b ≤ nX ∧ zZ (zH b != iZ) (j2 ∧ q2 ∧ kI ∧ zH b = um (fun (x1 x2 : Int) => x1 + x2) a b) ((ZU (Pt.n q3) = iZ ∧ ZU q4 = iZ ∧ zX q4 ≠ iZ) ∧ (ZU (Pt.n q5) = iZ ∧ ZU q6 = iZ ∧ zX q6 ≠ iZ) ∧ j2 ∧ (True ∧ TD (fun (x1 x2 : Int) => x1 + x2) q3 q5 = Rk (fun (x1 x2 : Int) => x1 + x2) a b) ∧ kI ∧ WU (fun (x1 x2 : Int) => x1 + x2) q3 q5 = um (fun (x1 x2 : Int) => x1 +
 x2) a b))); let q9 := (Value.agg #[Value.int .i64 iZ, Value.int .i64 iZ]); let q8 := (fun (i : Nat) => if 0 ≤ i ∧ i < 0 + 2 then zw [AV.i (bif zC a then zL a else iZ), AV.i (bif zC a then (cI (zo a)) else iZ)] (i - 0) else ZC q9 i); let q7 := (Nt.mk (AV.int (q8 0)) (AV.int (q8 1))); let q11 := (fun (i : Nat) => if 0 ≤ i ∧ i < 0 + 2 then zw [AV.i (bif zC b then zL b else iZ), AV.i (bif zC b then (cI (zo b)) else iZ)] (i - 0) else ZC q9 i); let q10 := (Nt.mk (AV.int (q11 0)) (AV.int (q11 1))); let q13 := (Nt.mk (Nt.n
 q7 * Nt.d q10 + Nt.n q10 * Nt.d q7) (Nt.d q7 * Nt.d q10)); let q12 := (Nt.mk (AV.int (aI (Nt.n q13))) (AV.int (aI (Nt.d q13)))); zB [AV.str a, AV.str b] → lN a ≤ nX ∧ zZ (!zC a) q1 (lN b ≤ nX ∧ zZ (!zC b) q1 ((((-99999999 : Int) ≤ Nt.n q7 ∧ Nt.n q7 ≤ (99999999 : Int)) ∧ iZ < Nt.d q7 ∧ Nt.d q7 ≤ (99999999 : Int)) ∧ (((-99999999 : Int) ≤ Nt.n q10 ∧ Nt.n q10 ≤ (99999999 : Int)) ∧ iZ < Nt.d q10 ∧ Nt.d q10 ≤ (99999999 : Int)) ∧ Nt.d q12 ≠ iZ ∧ ((-1000000000000000000 : Int) ≤
 Nt.d q12 ∧ Nt.d q12 ≤ (1000000000000000000 : Int)) ∧ ((-1000000000000000000 : Int) ≤ Nt.n q12 ∧ Nt.n q12 ≤ (1000000000000000000 : Int)) ∧ j2 ∧ (True ∧ xw (Nt.n q12) (Nt.d q12) = Rk (fun (x1 x2 : Int) => x1 + x2) a b) ∧ kI ∧ iZ = um (fun (x1 x2 : Int) => x1 + x2) a b)) := by
 delta bA nX cI kI j2 lN iZ aI
 dsimp only
 intro hb
 simp only [sS, dS]
 refine ⟨hla, zY.2 ⟨fun c => ?_, fun c => ⟨hlb, zY.2 ⟨fun c2 => ?_, fun c2 => ?_⟩⟩⟩⟩
 rotate_left 2
 ·rw [Bool.not_eq_false'] at c c2
  obtain ⟨q1, q2, q3, q4, q5⟩ := qS (f := fun x1 x2 => x1 + x2) (fun u v => by omega) c c2
  rw [q1, q2, c, c2]
  exact ⟨uI c, uI c2, q3, q4, q5, rfl, rfl, rfl⟩
 all_goals
  refine ⟨hla, fun h => ⟨rfl, fh h⟩, fun h0 => ⟨hlb, fun h => ⟨rfl, Gf h0 h⟩, fun h1 => ?_⟩⟩
  obtain ⟨q1, q2⟩ := JK (f := fun x1 x2 => x1 + x2) h0 h1
  rw [h0, h1]
  exact ⟨WH h0, WH h1, rfl, q1, q2⟩
theorem HB {G : List (Nat × Obj)} (hG : zO G) (a : List UInt8) (b : List UInt8) (hla : a.length ≤ 9223372036854775807) (hlb : b.length ≤ 9223372036854775807) : zv Tryz.prog G 19 [.str a, .str b] (.tup 2 (zw [.str (Rk (· + ·) a b), .i (um (· + ·) a b)])) :=
 zW (T := ((Fq G).plus 105 mH).body Tryz.prog eY) (an := .auto) mixed (zz.body mixed (zz.plus (uZ hG) (Gv hG)) _) (Eq.mp (by kernel_rfl) (jB G a b hla hlb))
theorem Fl {a b : zj} (h : zH a ≠ 0) : [] = o9 a b ∧ zH a = TH a b := by
 have e : TH a b = zH a := by unfold TH; rw [bne_iff_ne.2 h]; rfl
 exact ⟨by unfold o9; rw [e, beq_eq_false_iff_ne.2 h]; rfl, e.symm⟩
theorem FI {a b : zj} (h0 : zH a = 0) (h : zH b ≠ 0) : [] = o9 a b ∧ zH b = TH a b := by
 have e : TH a b = zH b := by unfold TH; rw [h0, bne_iff_ne.2 h]; rfl
 exact ⟨by unfold o9; rw [e, beq_eq_false_iff_ne.2 h]; rfl, e.symm⟩
theorem GX {a b : zj} (ha : zH a = 0) (hb : zH b = 0) : LB ⟨zm a, Z1 a⟩ ⟨zm b, Z1 b⟩ = o9 a b ∧ QT ⟨zm a, Z1 a⟩ ⟨zm b, Z1 b⟩ = TH a b := by
 obtain ⟨_, _, a3, a4⟩ := N3 ha
 obtain ⟨_, _, b3, b4⟩ := N3 hb
 have pa := Yz (Zr.1 ha).1
 have pb := Yz (Zr.1 hb).1
 have e : QT ⟨zm a, Z1 a⟩ ⟨zm b, Z1 b⟩ = TH a b := by
  unfold QT TH
  rw [a3, a4, b3, b4, ha, hb]; rfl
 refine ⟨?_, e⟩
 unfold LB o9
 rw [e]
 cases TH a b == 0 with
 | false => rfl
 | true =>
  simp only [cond_true]
  rw [a3, a4, b3, b4]
  have hp : (0 : Int) < (zo a : Int) * (zo b : Int) := Int.mul_pos (by omega) (by omega)
  unfold xw
  rw [show zM ((zo a : Int) * (zo b : Int)) 0 = false from Bool.eq_false_iff.2 fun e => by have := (zq _ _).1 e; omega, cond_false, ← Int.natCast_mul, Int.toNat_natCast]
theorem Mb {a b : zj} (ha : zC a = true) (hb : zC b = true) :
  TH a b = 0 ∧ o9 a b = xw (zL a * zL b) ((zo a : Int) * (zo b : Int)) ∧ (zo a : Int) * (zo b : Int) ≠ 0 ∧
  (-1000000000000000000 ≤ (zo a : Int) * (zo b : Int) ∧ (zo a : Int) * (zo b : Int) ≤ 1000000000000000000) ∧
  (-1000000000000000000 ≤ zL a * zL b ∧ zL a * zL b ≤ 1000000000000000000) := by
 obtain ⟨a1, a2, a3⟩ := yk ha
 obtain ⟨b1, b2, b3⟩ := yk hb
 have pa := Yz (Zr.1 a1).1
 have pb := Yz (Zr.1 b1).1
 have m1 := y9 (a := zL a) (b := zL b) ⟨by omega, by omega⟩ ⟨by omega, by omega⟩
 have m3 := y9 (a := (zo a : Int)) (b := (zo b : Int)) ⟨by omega, by omega⟩ ⟨by omega, by omega⟩
 have hp : (0 : Int) < (zo a : Int) * (zo b : Int) := Int.mul_pos (by omega) (by omega)
 have e : TH a b = 0 := by
  unfold TH
  rw [a1, b1, (Zp (n := zL a * zL b) (k := 20) (by omega) (by omega) (by omega)).2, (Zp (n := (zo a : Int) * (zo b : Int)) (k := 20) (by omega) (by omega) (by omega)).2]
  rfl
 refine ⟨e, ?_, by omega, ⟨by omega, by omega⟩, ⟨by omega, by omega⟩⟩
 unfold o9
 rw [e]
 show ZI _ _ = _
 unfold xw
 rw [show zM ((zo a : Int) * (zo b : Int)) 0 = false from Bool.eq_false_iff.2 fun e => by have := (zq _ _).1 e; omega, cond_false, ← Int.natCast_mul, Int.toNat_natCast]
theorem j8 (G : List (Nat × Obj)) (a : List UInt8) (b : List UInt8) (hla : a.length ≤ 9223372036854775807) (hlb : b.length ≤ 9223372036854775807) :
 let q2 := (True ∧ bA #[] = o9 a b); let q5 := (Value.agg #[Value.string (ByteArray.mk #[]), Value.string (ByteArray.mk #[])]); let q4 := (fun (i : Nat) => if 0 ≤ i ∧ i < 0 + 2 then zw [AV.str (bif zH a == iZ then zm a else []), AV.str (bif zH a == iZ then Z1 a else [])] (i - 0) else ZC q5 i); let q3 := (Pt.mk (AV.bytes (q4 0)) (AV.bytes (q4 1))); let q6 := (Pt.d q3); let q8 := (fun (i : Nat) => if 0 ≤ i ∧ i < 0 + 2 then zw [AV.str (bif zH b == iZ then zm b else []), AV.str (bif zH b == iZ then Z1 b
 else [])] (i - 0) else ZC q5 i); let q7 := (Pt.mk (AV.bytes (q8 0)) (AV.bytes (q8 1))); let q9 := (Pt.d q7); let q1 := (lN a ≤ nX ∧ zZ (zH a != iZ) (j2 ∧ q2 ∧ kI ∧ zH a = TH a b) (lN b ≤ nX ∧ zZ (zH b != iZ) (j2 ∧ q2 ∧ kI ∧ zH b = TH a b) ((ZU (Pt.n q3) = iZ ∧ ZU q6 = iZ ∧ zX q6 ≠ iZ) ∧ (ZU (Pt.n q7) = iZ ∧ ZU q9 = iZ ∧ zX q9 ≠ iZ) ∧ 2 = lN [AV.junk,
 AV.junk] ∧ (True ∧ LB q3 q7 = o9 a b) ∧ kI ∧ QT q3 q7 = TH a b))); let q12 := (Value.agg #[Value.int .i64 iZ, Value.int .i64 iZ]); let q11 := (fun (i : Nat) => if 0 ≤ i ∧ i < 0 + 2 then zw [AV.i (bif zC a then zL a else iZ), AV.i (bif zC a then (cI (zo a)) else iZ)] (i - 0) else ZC q12 i); let q10 := (Nt.mk (AV.int (q11 0)) (AV.int (q11 1))); let q14 := (fun (i : Nat) => if 0 ≤ i ∧ i < 0 + 2 then zw [AV.i (bif zC b then zL b else iZ), AV.i (bif zC b then (cI (zo b)) else iZ)] (i - 0) else ZC q12
 i); let q13 := (Nt.mk (AV.int (q14 0)) (AV.int (q14 1))); let q16 := (Nt.mk (Nt.n q10 * Nt.n q13) (Nt.d q10 * Nt.d q13)); let q15 := (Nt.mk (AV.int (aI (Nt.n q16))) (AV.int (aI (Nt.d q16)))); zB [AV.str a, AV.str b] → lN a ≤ nX ∧ zZ (!zC a) q1 (lN b ≤ nX ∧ zZ (!zC b) q1 ((((-99999999 : Int) ≤ Nt.n q10 ∧ Nt.n q10 ≤ (99999999 : Int)) ∧ iZ < Nt.d q10 ∧ Nt.d q10 ≤ (99999999 : Int)) ∧ (((-99999999 : Int) ≤ Nt.n q13 ∧ Nt.n q13 ≤ (99999999 : Int)) ∧ iZ < Nt.d q13 ∧ Nt.d q13 ≤ (99999999
 : Int)) ∧ Nt.d q15 ≠ iZ ∧ ((-1000000000000000000 : Int) ≤ Nt.d q15 ∧ Nt.d q15 ≤ (1000000000000000000 : Int)) ∧ ((-1000000000000000000 : Int) ≤ Nt.n q15 ∧ Nt.n q15 ≤ (1000000000000000000 : Int)) ∧ j2 ∧ (True ∧ xw (Nt.n q15) (Nt.d q15) = o9 a b) ∧ kI ∧ iZ = TH a b)) := by
 delta bA nX cI kI j2 lN iZ aI
 dsimp only
 intro hb
 simp only [sS, dS]
 refine ⟨hla, zY.2 ⟨fun c => ?_, fun c => ⟨hlb, zY.2 ⟨fun c2 => ?_, fun c2 => ?_⟩⟩⟩⟩
 rotate_left 2
 ·rw [Bool.not_eq_false'] at c c2
  obtain ⟨q1, q2, q3, q4, q5⟩ := Mb c c2
  rw [q1, q2, c, c2]
  exact ⟨uI c, uI c2, q3, q4, q5, rfl, rfl, rfl⟩
 all_goals
  refine ⟨hla, fun h => ⟨rfl, Fl h⟩, fun h0 => ⟨hlb, fun h => ⟨rfl, FI h0 h⟩, fun h1 => ?_⟩⟩
  obtain ⟨q1, q2⟩ := GX h0 h1
  rw [h0, h1]
  exact ⟨WH h0, WH h1, rfl, q1, q2⟩
theorem IH {G : List (Nat × Obj)} (hG : zO G) (a : List UInt8) (b : List UInt8) (hla : a.length ≤ 9223372036854775807) (hlb : b.length ≤ 9223372036854775807) : zv Tryz.prog G 18 [.str a, .str b] (.tup 2 (zw [.str (o9 a b), .i (TH a b)])) :=
 zW (T := (Fq G).body Tryz.prog eY) (an := .auto) mixed (zz.body mixed (uZ hG) _) (Eq.mp (by kernel_rfl) (j8 G a b hla hlb))
end Go.Te
