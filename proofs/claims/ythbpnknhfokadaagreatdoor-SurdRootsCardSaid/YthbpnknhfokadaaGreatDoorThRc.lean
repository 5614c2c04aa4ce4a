/- rational: Add, Sub, Mul. -/
import Derived.Test.YthbpnknhfokadaaGreatDoorThIk
set_option linter.unusedSimpArgs false
set_option linter.unusedVariables false
namespace Go.Te
open Go Go.Sx Go.Proofs Go.Ar
set_option maxRecDepth 100000
set_option maxHeartbeats 4000000
def K0 (f : Int → Int → Int) (a b : zI) : Int := f (zj a * (zn b : Int)) (zj b * (zn a : Int))
def tQ (f : Int → Int → Int) (a b : zI) : Int := bif Vy a b != 0 then Vy a b else bif ZM (K0 f a b) != 0 then ZM (K0 f a b) else ZM ((zn a : Int) * (zn b : Int))
def pK (f : Int → Int → Int) (a b : zI) : zI := bif tQ f a b == 0 then ZW (K0 f a b) (zn a * zn b) else []
def tj (a b : zI) : Int := bif zG a != 0 then zG a else bif zG b != 0 then zG b else bif ZM (zj a * zj b) != 0 then ZM (zj a * zj b) else ZM ((zn a : Int) * (zn b : Int))
def pQ (a b : zI) : zI := bif tj a b == 0 then ZW (zj a * zj b) (zn a * zn b) else []
noncomputable def HI (G : List (Nat × Obj)) : Tb := (((((WA G).plus 57 wv).plus 55 VW).plus 101 Si).plus 61 NK).plus 76 nt |>.plus 77 nO
theorem TZ {G : List (Nat × Obj)} (hG : zN G) : zz Tryz.prog (HI G) :=
 zz.plus (zz.plus (zz.plus (zz.plus (zz.plus (zz.plus zo (vL hG)) (zO.mono sx)) (Mq hG)) (zO.mono Ix)) (zO.mono iD)) (IL hG)
def gP : List (FuncId × yq) := [(60, .auto), (62, .auto), (63, .auto)]
theorem VL {a : zI} (h : zG a = 0) : tN ⟨zL a, yy a⟩ := by
 obtain ⟨a1, a2, a3, a4⟩ := ML h
 refine ⟨a1, a2, ?_⟩
 rw [a4]
 have := yN (Zr.1 h).1
 omega
theorem Iz {f : Int → Int → Int} {a b : zI} (ha : zG a = 0) (hb : zG b = 0) : RB f ⟨zL a, yy a⟩ ⟨zL b, yy b⟩ = pK f a b ∧ Vj f ⟨zL a, yy a⟩ ⟨zL b, yy b⟩ = tQ f a b := by
 obtain ⟨_, _, a3, a4⟩ := ML ha
 obtain ⟨_, _, b3, b4⟩ := ML hb
 have pa := yN (Zr.1 ha).1
 have pb := yN (Zr.1 hb).1
 have e : Vj f ⟨zL a, yy a⟩ ⟨zL b, yy b⟩ = tQ f a b := by
  unfold Vj tQ Vy K0
  rw [a3, a4, b3, b4, ha, hb]
  simp only [bne_self_eq_false, cond_false]
  cases h1 : ZM (zj a * (zn b : Int)) != 0 with
  | true => simp only [cond_true, h1]
  | false => simp only [cond_false]
 refine ⟨?_, e⟩
 unfold RB pK
 rw [e]
 cases tQ f a b == 0 with
 | false => rfl
 | true =>
  simp only [cond_true]
  rw [a3, a4, b3, b4]
  have hp : (0 : Int) < (zn a : Int) * (zn b : Int) := Int.mul_pos (by omega) (by omega)
  unfold xt K0
  rw [show zF ((zn a : Int) * (zn b : Int)) 0 = false from Bool.eq_false_iff.2 fun e => by have := (zp _ _).1 e; omega, cond_false, ← Int.natCast_mul, Int.toNat_natCast]
theorem To {a : zI} (h : Zy a = true) : tq ⟨zj a, (zn a : Int)⟩ := by
 obtain ⟨h1, h2, h3⟩ := yE h
 have := yN (Zr.1 h1).1
 exact ⟨⟨by simp only; omega, by simp only; omega⟩, by simp only; omega, by simp only; omega⟩
theorem ma {f : Int → Int → Int} (hf : ∀ u v, (f u v).natAbs ≤ u.natAbs + v.natAbs) {a b : zI} (ha : Zy a = true) (hb : Zy b = true) :
  tQ f a b = 0 ∧ pK f a b = xt (f (zj a * (zn b : Int)) (zj b * (zn a : Int))) ((zn a : Int) * (zn b : Int)) ∧ (zn a : Int) * (zn b : Int) ≠ 0 ∧
  (-1000000000000000000 ≤ (zn a : Int) * (zn b : Int) ∧ (zn a : Int) * (zn b : Int) ≤ 1000000000000000000) ∧
  (-1000000000000000000 ≤ f (zj a * (zn b : Int)) (zj b * (zn a : Int)) ∧ f (zj a * (zn b : Int)) (zj b * (zn a : Int)) ≤ 1000000000000000000) := by
 obtain ⟨a1, a2, a3⟩ := yE ha
 obtain ⟨b1, b2, b3⟩ := yE hb
 have pa := yN (Zr.1 a1).1
 have pb := yN (Zr.1 b1).1
 have m1 := Yt (a := zj a) (b := (zn b : Int)) ⟨by omega, by omega⟩ ⟨by omega, by omega⟩
 have m2 := Yt (a := zj b) (b := (zn a : Int)) ⟨by omega, by omega⟩ ⟨by omega, by omega⟩
 have m3 := Yt (a := (zn a : Int)) (b := (zn b : Int)) ⟨by omega, by omega⟩ ⟨by omega, by omega⟩
 have hp : (0 : Int) < (zn a : Int) * (zn b : Int) := Int.mul_pos (by omega) (by omega)
 have hN := hf (zj a * (zn b : Int)) (zj b * (zn a : Int))
 have eN : K0 f a b = f (zj a * (zn b : Int)) (zj b * (zn a : Int)) := rfl
 have e : tQ f a b = 0 := by
  unfold tQ Vy
  rw [a1, b1, (Zo (n := zj a * (zn b : Int)) (k := 20) (by omega) (by omega) (by omega)).2, (Zo (n := zj b * (zn a : Int)) (k := 20) (by omega) (by omega) (by omega)).2, eN,
   (Zo (n := f (zj a * (zn b : Int)) (zj b * (zn a : Int))) (k := 20) (by omega) (by omega) (by omega)).2, (Zo (n := (zn a : Int) * (zn b : Int)) (k := 20) (by omega) (by omega) (by omega)).2]
  rfl
 refine ⟨e, ?_, by omega, ⟨by omega, by omega⟩, ⟨by omega, by omega⟩⟩
 unfold pK
 rw [e]
 show ZW (K0 f a b) _ = _
 unfold xt
 rw [show zF ((zn a : Int) * (zn b : Int)) 0 = false from Bool.eq_false_iff.2 fun e => by have := (zp _ _).1 e; omega, cond_false, ← Int.natCast_mul, Int.toNat_natCast, eN]
theorem Hh {f : Int → Int → Int} {a b : zI} (h : zG a ≠ 0) : [] = pK f a b ∧ zG a = tQ f a b := by
 have e : tQ f a b = zG a := by
  unfold tQ Vy
  rw [bne_iff_ne.2 h]
  simp only [cond_true]
  rw [bne_iff_ne.2 h]; rfl
 exact ⟨by unfold pK; rw [e, beq_eq_false_iff_ne.2 h]; rfl, e.symm⟩
theorem H3 {f : Int → Int → Int} {a b : zI} (h0 : zG a = 0) (h : zG b ≠ 0) : [] = pK f a b ∧ zG b = tQ f a b := by
 have e : tQ f a b = zG b := by
  unfold tQ Vy
  rw [h0, bne_iff_ne.2 h]
  simp only [bne_self_eq_false, cond_false, cond_true]
  rw [bne_iff_ne.2 h]; rfl
 exact ⟨by unfold pK; rw [e, beq_eq_false_iff_ne.2 h]; rfl, e.symm⟩
theorem LD (G : List (Nat × Obj)) (a : List UInt8) (b : List UInt8) (hla : a.length ≤ 9223372036854775807) (hlb : b.length ≤ 9223372036854775807) :
 let q2 := (True ∧ bA #[] = pK (fun (x1 x2 : Int) => x1 + x2) a b); let q3 := (Pt.mk (AV.bytes (AV.str (bif zG a == iZ then zL a else []))) (AV.bytes (AV.str (bif zG a == iZ then yy a else [])))); let q4 := (Pt.d q3); let q5 := (Pt.mk (AV.bytes (AV.str (bif zG b == iZ then zL b else []))) (AV.bytes (AV.str (bif zG b == iZ then yy b else [])))); let q6 := (Pt.d q5); let q1 := (lN a ≤ nX ∧ zZ (zG a != iZ) (j2 ∧ q2 ∧ kI ∧ zG
 a = tQ (fun (x1 x2 : Int) => x1 + x2) a b) (lN b ≤ nX ∧ zZ (zG b != iZ) (j2 ∧ q2 ∧ kI ∧ zG b = tQ (fun (x1 x2 : Int) => x1 + x2) a b) ((ZR (Pt.n q3) = iZ ∧ ZR q4 = iZ ∧ zX q4 ≠ iZ) ∧ (ZR (Pt.n q5) = iZ ∧ ZR q6 = iZ ∧ zX q6 ≠ iZ) ∧ j2 ∧ (True ∧ RB (fun (x1 x2 : Int) => x1 + x2) q3 q5 = pK (fun (x1 x2 : Int) => x1 + x2) a b) ∧ kI ∧ Vj (fun (x1 x2 : Int) => x1 + x2) q3 q5 = tQ (fun (x1 x2 : Int) => x1 +
 x2) a b))); let q9 := (Value.agg #[Value.int .i64 iZ, Value.int .i64 iZ]); let q8 := (fun (i : Nat) => if 0 ≤ i ∧ i < 0 + 2 then zw [AV.i (bif Zy a then zj a else iZ), AV.i (bif Zy a then (cI (zn a)) else iZ)] (i - 0) else Z3 q9 i); let q7 := (Nt.mk (AV.int (q8 0)) (AV.int (q8 1))); let q11 := (fun (i : Nat) => if 0 ≤ i ∧ i < 0 + 2 then zw [AV.i (bif Zy b then zj b else iZ), AV.i (bif Zy b then (cI (zn b)) else iZ)] (i - 0) else Z3 q9 i); let q10 := (Nt.mk (AV.int (q11 0)) (AV.int (q11 1))); let q13 := (Nt.mk (Nt.n
 q7 * Nt.d q10 + Nt.n q10 * Nt.d q7) (Nt.d q7 * Nt.d q10)); let q12 := (Nt.mk (AV.int (aI (Nt.n q13))) (AV.int (aI (Nt.d q13)))); Zv [AV.str a, AV.str b] → lN a ≤ nX ∧ zZ (!Zy a) q1 (lN b ≤ nX ∧ zZ (!Zy b) q1 ((((-99999999 : Int) ≤ Nt.n q7 ∧ Nt.n q7 ≤ (99999999 : Int)) ∧ iZ < Nt.d q7 ∧ Nt.d q7 ≤ (99999999 : Int)) ∧ (((-99999999 : Int) ≤ Nt.n q10 ∧ Nt.n q10 ≤ (99999999 : Int)) ∧ iZ < Nt.d q10 ∧ Nt.d q10 ≤ (99999999 : Int)) ∧ Nt.d q12 ≠ iZ ∧ ((-1000000000000000000 : Int) ≤
 Nt.d q12 ∧ Nt.d q12 ≤ (1000000000000000000 : Int)) ∧ ((-1000000000000000000 : Int) ≤ Nt.n q12 ∧ Nt.n q12 ≤ (1000000000000000000 : Int)) ∧ j2 ∧ (True ∧ xt (Nt.n q12) (Nt.d q12) = pK (fun (x1 x2 : Int) => x1 + x2) a b) ∧ kI ∧ iZ = tQ (fun (x1 x2 : Int) => x1 + x2) a b)) := by
 delta bA nX cI kI j2 lN iZ aI
 dsimp only
 intro hb
 simp only [sS, dS]
 refine ⟨hla, zY.2 ⟨fun c => ?_, fun c => ⟨hlb, zY.2 ⟨fun c2 => ?_, fun c2 => ?_⟩⟩⟩⟩
 rotate_left 2
 ·rw [Bool.not_eq_false'] at c c2
  obtain ⟨q1, q2, q3, q4, q5⟩ := ma (f := fun x1 x2 => x1 + x2) (fun u v => by omega) c c2
  rw [q1, q2, c, c2]
  exact ⟨To c, To c2, q3, q4, q5, rfl, rfl, rfl⟩
 all_goals
  refine ⟨hla, fun h => ⟨rfl, Hh h⟩, fun h0 => ⟨hlb, fun h => ⟨rfl, H3 h0 h⟩, fun h1 => ?_⟩⟩
  obtain ⟨q1, q2⟩ := Iz (f := fun x1 x2 => x1 + x2) h0 h1
  rw [h0, h1]
  exact ⟨VL h0, VL h1, rfl, q1, q2⟩
theorem JK {G : List (Nat × Obj)} (hG : zN G) (a : List UInt8) (b : List UInt8) (hla : a.length ≤ 9223372036854775807) (hlb : b.length ≤ 9223372036854775807) : zU Tryz.prog G 30 [.str a, .str b] (.tup 2 (zw [.str (pK (· + ·) a b), .i (tQ (· + ·) a b)])) :=
 zW (T := ((HI G).plus 102 OG).body Tryz.prog gP) (an := .auto) mixed (zz.body mixed (zz.plus (TZ hG) (I3 hG)) _) (Eq.mp (by kernel_rfl) (LD G a b hla hlb))
theorem Hi {a b : zI} (h : zG a ≠ 0) : [] = pQ a b ∧ zG a = tj a b := by
 have e : tj a b = zG a := by unfold tj; rw [bne_iff_ne.2 h]; rfl
 exact ⟨by unfold pQ; rw [e, beq_eq_false_iff_ne.2 h]; rfl, e.symm⟩
theorem HH {a b : zI} (h0 : zG a = 0) (h : zG b ≠ 0) : [] = pQ a b ∧ zG b = tj a b := by
 have e : tj a b = zG b := by unfold tj; rw [h0, bne_iff_ne.2 h]; rfl
 exact ⟨by unfold pQ; rw [e, beq_eq_false_iff_ne.2 h]; rfl, e.symm⟩
theorem IB {a b : zI} (ha : zG a = 0) (hb : zG b = 0) : Mj ⟨zL a, yy a⟩ ⟨zL b, yy b⟩ = pQ a b ∧ Rb ⟨zL a, yy a⟩ ⟨zL b, yy b⟩ = tj a b := by
 obtain ⟨_, _, a3, a4⟩ := ML ha
 obtain ⟨_, _, b3, b4⟩ := ML hb
 have pa := yN (Zr.1 ha).1
 have pb := yN (Zr.1 hb).1
 have e : Rb ⟨zL a, yy a⟩ ⟨zL b, yy b⟩ = tj a b := by
  unfold Rb tj
  rw [a3, a4, b3, b4, ha, hb]; rfl
 refine ⟨?_, e⟩
 unfold Mj pQ
 rw [e]
 cases tj a b == 0 with
 | false => rfl
 | true =>
  simp only [cond_true]
  rw [a3, a4, b3, b4]
  have hp : (0 : Int) < (zn a : Int) * (zn b : Int) := Int.mul_pos (by omega) (by omega)
  unfold xt
  rw [show zF ((zn a : Int) * (zn b : Int)) 0 = false from Bool.eq_false_iff.2 fun e => by have := (zp _ _).1 e; omega, cond_false, ← Int.natCast_mul, Int.toNat_natCast]
theorem nA {a b : zI} (ha : Zy a = true) (hb : Zy b = true) :
  tj a b = 0 ∧ pQ a b = xt (zj a * zj b) ((zn a : Int) * (zn b : Int)) ∧ (zn a : Int) * (zn b : Int) ≠ 0 ∧
  (-1000000000000000000 ≤ (zn a : Int) * (zn b : Int) ∧ (zn a : Int) * (zn b : Int) ≤ 1000000000000000000) ∧
  (-1000000000000000000 ≤ zj a * zj b ∧ zj a * zj b ≤ 1000000000000000000) := by
 obtain ⟨a1, a2, a3⟩ := yE ha
 obtain ⟨b1, b2, b3⟩ := yE hb
 have pa := yN (Zr.1 a1).1
 have pb := yN (Zr.1 b1).1
 have m1 := Yt (a := zj a) (b := zj b) ⟨by omega, by omega⟩ ⟨by omega, by omega⟩
 have m3 := Yt (a := (zn a : Int)) (b := (zn b : Int)) ⟨by omega, by omega⟩ ⟨by omega, by omega⟩
 have hp : (0 : Int) < (zn a : Int) * (zn b : Int) := Int.mul_pos (by omega) (by omega)
 have e : tj a b = 0 := by
  unfold tj
  rw [a1, b1, (Zo (n := zj a * zj b) (k := 20) (by omega) (by omega) (by omega)).2, (Zo (n := (zn a : Int) * (zn b : Int)) (k := 20) (by omega) (by omega) (by omega)).2]
  rfl
 refine ⟨e, ?_, by omega, ⟨by omega, by omega⟩, ⟨by omega, by omega⟩⟩
 unfold pQ
 rw [e]
 show ZW _ _ = _
 unfold xt
 rw [show zF ((zn a : Int) * (zn b : Int)) 0 = false from Bool.eq_false_iff.2 fun e => by have := (zp _ _).1 e; omega, cond_false, ← Int.natCast_mul, Int.toNat_natCast]
theorem lW (G : List (Nat × Obj)) (a : List UInt8) (b : List UInt8) (hla : a.length ≤ 9223372036854775807) (hlb : b.length ≤ 9223372036854775807) :
 let q2 := (True ∧ bA #[] = pQ a b); let q5 := (Value.agg #[Value.string (ByteArray.mk #[]), Value.string (ByteArray.mk #[])]); let q4 := (fun (i : Nat) => if 0 ≤ i ∧ i < 0 + 2 then zw [AV.str (bif zG a == iZ then zL a else []), AV.str (bif zG a == iZ then yy a else [])] (i - 0) else Z3 q5 i); let q3 := (Pt.mk (AV.bytes (q4 0)) (AV.bytes (q4 1))); let q6 := (Pt.d q3); let q8 := (fun (i : Nat) => if 0 ≤ i ∧ i < 0 + 2 then zw [AV.str (bif zG b == iZ then zL b else []), AV.str (bif zG b == iZ then yy b
 else [])] (i - 0) else Z3 q5 i); let q7 := (Pt.mk (AV.bytes (q8 0)) (AV.bytes (q8 1))); let q9 := (Pt.d q7); let q1 := (lN a ≤ nX ∧ zZ (zG a != iZ) (j2 ∧ q2 ∧ kI ∧ zG a = tj a b) (lN b ≤ nX ∧ zZ (zG b != iZ) (j2 ∧ q2 ∧ kI ∧ zG b = tj a b) ((ZR (Pt.n q3) = iZ ∧ ZR q6 = iZ ∧ zX q6 ≠ iZ) ∧ (ZR (Pt.n q7) = iZ ∧ ZR q9 = iZ ∧ zX q9 ≠ iZ) ∧ 2 = lN [AV.junk,
 AV.junk] ∧ (True ∧ Mj q3 q7 = pQ a b) ∧ kI ∧ Rb q3 q7 = tj a b))); let q12 := (Value.agg #[Value.int .i64 iZ, Value.int .i64 iZ]); let q11 := (fun (i : Nat) => if 0 ≤ i ∧ i < 0 + 2 then zw [AV.i (bif Zy a then zj a else iZ), AV.i (bif Zy a then (cI (zn a)) else iZ)] (i - 0) else Z3 q12 i); let q10 := (Nt.mk (AV.int (q11 0)) (AV.int (q11 1))); let q14 := (fun (i : Nat) => if 0 ≤ i ∧ i < 0 + 2 then zw [AV.i (bif Zy b then zj b else iZ), AV.i (bif Zy b then (cI (zn b)) else iZ)] (i - 0) else Z3 q12
 i); let q13 := (Nt.mk (AV.int (q14 0)) (AV.int (q14 1))); let q16 := (Nt.mk (Nt.n q10 * Nt.n q13) (Nt.d q10 * Nt.d q13)); let q15 := (Nt.mk (AV.int (aI (Nt.n q16))) (AV.int (aI (Nt.d q16)))); Zv [AV.str a, AV.str b] → lN a ≤ nX ∧ zZ (!Zy a) q1 (lN b ≤ nX ∧ zZ (!Zy b) q1 ((((-99999999 : Int) ≤ Nt.n q10 ∧ Nt.n q10 ≤ (99999999 : Int)) ∧ iZ < Nt.d q10 ∧ Nt.d q10 ≤ (99999999 : Int)) ∧ (((-99999999 : Int) ≤ Nt.n q13 ∧ Nt.n q13 ≤ (99999999 : Int)) ∧ iZ < Nt.d q13 ∧ Nt.d q13 ≤ (99999999
 : Int)) ∧ Nt.d q15 ≠ iZ ∧ ((-1000000000000000000 : Int) ≤ Nt.d q15 ∧ Nt.d q15 ≤ (1000000000000000000 : Int)) ∧ ((-1000000000000000000 : Int) ≤ Nt.n q15 ∧ Nt.n q15 ≤ (1000000000000000000 : Int)) ∧ j2 ∧ (True ∧ xt (Nt.n q15) (Nt.d q15) = pQ a b) ∧ kI ∧ iZ = tj a b)) := by
 delta bA nX cI kI j2 lN iZ aI
 dsimp only
 intro hb
 simp only [sS, dS]
 refine ⟨hla, zY.2 ⟨fun c => ?_, fun c => ⟨hlb, zY.2 ⟨fun c2 => ?_, fun c2 => ?_⟩⟩⟩⟩
 rotate_left 2
 ·rw [Bool.not_eq_false'] at c c2
  obtain ⟨q1, q2, q3, q4, q5⟩ := nA c c2
  rw [q1, q2, c, c2]
  exact ⟨To c, To c2, q3, q4, q5, rfl, rfl, rfl⟩
 all_goals
  refine ⟨hla, fun h => ⟨rfl, Hi h⟩, fun h0 => ⟨hlb, fun h => ⟨rfl, HH h0 h⟩, fun h1 => ?_⟩⟩
  obtain ⟨q1, q2⟩ := IB h0 h1
  rw [h0, h1]
  exact ⟨VL h0, VL h1, rfl, q1, q2⟩
theorem J4 {G : List (Nat × Obj)} (hG : zN G) (a : List UInt8) (b : List UInt8) (hla : a.length ≤ 9223372036854775807) (hlb : b.length ≤ 9223372036854775807) : zU Tryz.prog G 40 [.str a, .str b] (.tup 2 (zw [.str (pQ a b), .i (tj a b)])) :=
 zW (T := (HI G).body Tryz.prog gP) (an := .auto) mixed (zz.body mixed (TZ hG) _) (Eq.mp (by kernel_rfl) (lW G a b hla hlb))
end Go.Te
