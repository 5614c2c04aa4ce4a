/- rational: Add, Sub, Mul. -/
import Derived.Test.YtgpbohfbhfbelaaGreatDoorTkIk
set_option linter.unusedSimpArgs false
set_option linter.unusedVariables false
namespace Go.Te
open Go Go.Sx Go.Proofs Go.Ar
set_option maxRecDepth 100000
set_option maxHeartbeats 4000000
def XF (f : Int → Int → Int) (a b : zL) : Int := f (zJ a * (zP b : Int)) (zJ b * (zP a : Int))
def V6 (f : Int → Int → Int) (a b : zL) : Int := bif Y2 a b != 0 then Y2 a b else bif ZU (XF f a b) != 0 then ZU (XF f a b) else ZU ((zP a : Int) * (zP b : Int))
def Re (f : Int → Int → Int) (a b : zL) : zL := bif V6 f a b == 0 then yY (XF f a b) (zP a * zP b) else []
def T2 (a b : zL) : Int := bif zN a != 0 then zN a else bif zN b != 0 then zN b else bif ZU (zJ a * zJ b) != 0 then ZU (zJ a * zJ b) else ZU ((zP a : Int) * (zP b : Int))
def OY (a b : zL) : zL := bif T2 a b == 0 then yY (zJ a * zJ b) (zP a * zP b) else []
noncomputable def fB (G : List (Nat × Obj)) : Tb := (((((Vw G).plus 32 XG).plus 30 vf).plus 98 SH).plus 45 N0).plus 40 Md |>.plus 42 LK
theorem uU {G : List (Nat × Obj)} (hG : zh G) : zZ Tryz.prog (fB G) :=
 zZ.plus (zZ.plus (zZ.plus (zZ.plus (zZ.plus (zZ.plus zq (vX hG)) (zQ.mono tC)) (lK hG)) (zQ.mono Gm)) (zQ.mono Gj)) (gt hG)
def FJ : List (FuncId × Z9) := [(39, .auto), (41, .auto), (46, .auto)]
theorem Ws {a : zL} (h : zN a = 0) : uL ⟨zp a, Zm a⟩ := by
 obtain ⟨a1, a2, a3, a4⟩ := mZ h
 refine ⟨a1, a2, ?_⟩
 rw [a4]
 have := yc (ZJ.1 h).1
 omega
theorem Jc {f : Int → Int → Int} {a b : zL} (ha : zN a = 0) (hb : zN b = 0) : TC f ⟨zp a, Zm a⟩ ⟨zp b, Zm b⟩ = Re f a b ∧ Wy f ⟨zp a, Zm a⟩ ⟨zp b, Zm b⟩ = V6 f a b := by
 obtain ⟨_, _, a3, a4⟩ := mZ ha
 obtain ⟨_, _, b3, b4⟩ := mZ hb
 have pa := yc (ZJ.1 ha).1
 have pb := yc (ZJ.1 hb).1
 have e : Wy f ⟨zp a, Zm a⟩ ⟨zp b, Zm b⟩ = V6 f a b := by
  unfold Wy V6 Y2 XF
  rw [a3, a4, b3, b4, ha, hb]
  simp only [bne_self_eq_false, cond_false]
  cases h1 : ZU (zJ a * (zP b : Int)) != 0 with
  | true => simp only [cond_true, h1]
  | false => simp only [cond_false]
 refine ⟨?_, e⟩
 unfold TC Re
 rw [e]
 cases V6 f a b == 0 with
 | false => rfl
 | true =>
  simp only [cond_true]
  rw [a3, a4, b3, b4]
  have hp : (0 : Int) < (zP a : Int) * (zP b : Int) := Int.mul_pos (by omega) (by omega)
  unfold xR XF
  rw [show zH ((zP a : Int) * (zP b : Int)) 0 = false from Bool.eq_false_iff.2 fun e => by have := (zR _ _).1 e; omega, cond_false, ← Int.natCast_mul, Int.toNat_natCast]
theorem UV {a : zL} (h : Zw a = true) : VU ⟨zJ a, (zP a : Int)⟩ := by
 obtain ⟨h1, h2, h3⟩ := Yf h
 have := yc (ZJ.1 h1).1
 exact ⟨⟨by simp only; omega, by simp only; omega⟩, by simp only; omega, by simp only; omega⟩
theorem QX {f : Int → Int → Int} (hf : ∀ u v, (f u v).natAbs ≤ u.natAbs + v.natAbs) {a b : zL} (ha : Zw a = true) (hb : Zw b = true) :
  V6 f a b = 0 ∧ Re f a b = xR (f (zJ a * (zP b : Int)) (zJ b * (zP a : Int))) ((zP a : Int) * (zP b : Int)) ∧ (zP a : Int) * (zP b : Int) ≠ 0 ∧
  (-1000000000000000000 ≤ (zP a : Int) * (zP b : Int) ∧ (zP a : Int) * (zP b : Int) ≤ 1000000000000000000) ∧
  (-1000000000000000000 ≤ f (zJ a * (zP b : Int)) (zJ b * (zP a : Int)) ∧ f (zJ a * (zP b : Int)) (zJ b * (zP a : Int)) ≤ 1000000000000000000) := by
 obtain ⟨a1, a2, a3⟩ := Yf ha
 obtain ⟨b1, b2, b3⟩ := Yf hb
 have pa := yc (ZJ.1 a1).1
 have pb := yc (ZJ.1 b1).1
 have m1 := y6 (a := zJ a) (b := (zP b : Int)) ⟨by omega, by omega⟩ ⟨by omega, by omega⟩
 have m2 := y6 (a := zJ b) (b := (zP a : Int)) ⟨by omega, by omega⟩ ⟨by omega, by omega⟩
 have m3 := y6 (a := (zP a : Int)) (b := (zP b : Int)) ⟨by omega, by omega⟩ ⟨by omega, by omega⟩
 have hp : (0 : Int) < (zP a : Int) * (zP b : Int) := Int.mul_pos (by omega) (by omega)
 have hN := hf (zJ a * (zP b : Int)) (zJ b * (zP a : Int))
 have eN : XF f a b = f (zJ a * (zP b : Int)) (zJ b * (zP a : Int)) := rfl
 have e : V6 f a b = 0 := by
  unfold V6 Y2
  rw [a1, b1, (ZS (n := zJ a * (zP b : Int)) (k := 20) (by omega) (by omega) (by omega)).2, (ZS (n := zJ b * (zP a : Int)) (k := 20) (by omega) (by omega) (by omega)).2, eN,
   (ZS (n := f (zJ a * (zP b : Int)) (zJ b * (zP a : Int))) (k := 20) (by omega) (by omega) (by omega)).2, (ZS (n := (zP a : Int) * (zP b : Int)) (k := 20) (by omega) (by omega) (by omega)).2]
  rfl
 refine ⟨e, ?_, by omega, ⟨by omega, by omega⟩, ⟨by omega, by omega⟩⟩
 unfold Re
 rw [e]
 show yY (XF f a b) _ = _
 unfold xR
 rw [show zH ((zP a : Int) * (zP b : Int)) 0 = false from Bool.eq_false_iff.2 fun e => by have := (zR _ _).1 e; omega, cond_false, ← Int.natCast_mul, Int.toNat_natCast, eN]
theorem H9 {f : Int → Int → Int} {a b : zL} (h : zN a ≠ 0) : [] = Re f a b ∧ zN a = V6 f a b := by
 have e : V6 f a b = zN a := by
  unfold V6 Y2
  rw [bne_iff_ne.2 h]
  simp only [cond_true]
  rw [bne_iff_ne.2 h]; rfl
 exact ⟨by unfold Re; rw [e, beq_eq_false_iff_ne.2 h]; rfl, e.symm⟩
theorem Gc {f : Int → Int → Int} {a b : zL} (h0 : zN a = 0) (h : zN b ≠ 0) : [] = Re f a b ∧ zN b = V6 f a b := by
 have e : V6 f a b = zN b := by
  unfold V6 Y2
  rw [h0, bne_iff_ne.2 h]
  simp only [bne_self_eq_false, cond_false, cond_true]
  rw [bne_iff_ne.2 h]; rfl
 exact ⟨by unfold Re; rw [e, beq_eq_false_iff_ne.2 h]; rfl, e.symm⟩
theorem jm (G : List (Nat × Obj)) (a : List UInt8) (b : List UInt8) (hla : a.length ≤ 9223372036854775807) (hlb : b.length ≤ 9223372036854775807) :
 let q2 := (True ∧ bA #[] = Re (fun (x1 x2 : Int) => x1 + x2) a b); let q3 := (Pt.mk (AV.bytes (AV.str (bif zN a == iZ then zp a else []))) (AV.bytes (AV.str (bif zN a == iZ then Zm a else [])))); let q4 := (Pt.d q3); let q5 := (Pt.mk (AV.bytes (AV.str (bif zN b == iZ then zp b else []))) (AV.bytes (AV.str (bif zN b == iZ then Zm b else [])))); let q6 := (Pt.d q5); let q1 := (lN a ≤ nX ∧ zY (zN a != iZ) (j2 ∧ q2 ∧ kI ∧ zN
 a = V6 (fun (x1 x2 : Int) => x1 + x2) a b) (lN b ≤ nX ∧ zY (zN b != iZ) (j2 ∧ q2 ∧ kI ∧ zN b = V6 (fun (x1 x2 : Int) => x1 + x2) a b) ((ZX (Pt.n q3) = iZ ∧ ZX q4 = iZ ∧ zV q4 ≠ iZ) ∧ (ZX (Pt.n q5) = iZ ∧ ZX q6 = iZ ∧ zV q6 ≠ iZ) ∧ j2 ∧ (True ∧ TC (fun (x1 x2 : Int) => x1 + x2) q3 q5 = Re (fun (x1 x2 : Int) => x1 + x2) a b) ∧ kI ∧ Wy (fun (x1 x2 : Int) => x1 + x2) q3 q5 = V6 (fun (x1 x2 : Int) => x1 +
 x2) a b))); let q9 := (Value.agg #[Value.int .i64 iZ, Value.int .i64 iZ]); let q8 := (fun (i : Nat) => if 0 ≤ i ∧ i < 0 + 2 then zt [AV.i (bif Zw a then zJ a else iZ), AV.i (bif Zw a then (cI (zP a)) else iZ)] (i - 0) else ZD q9 i); let q7 := (Nt.mk (AV.int (q8 0)) (AV.int (q8 1))); let q11 := (fun (i : Nat) => if 0 ≤ i ∧ i < 0 + 2 then zt [AV.i (bif Zw b then zJ b else iZ), AV.i (bif Zw b then (cI (zP b)) else iZ)] (i - 0) else ZD q9 i); let q10 := (Nt.mk (AV.int (q11 0)) (AV.int (q11 1))); let q13 := (Nt.mk (Nt.n
 q7 * Nt.d q10 + Nt.n q10 * Nt.d q7) (Nt.d q7 * Nt.d q10)); let q12 := (Nt.mk (AV.int (aI (Nt.n q13))) (AV.int (aI (Nt.d q13)))); ZY [AV.str a, AV.str b] → lN a ≤ nX ∧ zY (!Zw a) q1 (lN b ≤ nX ∧ zY (!Zw b) q1 ((((-99999999 : Int) ≤ Nt.n q7 ∧ Nt.n q7 ≤ (99999999 : Int)) ∧ iZ < Nt.d q7 ∧ Nt.d q7 ≤ (99999999 : Int)) ∧ (((-99999999 : Int) ≤ Nt.n q10 ∧ Nt.n q10 ≤ (99999999 : Int)) ∧ iZ < Nt.d q10 ∧ Nt.d q10 ≤ (99999999 : Int)) ∧ Nt.d q12 ≠ iZ ∧ ((-1000000000000000000 : Int) ≤
 Nt.d q12 ∧ Nt.d q12 ≤ (1000000000000000000 : Int)) ∧ ((-1000000000000000000 : Int) ≤ Nt.n q12 ∧ Nt.n q12 ≤ (1000000000000000000 : Int)) ∧ j2 ∧ (True ∧ xR (Nt.n q12) (Nt.d q12) = Re (fun (x1 x2 : Int) => x1 + x2) a b) ∧ kI ∧ iZ = V6 (fun (x1 x2 : Int) => x1 + x2) a b)) := by
 delta bA nX cI kI j2 lN iZ aI
 dsimp only
 intro hb
 simp only [sS, dS]
 refine ⟨hla, zv.2 ⟨fun c => ?_, fun c => ⟨hlb, zv.2 ⟨fun c2 => ?_, fun c2 => ?_⟩⟩⟩⟩
 rotate_left 2
 ·rw [Bool.not_eq_false'] at c c2
  obtain ⟨q1, q2, q3, q4, q5⟩ := QX (f := fun x1 x2 => x1 + x2) (fun u v => by omega) c c2
  rw [q1, q2, c, c2]
  exact ⟨UV c, UV c2, q3, q4, q5, rfl, rfl, rfl⟩
 all_goals
  refine ⟨hla, fun h => ⟨rfl, H9 h⟩, fun h0 => ⟨hlb, fun h => ⟨rfl, Gc h0 h⟩, fun h1 => ?_⟩⟩
  obtain ⟨q1, q2⟩ := Jc (f := fun x1 x2 => x1 + x2) h0 h1
  rw [h0, h1]
  exact ⟨Ws h0, Ws h1, rfl, q1, q2⟩
theorem Hl {G : List (Nat × Obj)} (hG : zh G) (a : List UInt8) (b : List UInt8) (hla : a.length ≤ 9223372036854775807) (hlb : b.length ≤ 9223372036854775807) : zT Tryz.prog G 19 [.str a, .str b] (.tup 2 (zt [.str (Re (· + ·) a b), .i (V6 (· + ·) a b)])) :=
 zU (T := ((fB G).plus 105 M2).body Tryz.prog FJ) (an := .auto) mixed (zZ.body mixed (zZ.plus (uU hG) (GB hG)) _) (Eq.mp (by kernel_rfl) (jm G a b hla hlb))
theorem f8 {a b : zL} (h : zN a ≠ 0) : [] = OY a b ∧ zN a = T2 a b := by
 have e : T2 a b = zN a := by unfold T2; rw [bne_iff_ne.2 h]; rfl
 exact ⟨by unfold OY; rw [e, beq_eq_false_iff_ne.2 h]; rfl, e.symm⟩
theorem Fu {a b : zL} (h0 : zN a = 0) (h : zN b ≠ 0) : [] = OY a b ∧ zN b = T2 a b := by
 have e : T2 a b = zN b := by unfold T2; rw [h0, bne_iff_ne.2 h]; rfl
 exact ⟨by unfold OY; rw [e, beq_eq_false_iff_ne.2 h]; rfl, e.symm⟩
theorem gU {a b : zL} (ha : zN a = 0) (hb : zN b = 0) : kW ⟨zp a, Zm a⟩ ⟨zp b, Zm b⟩ = OY a b ∧ QL ⟨zp a, Zm a⟩ ⟨zp b, Zm b⟩ = T2 a b := by
 obtain ⟨_, _, a3, a4⟩ := mZ ha
 obtain ⟨_, _, b3, b4⟩ := mZ hb
 have pa := yc (ZJ.1 ha).1
 have pb := yc (ZJ.1 hb).1
 have e : QL ⟨zp a, Zm a⟩ ⟨zp b, Zm b⟩ = T2 a b := by
  unfold QL T2
  rw [a3, a4, b3, b4, ha, hb]; rfl
 refine ⟨?_, e⟩
 unfold kW OY
 rw [e]
 cases T2 a b == 0 with
 | false => rfl
 | true =>
  simp only [cond_true]
  rw [a3, a4, b3, b4]
  have hp : (0 : Int) < (zP a : Int) * (zP b : Int) := Int.mul_pos (by omega) (by omega)
  unfold xR
  rw [show zH ((zP a : Int) * (zP b : Int)) 0 = false from Bool.eq_false_iff.2 fun e => by have := (zR _ _).1 e; omega, cond_false, ← Int.natCast_mul, Int.toNat_natCast]
theorem mW {a b : zL} (ha : Zw a = true) (hb : Zw b = true) :
  T2 a b = 0 ∧ OY a b = xR (zJ a * zJ b) ((zP a : Int) * (zP b : Int)) ∧ (zP a : Int) * (zP b : Int) ≠ 0 ∧
  (-1000000000000000000 ≤ (zP a : Int) * (zP b : Int) ∧ (zP a : Int) * (zP b : Int) ≤ 1000000000000000000) ∧
  (-1000000000000000000 ≤ zJ a * zJ b ∧ zJ a * zJ b ≤ 1000000000000000000) := by
 obtain ⟨a1, a2, a3⟩ := Yf ha
 obtain ⟨b1, b2, b3⟩ := Yf hb
 have pa := yc (ZJ.1 a1).1
 have pb := yc (ZJ.1 b1).1
 have m1 := y6 (a := zJ a) (b := zJ b) ⟨by omega, by omega⟩ ⟨by omega, by omega⟩
 have m3 := y6 (a := (zP a : Int)) (b := (zP b : Int)) ⟨by omega, by omega⟩ ⟨by omega, by omega⟩
 have hp : (0 : Int) < (zP a : Int) * (zP b : Int) := Int.mul_pos (by omega) (by omega)
 have e : T2 a b = 0 := by
  unfold T2
  rw [a1, b1, (ZS (n := zJ a * zJ b) (k := 20) (by omega) (by omega) (by omega)).2, (ZS (n := (zP a : Int) * (zP b : Int)) (k := 20) (by omega) (by omega) (by omega)).2]
  rfl
 refine ⟨e, ?_, by omega, ⟨by omega, by omega⟩, ⟨by omega, by omega⟩⟩
 unfold OY
 rw [e]
 show yY _ _ = _
 unfold xR
 rw [show zH ((zP a : Int) * (zP b : Int)) 0 = false from Bool.eq_false_iff.2 fun e => by have := (zR _ _).1 e; omega, cond_false, ← Int.natCast_mul, Int.toNat_natCast]
theorem j6 (G : List (Nat × Obj)) (a : List UInt8) (b : List UInt8) (hla : a.length ≤ 9223372036854775807) (hlb : b.length ≤ 9223372036854775807) :
 let q2 := (True ∧ bA #[] = OY a b); let q5 := (Value.agg #[Value.string (ByteArray.mk #[]), Value.string (ByteArray.mk #[])]); let q4 := (fun (i : Nat) => if 0 ≤ i ∧ i < 0 + 2 then zt [AV.str (bif zN a == iZ then zp a else []), AV.str (bif zN a == iZ then Zm a else [])] (i - 0) else ZD q5 i); let q3 := (Pt.mk (AV.bytes (q4 0)) (AV.bytes (q4 1))); let q6 := (Pt.d q3); let q8 := (fun (i : Nat) => if 0 ≤ i ∧ i < 0 + 2 then zt [AV.str (bif zN b == iZ then zp b else []), AV.str (bif zN b == iZ then Zm b
 else [])] (i - 0) else ZD q5 i); let q7 := (Pt.mk (AV.bytes (q8 0)) (AV.bytes (q8 1))); let q9 := (Pt.d q7); let q1 := (lN a ≤ nX ∧ zY (zN a != iZ) (j2 ∧ q2 ∧ kI ∧ zN a = T2 a b) (lN b ≤ nX ∧ zY (zN b != iZ) (j2 ∧ q2 ∧ kI ∧ zN b = T2 a b) ((ZX (Pt.n q3) = iZ ∧ ZX q6 = iZ ∧ zV q6 ≠ iZ) ∧ (ZX (Pt.n q7) = iZ ∧ ZX q9 = iZ ∧ zV q9 ≠ iZ) ∧ 2 = lN [AV.junk,
 AV.junk] ∧ (True ∧ kW q3 q7 = OY a b) ∧ kI ∧ QL q3 q7 = T2 a b))); let q12 := (Value.agg #[Value.int .i64 iZ, Value.int .i64 iZ]); let q11 := (fun (i : Nat) => if 0 ≤ i ∧ i < 0 + 2 then zt [AV.i (bif Zw a then zJ a else iZ), AV.i (bif Zw a then (cI (zP a)) else iZ)] (i - 0) else ZD q12 i); let q10 := (Nt.mk (AV.int (q11 0)) (AV.int (q11 1))); let q14 := (fun (i : Nat) => if 0 ≤ i ∧ i < 0 + 2 then zt [AV.i (bif Zw b then zJ b else iZ), AV.i (bif Zw b then (cI (zP b)) else iZ)] (i - 0) else ZD q12
 i); let q13 := (Nt.mk (AV.int (q14 0)) (AV.int (q14 1))); let q16 := (Nt.mk (Nt.n q10 * Nt.n q13) (Nt.d q10 * Nt.d q13)); let q15 := (Nt.mk (AV.int (aI (Nt.n q16))) (AV.int (aI (Nt.d q16)))); ZY [AV.str a, AV.str b] → lN a ≤ nX ∧ zY (!Zw a) q1 (lN b ≤ nX ∧ zY (!Zw b) q1 ((((-99999999 : Int) ≤ Nt.n q10 ∧ Nt.n q10 ≤ (99999999 : Int)) ∧ iZ < Nt.d q10 ∧ Nt.d q10 ≤ (99999999 : Int)) ∧ (((-99999999 : Int) ≤ Nt.n q13 ∧ Nt.n q13 ≤ (99999999 : Int)) ∧ iZ < Nt.d q13 ∧ Nt.d q13 ≤ (99999999
 : Int)) ∧ Nt.d q15 ≠ iZ ∧ ((-1000000000000000000 : Int) ≤ Nt.d q15 ∧ Nt.d q15 ≤ (1000000000000000000 : Int)) ∧ ((-1000000000000000000 : Int) ≤ Nt.n q15 ∧ Nt.n q15 ≤ (1000000000000000000 : Int)) ∧ j2 ∧ (True ∧ xR (Nt.n q15) (Nt.d q15) = OY a b) ∧ kI ∧ iZ = T2 a b)) := by
 delta bA nX cI kI j2 lN iZ aI
 dsimp only
 intro hb
 simp only [sS, dS]
 refine ⟨hla, zv.2 ⟨fun c => ?_, fun c => ⟨hlb, zv.2 ⟨fun c2 => ?_, fun c2 => ?_⟩⟩⟩⟩
 rotate_left 2
 ·rw [Bool.not_eq_false'] at c c2
  obtain ⟨q1, q2, q3, q4, q5⟩ := mW c c2
  rw [q1, q2, c, c2]
  exact ⟨UV c, UV c2, q3, q4, q5, rfl, rfl, rfl⟩
 all_goals
  refine ⟨hla, fun h => ⟨rfl, f8 h⟩, fun h0 => ⟨hlb, fun h => ⟨rfl, Fu h0 h⟩, fun h1 => ?_⟩⟩
  obtain ⟨q1, q2⟩ := gU h0 h1
  rw [h0, h1]
  exact ⟨Ws h0, Ws h1, rfl, q1, q2⟩
theorem HO {G : List (Nat × Obj)} (hG : zh G) (a : List UInt8) (b : List UInt8) (hla : a.length ≤ 9223372036854775807) (hlb : b.length ≤ 9223372036854775807) : zT Tryz.prog G 18 [.str a, .str b] (.tup 2 (zt [.str (OY a b), .i (T2 a b)])) :=
 zU (T := (fB G).body Tryz.prog FJ) (an := .auto) mixed (zZ.body mixed (uU hG) _) (Eq.mp (by kernel_rfl) (j6 G a b hla hlb))
end Go.Te
