/- rational: Add, Sub, Mul. -/
import Derived.Test.YthbpnknhfokadaaGreatDoorThIk
set_option linter.unusedSimpArgs false
set_option linter.unusedVariables false
namespace Go.Te
open Go Go.Sx Go.Proofs Go.Ar
set_option maxRecDepth 100000
set_option maxHeartbeats 4000000
def ki (f : Int → Int → Int) (a b : zj) : Int := f (zM a * (zP b : Int)) (zM b * (zP a : Int))
def Ub (f : Int → Int → Int) (a b : zj) : Int := bif vM a b != 0 then vM a b else bif ZN (ki f a b) != 0 then ZN (ki f a b) else ZN ((zP a : Int) * (zP b : Int))
def Qi (f : Int → Int → Int) (a b : zj) : zj := bif Ub f a b == 0 then ZX (ki f a b) (zP a * zP b) else []
def tY (a b : zj) : Int := bif zh a != 0 then zh a else bif zh b != 0 then zh b else bif ZN (zM a * zM b) != 0 then ZN (zM a * zM b) else ZN ((zP a : Int) * (zP b : Int))
def pz (a b : zj) : zj := bif tY a b == 0 then ZX (zM a * zM b) (zP a * zP b) else []
noncomputable def Io (G : List (Nat × Obj)) : Tb := (((((Wm G).plus 57 X9).plus 55 Vt).plus 101 T2).plus 61 mt).plus 76 Ob |>.plus 77 nr
theorem Ts {G : List (Nat × Obj)} (hG : zo G) : zz Tryz.prog (Io G) :=
 zz.plus (zz.plus (zz.plus (zz.plus (zz.plus (zz.plus zQ (vT hG)) (zp.mono T8)) (Nb hG)) (zp.mono Jd)) (zp.mono JF)) (J1 hG)
def HP : List (FuncId × yW) := [(60, .auto), (62, .auto), (63, .auto)]
theorem VZ {a : zj} (h : zh a = 0) : tX ⟨zO a, yz a⟩ := by
 obtain ⟨a1, a2, a3, a4⟩ := mi h
 refine ⟨a1, a2, ?_⟩
 rw [a4]
 have := yo (ZT.1 h).1
 omega
theorem Jm {f : Int → Int → Int} {a b : zj} (ha : zh a = 0) (hb : zh b = 0) : RU f ⟨zO a, yz a⟩ ⟨zO b, yz b⟩ = Qi f a b ∧ Vz f ⟨zO a, yz a⟩ ⟨zO b, yz b⟩ = Ub f a b := by
 obtain ⟨_, _, a3, a4⟩ := mi ha
 obtain ⟨_, _, b3, b4⟩ := mi hb
 have pa := yo (ZT.1 ha).1
 have pb := yo (ZT.1 hb).1
 have e : Vz f ⟨zO a, yz a⟩ ⟨zO b, yz b⟩ = Ub f a b := by
  unfold Vz Ub vM ki
  rw [a3, a4, b3, b4, ha, hb]
  simp only [bne_self_eq_false, cond_false]
  cases h1 : ZN (zM a * (zP b : Int)) != 0 with
  | true => simp only [cond_true, h1]
  | false => simp only [cond_false]
 refine ⟨?_, e⟩
 unfold RU Qi
 rw [e]
 cases Ub f a b == 0 with
 | false => rfl
 | true =>
  simp only [cond_true]
  rw [a3, a4, b3, b4]
  have hp : (0 : Int) < (zP a : Int) * (zP b : Int) := Int.mul_pos (by omega) (by omega)
  unfold Y5 ki
  rw [show zg ((zP a : Int) * (zP b : Int)) 0 = false from Bool.eq_false_iff.2 fun e => by have := (zq _ _).1 e; omega, cond_false, ← Int.natCast_mul, Int.toNat_natCast]
theorem Tr {a : zj} (h : z8 a = true) : UC ⟨zM a, (zP a : Int)⟩ := by
 obtain ⟨h1, h2, h3⟩ := yj h
 have := yo (ZT.1 h1).1
 exact ⟨⟨by simp only; omega, by simp only; omega⟩, by simp only; omega, by simp only; omega⟩
theorem O3 {f : Int → Int → Int} (hf : ∀ u v, (f u v).natAbs ≤ u.natAbs + v.natAbs) {a b : zj} (ha : z8 a = true) (hb : z8 b = true) :
  Ub f a b = 0 ∧ Qi f a b = Y5 (f (zM a * (zP b : Int)) (zM b * (zP a : Int))) ((zP a : Int) * (zP b : Int)) ∧ (zP a : Int) * (zP b : Int) ≠ 0 ∧
  (-1000000000000000000 ≤ (zP a : Int) * (zP b : Int) ∧ (zP a : Int) * (zP b : Int) ≤ 1000000000000000000) ∧
  (-1000000000000000000 ≤ f (zM a * (zP b : Int)) (zM b * (zP a : Int)) ∧ f (zM a * (zP b : Int)) (zM b * (zP a : Int)) ≤ 1000000000000000000) := by
 obtain ⟨a1, a2, a3⟩ := yj ha
 obtain ⟨b1, b2, b3⟩ := yj hb
 have pa := yo (ZT.1 a1).1
 have pb := yo (ZT.1 b1).1
 have m1 := YU (a := zM a) (b := (zP b : Int)) ⟨by omega, by omega⟩ ⟨by omega, by omega⟩
 have m2 := YU (a := zM b) (b := (zP a : Int)) ⟨by omega, by omega⟩ ⟨by omega, by omega⟩
 have m3 := YU (a := (zP a : Int)) (b := (zP b : Int)) ⟨by omega, by omega⟩ ⟨by omega, by omega⟩
 have hp : (0 : Int) < (zP a : Int) * (zP b : Int) := Int.mul_pos (by omega) (by omega)
 have hN := hf (zM a * (zP b : Int)) (zM b * (zP a : Int))
 have eN : ki f a b = f (zM a * (zP b : Int)) (zM b * (zP a : Int)) := rfl
 have e : Ub f a b = 0 := by
  unfold Ub vM
  rw [a1, b1, (Zq (n := zM a * (zP b : Int)) (k := 20) (by omega) (by omega) (by omega)).2, (Zq (n := zM b * (zP a : Int)) (k := 20) (by omega) (by omega) (by omega)).2, eN,
   (Zq (n := f (zM a * (zP b : Int)) (zM b * (zP a : Int))) (k := 20) (by omega) (by omega) (by omega)).2, (Zq (n := (zP a : Int) * (zP b : Int)) (k := 20) (by omega) (by omega) (by omega)).2]
  rfl
 refine ⟨e, ?_, by omega, ⟨by omega, by omega⟩, ⟨by omega, by omega⟩⟩
 unfold Qi
 rw [e]
 show ZX (ki f a b) _ = _
 unfold Y5
 rw [show zg ((zP a : Int) * (zP b : Int)) 0 = false from Bool.eq_false_iff.2 fun e => by have := (zq _ _).1 e; omega, cond_false, ← Int.natCast_mul, Int.toNat_natCast, eN]
theorem IS {f : Int → Int → Int} {a b : zj} (h : zh a ≠ 0) : [] = Qi f a b ∧ zh a = Ub f a b := by
 have e : Ub f a b = zh a := by
  unfold Ub vM
  rw [bne_iff_ne.2 h]
  simp only [cond_true]
  rw [bne_iff_ne.2 h]; rfl
 exact ⟨by unfold Qi; rw [e, beq_eq_false_iff_ne.2 h]; rfl, e.symm⟩
theorem IF {f : Int → Int → Int} {a b : zj} (h0 : zh a = 0) (h : zh b ≠ 0) : [] = Qi f a b ∧ zh b = Ub f a b := by
 have e : Ub f a b = zh b := by
  unfold Ub vM
  rw [h0, bne_iff_ne.2 h]
  simp only [bne_self_eq_false, cond_false, cond_true]
  rw [bne_iff_ne.2 h]; rfl
 exact ⟨by unfold Qi; rw [e, beq_eq_false_iff_ne.2 h]; rfl, e.symm⟩
theorem me (G : List (Nat × Obj)) (a : List UInt8) (b : List UInt8) (hla : a.length ≤ 9223372036854775807) (hlb : b.length ≤ 9223372036854775807) :
 let q2 := (True ∧ bA #[] = Qi (fun (x1 x2 : Int) => x1 + x2) a b); let q3 := (Pt.mk (AV.bytes (AV.str (bif zh a == iZ then zO a else []))) (AV.bytes (AV.str (bif zh a == iZ then yz a else [])))); let q4 := (Pt.d q3); let q5 := (Pt.mk (AV.bytes (AV.str (bif zh b == iZ then zO b else []))) (AV.bytes (AV.str (bif zh b == iZ then yz b else [])))); let q6 := (Pt.d q5); let q1 := (lN a ≤ nX ∧ zZ (zh a != iZ) (j2 ∧ q2 ∧ kI ∧ zh
 a = Ub (fun (x1 x2 : Int) => x1 + x2) a b) (lN b ≤ nX ∧ zZ (zh b != iZ) (j2 ∧ q2 ∧ kI ∧ zh b = Ub (fun (x1 x2 : Int) => x1 + x2) a b) ((Zs (Pt.n q3) = iZ ∧ Zs q4 = iZ ∧ zY q4 ≠ iZ) ∧ (Zs (Pt.n q5) = iZ ∧ Zs q6 = iZ ∧ zY q6 ≠ iZ) ∧ j2 ∧ (True ∧ RU (fun (x1 x2 : Int) => x1 + x2) q3 q5 = Qi (fun (x1 x2 : Int) => x1 + x2) a b) ∧ kI ∧ Vz (fun (x1 x2 : Int) => x1 + x2) q3 q5 = Ub (fun (x1 x2 : Int) => x1 +
 x2) a b))); let q9 := (Value.agg #[Value.int .i64 iZ, Value.int .i64 iZ]); let q8 := (fun (i : Nat) => if 0 ≤ i ∧ i < 0 + 2 then zw [AV.i (bif z8 a then zM a else iZ), AV.i (bif z8 a then (cI (zP a)) else iZ)] (i - 0) else Z0 q9 i); let q7 := (Nt.mk (AV.int (q8 0)) (AV.int (q8 1))); let q11 := (fun (i : Nat) => if 0 ≤ i ∧ i < 0 + 2 then zw [AV.i (bif z8 b then zM b else iZ), AV.i (bif z8 b then (cI (zP b)) else iZ)] (i - 0) else Z0 q9 i); let q10 := (Nt.mk (AV.int (q11 0)) (AV.int (q11 1))); let q13 := (Nt.mk (Nt.n
 q7 * Nt.d q10 + Nt.n q10 * Nt.d q7) (Nt.d q7 * Nt.d q10)); let q12 := (Nt.mk (AV.int (aI (Nt.n q13))) (AV.int (aI (Nt.d q13)))); ZV [AV.str a, AV.str b] → lN a ≤ nX ∧ zZ (!z8 a) q1 (lN b ≤ nX ∧ zZ (!z8 b) q1 ((((-99999999 : Int) ≤ Nt.n q7 ∧ Nt.n q7 ≤ (99999999 : Int)) ∧ iZ < Nt.d q7 ∧ Nt.d q7 ≤ (99999999 : Int)) ∧ (((-99999999 : Int) ≤ Nt.n q10 ∧ Nt.n q10 ≤ (99999999 : Int)) ∧ iZ < Nt.d q10 ∧ Nt.d q10 ≤ (99999999 : Int)) ∧ Nt.d q12 ≠ iZ ∧ ((-1000000000000000000 : Int) ≤
 Nt.d q12 ∧ Nt.d q12 ≤ (1000000000000000000 : Int)) ∧ ((-1000000000000000000 : Int) ≤ Nt.n q12 ∧ Nt.n q12 ≤ (1000000000000000000 : Int)) ∧ j2 ∧ (True ∧ Y5 (Nt.n q12) (Nt.d q12) = Qi (fun (x1 x2 : Int) => x1 + x2) a b) ∧ kI ∧ iZ = Ub (fun (x1 x2 : Int) => x1 + x2) a b)) := by
 delta bA nX cI kI j2 lN iZ aI
 dsimp only
 intro hb
 simp only [sS, dS]
 refine ⟨hla, zX.2 ⟨fun c => ?_, fun c => ⟨hlb, zX.2 ⟨fun c2 => ?_, fun c2 => ?_⟩⟩⟩⟩
 rotate_left 2
 ·rw [Bool.not_eq_false'] at c c2
  obtain ⟨q1, q2, q3, q4, q5⟩ := O3 (f := fun x1 x2 => x1 + x2) (fun u v => by omega) c c2
  rw [q1, q2, c, c2]
  exact ⟨Tr c, Tr c2, q3, q4, q5, rfl, rfl, rfl⟩
 all_goals
  refine ⟨hla, fun h => ⟨rfl, IS h⟩, fun h0 => ⟨hlb, fun h => ⟨rfl, IF h0 h⟩, fun h1 => ?_⟩⟩
  obtain ⟨q1, q2⟩ := Jm (f := fun x1 x2 => x1 + x2) h0 h1
  rw [h0, h1]
  exact ⟨VZ h0, VZ h1, rfl, q1, q2⟩
theorem Jy {G : List (Nat × Obj)} (hG : zo G) (a : List UInt8) (b : List UInt8) (hla : a.length ≤ 9223372036854775807) (hlb : b.length ≤ 9223372036854775807) : zt Tryz.prog G 30 [.str a, .str b] (.tup 2 (zw [.str (Qi (· + ·) a b), .i (Ub (· + ·) a b)])) :=
 zW (T := ((Io G).plus 102 nZ).body Tryz.prog HP) (an := .auto) mixed (zz.body mixed (zz.plus (Ts hG) (J6 hG)) _) (Eq.mp (by kernel_rfl) (me G a b hla hlb))
theorem IN {a b : zj} (h : zh a ≠ 0) : [] = pz a b ∧ zh a = tY a b := by
 have e : tY a b = zh a := by unfold tY; rw [bne_iff_ne.2 h]; rfl
 exact ⟨by unfold pz; rw [e, beq_eq_false_iff_ne.2 h]; rfl, e.symm⟩
theorem Ii {a b : zj} (h0 : zh a = 0) (h : zh b ≠ 0) : [] = pz a b ∧ zh b = tY a b := by
 have e : tY a b = zh b := by unfold tY; rw [h0, bne_iff_ne.2 h]; rfl
 exact ⟨by unfold pz; rw [e, beq_eq_false_iff_ne.2 h]; rfl, e.symm⟩
theorem ik {a b : zj} (ha : zh a = 0) (hb : zh b = 0) : mJ ⟨zO a, yz a⟩ ⟨zO b, yz b⟩ = pz a b ∧ Rs ⟨zO a, yz a⟩ ⟨zO b, yz b⟩ = tY a b := by
 obtain ⟨_, _, a3, a4⟩ := mi ha
 obtain ⟨_, _, b3, b4⟩ := mi hb
 have pa := yo (ZT.1 ha).1
 have pb := yo (ZT.1 hb).1
 have e : Rs ⟨zO a, yz a⟩ ⟨zO b, yz b⟩ = tY a b := by
  unfold Rs tY
  rw [a3, a4, b3, b4, ha, hb]; rfl
 refine ⟨?_, e⟩
 unfold mJ pz
 rw [e]
 cases tY a b == 0 with
 | false => rfl
 | true =>
  simp only [cond_true]
  rw [a3, a4, b3, b4]
  have hp : (0 : Int) < (zP a : Int) * (zP b : Int) := Int.mul_pos (by omega) (by omega)
  unfold Y5
  rw [show zg ((zP a : Int) * (zP b : Int)) 0 = false from Bool.eq_false_iff.2 fun e => by have := (zq _ _).1 e; omega, cond_false, ← Int.natCast_mul, Int.toNat_natCast]
theorem O7 {a b : zj} (ha : z8 a = true) (hb : z8 b = true) :
  tY a b = 0 ∧ pz a b = Y5 (zM a * zM b) ((zP a : Int) * (zP b : Int)) ∧ (zP a : Int) * (zP b : Int) ≠ 0 ∧
  (-1000000000000000000 ≤ (zP a : Int) * (zP b : Int) ∧ (zP a : Int) * (zP b : Int) ≤ 1000000000000000000) ∧
  (-1000000000000000000 ≤ zM a * zM b ∧ zM a * zM b ≤ 1000000000000000000) := by
 obtain ⟨a1, a2, a3⟩ := yj ha
 obtain ⟨b1, b2, b3⟩ := yj hb
 have pa := yo (ZT.1 a1).1
 have pb := yo (ZT.1 b1).1
 have m1 := YU (a := zM a) (b := zM b) ⟨by omega, by omega⟩ ⟨by omega, by omega⟩
 have m3 := YU (a := (zP a : Int)) (b := (zP b : Int)) ⟨by omega, by omega⟩ ⟨by omega, by omega⟩
 have hp : (0 : Int) < (zP a : Int) * (zP b : Int) := Int.mul_pos (by omega) (by omega)
 have e : tY a b = 0 := by
  unfold tY
  rw [a1, b1, (Zq (n := zM a * zM b) (k := 20) (by omega) (by omega) (by omega)).2, (Zq (n := (zP a : Int) * (zP b : Int)) (k := 20) (by omega) (by omega) (by omega)).2]
  rfl
 refine ⟨e, ?_, by omega, ⟨by omega, by omega⟩, ⟨by omega, by omega⟩⟩
 unfold pz
 rw [e]
 show ZX _ _ = _
 unfold Y5
 rw [show zg ((zP a : Int) * (zP b : Int)) 0 = false from Bool.eq_false_iff.2 fun e => by have := (zq _ _).1 e; omega, cond_false, ← Int.natCast_mul, Int.toNat_natCast]
theorem LZ (G : List (Nat × Obj)) (a : List UInt8) (b : List UInt8) (hla : a.length ≤ 9223372036854775807) (hlb : b.length ≤ 9223372036854775807) :
 let q2 := (True ∧ bA #[] = pz a b); let q5 := (Value.agg #[Value.string (ByteArray.mk #[]), Value.string (ByteArray.mk #[])]); let q4 := (fun (i : Nat) => if 0 ≤ i ∧ i < 0 + 2 then zw [AV.str (bif zh a == iZ then zO a else []), AV.str (bif zh a == iZ then yz a else [])] (i - 0) else Z0 q5 i); let q3 := (Pt.mk (AV.bytes (q4 0)) (AV.bytes (q4 1))); let q6 := (Pt.d q3); let q8 := (fun (i : Nat) => if 0 ≤ i ∧ i < 0 + 2 then zw [AV.str (bif zh b == iZ then zO b else []), AV.str (bif zh b == iZ then yz b
 else [])] (i - 0) else Z0 q5 i); let q7 := (Pt.mk (AV.bytes (q8 0)) (AV.bytes (q8 1))); let q9 := (Pt.d q7); let q1 := (lN a ≤ nX ∧ zZ (zh a != iZ) (j2 ∧ q2 ∧ kI ∧ zh a = tY a b) (lN b ≤ nX ∧ zZ (zh b != iZ) (j2 ∧ q2 ∧ kI ∧ zh b = tY a b) ((Zs (Pt.n q3) = iZ ∧ Zs q6 = iZ ∧ zY q6 ≠ iZ) ∧ (Zs (Pt.n q7) = iZ ∧ Zs q9 = iZ ∧ zY q9 ≠ iZ) ∧ 2 = lN [AV.junk,
 AV.junk] ∧ (True ∧ mJ q3 q7 = pz a b) ∧ kI ∧ Rs q3 q7 = tY a b))); let q12 := (Value.agg #[Value.int .i64 iZ, Value.int .i64 iZ]); let q11 := (fun (i : Nat) => if 0 ≤ i ∧ i < 0 + 2 then zw [AV.i (bif z8 a then zM a else iZ), AV.i (bif z8 a then (cI (zP a)) else iZ)] (i - 0) else Z0 q12 i); let q10 := (Nt.mk (AV.int (q11 0)) (AV.int (q11 1))); let q14 := (fun (i : Nat) => if 0 ≤ i ∧ i < 0 + 2 then zw [AV.i (bif z8 b then zM b else iZ), AV.i (bif z8 b then (cI (zP b)) else iZ)] (i - 0) else Z0 q12
 i); let q13 := (Nt.mk (AV.int (q14 0)) (AV.int (q14 1))); let q16 := (Nt.mk (Nt.n q10 * Nt.n q13) (Nt.d q10 * Nt.d q13)); let q15 := (Nt.mk (AV.int (aI (Nt.n q16))) (AV.int (aI (Nt.d q16)))); ZV [AV.str a, AV.str b] → lN a ≤ nX ∧ zZ (!z8 a) q1 (lN b ≤ nX ∧ zZ (!z8 b) q1 ((((-99999999 : Int) ≤ Nt.n q10 ∧ Nt.n q10 ≤ (99999999 : Int)) ∧ iZ < Nt.d q10 ∧ Nt.d q10 ≤ (99999999 : Int)) ∧ (((-99999999 : Int) ≤ Nt.n q13 ∧ Nt.n q13 ≤ (99999999 : Int)) ∧ iZ < Nt.d q13 ∧ Nt.d q13 ≤ (99999999
 : Int)) ∧ Nt.d q15 ≠ iZ ∧ ((-1000000000000000000 : Int) ≤ Nt.d q15 ∧ Nt.d q15 ≤ (1000000000000000000 : Int)) ∧ ((-1000000000000000000 : Int) ≤ Nt.n q15 ∧ Nt.n q15 ≤ (1000000000000000000 : Int)) ∧ j2 ∧ (True ∧ Y5 (Nt.n q15) (Nt.d q15) = pz a b) ∧ kI ∧ iZ = tY a b)) := by
 delta bA nX cI kI j2 lN iZ aI
 dsimp only
 intro hb
 simp only [sS, dS]
 refine ⟨hla, zX.2 ⟨fun c => ?_, fun c => ⟨hlb, zX.2 ⟨fun c2 => ?_, fun c2 => ?_⟩⟩⟩⟩
 rotate_left 2
 ·rw [Bool.not_eq_false'] at c c2
  obtain ⟨q1, q2, q3, q4, q5⟩ := O7 c c2
  rw [q1, q2, c, c2]
  exact ⟨Tr c, Tr c2, q3, q4, q5, rfl, rfl, rfl⟩
 all_goals
  refine ⟨hla, fun h => ⟨rfl, IN h⟩, fun h0 => ⟨hlb, fun h => ⟨rfl, Ii h0 h⟩, fun h1 => ?_⟩⟩
  obtain ⟨q1, q2⟩ := ik h0 h1
  rw [h0, h1]
  exact ⟨VZ h0, VZ h1, rfl, q1, q2⟩
theorem Kb {G : List (Nat × Obj)} (hG : zo G) (a : List UInt8) (b : List UInt8) (hla : a.length ≤ 9223372036854775807) (hlb : b.length ≤ 9223372036854775807) : zt Tryz.prog G 40 [.str a, .str b] (.tup 2 (zw [.str (pz a b), .i (tY a b)])) :=
 zW (T := (Io G).body Tryz.prog HP) (an := .auto) mixed (zz.body mixed (Ts hG) _) (Eq.mp (by kernel_rfl) (LZ G a b hla hlb))
end Go.Te
