/- rational: Sub, Floor. -/
import Derived.Test.YtgpbohfbhfbelaaGreatDoorTkQa
import Derived.Test.YtgpbohfbhfbelaaGreatDoorArAH
import Derived.Test.YtgpbohfbhfbelaaGreatDoorTkQi
set_option linter.unusedSimpArgs false
set_option linter.unusedVariables false
namespace Go.Te
open Go Go.Sx Go.Proofs Go.Ar
set_option maxRecDepth 100000
set_option maxHeartbeats 4000000
def mK : List AV → Option (List zN × AV)
 | [.agg 2 p_x, .agg 2 p_y] => some ([.b (Z4 (p_x 0) && Z4 (p_x 1)), .b (Z4 (p_y 0) && Z4 (p_y 1)), .p (Vo (⟨AV.int (p_x 0), AV.int (p_x 1)⟩ : Nt)), .p (Vo (⟨AV.int (p_y 0), AV.int (p_y 1)⟩ : Nt))], yD (⟨(⟨AV.int (p_x 0), AV.int (p_x 1)⟩ : Nt).n * (⟨AV.int (p_y 0), AV.int (p_y 1)⟩ : Nt).d - (⟨AV.int (p_y 0), AV.int (p_y 1)⟩ : Nt).n * (⟨AV.int (p_x 0), AV.int (p_x 1)⟩ : Nt).d, (⟨AV.int (p_x 0), AV.int (p_x 1)⟩ : Nt).d * (⟨AV.int (p_y 0), AV.int (p_y 1)⟩ : Nt).d⟩ : Nt))
 | _ => none
theorem IR (x : Nt) (y : Nt) (h1 : Vo x) (h2 : Vo y) :
 zB [AV.agg 2 (zR.enc x), AV.agg 2 (zR.enc y)] → bF (dK (Nt.n x * Nt.d y)) (bF (dK (Nt.n y * Nt.d x)) (bF (dK (Nt.n x * Nt.d y - Nt.n y * Nt.d x)) (bF (dK (Nt.d x * Nt.d y)) (2 = 2 ∧ (kI ∧ Nt.n x * Nt.d y - Nt.n y * Nt.d x = Nt.n (Nt.mk (Nt.n x * Nt.d y - Nt.n y * Nt.d x) (Nt.d x * Nt.d y))) ∧ kI ∧ Nt.d x * Nt.d y = Nt.d (Nt.mk (Nt.n x * Nt.d y - Nt.n y * Nt.d x) (Nt.d x * Nt.d y)))))) := by
 delta bF dK kI
 intro hb
 simp only [sS, dS]
 unfold Vo at h1 h2
 have m1 := y9 (a := x.n) (b := y.d) h1.1 ⟨by omega, h2.2.2⟩
 have m2 := y9 (a := y.n) (b := x.d) h2.1 ⟨by omega, h1.2.2⟩
 have m3 := y9 (a := x.d) (b := y.d) ⟨by omega, h1.2.2⟩ ⟨by omega, h2.2.2⟩
 exact ⟨⟨by omega, by omega⟩, ⟨by omega, by omega⟩, ⟨by omega, by omega⟩, ⟨by omega, by omega⟩⟩
theorem GR (x : Nt) (y : Nt) (h1 : Vo x) (h2 : Vo y) : zv Tryz.prog [] 48 [yD x, yD y] (yD (⟨x.n * y.d - y.n * x.d, x.d * y.d⟩ : Nt)) :=
 zW (T := T0) (an := .auto) mixed zr (Eq.mp (by kernel_rfl) (IR x y h1 h2))
theorem fK : zQ Tryz.prog [] 48 mK := by
 intro xs ps r h hp
 unfold mK at h
 split at h
 ·skip
  rename_i p_x p_y
  cases h
  obtain ⟨q0, q1, q2, q3, -⟩ := ZT hp
  exact weaken (ys := [yD (⟨AV.int (p_x 0), AV.int (p_x 1)⟩ : Nt), yD (⟨AV.int (p_y 0), AV.int (p_y 1)⟩ : Nt)]) ⟨zD (x := .agg 2 p_x) (α := Nt) q0, zD (x := .agg 2 p_y) (α := Nt) q1, trivial⟩ (GR (⟨AV.int (p_x 0), AV.int (p_x 1)⟩ : Nt) (⟨AV.int (p_y 0), AV.int (p_y 1)⟩ : Nt) q2 q3)
 ·cases h
def LF : List AV → Option (List zN × AV)
 | [.agg 2 p_x, .agg 2 p_y, .xq 1 c_cf 0] => some ([.b (z7 (p_x 0) && z7 (p_x 1)), .b (z7 (p_y 0) && z7 (p_y 1)), .b (JS 49 (c_cf 0)), .p (uW (⟨AV.bytes (p_x 0), AV.bytes (p_x 1)⟩ : Pt)), .p (uW (⟨AV.bytes (p_y 0), AV.bytes (p_y 1)⟩ : Pt))], .tup 2 (zw [.str (TD (· - ·) (⟨AV.bytes (p_x 0), AV.bytes (p_x 1)⟩ : Pt) (⟨AV.bytes (p_y 0), AV.bytes (p_y 1)⟩ : Pt)), .i (WU (· - ·) (⟨AV.bytes (p_x 0), AV.bytes (p_x 1)⟩ : Pt) (⟨AV.bytes (p_y 0), AV.bytes (p_y 1)⟩ : Pt))]))
 | _ => none
theorem J5 (G : List (Nat × Obj)) (x : Pt) (y : Pt) (h1 : uW x) (h2 : uW y) :
 let q1 := (Yi (fun (x1 x2 : Int) => x1 * x2) (Pt.n x) (Pt.d y) != iZ); let q2 := (True ∧ bA #[] = TD (fun (x1 x2 : Int) => x1 - x2) x y); let q3 := (bA #[]); let q4 := (Z5 (fun (x1 x2 : Int) => x1 * x2) (Pt.n x) (Pt.d y)); let q5 := (Z5 (fun (x1 x2 : Int) => x1 * x2) (Pt.n y) (Pt.d x)); let q6 := (Z5 (fun (x1 x2 : Int) => x1 - x2) q4 q5); let q7 := (Z5 (fun (x1 x2 : Int) => x1 * x2) (Pt.d x) (Pt.d y)); zB [AV.agg 2 (zR.enc x), AV.agg 2 (zR.enc y), AV.xq 1 (fun (x : Nat) => AV.fn (Fn.func (49 :
 FuncId)) 0 (fun (x : Nat) => AV.junk) 0 fun (x : Nat) => AV.junk) 0] → lN (Pt.n x) ≤ nM ∧ lN (Pt.d y) ≤ nM ∧ zZ q1 (zZ q1 (j2 ∧ q2 ∧ kI ∧ Yi (fun (x1 x2 : Int) => x1 * x2) (Pt.n x) (Pt.d y) = WU (fun (x1 x2 : Int) => x1 - x2) x y) (0 ≤ nM ∧ 0 ≤ nM ∧ j2 ∧ q2 ∧ kI ∧ Yi (fun (x1 x2 : Int) => x1 - x2) q3 q3 = WU (fun (x1 x2 : Int) => x1 - x2) x y)) (lN (Pt.n y) ≤ nM ∧ lN (Pt.d x) ≤ nM ∧ zZ (Yi (fun (x1 x2
 : Int) => x1 * x2) (Pt.n y) (Pt.d x) != iZ) (j2 ∧ q2 ∧ kI ∧ Yi (fun (x1 x2 : Int) => x1 * x2) (Pt.n y) (Pt.d x) = WU (fun (x1 x2 : Int) => x1 - x2) x y) (lN q4 ≤ nM ∧ lN q5 ≤ nM ∧ zZ (Yi (fun (x1 x2 : Int) => x1 - x2) q4 q5 != iZ) (j2 ∧ q2 ∧ kI ∧ Yi (fun (x1 x2 : Int) => x1 - x2) q4 q5 = WU (fun (x1 x2 : Int) => x1 - x2) x y) (lN (Pt.d x) ≤ nM ∧ lN (Pt.d y) ≤ nM ∧ zZ (Yi (fun (x1 x2 : Int) => x1 * x2)
 (Pt.d x) (Pt.d y) != iZ) (j2 ∧ q2 ∧ kI ∧ Yi (fun (x1 x2 : Int) => x1 * x2) (Pt.d x) (Pt.d y) = WU (fun (x1 x2 : Int) => x1 - x2) x y) (ZU q6 = iZ ∧ ZU q7 = iZ ∧ zX q7 ≠ iZ ∧ j2 ∧ (True ∧ xw (zX q6) (zX q7) = TD (fun (x1 x2 : Int) => x1 - x2) x y) ∧ kI ∧ iZ = WU (fun (x1 x2 : Int) => x1 - x2) x y)))) := by
 delta bA nM kI j2 lN iZ
 dsimp only
 intro hb
 simp only [sS, dS]
 exact N4 h1 h2
theorem fH {G : List (Nat × Obj)} (hG : zO G) (x : Pt) (y : Pt) (h1 : uW x) (h2 : uW y) : zv Tryz.prog G 105 [yD x, yD y, .xq 1 (fun _ => jK 49) 0] (.tup 2 (zw [.str (TD (· - ·) x y), .i (WU (· - ·) x y)])) :=
 zW (T := F1 G) (an := .auto) mixed (sC hG) (Eq.mp (by kernel_rfl) (J5 G x y h1 h2))
theorem FZ {G : List (Nat × Obj)} (hG : zO G) : zQ Tryz.prog G 105 LF := by
 intro xs ps r h hp
 unfold LF at h
 split at h
 ·skip
  rename_i p_x p_y c_cf
  cases h
  obtain ⟨q0, q1, q2, q3, q4, -⟩ := ZT hp
  exact weaken (ys := [yD (⟨AV.bytes (p_x 0), AV.bytes (p_x 1)⟩ : Pt), yD (⟨AV.bytes (p_y 0), AV.bytes (p_y 1)⟩ : Pt), .xq 1 (fun _ => jK 49) 0]) ⟨zD (x := .agg 2 p_x) (α := Pt) q0, zD (x := .agg 2 p_y) (α := Pt) q1, ⟨rfl, rfl, Ra q2⟩, trivial⟩ (fH hG (⟨AV.bytes (p_x 0), AV.bytes (p_x 1)⟩ : Pt) (⟨AV.bytes (p_y 0), AV.bytes (p_y 1)⟩ : Pt) q3 q4)
 ·cases h
theorem KU (G : List (Nat × Obj)) (a : List UInt8) (b : List UInt8) (hla : a.length ≤ 9223372036854775807) (hlb : b.length ≤ 9223372036854775807) :
 let q2 := (True ∧ bA #[] = Rk (fun (x1 x2 : Int) => x1 - x2) a b); let q3 := (Pt.mk (AV.bytes (AV.str (bif zH a == iZ then zm a else []))) (AV.bytes (AV.str (bif zH a == iZ then Z1 a else [])))); let q4 := (Pt.d q3); let q5 := (Pt.mk (AV.bytes (AV.str (bif zH b == iZ then zm b else []))) (AV.bytes (AV.str (bif zH b == iZ then Z1 b else [])))); let q6 := (Pt.d q5); let q1 := (lN a ≤ nX ∧ zZ (zH a != iZ) (j2 ∧ q2 ∧ kI ∧ zH
 a = um (fun (x1 x2 : Int) => x1 - x2) a b) (lN b ≤ nX ∧ zZ (zH b != iZ) (j2 ∧ q2 ∧ kI ∧ zH b = um (fun (x1 x2 : Int) => x1 - x2) a b) ((ZU (Pt.n q3) = iZ ∧ ZU q4 = iZ ∧ zX q4 ≠ iZ) ∧ (ZU (Pt.n q5) = iZ ∧ ZU q6 = iZ ∧ zX q6 ≠ iZ) ∧ j2 ∧ (True ∧ TD (fun (x1 x2 : Int) => x1 - x2) q3 q5 = Rk (fun (x1 x2 : Int) => x1 - x2) a b) ∧ kI ∧ WU (fun (x1 x2 : Int) => x1 - x2) q3 q5 = um (fun (x1 x2 : Int) => x1 -
 x2) a b))); let q7 := (Nt.mk (AV.int (aI (bif zC a then zL a else iZ))) (AV.int (aI (bif zC a then (cI (zo a)) else iZ)))); let q8 := (Nt.mk (AV.int (aI (bif zC b then zL b else iZ))) (AV.int (aI (bif zC b then (cI (zo b)) else iZ)))); let q10 := (Nt.mk (Nt.n q7 * Nt.d q8 - Nt.n q8 * Nt.d q7) (Nt.d q7 * Nt.d q8)); let q9 := (Nt.mk (AV.int (aI (Nt.n q10))) (AV.int (aI (Nt.d q10)))); zB [AV.str a, AV.str b] → lN a ≤
 nX ∧ zZ (!zC a) q1 (lN b ≤ nX ∧ zZ (!zC b) q1 ((((-99999999 : Int) ≤ Nt.n q7 ∧ Nt.n q7 ≤ (99999999 : Int)) ∧ iZ < Nt.d q7 ∧ Nt.d q7 ≤ (99999999 : Int)) ∧ (((-99999999 : Int) ≤ Nt.n q8 ∧ Nt.n q8 ≤ (99999999 : Int)) ∧ iZ < Nt.d q8 ∧ Nt.d q8 ≤ (99999999 : Int)) ∧ Nt.d q9 ≠ iZ ∧ ((-1000000000000000000 : Int) ≤ Nt.d q9 ∧ Nt.d q9 ≤ (1000000000000000000 : Int)) ∧ ((-1000000000000000000 : Int) ≤ Nt.n q9 ∧ Nt.n q9 ≤ (1000000000000000000 : Int)) ∧ j2 ∧ (True ∧ xw (Nt.n q9) (Nt.d q9) = Rk (fun (x1
 x2 : Int) => x1 - x2) a b) ∧ kI ∧ iZ = um (fun (x1 x2 : Int) => x1 - x2) a b)) := by
 delta bA nX cI kI j2 lN iZ aI
 dsimp only
 intro hb
 simp only [sS, dS]
 refine ⟨hla, zY.2 ⟨fun c => ?_, fun c => ⟨hlb, zY.2 ⟨fun c2 => ?_, fun c2 => ?_⟩⟩⟩⟩
 rotate_left 2
 ·rw [Bool.not_eq_false'] at c c2
  obtain ⟨q1, q2, q3, q4, q5⟩ := qS (f := fun x1 x2 => x1 - x2) (fun u v => by omega) c c2
  rw [q1, q2, c, c2]
  exact ⟨uI c, uI c2, q3, q4, q5, rfl, rfl, rfl⟩
 all_goals
  refine ⟨hla, fun h => ⟨rfl, fh h⟩, fun h0 => ⟨hlb, fun h => ⟨rfl, Gf h0 h⟩, fun h1 => ?_⟩⟩
  obtain ⟨q1, q2⟩ := JK (f := fun x1 x2 => x1 - x2) h0 h1
  rw [h0, h1]
  exact ⟨WH h0, WH h1, rfl, q1, q2⟩
theorem IV {G : List (Nat × Obj)} (hG : zO G) (a : List UInt8) (b : List UInt8) (hla : a.length ≤ 9223372036854775807) (hlb : b.length ≤ 9223372036854775807) : zv Tryz.prog G 20 [.str a, .str b] (.tup 2 (zw [.str (Rk (· - ·) a b), .i (um (· - ·) a b)])) :=
 zW (T := (((Fq G).plus 48 mK).plus 105 LF).body Tryz.prog eY) (an := .auto) mixed (zz.body mixed (zz.plus (zz.plus (uZ hG) (zQ.mono fK)) (FZ hG)) _) (Eq.mp (by kernel_rfl) (KU G a b hla hlb))
def Pu := tu (UU 140) (FU (· - ·))
theorem LG {G : List (Nat × Obj)} (hG : zO G) : zQ Tryz.prog G 20 Pu := R7 fun a b h => by
 have := IV hG a b (yQ h.1 (by decide) (by decide)) (yQ h.2 (by decide) (by decide))
 obtain ⟨e1, e2⟩ := JJ (f := fun x y => x - y) (fun u v => by omega) h.1 h.2
 rw [e1, e2, j6 h.1.parts.2.2 h.2.parts.2.2] at this
 exact this
theorem kH (G : List (Nat × Obj)) (a : List UInt8) (ha : yX 140 a) :
 let q2 := (bif zC a then (cI (zo a)) else iZ); let q1 := (DB.db (q2 ≠ iZ)); let q3 := (Int.tdiv (bif zC a then zL a else iZ) q2); let q4 := (Int.tdiv (bif zC a then zL a else iZ) q2 - iO); let q5 := (bif zH a == iZ then zm a else []); let q6 := (bif zH a == iZ then Z1 a else []); zB [AV.str a] → lN a ≤ nX ∧ zZ (zC a) (bF q1 (bF (dK q3) (bF q1 (zZ (zM (Int.tmod (bif zC a then zL a else iZ) q2) iZ) (zZ (dK q4)
 ((iN ≤ Int.tdiv (bif zC a then zL a else iZ) q2 - iO ∧ Int.tdiv (bif zC a then zL a else iZ) q2 - iO ≤ iX) ∧ j2 ∧ (True ∧ Lib.itoa q4 = Lib.itoa (WV (zP a))) ∧ kI ∧ iZ = iZ) False) ((iN ≤ Int.tdiv (bif zC a then zL a else iZ) q2 ∧ Int.tdiv (bif zC a then zL a else iZ) q2 ≤ iX) ∧ j2 ∧ (True ∧ Lib.itoa q3 = Lib.itoa (WV (zP a))) ∧ IntKind.i64
 = .i64 ∧ iZ = iZ))))) (lN a ≤ nX ∧ zZ (zH a != iZ) (j2 ∧ (True ∧ bA #[] = Lib.itoa (WV (zP a))) ∧ kI ∧ zH a = iZ) (lN q5 ≤ nM ∧ lN q6 ≤ nM ∧ j2 ∧ (True ∧ yP q5 q6 = Lib.itoa (WV (zP a))) ∧ kI ∧ xC q5 q6 = iZ)) := by
 delta bF dK bA nX nM cI kI j2 lN iZ iO iX iN
 dsimp only
 intro hb
 simp only [sS, dS]
 have pp := ha.parts
 have e : WV (zP a) = zL a / (zo a : Int) := by unfold WV; rw [(ZE ha.1).1, (ZE ha.1).2]
 rw [e]
 refine ⟨yQ ha (by decide) (by decide), zY.2 ⟨fun c => ?_, fun c => ?_⟩⟩
 ·rw [c]
  simp only [cond_true]
  obtain ⟨_, b1, b2⟩ := yk c
  have hb : ((zL a).tdiv (zo a : Int)).natAbs ≤ (zL a).natAbs := by
   rw [Int.natAbs_tdiv]
   exact Nat.div_le_self _ _
  have hq := jn (n := zL a) (d := (zo a : Int)) (by omega)
  generalize (zL a).tdiv (zo a : Int) = q at *
  refine ⟨by omega, by simp only [ZB]; omega, by omega, fun h => ?_, fun h => ?_⟩
  ·rcases hq with hq | hq
   ·exact ⟨by simp only [ZB]; omega, ⟨by omega, by omega⟩, rfl, by rw [hq.2]⟩
   ·omega
  ·rcases hq with hq | hq
   ·omega
   ·exact ⟨⟨by omega, by omega⟩, rfl, by rw [hq.2]⟩
 ·obtain ⟨v1, v2, v3, v4⟩ := N3 ha.1
  have l1 := (yY v1).2.1
  have l2 := (yY v2).2.1
  have hd : xC (zm a) (Z1 a) = 0 := by
   unfold xC zb
   rw [v1, v2]
   have : (Z1 a == [48]) = false := beq_eq_false_iff_ne.2 fun e => by
    rw [e] at v4
    have h0 : zX [48] = 0 := by decide
    omega
   rw [this]; rfl
  rw [ha.1]
  simp only [beq_self_eq_true, cond_true]
  refine ⟨yQ ha (by decide) (by decide), fun h => absurd rfl h, fun _ => ⟨by omega, by omega, rfl, ?_, hd⟩⟩
  rw [(rp hd).1, v3, v4, Int.fdiv_eq_ediv_of_nonneg _ (by omega)]
theorem HA {G : List (Nat × Obj)} (hG : zO G) (a : List UInt8) (ha : yX 140 a) : zv Tryz.prog G 206 [.str a] (.tup 2 (zw [.str (Lib.itoa (WV (zP a))), .i 0])) :=
 zW (T := ((((LC G).plus 32 XE).plus 30 v7).plus 104 V4)) (an := .auto) mixed (zz.plus (zz.plus (zz.plus (YK hG) (vT hG)) (zQ.mono Uk)) (rB hG)) (Eq.mp (by kernel_rfl) (kH G a ha))
def l9 := qV (yX 140) fun a => .tup 2 (zw [.str (Lib.itoa (WV (zP a))), .i 0])
theorem iP {G : List (Nat × Obj)} (hG : zO G) : zQ Tryz.prog G 206 l9 := mM fun a h => HA hG a h
end Go.Te

namespace Go.Te
open Go Go.Sx Go.Proofs Go.Ar
set_option maxRecDepth 100000
set_option maxHeartbeats 4000000
def kM  : yV :=
 .two .auto (.two (.two .auto (.one (.unroll 3 .auto))) (.two (.two .auto (.one (.unroll 2 .auto))) .auto))
theorem KF (G : List (Nat × Obj)) (a b : zj) (ha : TE a) (hc : TE b) :
 let q1 := (lZ (Lib.itoa (cI (Rat.den (zP a))))); let q2 := (lZ (zp (Lib.itoa (Rat.num (zP a))))); let q3 := (kI ∧ (4 : Int) = iZ); let q4 := (lZ (Lib.itoa (cI (Rat.den (zP b))))); let q5 := (lZ (zp (Lib.itoa (Rat.num (zP b))))); zB [AV.xl false 1 2 fun (i x : Nat) => zw [AV.str a, AV.str b] i, AV.xl false 1 1 fun (x x_1 : Nat) => AV.str a] → yX 300 a ∧ yX 300 a ∧ zZ (zM (90 : Int) (if q1 > q2 then q1 else q2)) q3 (yX 300 b ∧ yX 300 b ∧ zZ (zM (90 : Int) (if q4 > q5
 then q4 else q5)) q3 (zJ a = false ∧ kI ∧ iZ = iZ)) := by
 delta cI kI lZ iZ
 dsimp only
 intro hb
 simp only [sS, dS]
 obtain ⟨a1, a2, a3, a4⟩ := Vm ha
 obtain ⟨b1, b2, b3, b4⟩ := Vm hc
 exact ⟨a1, a1, fun h => by split at h <;> omega, fun _ => ⟨b1, b1, fun h => by split at h <;> omega, fun _ => a4⟩⟩
def Qe : List AV → Option (List zN × AV)
 | [.xl _ 1 2 x, .xl _ 1 1 y] => some ([.b (z7 (x 0 0) && z7 (x 1 0) && z7 (y 0 0) && (AV.bytes (y 0 0) == AV.bytes (x 0 0))), .p (TE (AV.bytes (x 0 0))), .p (TE (AV.bytes (x 1 0)))], .i 0)
 | _ => none
theorem I4 {G : List (Nat × Obj)} (hG : zO G) : zQ Tryz.prog G 146 Qe := by
 intro xs ps r h hp
 unfold Qe at h
 split at h
 ·rename_i x _ y
  cases h
  have q0 : (z7 (x 0 0) && z7 (x 1 0) && z7 (y 0 0) && (AV.bytes (y 0 0) == AV.bytes (x 0 0))) = true := hp _ List.mem_cons_self
  have q1 := hp _ (List.mem_cons_of_mem _ List.mem_cons_self)
  have q2 := hp _ (List.mem_cons_of_mem _ (List.mem_cons_of_mem _ List.mem_cons_self))
  simp only [Bool.and_eq_true, beq_iff_eq] at q0
  exact weaken (ys := [_, _]) ⟨rN q0.1.1.1 q0.1.1.2 rfl rfl, Rs q0.1.2 q0.2, trivial⟩ (zW mixed (uU hG) (Eq.mp (by kernel_rfl) (KF G (AV.bytes (x 0 0)) (AV.bytes (x 1 0)) q1 q2) : vP Tryz.prog (Fw G) 146 kM [.xl false 1 2 (fun i _ => zw [.str (AV.bytes (x 0 0)), .str (AV.bytes (x 1 0))] i), .xl false 1 1 (fun _ _ => .str (AV.bytes (x 0 0)))] (.i 0)))
 ·cases h
end Go.Te

namespace Go.Te
open Go Go.Sx Go.Proofs Go.Ar
set_option maxRecDepth 100000
set_option maxHeartbeats 4000000
theorem Fa (s : zj) : (AV.str s).bytes = s := rfl
theorem eZ (s : zj) : z7 (.str s) = true := rfl
def tM : List AV → Option (List zN × AV)
 | [.str a, .str b] => some ([.p (a.length ≤ 4294967280), .p (b.length ≤ 4294967280)], .str (Z5 (· * ·) a b))
 | _ => none
theorem jm (G : List (Nat × Obj)) (a : List UInt8) (b : List UInt8) (hla : a.length ≤ 4294967280) (hlb : b.length ≤ 4294967280) :
 zB [AV.str a, AV.str b] → lN a ≤ nM ∧ lN b ≤ nM ∧ Z5 (fun (x1 x2 : Int) => x1 * x2) a b = Z5 (fun (x1 x2 : Int) => x1 * x2) a b := by
 delta nM lN
 intro hb
 simp only [sS, dS]
 exact ⟨hla, hlb⟩
theorem Ha {G : List (Nat × Obj)} (hG : zO G) (a : List UInt8) (b : List UInt8) (hla : a.length ≤ 4294967280) (hlb : b.length ≤ 4294967280) : zv Tryz.prog G 151 [.str a, .str b] (.str (Z5 (· * ·) a b)) :=
 zW (T := (Xz G).plus 43 Wc) (an := .auto) mixed (zz.plus zr (uu hG)) (Eq.mp (by kernel_rfl) (jm G a b hla hlb))
theorem Pr {G : List (Nat × Obj)} (hG : zO G) : zQ Tryz.prog G 151 tM := by
 intro xs ps r h hp
 unfold tM at h
 split at h
 ·skip
  rename_i a b
  cases h
  obtain ⟨q0, q1, -⟩ := ZT hp
  exact weaken (ys := [.str a, .str b]) ⟨zV _, zV _, trivial⟩ (Ha hG a b q0 q1)
 ·cases h
def QL : List AV → Option (List zN × AV)
 | [.str a, .str b] => some ([.p (a.length ≤ 4294967280), .p (b.length ≤ 4294967280)], .tup 2 (zw [.str (yP a b), .str (WQ a b)]))
 | _ => none
theorem L3 (G : List (Nat × Obj)) (a : List UInt8) (b : List UInt8) (hla : a.length ≤ 4294967280) (hlb : b.length ≤ 4294967280) :
 zB [AV.str a, AV.str b] → lN a ≤ nM ∧ lN b ≤ nM ∧ j2 ∧ (True ∧ yP a b = yP a b) ∧ WQ a b = WQ a b := by
 delta nM j2 lN
 intro hb
 simp only [sS, dS]
 exact ⟨hla, hlb, rfl⟩
theorem IO {G : List (Nat × Obj)} (hG : zO G) (a : List UInt8) (b : List UInt8) (hla : a.length ≤ 4294967280) (hlb : b.length ≤ 4294967280) : zv Tryz.prog G 205 [.str a, .str b] (.tup 2 (zw [.str (yP a b), .str (WQ a b)])) :=
 zW (T := (Xz G).plus 104 V4) (an := .auto) mixed (zz.plus zr (rB hG)) (Eq.mp (by kernel_rfl) (L3 G a b hla hlb))
theorem HS {G : List (Nat × Obj)} (hG : zO G) : zQ Tryz.prog G 205 QL := by
 intro xs ps r h hp
 unfold QL at h
 split at h
 ·skip
  rename_i a b
  cases h
  obtain ⟨q0, q1, -⟩ := ZT hp
  exact weaken (ys := [.str a, .str b]) ⟨zV _, zV _, trivial⟩ (IO hG a b q0 q1)
 ·cases h
structure Tf (x : Pt) : Prop where
 n : x.n.length ≤ 4294967280
 d : x.d.length ≤ 4294967280
def Q8 : List AV → Option (List zN × AV)
 | [.agg 2 p_x, .agg 2 p_y] => some ([.b (z7 (p_x 0) && z7 (p_x 1)), .b (z7 (p_y 0) && z7 (p_y 1)), .p (Tf (⟨AV.bytes (p_x 0), AV.bytes (p_x 1)⟩ : Pt)), .p (Tf (⟨AV.bytes (p_y 0), AV.bytes (p_y 1)⟩ : Pt))], yD (⟨Z5 (· * ·) (⟨AV.bytes (p_x 0), AV.bytes (p_x 1)⟩ : Pt).n (⟨AV.bytes (p_y 0), AV.bytes (p_y 1)⟩ : Pt).n, Z5 (· * ·) (⟨AV.bytes (p_x 0), AV.bytes (p_x 1)⟩ : Pt).d (⟨AV.bytes (p_y 0), AV.bytes (p_y 1)⟩ : Pt).d⟩ : Pt))
 | _ => none
theorem ji (G : List (Nat × Obj)) (x : Pt) (y : Pt) (hx : Tf x) (hy : Tf y) :
 let q1 := (Pt.mk (Z5 (fun (x1 x2 : Int) => x1 * x2) (Pt.n x) (Pt.n y)) (Z5 (fun (x1 x2 : Int) => x1 * x2) (Pt.d x) (Pt.d y))); zB [AV.agg 2 (zR.enc x), AV.agg 2 (zR.enc y)] → lN (Pt.n x) ≤ nM ∧ lN (Pt.n y) ≤ nM ∧ lN (Pt.d x) ≤ nM ∧ lN (Pt.d y) ≤ nM ∧ 2 = 2 ∧ Z5 (fun (x1 x2 : Int) => x1 * x2) (Pt.n x) (Pt.n y) = Pt.n q1 ∧ Z5 (fun (x1 x2 : Int) => x1 * x2) (Pt.d x) (Pt.d y) = Pt.d q1 := by
 delta nM lN
 dsimp only
 intro hb
 simp only [sS, dS]
 exact ⟨hx.n, hy.n, hx.d, hy.d⟩
theorem Jb {G : List (Nat × Obj)} (hG : zO G) (x : Pt) (y : Pt) (hx : Tf x) (hy : Tf y) : zv Tryz.prog G 150 [yD x, yD y] (yD (⟨Z5 (· * ·) x.n y.n, Z5 (· * ·) x.d y.d⟩ : Pt)) :=
 zW (T := (Xz G).plus 151 tM) (an := .auto) mixed (zz.plus zr (Pr hG)) (Eq.mp (by kernel_rfl) (ji G x y hx hy))
theorem gz {G : List (Nat × Obj)} (hG : zO G) : zQ Tryz.prog G 150 Q8 := by
 intro xs ps r h hp
 unfold Q8 at h
 split at h
 ·skip
  rename_i p_x p_y
  cases h
  obtain ⟨q0, q1, q2, q3, -⟩ := ZT hp
  exact weaken (ys := [yD (⟨AV.bytes (p_x 0), AV.bytes (p_x 1)⟩ : Pt), yD (⟨AV.bytes (p_y 0), AV.bytes (p_y 1)⟩ : Pt)]) ⟨zD (x := .agg 2 p_x) (α := Pt) q0, zD (x := .agg 2 p_y) (α := Pt) q1, trivial⟩ (Jb hG (⟨AV.bytes (p_x 0), AV.bytes (p_x 1)⟩ : Pt) (⟨AV.bytes (p_y 0), AV.bytes (p_y 1)⟩ : Pt) q2 q3)
 ·cases h
def QQ : List AV → Option (List zN × AV)
 | [.agg 2 p_x, .agg 2 p_y] => some ([.b (z7 (p_x 0) && z7 (p_x 1)), .b (z7 (p_y 0) && z7 (p_y 1)), .p (Tf (⟨AV.bytes (p_x 0), AV.bytes (p_x 1)⟩ : Pt)), .p (Tf (⟨AV.bytes (p_y 0), AV.bytes (p_y 1)⟩ : Pt))], yD (⟨Z5 (· * ·) (⟨AV.bytes (p_x 0), AV.bytes (p_x 1)⟩ : Pt).n (⟨AV.bytes (p_y 0), AV.bytes (p_y 1)⟩ : Pt).d, Z5 (· * ·) (⟨AV.bytes (p_x 0), AV.bytes (p_x 1)⟩ : Pt).d (⟨AV.bytes (p_y 0), AV.bytes (p_y 1)⟩ : Pt).n⟩ : Pt))
 | _ => none
theorem jt (G : List (Nat × Obj)) (x : Pt) (y : Pt) (hx : Tf x) (hy : Tf y) :
 let q1 := (Pt.mk (Z5 (fun (x1 x2 : Int) => x1 * x2) (Pt.n x) (Pt.d y)) (Z5 (fun (x1 x2 : Int) => x1 * x2) (Pt.d x) (Pt.n y))); zB [AV.agg 2 (zR.enc x), AV.agg 2 (zR.enc y)] → lN (Pt.n x) ≤ nM ∧ lN (Pt.d y) ≤ nM ∧ lN (Pt.d x) ≤ nM ∧ lN (Pt.n y) ≤ nM ∧ 2 = 2 ∧ Z5 (fun (x1 x2 : Int) => x1 * x2) (Pt.n x) (Pt.d y) = Pt.n q1 ∧ Z5 (fun (x1 x2 : Int) => x1 * x2) (Pt.d x) (Pt.n y) = Pt.d q1 := by
 delta nM lN
 dsimp only
 intro hb
 simp only [sS, dS]
 exact ⟨hx.n, hy.d, hx.d, hy.n⟩
theorem Ho {G : List (Nat × Obj)} (hG : zO G) (x : Pt) (y : Pt) (hx : Tf x) (hy : Tf y) : zv Tryz.prog G 149 [yD x, yD y] (yD (⟨Z5 (· * ·) x.n y.d, Z5 (· * ·) x.d y.n⟩ : Pt)) :=
 zW (T := (Xz G).plus 151 tM) (an := .auto) mixed (zz.plus zr (Pr hG)) (Eq.mp (by kernel_rfl) (jt G x y hx hy))
theorem HF {G : List (Nat × Obj)} (hG : zO G) : zQ Tryz.prog G 149 QQ := by
 intro xs ps r h hp
 unfold QQ at h
 split at h
 ·skip
  rename_i p_x p_y
  cases h
  obtain ⟨q0, q1, q2, q3, -⟩ := ZT hp
  exact weaken (ys := [yD (⟨AV.bytes (p_x 0), AV.bytes (p_x 1)⟩ : Pt), yD (⟨AV.bytes (p_y 0), AV.bytes (p_y 1)⟩ : Pt)]) ⟨zD (x := .agg 2 p_x) (α := Pt) q0, zD (x := .agg 2 p_y) (α := Pt) q1, trivial⟩ (Ho hG (⟨AV.bytes (p_x 0), AV.bytes (p_x 1)⟩ : Pt) (⟨AV.bytes (p_y 0), AV.bytes (p_y 1)⟩ : Pt) q2 q3)
 ·cases h
def QR : List AV → Option (List zN × AV)
 | [.agg 2 p_x] => some ([.b (z7 (p_x 0) && z7 (p_x 1)), .p (Tf (⟨AV.bytes (p_x 0), AV.bytes (p_x 1)⟩ : Pt))], .str (yP (⟨AV.bytes (p_x 0), AV.bytes (p_x 1)⟩ : Pt).n (⟨AV.bytes (p_x 0), AV.bytes (p_x 1)⟩ : Pt).d))
 | _ => none
theorem jL (G : List (Nat × Obj)) (x : Pt) (hx : Tf x) :
 zB [AV.agg 2 (zR.enc x)] → lN (Pt.n x) ≤ nM ∧ lN (Pt.d x) ≤ nM ∧ yP (Pt.n x) (Pt.d x) = yP (Pt.n x) (Pt.d x) := by
 delta nM lN
 intro hb
 simp only [sS, dS]
 exact ⟨hx.n, hx.d⟩
theorem ig {G : List (Nat × Obj)} (hG : zO G) (x : Pt) (hx : Tf x) : zv Tryz.prog G 153 [yD x] (.str (yP x.n x.d)) :=
 zW (T := (Xz G).plus 205 QL) (an := .auto) mixed (zz.plus zr (HS hG)) (Eq.mp (by kernel_rfl) (jL G x hx))
theorem IN {G : List (Nat × Obj)} (hG : zO G) : zQ Tryz.prog G 153 QR := by
 intro xs ps r h hp
 unfold QR at h
 split at h
 ·skip
  rename_i p_x
  cases h
  obtain ⟨q0, q1, -⟩ := ZT hp
  exact weaken (ys := [yD (⟨AV.bytes (p_x 0), AV.bytes (p_x 1)⟩ : Pt)]) ⟨zD (x := .agg 2 p_x) (α := Pt) q0, trivial⟩ (ig hG (⟨AV.bytes (p_x 0), AV.bytes (p_x 1)⟩ : Pt) q1)
 ·cases h
structure FS (q u : zj) : Prop where
 fq : yX 60 q
 fu : yX 60 u
 pq : 0 ≤ zP q
 pu : 0 < zP u
 out : bq 140 (Io (zP q) (zP u) : Rat)
noncomputable def eJ (G : List (Nat × Obj)) : Tb := ((((((((Xz G).plus 146 Qe).plus 148 se).plus 151 tM).plus 150 Q8).plus 149 QQ).plus 153 QR).plus 152 oz).plus 18 XB |>.plus 102 Up |>.body Tryz.prog [(203, .auto)] |>.body Tryz.prog [(147, .auto), (91, .auto)] |>.body Tryz.prog [(90, .auto), (92, .auto)]
theorem Nw {G : List (Nat × Obj)} (hG : zO G) : zz Tryz.prog (eJ G) := zz.body mixed (zz.body mixed (zz.body mixed (zz.plus (zz.plus (zz.plus (zz.plus (zz.plus (zz.plus (zz.plus (zz.plus (zz.plus zr (I4 hG)) (Oz hG)) (Pr hG)) (gz hG)) (HF hG)) (IN hG)) (JP hG)) (wJ hG)) (zQ.mono Ot)) _) _) _
def pU : List AV → Option (List zN × AV)
 | [.str q, .str u] => some ([.p (FS q u)], .tup 2 (zw [.str (zu (NM (zP q) (zP u))), .i 0]))
 | _ => none
theorem JU (G : List (Nat × Obj)) (q : List UInt8) (u : List UInt8) (h : FS q u) :
 let q1 := (Pt.mk (AV.bytes (AV.str (Lib.itoa (Rat.num (zP u))))) (AV.bytes (AV.str (Lib.itoa (cI (Rat.den (zP u))))))); let q2 := (Pt.mk (AV.bytes (AV.str (Lib.itoa (Rat.num (zP q))))) (AV.bytes (AV.str (Lib.itoa (cI (Rat.den (zP q))))))); let q5 := (Pt.n q1); let q6 := (Pt.d q1); let q4 := (Pt.mk (Z5 (fun (x1 x2 : Int) => x1 * x2) q5 q5) (Z5 (fun (x1 x2 : Int) => x1 * x2) q6 q6)); let q3 := (Pt.mk (AV.bytes (AV.str (Pt.n q4))) (AV.bytes (AV.str (Pt.d q4)))); let q8 := (Pt.mk (Z5 (fun (x1 x2 : Int) => x1 * x2) (Pt.n q2) (Pt.d q3)) (Z5 (fun (x1 x2 : Int) => x1 * x2) (Pt.d q2)
 (Pt.n q3))); let q7 := (Pt.n q8); let q9 := (Pt.mk (AV.bytes (AV.str (Z5 (fun (x1 x2 : Int) => x1 * x2) q7 (bA #[(49 : UInt8)])))) (AV.bytes (AV.str (Pt.d q8)))); let q10 := (yP (Pt.n q9) (Pt.d q9)); let q11 := (Lib.itoa (cI (Z7 (Int.toNat (zX q10))))); zB [AV.str q, AV.str u] → bF (z7 (AV.str q) && z7 (AV.str u) && z7 (AV.str q) && AV.bytes (AV.str q) == AV.bytes (AV.str q)) (TE (AV.bytes (AV.str q)) ∧ TE (AV.bytes (AV.str u)) ∧ zZ (u == bA #[(48 : UInt8)]) (2 = List.length
 [AV.junk, AV.junk] ∧ (True ∧ bA #[] = zu (NM (zP q) (zP u))) ∧ kI ∧ (12 : Int) = iZ) (zJ u = false ∧ yX 300 u ∧ yX 300 q ∧ Tf q1 ∧ Tf q1 ∧ Tf q2 ∧ Tf q3 ∧ lN q7 ≤ nM ∧ 1 ≤ nM ∧ Tf q9 ∧ Zy q10 = true ∧ iZ ≤ zX q10 ∧ lN q10 ≤ 216 ∧ UU 140 q11 u ∧ j2 ∧ (True ∧ zu (zP q11 * zP u) = zu (NM (zP q) (zP u))) ∧ kI ∧ iZ = iZ)) := by
 delta bF bA nM cI kI j2 lN iZ
 dsimp only
 intro hb
 simp only [sS, dS]
 obtain ⟨n, hn, hn2⟩ := Pa h.pq
 obtain ⟨m, hm, hm2⟩ := Pa (Rat.le_of_lt h.pu)
 have hm0 : 0 < m := Nat.pos_of_ne_zero fun e => by
  have := h.pu
  rw [hm2, e] at this
  grind
 have hN := Ki hn2 hm2 hm0
 have hout := h.out
 have b1 := h.fq.2.num
 have b2 := h.fq.2.den
 have b3 := h.fu.2.num
 have b4 := h.fu.2.den
 have dD := (zP q).den_pos
 rw [hn, Int.natAbs_natCast] at b1
 rw [hm, Int.natAbs_natCast] at b3
 have one : ([49] : zj) = Lib.itoa ((1 : Nat) : Int) := by decide +kernel
 have fin : zu (NM (zP q) (zP u)) = zu (((Z7 (n * ((zP u).den * (zP u).den) / ((zP q).den * (m * m))) : Nat) : Rat) * zP u) := by unfold NM; rw [hN]
 rw [hN] at hout
 have h0 : (u == [48]) = false := beq_eq_false_iff_ne.2 fun e => by
  have := h.pu
  rw [e] at this
  exact absurd this (by decide +kernel)
 simp only [Fa, eZ, Bool.and_self, beq_self_eq_true, hn, hm, h0, fin, one]
 generalize (zP q).den = D at *
 generalize (zP u).den = E at *
 have up : ∀ {x j : Nat}, x < 10 ^ j → j ≤ 300 → x < 10 ^ 300 := fun hx hj => MH (k := 300) hx hj
 have M : ∀ {a b i j : Nat}, a < 10 ^ i → b < 10 ^ j → i + j ≤ 300 → Z5 (fun x1 x2 => x1 * x2) (Lib.itoa (a : Int)) (Lib.itoa (b : Int)) = Lib.itoa ((a * b : Nat) : Int) ∧ a * b < 10 ^ (i + j) := fun {a b i j} ha hb hij => by
  have hab := YV ha hb
  refine ⟨?_, hab⟩
  rw [Y6 _ (by rw [Int.natAbs_natCast]; exact up ha (Nat.le_trans (Nat.le_add_right _ _) hij)) (by rw [Int.natAbs_natCast]; exact up hb (Nat.le_trans (Nat.le_add_left _ _) hij)) (by rw [← Int.natCast_mul, Int.natAbs_natCast]; exact up hab hij), Int.natCast_mul]
 obtain ⟨e1, l1⟩ := M b4 b4 (by decide)
 obtain ⟨e2, l2⟩ := M b3 b3 (by decide)
 obtain ⟨e3, l3⟩ := M b1 l1 (by decide)
 obtain ⟨e4, l4⟩ := M l3 (show 1 < 10 ^ 1 by decide) (by decide)
 obtain ⟨e5, l5⟩ := M b2 l2 (by decide)
 have q0 := sT (a := n * (E * E)) (d := D * (m * m)) (up l3 (by decide)) (up l5 (by decide)) (Nat.mul_pos dD (Nat.mul_pos hm0 hm0))
 have l6 : n * (E * E) / (D * (m * m)) < 10 ^ 180 := Nat.lt_of_le_of_lt (Nat.div_le_self _ _) l3
 rw [Nat.mul_one] at e4
 rw [e1, e2, e3, e4, e5, q0.1]
 have sh : ∀ {a k : Nat}, a < 10 ^ k → 0 < k → k ≤ 300 → (Lib.itoa (a : Int)).length ≤ k + 1 := fun ha hk _ => (ZD hk (by rw [Int.natAbs_natCast]; exact ha)).1
 have s1 := sh b1 (by decide) (by decide)
 have s2 := sh b2 (by decide) (by decide)
 have s3 := sh b3 (by decide) (by decide)
 have s4 := sh b4 (by decide) (by decide)
 have s5 := sh l1 (by decide) (by decide)
 have s6 := sh l2 (by decide) (by decide)
 have s7 := sh l3 (by decide) (by decide)
 have s8 := sh l5 (by decide) (by decide)
 have s9 := sh l6 (by decide) (by decide)
 generalize n * (E * E) / (D * (m * m)) = Q at *
 obtain ⟨i1, i2⟩ := za (Q : Int)
 rw [i1, i2, Int.toNat_natCast]
 have ckq : TE q := ⟨h.fq.mono (by decide), h.pq⟩
 have cku : TE u := ⟨h.fu.mono (by decide), Rat.le_of_lt h.pu⟩
 have or : yX 140 (Lib.itoa ((Z7 Q : Nat) : Int)) := by
  rw [← Xn]
  exact (Zm (by decide) (by decide)).2 hout
 have oe : zP (Lib.itoa ((Z7 Q : Nat) : Int)) = ((Z7 Q : Nat) : Rat) := by rw [← Xn, zn]
 rw [oe]
 refine zY.2 ⟨fun _ => ⟨ckq, cku, zY.2 ⟨fun c => (by cases c), fun _ => ?_⟩⟩, fun c => (by cases c)⟩
 have sp : ∀ {a b : zj}, a.length ≤ 300 → b.length ≤ 300 → Tf ⟨a, b⟩ := fun h1 h2 => ⟨Nat.le_trans h1 (by decide), Nat.le_trans h2 (by decide)⟩
 exact ⟨UR h.fu.1 (Rat.le_of_lt h.pu), h.fu.mono (by decide), h.fq.mono (by decide), sp (by omega) (by omega), sp (by omega) (by omega), sp (by omega) (by omega), sp (by omega) (by omega), by omega, by omega, sp (by omega) (by omega), rfl, by omega, by omega, ⟨or, h.fu.mono (by decide)⟩, rfl, rfl⟩
theorem HV {G : List (Nat × Obj)} (hG : zO G) (q : List UInt8) (u : List UInt8) (h : FS q u) : zv Tryz.prog G 36 [.str q, .str u] (.tup 2 (zw [.str (zu (NM (zP q) (zP u))), .i 0])) :=
 zW (T := eJ G) (an := .auto) mixed (Nw hG) (Eq.mp (by kernel_rfl) (JU G q u h))
theorem gX {G : List (Nat × Obj)} (hG : zO G) : zQ Tryz.prog G 36 pU := by
 intro xs ps r h hp
 unfold pU at h
 split at h
 ·skip
  rename_i q u
  cases h
  obtain ⟨q0, -⟩ := ZT hp
  exact weaken (ys := [.str q, .str u]) ⟨zV _, zV _, trivial⟩ (HV hG q u q0)
 ·cases h
end Go.Te

namespace Go.Te
open Go Go.Sx Go.Proofs Go.Ar
set_option maxRecDepth 100000
set_option maxHeartbeats 4000000
def Wu (n : Nat) : Rat := mkRat 1 (10 ^ n)
theorem nk (n : Nat) : (Wu n).num = 1 ∧ (Wu n).den = 10 ^ n := by
 have hp : 10 ^ n ≠ 0 := Nat.ne_of_gt (Nat.pow_pos (by decide))
 unfold Wu
 rw [Rat.num_mkRat, Rat.den_mkRat, if_neg hp, if_neg hp]
 have e : (Int.natAbs 1).gcd (10 ^ n) = 1 := Nat.gcd_one_left _
 have e2 : (10 ^ n).gcd (Int.natAbs 1) = 1 := Nat.gcd_one_right _
 constructor
 ·first | rw [e] | rw [e2]
  rfl
 ·first | rw [e] | rw [e2]
  exact Nat.div_one _
theorem ky {n : Nat} (h : n ≠ 0) : zu (Wu n) = [49, 47, 49] ++ List.replicate n 48 := by
 obtain ⟨e1, e2⟩ := nk n
 obtain ⟨t1, t2⟩ := rS n
 have hne : Nat.beq (10 ^ n) 1 = false := by
  cases hb : Nat.beq (10 ^ n) 1 with
  | false => rfl
  | true =>
   have := Nat.eq_of_beq_eq_true hb
   have : 10 ^ 1 ≤ 10 ^ n := Nat.pow_le_pow_right (by decide) (by omega)
   omega
 unfold zu YP
 rw [e1, e2, hne]
 have e3 : Lib.decDigits (10 ^ n) = 49 :: List.replicate n 48 := by
  rw [← Go.Ar.Z0, ← t2, Yt t1]
 have e4 : Lib.itoa 1 = [49] := by decide +kernel
 rw [e3, e4]; rfl
def Lg : List AV → Option (List zN × AV)
 | [.v (.int .i64 n)] => some ([.p (0 ≤ n ∧ n ≤ 100)], .str (zu (Wu n.toNat)))
 | _ => none
theorem Hx (n : Int) (hn : 0 ≤ n ∧ n ≤ 100) :
 zB [aI n] → zZ (n == iZ) (bA #[(49 : UInt8)] = zu (Wu (Int.toNat n))) ((iZ ≤ n ∧ n ≤ (1000000 : Int)) ∧ bF (DB.db (3 + lN (List.replicate (Int.toNat n) (48 : UInt8)) ≤ nX)) (bA #[(49 : UInt8), (47 : UInt8), (49 : UInt8)] ++ List.replicate (Int.toNat n) (48 : UInt8) = zu (Wu (Int.toNat n)))) := by
 delta bF bA nX lN iZ aI
 intro hb
 simp only [sS, Z2, ZL, zn, ZQ, YU, yx, Yn, yp, YH, ym, dS]
 refine ⟨fun h => ?_, fun h => ⟨⟨by omega, by omega⟩, by rw [List.length_replicate]; omega, (ky (by omega)).symm⟩⟩
 subst h
 exact (show zu (Wu 0) = [49] by decide +kernel).symm
theorem fZ (n : Int) (hn : 0 ≤ n ∧ n ≤ 100) : zv Tryz.prog [] 35 [.i n] (.str (zu (Wu n.toNat))) :=
 zW (T := T0.plus 89 tH) (an := .auto) mixed (zz.plus zr Pn) (Eq.mp (by kernel_rfl) (Hx n hn))
theorem gh : zQ Tryz.prog [] 35 Lg := by
 intro xs ps r h hp
 unfold Lg at h
 split at h
 ·skip
  rename_i n
  cases h
  obtain ⟨q0, -⟩ := ZT hp
  exact weaken (ys := [.i n]) ⟨zV _, trivial⟩ (fZ n q0)
 ·cases h
structure Fv (a u : zj) : Prop where
 fa : yX 140 a
 fu : yX 140 u
 pu : zP u ≠ 0
 q : bq 140 (zP a / zP u)
 f : bq 140 ((WV (zP a / zP u) : Int) : Rat)
def M7 : List AV → Option (List zN × AV)
 | [.str a, .str u] => some ([.p (Fv a u)], .tup 2 (zw [.str (zu ((WV (zP a / zP u) : Int) * zP u)), .i 0]))
 | _ => none
theorem Il (G : List (Nat × Obj)) (a : List UInt8) (u : List UInt8) (h : Fv a u) :
 zB [AV.str a, AV.str u] → gI a u ∧ yX 140 (zu (zP a / zP u)) ∧ UU 140 (Lib.itoa (WV (zP (zu (zP a / zP u))))) u ∧ j2 ∧ (True ∧ zu (zP (Lib.itoa (WV (zP (zu (zP a / zP u))))) * zP u) = zu ((↑(WV (zP a / zP u)) : Rat) * zP u)) ∧ kI ∧ iZ = iZ := by
 delta kI j2 iZ
 intro hb
 simp only [sS, Z2, ZL, zn, ZQ, YU, yx, Yn, yp, YH, ym, dS]
 have e : Lib.itoa (WV (zP a / zP u)) = zu ((WV (zP a / zP u) : Int) : Rat) := (qD _).symm
 rw [e, zn]
 exact ⟨⟨h.fa, h.fu, h.pu⟩, (Zm (by decide) (by decide)).2 h.q, ⟨(Zm (by decide) (by decide)).2 h.f, h.fu⟩, rfl, rfl⟩
theorem fP {G : List (Nat × Obj)} (hG : zO G) (a : List UInt8) (u : List UInt8) (h : Fv a u) : zv Tryz.prog G 157 [.str a, .str u] (.tup 2 (zw [.str (zu ((WV (zP a / zP u) : Int) * zP u)), .i 0])) :=
 zW (T := (((Xz G).plus 164 rM).plus 206 l9).plus 18 XB) (an := .auto) mixed (zz.plus (zz.plus (zz.plus zr (Pi hG)) (iP hG)) (wJ hG)) (Eq.mp (by kernel_rfl) (Il G a u h))
theorem Gz {G : List (Nat × Obj)} (hG : zO G) : zQ Tryz.prog G 157 M7 := by
 intro xs ps r h hp
 unfold M7 at h
 split at h
 ·skip
  rename_i a u
  cases h
  obtain ⟨q0, -⟩ := ZT hp
  exact weaken (ys := [.str a, .str u]) ⟨zV _, zV _, trivial⟩ (fP hG a u q0)
 ·cases h
def Ja (a : Rat) : List Tm := YA [⟨a, 1⟩]
def xW (s t : List Tm) : List Tm := YA (s ++ Zq (-1) t)
def OI (s t : List Tm) : Int := if (xW s t).length = 0 then 0 else wh (xW s t)
structure fg (s t : List Tm) : Prop where
 fs : wL s
 ft : wL t
 made : uM (s ++ Zq (-1) t)
 sg : xW s t = [] ∨ gG (xW s t)
theorem HY {G : List (Nat × Obj)} (hG : xx G) (s t : List Tm) (h : fg s t) : zv Tryz.prog G 70 [Zl s, Zl t] (.tup 2 (zw [.i (OI s t), .i 0])) := by
 rcases h.sg with e | e
 ·have := hJ hG.tab s t ⟨h.fs, h.ft, h.made, e⟩
  unfold OI
  rw [e]
  exact this
 ·have := Gm hG s t ⟨h.fs, h.ft, h.made, e⟩
  unfold OI
  rw [if_neg (by have := e.ne; omega)]
  exact this
def QH : List AV → Option (List zN × AV)
 | [x, y] => some ([.b (ze Tm x), .b (ze Tm y), .p (fg (Zn x) (Zn y))], .tup 2 (zw [.i (OI (Zn x) (Zn y)), .i 0]))
 | _ => none
theorem J2 {G : List (Nat × Obj)} (hG : xx G) : zQ Tryz.prog G 70 QH := by
 intro xs ps r h hp
 unfold QH at h
 split at h
 ·rename_i x y
  cases h
  obtain ⟨q0, q1, q2, -⟩ := ZT hp
  exact weaken (ys := [_, _]) ⟨zI q0, zI q1, trivial⟩ (HY hG _ _ q2)
 ·cases h
structure JN (s : List Tm) (a : Rat) : Prop where
 bq : bq 60 a
 mc : uM [⟨a, 1⟩]
 cp : fg (Ja a) s
def Ye (s : List Tm) (a : Rat) : Int := -OI (Ja a) s
theorem JO (f : Bool) (a : zj) : Zn (α := Tm) (AV.xl f 2 1 fun _ j => zw [AV.str a, AV.str [49]] j) = [⟨zP a, 1⟩] := by
 show [(⟨zP a, zP [49]⟩ : Tm)] = _
 rw [show zP [49] = 1 by decide +kernel]
theorem I5 (f : Bool) {a : zj} (h : uX a = true) : ze Tm (AV.xl f 2 1 fun _ j => zw [AV.str a, AV.str [49]] j) = true := by
 show (true && ((true && uX a) && (true && uX [49]))) = true
 rw [h]
 decide +kernel
theorem RV (s : List Tm) (p : Nat) : -1 ≤ YE s p ∧ YE s p ≤ 1 := by
 unfold YE
 split
 ·decide
 ·split <;> decide
theorem kN (s : List Tm) : -1 ≤ wh s ∧ wh s ≤ 1 := by
 unfold wh
 have a := RV s 4
 have b := RV s 16
 have c := RV s 64
 generalize YE s 4 = x at *
 generalize YE s 16 = y at *
 generalize YE s 64 = w at *
 split
 ·split <;> omega
 ·omega
theorem NL (s t : List Tm) : -1 ≤ OI s t ∧ OI s t ≤ 1 := by
 unfold OI
 have a := kN (xW s t)
 by_cases h : (xW s t).length = 0
 ·rw [if_pos h]; exact ⟨by decide, by decide⟩
 ·rw [if_neg h]; exact a
def mY : List AV → Option (List zN × AV)
 | [x_s, .str a] => some ([.b (ze Tm x_s), .p (uX a = true), .p (JN (Zn (α := Tm) x_s) (zP a))], .tup 2 (zw [.i (Ye (Zn (α := Tm) x_s) (zP a)), .i 0]))
 | _ => none
theorem HW (G : List (Nat × Obj)) (s : List Tm) (a : List UInt8) (ha : uX a = true) (h : JN s (zP a)) :
 let q1 := (AV.xl true 2 1 (Sx.rowAt [zw [AV.str a, AV.str (bA #[(49 : UInt8)])]])); let q2 := (Zn q1); let q4 := (YA q2); let q3 := (AV.xl false 2 (lN q4) fun i j => zR.enc (gD q4 i zR.dflt) j); let q5 := (AV.xl false 2 (lN s) fun i j => zR.enc (gD s i zR.dflt) j); let q6 := (Zn q3); let q7 := (Zn q5); zB [AV.xl false 2 (lN s) fun i j => zR.enc (gD s i zR.dflt) j, AV.str a] → bF (ze Tm q1) (uM q2 ∧ bF (ze Tm q3) (bF (ze Tm q5) (fg q6 q7 ∧ bF (dK (-OI q6
 q7)) (j2 ∧ (True ∧ kI ∧ -OI q6 q7 = Ye s (zP a)) ∧ kI ∧ iZ = iZ)))) := by
 delta bF dK bA kI j2 lN gD iZ
 dsimp only
 intro hb
 simp only [↓Zf, ↓Zu, row_one]
 simp only [sS, Z2, ZL, zn, ZQ, YU, yx, Yn, yp, YH, ym, dS]
 have b := NL (Ja (zP a)) s
 rw [JO, I5 _ ha]
 exact zY.2 ⟨fun _ => ⟨h.mc, h.cp, by show ZB .i64 (-OI (Ja (zP a)) s); simp only [ZB]; omega, rfl, rfl⟩, fun c => (by cases c)⟩
theorem fV {G : List (Nat × Obj)} (hG : xx G) (s : List Tm) (a : List UInt8) (ha : uX a = true) (h : JN s (zP a)) : zv Tryz.prog G 97 [Zl s, .str a] (.tup 2 (zw [.i (Ye s (zP a)), .i 0])) :=
 zW (T := ((Xz G).plus 158 qa).plus 70 QH) (an := .auto) mixed (zz.plus (zz.plus zr (l7 hG.tab)) (J2 hG)) (Eq.mp (by kernel_rfl) (HW G s a ha h))
theorem GI {G : List (Nat × Obj)} (hG : xx G) : zQ Tryz.prog G 97 mY := by
 intro xs ps r h hp
 unfold mY at h
 split at h
 ·skip
  rename_i x_s a
  cases h
  obtain ⟨q0, q1, q2, -⟩ := ZT hp
  exact weaken (ys := [Zl (Zn (α := Tm) x_s), .str a]) ⟨zI q0, zV _, trivial⟩ (fV hG (Zn (α := Tm) x_s) a q1 q2)
 ·cases h
end Go.Te

namespace Go.Te
open Go Go.Sx Go.Proofs Go.Ar
set_option maxRecDepth 100000
set_option maxHeartbeats 4000000
def w8 (t : Tm) (f : Rat) : Rat := if t.c < 0 then -NM (t.c * t.c * t.q) f else NM (t.c * t.c * t.q) f
structure gj (t : Tm) (f : Rat) : Prop where
 bc : bq 60 t.c
 bt : bq 60 t.q
 cc : bq 140 (t.c * t.c)
 cq : bq 60 (t.c * t.c * t.q)
 pc : 0 ≤ t.c * t.c * t.q
 bf : bq 60 f
 pf : 0 < f
 out : bq 140 (Io (t.c * t.c * t.q) f : Rat)
 res : bq 140 (NM (t.c * t.c * t.q) f)
theorem xu {k : Nat} {q : Rat} (h : bq k q) (h0 : 0 < k) (hk : k ≤ 300) : yX k (zu q) := (Zm h0 hk).2 h
theorem Jh {k : Nat} {u : zj} (h : uX u = true) (hb : bq k (zP u)) (h0 : 0 < k) (hk : k ≤ 300) : yX k u := by
 have e : zu (zP u) = u := eq_of_beq h
 have := xu hb h0 hk
 rwa [e] at this
theorem qy (q : Rat) : (((zu q).getD 0 0).toNat : Int) = 45 ↔ q < 0 := by
 have e : (zu q).getD 0 0 = (Lib.itoa q.num).getD 0 0 := by
  have := (ZD (n := q.num) (k := Xu q.num) (tV _) (X2 _)).2
  unfold zu YP
  rw [List.getD_eq_getElem?_getD, List.getElem?_append_left this, List.getD_eq_getElem?_getD]
 rw [e, TK]
 have := Rat.num_nonneg (q := q)
 constructor
 ·intro h
  refine Rat.not_le.1 fun h2 => ?_
  have := this.2 h2
  omega
 ·intro h
  refine Int.not_le.1 fun h2 => ?_
  have := this.1 h2
  grind
theorem j9 (q : Rat) : 0 < (zu q).length := by
 have := (ZD (n := q.num) (k := Xu q.num) (tV _) (X2 _)).2
 unfold zu YP
 rw [List.length_append]
 omega
def MG : List AV → Option (List zN × AV)
 | [x_t, .str u] => some ([.b (yo Tm x_t), .p (yX 60 u), .p (gj (yR (α := Tm) x_t) (zP u))], .tup 2 (zw [.str (zu (w8 (yR (α := Tm) x_t) (zP u))), .i 0]))
 | _ => none
theorem gO (G : List (Nat × Obj)) (t : Tm) (u : List UInt8) (hu : yX 60 u) (h : gj t (zP u)) :
 let q1 := (zu (zP (zu (Tm.c t)) * zP (zu (Tm.c t)))); let q2 := (zu (zP q1 * zP (zu (Tm.q t)))); let q3 := (NM (zP q2) (zP u)); let q4 := (bA #[(48 : UInt8)]); let q5 := (zu q3); zB [AV.agg 2 (zR.enc t), AV.str u] → UU 140 (zu (Tm.c t)) (zu (Tm.c t)) ∧ UU 140 q1 (zu (Tm.q t)) ∧ FS q2 u ∧ bF (!zS false (iZ != iZ) || DB.db (iZ ≤ iZ ∧ iZ < (lZ (zu (Tm.c t))))) (zZ (bif iZ != iZ then true else (cI (UInt8.toNat (gD (zu (Tm.c t)) 0 (0 :
 UInt8)))) != (45 : Int)) (j2 ∧ (True ∧ zu q3 = zu (w8 t (zP u))) ∧ kI ∧ iZ = iZ) (UU 140 q4 q5 ∧ j2 ∧ (True ∧ zu (zP q4 - zP q5) = zu (w8 t (zP u))) ∧ kI ∧ iZ = iZ)) := by
 delta bF bA cI kI j2 lZ gD iZ
 dsimp only
 intro hb
 simp only [sS, Z2, ZL, zn, ZQ, YU, yx, Yn, yp, YH, ym, dS]
 have z0 : zP [48] = 0 := by decide +kernel
 have okz : yX 140 ([48] : zj) := ⟨by decide +kernel, by rw [z0]; exact ⟨by decide +kernel, by decide +kernel⟩⟩
 have eq := zn (t.c * t.c * t.q)
 refine ⟨⟨xu (h.bc.mono (by decide)) (by decide) (by decide), xu (h.bc.mono (by decide)) (by decide) (by decide)⟩, ⟨xu h.cc (by decide) (by decide), xu (h.bt.mono (by decide)) (by decide) (by decide)⟩, ⟨xu h.cq (by decide) (by decide), hu, by rw [eq]; exact h.pc, h.pf, by rw [eq]; exact h.out⟩, fun _ => ⟨by decide, by have := j9 t.c; omega⟩, zY.2 ⟨fun c => ?_, fun c => ?_⟩⟩
 ·have hc : ¬ t.c < 0 := fun e => by
   have := (qy t.c).2 e
   rw [this] at c
   exact absurd c (by decide)
  unfold w8
  rw [if_neg hc]
  exact ⟨rfl, rfl⟩
 ·have hc : t.c < 0 := by
   refine (qy t.c).1 ?_
   rw [Bool.or_eq_false_iff] at c
   have := c.2
   rw [bne_eq_false_iff_eq] at this
   exact this
  unfold w8
  rw [if_pos hc, z0]
  exact ⟨⟨okz, xu h.res (by decide) (by decide)⟩, rfl, by congr 1; grind⟩
theorem GM {G : List (Nat × Obj)} (hG : zO G) (t : Tm) (u : List UInt8) (hu : yX 60 u) (h : gj t (zP u)) : zv Tryz.prog G 156 [yD t, .str u] (.tup 2 (zw [.str (zu (w8 t (zP u))), .i 0])) :=
 zW (T := (((Xz G).plus 18 XB).plus 36 pU).plus 20 Pu) (an := .auto) mixed (zz.plus (zz.plus (zz.plus zr (wJ hG)) (gX hG)) (LG hG)) (Eq.mp (by kernel_rfl) (gO G t u hu h))
theorem fm {G : List (Nat × Obj)} (hG : zO G) : zQ Tryz.prog G 156 MG := by
 intro xs ps r h hp
 unfold MG at h
 split at h
 ·skip
  rename_i x_t u
  cases h
  obtain ⟨q0, q1, q2, -⟩ := ZT hp
  exact weaken (ys := [yD (yR (α := Tm) x_t), .str u]) ⟨zD q0, zV _, trivial⟩ (GM hG (yR (α := Tm) x_t) u q1 q2)
 ·cases h
def vn (s : List Tm) (f : Rat) : Rat := (s.map fun t => w8 t f).sum
def wy (s : List Tm) (u : Rat) : Rat := (WV (vn s (u * (1 / 1000)) / u) : Int) * u - u
structure gM (s : List Tm) (u : Rat) : Prop where
 len : s.length ≤ 16
 bu : bq 60 u
 bf : bq 60 (u * (1 / 1000))
 tr : ∀ t ∈ s, gj t (u * (1 / 1000))
 br : ∀ t ∈ s, bq 140 (w8 t (u * (1 / 1000)))
 bs : ∀ z, bq 140 (vn (s.take z) (u * (1 / 1000)))
 pu : u ≠ 0
 dq : bq 140 (vn s (u * (1 / 1000)) / u)
 fl : bq 140 ((WV (vn s (u * (1 / 1000)) / u) : Int) : Rat)
 ml : bq 140 (((WV (vn s (u * (1 / 1000)) / u) : Int) : Rat) * u)
def He (s : List Tm) (u : Rat) : yV :=
 .two .auto (.two .auto (.two .auto (.two .auto (.two (.two .auto (.one (.loop Nat (fun σ z => [(1, σ.tm 1), (6, σ.tm 6), (22, σ.tm 22), (23, σ.tm 23), (8, .str (zu (vn (s.take z) (u * (1 / 1000))))), (24, .i (z : Int))]) (fun σ z => []) 0 (fun σ z => z ≤ s.length) (fun σ z => s.length - z) .auto))) .auto))))
noncomputable def Et (G : List (Nat × Obj)) : Tb := ((((Xz G).plus 18 XB).plus 156 MG).plus 19 SJ).plus 20 Pu |>.plus 157 M7
theorem Nz {G : List (Nat × Obj)} (hG : zO G) : zz Tryz.prog (Et G) := zz.plus (zz.plus (zz.plus (zz.plus (zz.plus zr (wJ hG)) (fm hG)) (Ps hG)) (LG hG)) (Gz hG)
def mF : List AV → Option (List zN × AV)
 | [x_s, .str u] => some ([.b (ze Tm x_s), .p (uX u = true), .p (gM (Zn (α := Tm) x_s) (zP u))], .tup 2 (zw [.str (zu (wy (Zn (α := Tm) x_s) (zP u))), .i 0]))
 | _ => none
theorem HZ (G : List (Nat × Obj)) (s : List Tm) (u : List UInt8) (hu : uX u = true) (h : gM s (zP u)) :
 let q1 := (bA #[(49 : UInt8), (47 : UInt8), (49 : UInt8), (48 : UInt8), (48 : UInt8), (48 : UInt8)]); let q2 := (zP u * zP q1); let q3 := (AV.xl false 2 (lN s) fun i j => zR.enc (gD s i zR.dflt) j); let q4 := (kI ∧ (lZ s) = (lZ s)); let q6 := (zu q2); let q8 := (zP q6); zB [AV.xl false 2 (lN s) fun i j => zR.enc (gD s i zR.dflt) j, AV.str u] → UU 140 u q1 ∧ (∃ (z : Nat), (z ≤ lN s ∧ u = u ∧ zu q2 = zu q2 ∧ zi q3 q3 ∧ q4 ∧ Array.toList
 (ByteArray.data (ByteArray.mk #[(48 : UInt8)])) = zu (vn (List.take z s) (zP u * (1 / 1000 : Rat))) ∧ kI ∧ iZ = (cI z)) ∧ True) ∧ ∀ (z : Nat), let q5 := (AV.agg 2 fun (i : Nat) => if 0 ≤ 0 + i ∧ 0 + i < 2 then zR.enc (gD s (Int.toNat (cI z)) zR.dflt) (0 + (0 + i - 0)) else ZC (Value.agg #[Value.string (ByteArray.mk #[]), Value.string (ByteArray.mk #[])]) (0 + i)); let q7 := (yR q5); let q9 := (zu (vn (List.take z s) (zP u * (1 / 1000 : Rat)))); let q10 := (zu (w8 q7 q8)); let q11 := (zu ((↑(WV (zP q9 / zP u)) : Rat) * zP u)); z ≤
 lN s → zZ (zM (cI z) (lZ s)) (bF (DB.db (iZ ≤ (cI z) ∧ (cI z) < (lZ s))) (bF (yo Tm q5) (yX 60 q6 ∧ gj q7 q8 ∧ UU 140 q9 q10 ∧ bF (dK ((cI z) + iO)) (∃ (z' : Nat), ((z' ≤ lN s ∧ lN s - z' < lN s - z) ∧ u = u ∧ zu q2 = zu q2 ∧ zi q3 q3 ∧ q4 ∧ zu (zP q9 + zP q10) = zu (vn (List.take z' s) (zP u * (1 / 1000 : Rat))) ∧ kI ∧ (cI z) + iO = (cI z')) ∧ True)))) (Fv q9 u ∧ UU 140 q11 u ∧ 2 = List.length
 [AV.junk, AV.junk] ∧ (True ∧ zu (zP q11 - zP u) = zu (wy s (zP u))) ∧ kI ∧ iZ = iZ) := by
 delta bF dK bA cI kI lZ lN gD iZ iO
 dsimp only
 intro hb
 simp only [↓Zf, ↓Zu, row_one]
 simp only [sS, Z2, ZL, zn, ZQ, YU, yx, Yn, yp, YH, ym, dS]
 have e1 : zP [49, 47, 49, 48, 48, 48] = 1 / 1000 := by decide +kernel
 have ok1 : yX 140 ([49, 47, 49, 48, 48, 48] : zj) := ⟨by decide +kernel, by rw [e1]; exact ⟨by decide +kernel, by decide +kernel⟩⟩
 have hu6 : yX 140 u := Jh hu (h.bu.mono (by decide)) (by decide) (by decide)
 have hl := h.len
 rw [e1]
 have z0 : zu (vn (s.take 0) (zP u * (1 / 1000))) = [48] := by
  show zu 0 = _
  decide +kernel
 refine ⟨⟨hu6, ok1⟩, ⟨0, Nat.zero_le _, z0.symm, rfl⟩, fun z hz => ⟨fun hlt => ?_, fun hge => ?_⟩⟩
 ·have hm := yc (l := s) (i := z) (by omega)
  have e : vn (s.take (z + 1)) (zP u * (1 / 1000)) = vn (s.take z) (zP u * (1 / 1000)) + w8 (s.getD z zR.dflt) (zP u * (1 / 1000)) := by
   unfold vn
   rw [SQ (show z < s.length by omega), List.map_append, List.sum_append]
   simp [Rat.add_zero]
  exact ⟨⟨by omega, by omega⟩, xu h.bf (by decide) (by decide), h.tr _ hm, ⟨xu (h.bs z) (by decide) (by decide), xu (h.br _ hm) (by decide) (by decide)⟩, by simp only [ZB]; omega, z + 1, ⟨by omega, by omega⟩, by rw [e], by omega⟩
 ·obtain rfl : z = s.length := by omega
  have e0 := h.bs s.length
  rw [List.take_length] at e0 ⊢
  have eq := zn (vn s (zP u * (1 / 1000)))
  exact ⟨⟨xu e0 (by decide) (by decide), hu6, h.pu, by rw [eq]; exact h.dq, by rw [eq]; exact h.fl⟩, ⟨xu h.ml (by decide) (by decide), hu6⟩, rfl, rfl⟩
theorem Gc {G : List (Nat × Obj)} (hG : zO G) (s : List Tm) (u : List UInt8) (hu : uX u = true) (h : gM s (zP u)) : zv Tryz.prog G 96 [Zl s, .str u] (.tup 2 (zw [.str (zu (wy s (zP u))), .i 0])) :=
 zW (T := Et G) (an := He s (zP u)) mixed (Nz hG) (Eq.mp (by kernel_rfl) (HZ G s u hu h))
theorem fY {G : List (Nat × Obj)} (hG : zO G) : zQ Tryz.prog G 96 mF := by
 intro xs ps r h hp
 unfold mF at h
 split at h
 ·skip
  rename_i x_s u
  cases h
  obtain ⟨q0, q1, q2, -⟩ := ZT hp
  exact weaken (ys := [Zl (Zn (α := Tm) x_s), .str u]) ⟨zI q0, zV _, trivial⟩ (Gc hG (Zn (α := Tm) x_s) u q1 q2)
 ·cases h
def yj (s : List Tm) (u : Rat) (i : Nat) : Rat := wy s u + (i : Rat) * u
def L0 (s : List Tm) (u : Rat) : Nat → Nat → Tm
 | 0, _ => ⟨0, 0⟩
 | k + 1, i => if Ye s (yj s u (i + 1)) = 0 then ⟨yj s u (i + 1), yj s u (i + 1)⟩ else if 0 < Ye s (yj s u i) ∧ Ye s (yj s u (i + 1)) < 0 then ⟨yj s u i, yj s u (i + 1)⟩ else L0 s u k (i + 1)
def wq (s : List Tm) (u : Rat) : Tm := if Ye s (wy s u) = 0 then ⟨wy s u, wy s u⟩ else L0 s u (s.length + 4) 0
structure gK (s : List Tm) (u : Rat) : Prop where
 nr : gM s u
 o : ∀ i, i ≤ s.length + 4 → JN s (yj s u i)
 p : 0 ≤ Ye s (wy s u)
 k : ∃ k, k ≤ s.length + 4 ∧ Ye s (yj s u k) ≤ 0
def IY (s : List Tm) (u : Rat) : yV :=
 .two .auto (.two .auto (.two .auto (.two .auto (.two .auto (.two (.two .auto (.one (.loop Nat (fun σ z => [(0, σ.tm 0), (1, σ.tm 1), (4, σ.tm 4), (41, σ.tm 41), (6, .str (zu (yj s u z))), (8, .i (Ye s (yj s u z))), (9, .i 0), (42, .i (z : Int))]) (fun σ z => []) 0 (fun σ z => z ≤ s.length + 4 ∧ (∀ i, i ≤ z → 0 < Ye s (yj s u i)) ∧ wq s u = L0 s u (s.length + 4 - z) z) (fun σ z => s.length + 4 - z) .auto))) .auto)))))
noncomputable def eO (G : List (Nat × Obj)) : Tb := (((Xz G).plus 96 mF).plus 97 mY).plus 19 SJ
theorem NO {G : List (Nat × Obj)} (hG : xx G) : zz Tryz.prog (eO G) := zz.plus (zz.plus (zz.plus zr (fY hG.tab)) (GI hG)) (Ps hG.tab)
def Ma : List AV → Option (List zN × AV)
 | [x_s, .str u] => some ([.b (ze Tm x_s), .p (uX u = true), .p (gK (Zn (α := Tm) x_s) (zP u))], .tup 2 (zw [yD (wq (Zn (α := Tm) x_s) (zP u)), .i 0]))
 | _ => none
theorem HO (G : List (Nat × Obj)) (s : List Tm) (u : List UInt8) (hu : uX u = true) (h : gK s (zP u)) :
 let q2 := (AV.xl false 2 (lN s) fun i j => zR.enc (gD s i zR.dflt) j); let q1 := (ze Tm q2); let q3 := (Zn q2); let q5 := (wy q3 (zP u)); let q4 := (zu q5); let q6 := (zP q4); let q7 := (kI ∧ (lZ s) + (4 : Int) = (lZ s) + (4 : Int)); let q8 := (kI ∧ iZ = iZ); zB [AV.xl false 2 (lN s) fun i j => zR.enc (gD s i zR.dflt) j, AV.str u] → bF q1 (uX u = true ∧ gM q3 (zP u) ∧ bF q1 (uX q4 = true ∧ JN q3 q6 ∧ zZ (bif iZ == iZ then Ye q3 q6 ==
 iZ else false) (j2 ∧ (True ∧ 2 = 2 ∧ zu q5 = zu (Tm.c (wq s (zP u))) ∧ zu q5 = zu (Tm.q (wq s (zP u)))) ∧ kI ∧ iZ = iZ) (bF (dK ((lZ s) + (4 : Int))) ((∃ (z : Nat), ((z ≤ lN s + 4 ∧ (∀ (i : Nat), i ≤ z → iZ < Ye s (yj s (zP u) i)) ∧ wq s (zP u) = L0 s (zP u) (lN s + 4 - z) z) ∧ zi q2 q2 ∧ u = u ∧ (nat_lit 0 = 0 ∧ 0 = 0) ∧ q7 ∧ zu q5 = zu (yj s (zP u) z) ∧ (kI ∧ Ye q3 q6 = Ye s (yj s (zP u) z)) ∧ q8 ∧ IntKind.i64 =
 .i64 ∧ iZ = (cI z)) ∧ 24 = 24 ∧ 2 = 2 ∧ bA #[] = bA #[] ∧ bA #[] = bA #[]) ∧ ∀ (z : Nat), let q9 := (zu (zP (zu (yj s (zP u) z)) + zP u)); let q10 := (zP q9); let q11 := (bif bif iZ == iZ then iZ == iZ else false then zM iZ (Ye s (yj s (zP u) z)) else false); z ≤ lN s + 4 ∧ (∀ (i : Nat), i ≤ z → iZ < Ye s (yj s (zP u) i)) ∧ wq s (zP u) = L0 s
 (zP u) (lN s + 4 - z) z → zZ (zM (cI z) ((lZ s) + (4 : Int))) (UU 140 (zu (yj s (zP u) z)) u ∧ bF q1 (uX q9 = true ∧ JN q3 q10 ∧ zZ (bif iZ == iZ then Ye q3 q10 == iZ else false) (j2 ∧ (True ∧ 2 = 2 ∧ zu (zP (zu (yj s (zP u) z)) + zP u) = zu (Tm.c (wq s (zP u))) ∧ zu (zP (zu (yj s (zP u) z)) + zP u) = zu (Tm.q (wq s (zP u)))) ∧ kI ∧ iZ = iZ) (bF (!zS true q11 || zS true q11) (bF ((!bif bif iZ == iZ then (0 :
 Int) == iZ else false then zM iZ (Ye s (yj s (zP u) z)) else false) || zS true q11) (zZ (bif bif bif iZ == iZ then iZ == iZ else false then zM iZ (Ye s (yj s (zP u) z)) else false then zM (Ye q3 q10) iZ else false) (j2 ∧ (True ∧ 2 = 2 ∧ zu (yj s (zP u) z) = zu (Tm.c (wq s (zP u))) ∧ zu (zP (zu (yj s (zP u) z)) + zP u) = zu (Tm.q (wq s (zP u)))) ∧ kI ∧ iZ = iZ) (bF (dK ((cI z) + iO)) (∃ (z' : Nat), (((z' ≤
 lN s + 4 ∧ (∀ (i : Nat), i ≤ z' → iZ < Ye s (yj s (zP u) i)) ∧ wq s (zP u) = L0 s (zP u) (lN s + 4 - z') z') ∧ lN s + 4 - z' < lN s + 4 - z) ∧ zi q2 q2 ∧ u = u ∧ (nat_lit 0 = 0 ∧ 0 = 0) ∧ q7 ∧ zu (zP (zu (yj s (zP u) z)) + zP u) = zu (yj s (zP u) z') ∧ (kI ∧ Ye q3 q10 = Ye s (yj s (zP u) z')) ∧ q8 ∧ kI ∧ (cI z) + iO = (cI z')) ∧ 24 = 24 ∧ 2 = 2 ∧ bA #[] = bA #[] ∧ Array.toList (ByteArray.data
 (ByteArray.mk #[])) = bA #[]))))))) (j2 ∧ (True ∧ 2 = 2 ∧ bA #[] = zu (Tm.c (wq s (zP u))) ∧ bA #[] = zu (Tm.q (wq s (zP u)))) ∧ kI ∧ (4 : Int) = iZ))))) := by
 delta bF dK bA cI kI j2 lZ lN gD iZ iO
 dsimp only
 intro hb
 simp only [↓Zf, ↓Zu, row_one]
 simp only [sS, Z2, ZL, zn, ZQ, YU, yx, Yn, yp, YH, ym, dS]
 have hu6 : yX 140 u := Jh hu (h.nr.bu.mono (by decide)) (by decide) (by decide)
 have hl := h.nr.len
 have l0 : yj s (zP u) 0 = wy s (zP u) := by unfold yj; grind
 have l1 : ∀ z, yj s (zP u) z + zP u = yj s (zP u) (z + 1) := fun z => by
  unfold yj
  have : (((z + 1 : Nat)) : Rat) = (z : Rat) + 1 := by rw [Rat.natCast_add]; rfl
  rw [this]; grind
 have o0 := h.o 0 (by omega)
 rw [l0] at o0
 have bd : ∀ x, -1 ≤ Ye s x ∧ Ye s x ≤ 1 := fun x => by have := NL (Ja x) s; unfold Ye; omega
 refine ⟨hu, h.nr, wk _, o0, zY.2 ⟨fun c => ?_, fun c => ⟨by simp only [ZB]; omega, ⟨0, ⟨Nat.zero_le _, fun i hi => ?_, ?_⟩, by rw [l0], by rw [l0], rfl⟩, fun z ⟨z1, z2, z3⟩ => ⟨fun hlt => ?_, fun hge => ?_⟩⟩⟩⟩
 ·simp only [beq_self_eq_true, Bool.true_and, beq_iff_eq] at c
  unfold wq
  rw [if_pos c]
  exact ⟨rfl, rfl, rfl⟩
 ·simp only [beq_self_eq_true, Bool.true_and, beq_eq_false_iff_ne] at c
  obtain rfl : i = 0 := by omega
  rw [l0]
  have := h.p
  omega
 ·simp only [beq_self_eq_true, Bool.true_and, beq_eq_false_iff_ne] at c
  unfold wq
  rw [if_neg c]; rfl
 ·have ez : s.length + 4 - z = (s.length + 4 - (z + 1)) + 1 := by omega
  rw [ez] at z3
  unfold L0 at z3
  have o1 := h.o (z + 1) (by omega)
  have n1 := z2 z (Nat.le_refl _)
  have d := bd (yj s (zP u) (z + 1))
  rw [l1]
  refine ⟨⟨xu ((h.o z (by omega)).bq.mono (by decide)) (by decide) (by decide), hu6⟩, wk _, o1, zY.2 ⟨fun c => ?_, fun c => zY.2 ⟨fun c2 => ?_, fun c2 => ?_⟩⟩⟩
  ·simp only [beq_self_eq_true, Bool.true_and, beq_iff_eq] at c
   rw [if_pos c] at z3
   rw [z3]
   exact ⟨rfl, rfl, rfl⟩
  ·simp only [beq_self_eq_true, Bool.true_and, beq_eq_false_iff_ne] at c
   simp only [beq_self_eq_true, Bool.true_and, Bool.and_eq_true, zq] at c2
   rw [if_neg c, if_pos c2] at z3
   rw [z3]
   exact ⟨rfl, rfl, rfl⟩
  ·simp only [beq_self_eq_true, Bool.true_and, beq_eq_false_iff_ne] at c
   have c3 : ¬ (0 < Ye s (yj s (zP u) z) ∧ Ye s (yj s (zP u) (z + 1)) < 0) := fun e => by
    rw [(zq _ _).2 e.1, (zq _ _).2 e.2] at c2
    exact absurd c2 (by decide)
   rw [if_neg c, if_neg c3] at z3
   refine ⟨by simp only [ZB]; omega, z + 1, ⟨⟨by omega, fun i hi => ?_, z3⟩, by omega⟩, rfl, rfl, by omega⟩
   rcases Nat.lt_or_ge z i with hlt | hge
   ·obtain rfl : i = z + 1 := by omega
    omega
   ·exact z2 i hge
 ·obtain ⟨k, k1, k2⟩ := h.k
  have := z2 k (by omega)
  omega
theorem GY {G : List (Nat × Obj)} (hG : xx G) (s : List Tm) (u : List UInt8) (hu : uX u = true) (h : gK s (zP u)) : zv Tryz.prog G 38 [Zl s, .str u] (.tup 2 (zw [yD (wq s (zP u)), .i 0])) :=
 zW (T := eO G) (an := IY s (zP u)) mixed (NO hG) (Eq.mp (by kernel_rfl) (HO G s u hu h))
theorem fe {G : List (Nat × Obj)} (hG : xx G) : zQ Tryz.prog G 38 Ma := by
 intro xs ps r h hp
 unfold Ma at h
 split at h
 ·skip
  rename_i x_s u
  cases h
  obtain ⟨q0, q1, q2, -⟩ := ZT hp
  exact weaken (ys := [Zl (Zn (α := Tm) x_s), .str u]) ⟨zI q0, zV _, trivial⟩ (GY hG (Zn (α := Tm) x_s) u q1 q2)
 ·cases h
end Go.Te

namespace Go.Te
open Go Go.Sx Go.Proofs Go.Ar
set_option maxRecDepth 100000
set_option maxHeartbeats 4000000
structure Fp (a : zj) : Prop where
 ok : yX 300 a
 bq : bq 20 (zP a)
def lW : List AV → Option (List zN × AV)
 | [.str a] => some ([.p (Fp a)], .b false)
 | _ => none
theorem ID (G : List (Nat × Obj)) (a : List UInt8) (h : Fp a) :
 let q3 := (lZ (zp (Lib.itoa (Rat.num (zP a))))); let q2 := (zM (20 : Int) q3); let q1 := (!zS false q2 || zS false q2); zB [AV.str a] → yX 300 a ∧ bF q1 (bF q1 (bF (!!zM (20 : Int) q3 || zS false q2) ((bif zM (20 : Int) q3 then true else zM (20 : Int) (lZ (Lib.itoa (cI (Rat.den (zP a)))))) = false))) := by
 delta bF cI lZ
 dsimp only
 intro hb
 simp only [sS, Z2, ZL, zn, ZQ, YU, yx, Yn, yp, YH, ym, dS]
 have l1 : (zp (Lib.itoa (zP a).num)).length ≤ 20 := by
  rw [Uu]; exact x5 (by decide) h.bq.1
 have l2 : (Lib.itoa ((zP a).den : Int)).length ≤ 20 := by
  rw [Go.Ar.Z0, Lib.decDigits_length]; exact (ZX (by decide)).2 h.bq.2
 exact ⟨h.ok, by rw [Bool.or_eq_false_iff]; exact ⟨Bool.eq_false_iff.2 fun e => by have := (zq _ _).1 e; omega, Bool.eq_false_iff.2 fun e => by have := (zq _ _).1 e; omega⟩⟩
theorem fc {G : List (Nat × Obj)} (hG : zO G) (a : List UInt8) (h : Fp a) : zv Tryz.prog G 95 [.str a] (.b false) :=
 zW (T := ((Xz G).plus 155 TR).plus 83 (Yq fun s => .str (zp s))) (an := .auto) mixed (zz.plus (zz.plus zr (rq hG)) (zQ.mono W1)) (Eq.mp (by kernel_rfl) (ID G a h))
theorem fT {G : List (Nat × Obj)} (hG : zO G) : zQ Tryz.prog G 95 lW := by
 intro xs ps r h hp
 unfold lW at h
 split at h
 ·skip
  rename_i a
  cases h
  obtain ⟨q0, -⟩ := ZT hp
  exact weaken (ys := [.str a]) ⟨zV _, trivial⟩ (fc hG a q0)
 ·cases h
structure GH (s : List Tm) : Prop where
 ok : wL s
 c : ∀ t ∈ s, bq 20 t.c
def ic  : yV :=
 .two .auto (.two (.two .auto (.one (.loop Nat (fun σ z => [(0, σ.tm 0), (1, σ.tm 1), (7, σ.tm 7), (8, .i (z : Int))]) (fun σ z => []) 0 (fun σ z => 0 ≤ z) (fun σ z => 100 - z) .auto))) .auto)
noncomputable def eI (G : List (Nat × Obj)) : Tb := ((((Xz G).plus 69 su).plus 95 lW).body Tryz.prog [(94, .auto)]).body Tryz.prog [(154, ic)] |>.body Tryz.prog [(93, .auto)]
theorem Oj {G : List (Nat × Obj)} (hG : zO G) : zz Tryz.prog (eI G) := zz.body mixed (zz.body mixed (zz.body mixed (zz.plus (zz.plus zr (OU hG)) (fT hG)) _) _) _
def LO : List AV → Option (List zN × AV)
 | [x_s] => some ([.b (ze Tm x_s), .p (GH (Zn (α := Tm) x_s))], .i 0)
 | _ => none
theorem Hn (G : List (Nat × Obj)) (s : List Tm) (h : GH s) :
 let q1 := (AV.xl false 2 (lN s) fun i j => zR.enc (gD s i zR.dflt) j); let q2 := (AV.fn (Fn.func 94) 0 (fun (x : Nat) => AV.junk) 0 fun (x : Nat) => AV.junk); let q3 := (kI ∧ (lZ s) = (lZ s)); zB [AV.xl false 2 (lN s) fun i j => zR.enc (gD s i zR.dflt) j] → bF (ze Tm q1) (wL (Zn q1) ∧ (∃ (z : Nat), (0 ≤ z ∧ zi q1 q1 ∧ zi q2 q2 ∧ q3 ∧ kI ∧ iZ = (cI z)) ∧ True) ∧ ∀ (z : Nat), 0 ≤ z → zZ (zM (cI z) (lZ s)) (bF (DB.db (iZ ≤ (cI z) ∧
 (cI z) < (lZ s))) (Fp (zu (Tm.c (gD s (Int.toNat (cI z)) zR.dflt))) ∧ bF (dK ((cI z) + iO)) (∃ (z' : Nat), ((0 ≤ z' ∧ 100 - z' < 100 - z) ∧ zi q1 q1 ∧ zi q2 q2 ∧ q3 ∧ kI ∧ (cI z) + iO = (cI z')) ∧ True))) (kI ∧ iZ = iZ)) := by
 delta bF dK cI kI lZ lN gD iZ iO
 dsimp only
 intro hb
 simp only [↓Zf, ↓Zu, row_one]
 simp only [sS, Z2, ZL, zn, ZQ, YU, yx, Yn, yp, YH, ym, dS]
 have hl := h.ok.len
 refine ⟨h.ok, ⟨0, rfl⟩, fun z _ => ⟨fun hz => ⟨⟨by omega, hz⟩, ?_, by simp only [ZB]; omega, z + 1, by omega, by omega⟩, fun _ => trivial⟩⟩
 have b := h.c _ (yc (l := s) (i := z) (by omega))
 exact ⟨xu (b.mono (by decide)) (by decide) (by decide), by rw [zn]; exact b⟩
theorem fJ {G : List (Nat × Obj)} (hG : zO G) (s : List Tm) (h : GH s) : zv Tryz.prog G 37 [Zl s] (.i 0) :=
 zW (T := eI G) (an := .auto) mixed (Oj hG) (Eq.mp (by kernel_rfl) (Hn G s h))
theorem gb {G : List (Nat × Obj)} (hG : zO G) : zQ Tryz.prog G 37 LO := by
 intro xs ps r h hp
 unfold LO at h
 split at h
 ·skip
  rename_i x_s
  cases h
  obtain ⟨q0, q1, -⟩ := ZT hp
  exact weaken (ys := [Zl (Zn (α := Tm) x_s)]) ⟨zI q0, trivial⟩ (fJ hG (Zn (α := Tm) x_s) q1)
 ·cases h
structure lu (s : List Tm) (p : Int) : Prop where
 sh : GH s
 pl : 0 ≤ p ∧ p ≤ 40
 of : gK s (Wu p.toNat)
def P1 : List AV → Option (List zN × AV)
 | [x_s, .v (.int .i64 p)] => some ([.b (ze Tm x_s), .p (lu (Zn (α := Tm) x_s) p)], .tup 2 (zw [yD (wq (Zn (α := Tm) x_s) (Wu p.toNat)), .i 0]))
 | _ => none
theorem HH (G : List (Nat × Obj)) (s : List Tm) (p : Int) (h : lu s p) :
 let q2 := (AV.xl false 2 (lN s) fun i j => zR.enc (gD s i zR.dflt) j); let q1 := (ze Tm q2); let q3 := (Zn q2); let q4 := (wq q3 (zP (zu (Wu (Int.toNat p))))); zB [AV.xl false 2 (lN s) fun i j => zR.enc (gD s i zR.dflt) j, aI p] → bF q1 (GH q3 ∧ bF (!zS false (zM p iZ) || zS false (zM p iZ)) (bF (!!zM p iZ || zS false (zM p iZ)) (zZ (bif zM p iZ then true else zM (40 : Int) p) (j2 ∧ (True ∧ 2 = 2 ∧ Array.toList (ByteArray.data
 (ByteArray.mk #[])) = zu (Tm.c (wq s (Wu (Int.toNat p)))) ∧ bA #[] = zu (Tm.q (wq s (Wu (Int.toNat p))))) ∧ kI ∧ (2 : Int) = iZ) ((iZ ≤ p ∧ p ≤ (100 : Int)) ∧ bF q1 (uX (zu (Wu (Int.toNat p))) = true ∧ gK q3 (zP (zu (Wu (Int.toNat p)))) ∧ j2 ∧ (True ∧ 2 = 2 ∧ zu (Tm.c q4) = zu (Tm.c (wq s (Wu (Int.toNat p)))) ∧ zu (Tm.q q4) = zu (Tm.q (wq s (Wu (Int.toNat p))))) ∧ kI ∧ iZ = iZ))))) := by
 delta bF bA kI j2 lN gD iZ aI
 dsimp only
 intro hb
 simp only [↓Zf, ↓Zu, row_one]
 simp only [sS, Z2, ZL, zn, ZQ, YU, yx, Yn, yp, YH, ym, dS]
 have hp := h.pl
 exact ⟨h.sh, zY.2 ⟨fun c => by rw [Bool.or_eq_true, zq, zq] at c; omega, fun _ => ⟨⟨by omega, by omega⟩, wk _, h.of, rfl⟩⟩⟩
theorem fB {G : List (Nat × Obj)} (hG : xx G) (s : List Tm) (p : Int) (h : lu s p) : zv Tryz.prog G 15 [Zl s, .i p] (.tup 2 (zw [yD (wq s (Wu p.toNat)), .i 0])) :=
 zW (T := ((((Xz G).plus 37 LO).plus 35 Lg).plus 38 Ma)) (an := .auto) mixed (zz.plus (zz.plus (zz.plus zr (gb hG.tab)) (zQ.mono gh)) (fe hG)) (Eq.mp (by kernel_rfl) (HH G s p h))
theorem Jp {G : List (Nat × Obj)} (hG : xx G) : zQ Tryz.prog G 15 P1 := by
 intro xs ps r h hp
 unfold P1 at h
 split at h
 ·skip
  rename_i x_s p
  cases h
  obtain ⟨q0, q1, -⟩ := ZT hp
  exact weaken (ys := [Zl (Zn (α := Tm) x_s), .i p]) ⟨zI q0, zV _, trivial⟩ (fB hG (Zn (α := Tm) x_s) p q1)
 ·cases h
end Go.Te

namespace Go.Te
open Go Go.Sx Go.Proofs Go.Ar
set_option maxRecDepth 100000
set_option maxHeartbeats 4000000
structure Mg (s : List Tm) (c : zj) : Prop where
 ok : wL s
 oc : yX 10 c
 mc : uM (Zq (zP c) s)
def Pf : List AV → Option (List zN × AV)
 | [x_s, .str c] => some ([.b (ze Tm x_s), .p (Mg (Zn (α := Tm) x_s) c)], .tup 2 (zw [Zl (YA (Zq (zP c) (Zn (α := Tm) x_s))), .i 0]))
 | _ => none
theorem kP (G : List (Nat × Obj)) (s : List Tm) (c : List UInt8) (h : Mg s c) :
 let q2 := (AV.xl false 2 (lN s) fun i j => zR.enc (gD s i zR.dflt) j); let q1 := (ze Tm q2); let q3 := (Zn q2); let q5 := (Zq (zP c) q3); let q4 := (AV.xl false 2 (lN q5) fun i j => zR.enc (gD q5 i zR.dflt) j); let q6 := (Zn q4); let q7 := (YA q6); zB [AV.xl false 2 (lN s) fun i j => zR.enc (gD s i zR.dflt) j, AV.str c] → bF q1 (wL q3 ∧ yX 300 c ∧ bF q1 (lN q3 ≤ 1000 ∧ yX 10 c ∧ (∀ (x : Tm), List.Mem x q3 → bq 100 (Tm.c x)) ∧ bF (ze Tm q4) (uM q6 ∧ j2 ∧ (True ∧ zi (AV.xl
 false 2 (lN q7) fun i j => zR.enc (gD q7 i zR.dflt) j) (AV.xl false 2 (lN (YA (Zq (zP c) s))) fun i j => zR.enc (gD (YA (Zq (zP c) s)) i zR.dflt) j)) ∧ kI ∧ iZ = iZ))) := by
 delta bF kI j2 lN gD iZ
 dsimp only
 intro hb
 simp only [↓Zf, ↓Zu, row_one]
 simp only [sS, Z2, ZL, zn, ZQ, YU, yx, Yn, yp, YH, ym, dS]
 have hl := h.ok.len
 exact ⟨h.ok, h.oc.mono (by decide), by omega, h.oc, fun x hx => (h.ok.bc x hx).mono (by decide), h.mc, rfl⟩
theorem gY {G : List (Nat × Obj)} (hG : zO G) (s : List Tm) (c : List UInt8) (h : Mg s c) : zv Tryz.prog G 165 [Zl s, .str c] (.tup 2 (zw [Zl (YA (Zq (zP c) s)), .i 0])) :=
 zW (T := ((((Xz G).plus 69 su).plus 29 uV).plus 186 o8).plus 158 qa) (an := .auto) mixed (zz.plus (zz.plus (zz.plus (zz.plus zr (OU hG)) (TP hG)) (Jm hG)) (l7 hG)) (Eq.mp (by kernel_rfl) (kP G s c h))
theorem gP {G : List (Nat × Obj)} (hG : zO G) : zQ Tryz.prog G 165 Pf := by
 intro xs ps r h hp
 unfold Pf at h
 split at h
 ·skip
  rename_i x_s c
  cases h
  obtain ⟨q0, q1, -⟩ := ZT hp
  exact weaken (ys := [Zl (Zn (α := Tm) x_s), .str c]) ⟨zI q0, zV _, trivial⟩ (gY hG (Zn (α := Tm) x_s) c q1)
 ·cases h
structure KB (s : List Tm) (u : zj) : Prop where
 ok : wL s
 ou : yX 140 u
 pu : 0 < zP u
 sc : Mg s (zu (1 / zP u))
noncomputable def EZ (G : List (Nat × Obj)) : Tb := ((((Xz G).plus 69 su).plus 29 uV).plus 12 Sb).plus 164 rM |>.plus 165 Pf |>.body Tryz.prog [(163, .auto)]
theorem nj {G : List (Nat × Obj)} (hG : zO G) : zz Tryz.prog (EZ G) := zz.body mixed (zz.plus (zz.plus (zz.plus (zz.plus (zz.plus zr (OU hG)) (TP hG)) (pJ hG)) (Pi hG)) (gP hG)) _
def oH : List AV → Option (List zN × AV)
 | [x_s, .str u] => some ([.b (ze Tm x_s), .p (KB (Zn (α := Tm) x_s) u)], .tup 2 (zw [Zl (YA (Zq (1 / zP u) (Zn (α := Tm) x_s))), .i 0]))
 | _ => none
theorem ik (G : List (Nat × Obj)) (s : List Tm) (u : List UInt8) (h : KB s u) :
 let q2 := (AV.xl false 2 (lN s) fun i j => zR.enc (gD s i zR.dflt) j); let q1 := (ze Tm q2); let q3 := (Zn q2); let q4 := (bA #[(48 : UInt8)]); let q5 := (bA #[(49 : UInt8)]); let q6 := (zu (zP q5 / zP u)); let q7 := (YA (Zq (zP q6) q3)); zB [AV.xl false 2 (lN s) fun i j => zR.enc (gD s i zR.dflt) j, AV.str u] → bF q1 (wL q3 ∧ (zS false (iZ != iZ) = true → yX 300 u) ∧ UU 140 u q4 ∧ zZ (bif iZ != iZ then true else leB (WX
 (zP u) (zP q4)) iZ) (j2 ∧ (True ∧ Value.slice (Xd Addr) 0 0 = Value.slice (Xd Addr) 0 0 ∧ lN (YA (Zq ((1 : Rat) / zP u) s)) = 0) ∧ kI ∧ (2 : Int) = iZ) (gI q5 u ∧ bF q1 (Mg q3 q6 ∧ j2 ∧ (True ∧ zi (AV.xl false 2 (lN q7) fun i j => zR.enc (gD q7 i zR.dflt) j) (AV.xl false 2 (lN (YA (Zq ((1 : Rat) / zP u) s))) fun i j => zR.enc (gD (YA (Zq ((1 : Rat) / zP u) s)) i zR.dflt) j)) ∧ kI ∧ iZ = iZ))) := by
 delta bF bA kI j2 lN gD iZ
 dsimp only
 intro hb
 simp only [↓Zf, ↓Zu, row_one]
 simp only [sS, Z2, ZL, zn, ZQ, YU, yx, Yn, yp, YH, ym, dS]
 have z0 : zP [48] = 0 := by decide +kernel
 have z1 : zP [49] = 1 := by decide +kernel
 have okz : yX 140 ([48] : zj) := ⟨by decide +kernel, by rw [z0]; exact ⟨by decide +kernel, by decide +kernel⟩⟩
 have ok1 : yX 140 ([49] : zj) := ⟨by decide +kernel, by rw [z1]; exact ⟨by decide +kernel, by decide +kernel⟩⟩
 have hp := h.pu
 have hc : leB (WX (zP u) 0) 0 = false := Bool.eq_false_iff.2 fun e => by
  have e := (z8 _ _).1 e
  unfold WX at e
  rw [if_neg (by grind), if_neg (by grind)] at e
  exact absurd e (by decide)
 rw [z0, z1, hc]
 exact ⟨h.ok, fun _ => h.ou.mono (by decide), ⟨h.ou, okz⟩, zY.2 ⟨fun c => (by cases c), fun _ => ⟨⟨ok1, h.ou, by grind⟩, h.sc, rfl, zV _⟩⟩⟩
theorem Fz {G : List (Nat × Obj)} (hG : zO G) (s : List Tm) (u : List UInt8) (h : KB s u) : zv Tryz.prog G 106 [Zl s, .str u] (.tup 2 (zw [Zl (YA (Zq (1 / zP u) s)), .i 0])) :=
 zW (T := EZ G) (an := .auto) mixed (nj hG) (Eq.mp (by kernel_rfl) (ik G s u h))
theorem JG {G : List (Nat × Obj)} (hG : zO G) : zQ Tryz.prog G 106 oH := by
 intro xs ps r h hp
 unfold oH at h
 split at h
 ·skip
  rename_i x_s u
  cases h
  obtain ⟨q0, q1, -⟩ := ZT hp
  exact weaken (ys := [Zl (Zn (α := Tm) x_s), .str u]) ⟨zI q0, zV _, trivial⟩ (Fz hG (Zn (α := Tm) x_s) u q1)
 ·cases h
noncomputable def HU (G : List (Nat × Obj)) : Tb := ((((Xz G).plus 106 oH).plus 15 P1).plus 18 XB).body Tryz.prog [(108, .auto), (109, .auto)] |>.body Tryz.prog [(107, .auto), (166, .auto)]
theorem Tt {G : List (Nat × Obj)} (hG : xx G) : zz Tryz.prog (HU G) := zz.body mixed (zz.body mixed (zz.plus (zz.plus (zz.plus zr (JG hG.tab)) (Jp hG)) (wJ hG.tab)) _) _
structure GT (s : List Tm) (u : zj) : Prop where
 un : KB s u
 of : lu (YA (Zq (1 / zP u) s)) 0
 bc : bq 140 (wq (YA (Zq (1 / zP u) s)) (Wu 0)).c
 bq : bq 140 (wq (YA (Zq (1 / zP u) s)) (Wu 0)).q
theorem Hq (G : List (Nat × Obj)) (s : List Tm) (u : List UInt8) (h : GT s u) :
 let q1 := (AV.xl false 2 (lN s) fun i j => zR.enc (gD s i zR.dflt) j); let q2 := (Zn q1); let q4 := (YA (Zq ((1 : Rat) / zP u) q2)); let q3 := (AV.xl false 2 (lN q4) fun i j => zR.enc (gD q4 i zR.dflt) j); let q5 := (Zn q3); let q6 := (zu (Tm.c (wq q5 (Wu 0)))); zB [AV.xl false 2 (lN s) fun i j => zR.enc (gD s i zR.dflt) j, AV.str u] → bF (ze Tm q1) (KB q2 u ∧ bF (ze Tm q3) (lu q5 iZ ∧ UU 140 q6 u ∧ j2 ∧ (True ∧ zu (zP q6 * zP u) = zu (Tm.c (wq (YA (Zq ((1 : Rat) /
 zP u) s)) (Wu 0)) * zP u)) ∧ kI ∧ iZ = iZ)) := by
 delta bF kI j2 lN gD iZ
 dsimp only
 intro hb
 simp only [↓Zf, ↓Zu, row_one]
 simp only [sS, Z2, ZL, zn, ZQ, YU, yx, Yn, yp, YH, ym, dS]
 exact ⟨h.un, h.of, ⟨xu h.bc (by decide) (by decide), h.un.ou⟩, rfl⟩
theorem GE {G : List (Nat × Obj)} (hG : xx G) (s : List Tm) (u : List UInt8) (h : GT s u) : zv Tryz.prog G 50 [Zl s, .str u] (.tup 2 (zw [.str (zu ((wq (YA (Zq (1 / zP u) s)) (Wu 0)).c * zP u)), .i 0])) :=
 zW (T := HU G) (an := .auto) mixed (Tt hG) (Eq.mp (by kernel_rfl) (Hq G s u h))
theorem iq (G : List (Nat × Obj)) (s : List Tm) (u : List UInt8) (h : GT s u) :
 let q1 := (AV.xl false 2 (lN s) fun i j => zR.enc (gD s i zR.dflt) j); let q2 := (Zn q1); let q4 := (YA (Zq ((1 : Rat) / zP u) q2)); let q3 := (AV.xl false 2 (lN q4) fun i j => zR.enc (gD q4 i zR.dflt) j); let q5 := (Zn q3); let q6 := (zu (Tm.q (wq q5 (Wu 0)))); zB [AV.xl false 2 (lN s) fun i j => zR.enc (gD s i zR.dflt) j, AV.str u] → bF (ze Tm q1) (KB q2 u ∧ bF (ze Tm q3) (lu q5 iZ ∧ UU 140 q6 u ∧ j2 ∧ (True ∧ zu (zP q6 * zP u) = zu (Tm.q (wq (YA (Zq ((1 : Rat) /
 zP u) s)) (Wu 0)) * zP u)) ∧ kI ∧ iZ = iZ)) := by
 delta bF kI j2 lN gD iZ
 dsimp only
 intro hb
 simp only [↓Zf, ↓Zu, row_one]
 simp only [sS, Z2, ZL, zn, ZQ, YU, yx, Yn, yp, YH, ym, dS]
 exact ⟨h.un, h.of, ⟨xu h.bq (by decide) (by decide), h.un.ou⟩, rfl⟩
theorem Gj {G : List (Nat × Obj)} (hG : xx G) (s : List Tm) (u : List UInt8) (h : GT s u) : zv Tryz.prog G 51 [Zl s, .str u] (.tup 2 (zw [.str (zu ((wq (YA (Zq (1 / zP u) s)) (Wu 0)).q * zP u)), .i 0])) :=
 zW (T := HU G) (an := .auto) mixed (Tt hG) (Eq.mp (by kernel_rfl) (iq G s u h))
def gJ (s : List Tm) (u : Rat) : List Tm := YA (YA (Zq (1 / u) s) ++ [⟨1 / 2, 1⟩])
structure eR (s : List Tm) (u : zj) : Prop where
 un : KB s u
 o1 : wL (YA (Zq (1 / zP u) s))
 o2 : wL [⟨1 / 2, 1⟩]
 mc : uM (YA (Zq (1 / zP u) s) ++ [⟨1 / 2, 1⟩])
 of : lu (gJ s (zP u)) 0
 bc : bq 140 (wq (gJ s (zP u)) (Wu 0)).c
noncomputable def G4 (G : List (Nat × Obj)) : Tb := (((((Xz G).plus 106 oH).plus 110 pK).plus 15 P1).plus 18 XB).body Tryz.prog [(108, .auto), (109, .auto)] |>.body Tryz.prog [(107, .auto), (166, .auto)]
theorem pW {G : List (Nat × Obj)} (hG : xx G) : zz Tryz.prog (G4 G) := zz.body mixed (zz.body mixed (zz.plus (zz.plus (zz.plus (zz.plus zr (JG hG.tab)) (Iz hG.tab)) (Jp hG)) (wJ hG.tab)) _) _
theorem gQ (G : List (Nat × Obj)) (s : List Tm) (u : List UInt8) (h : eR s u) :
 let q1 := (AV.xl false 2 (lN s) fun i j => zR.enc (gD s i zR.dflt) j); let q2 := (Zn q1); let q4 := (YA (Zq ((1 : Rat) / zP u) q2)); let q3 := (AV.xl false 2 (lN q4) fun i j => zR.enc (gD q4 i zR.dflt) j); let q5 := (AV.xl true 2 1 (Sx.rowAt [zw [AV.str (bA #[(49 : UInt8), (47 : UInt8), (50 : UInt8)]), AV.str (bA #[(49 : UInt8)])]])); let q6 := (Zn q3 ++ Zn q5); let q8 := (YA q6); let q7 := (AV.xl false 2 (lN q8) fun i j => zR.enc (gD q8 i
 zR.dflt) j); let q9 := (Zn q7); let q10 := (zu (Tm.c (wq q9 (Wu 0)))); zB [AV.xl false 2 (lN s) fun i j => zR.enc (gD s i zR.dflt) j, AV.str u] → bF (ze Tm q1) (KB q2 u ∧ bF (ze Tm q3) (wL (Zn q3) ∧ wL (Zn q5) ∧ uM q6 ∧ bF (ze Tm q7) (lu q9 iZ ∧ UU 140 q10 u ∧ j2 ∧ (True ∧ zu (zP q10 * zP u) = zu (Tm.c (wq (gJ s (zP u)) (Wu 0)) * zP u)) ∧ kI ∧ iZ = iZ))) := by
 delta bF bA kI j2 lN gD iZ
 dsimp only
 intro hb
 simp only [↓Zf, ↓Zu, row_one]
 simp only [sS, Z2, ZL, zn, ZQ, YU, yx, Yn, yp, YH, ym, dS]
 rw [JO, show zP [49, 47, 50] = 1 / 2 by decide +kernel]
 exact ⟨h.un, h.o1, h.o2, h.mc, h.of, ⟨xu h.bc (by decide) (by decide), h.un.ou⟩, rfl, rfl⟩
theorem G7 {G : List (Nat × Obj)} (hG : xx G) (s : List Tm) (u : List UInt8) (h : eR s u) : zv Tryz.prog G 52 [Zl s, .str u] (.tup 2 (zw [.str (zu ((wq (gJ s (zP u)) (Wu 0)).c * zP u)), .i 0])) :=
 zW (T := G4 G) (an := .auto) mixed (pW hG) (Eq.mp (by kernel_rfl) (gQ G s u h))
end Go.Te
