/- rational: Sub, Floor. -/
import Derived.Test.YtgpbohfbhfbelaaGreatDoorTkQa
import Derived.Test.YtgpbohfbhfbelaaGreatDoorArZ
import Derived.Shelf.Strings.Repeat
import Derived.Test.YtgpbohfbhfbelaaGreatDoorProg
import Derived.Test.YtgpbohfbhfbelaaGreatDoorTkIf
import Derived.Test.YtgpbohfbhfbelaaGreatDoorSxDr
import Derived.Test.YtgpbohfbhfbelaaGreatDoorTkIk
import Derived.Lib.BitFns
set_option linter.unusedSimpArgs false
set_option linter.unusedVariables false
namespace Go.Te
open Go Go.Sx Go.Proofs Go.Ar
set_option maxRecDepth 100000
set_option maxHeartbeats 4000000
def Mg : List AV → Option (List zn × AV)
 | [.agg 2 p_x, .agg 2 p_y] => some ([.b (Yz (p_x 0) && Yz (p_x 1)), .b (Yz (p_y 0) && Yz (p_y 1)), .p (VU (⟨AV.int (p_x 0), AV.int (p_x 1)⟩ : Nt)), .p (VU (⟨AV.int (p_y 0), AV.int (p_y 1)⟩ : Nt))], yw (⟨(⟨AV.int (p_x 0), AV.int (p_x 1)⟩ : Nt).n * (⟨AV.int (p_y 0), AV.int (p_y 1)⟩ : Nt).d - (⟨AV.int (p_y 0), AV.int (p_y 1)⟩ : Nt).n * (⟨AV.int (p_x 0), AV.int (p_x 1)⟩ : Nt).d, (⟨AV.int (p_x 0), AV.int (p_x 1)⟩ : Nt).d * (⟨AV.int (p_y 0), AV.int (p_y 1)⟩ : Nt).d⟩ : Nt))
 | _ => none
theorem Ha (x : Nt) (y : Nt) (h1 : VU x) (h2 : VU y) :
 ZY [AV.agg 2 (zi.enc x), AV.agg 2 (zi.enc y)] → bF (dK (Nt.n x * Nt.d y)) (bF (dK (Nt.n y * Nt.d x)) (bF (dK (Nt.n x * Nt.d y - Nt.n y * Nt.d x)) (bF (dK (Nt.d x * Nt.d y)) (2 = 2 ∧ (kI ∧ Nt.n x * Nt.d y - Nt.n y * Nt.d x = Nt.n (Nt.mk (Nt.n x * Nt.d y - Nt.n y * Nt.d x) (Nt.d x * Nt.d y))) ∧ kI ∧ Nt.d x * Nt.d y = Nt.d (Nt.mk (Nt.n x * Nt.d y - Nt.n y * Nt.d x) (Nt.d x * Nt.d y)))))) := by
 delta bF dK kI
 intro hb
 simp only [sS, dS]
 unfold VU at h1 h2
 have m1 := y6 (a := x.n) (b := y.d) h1.1 ⟨by omega, h2.2.2⟩
 have m2 := y6 (a := y.n) (b := x.d) h2.1 ⟨by omega, h1.2.2⟩
 have m3 := y6 (a := x.d) (b := y.d) ⟨by omega, h1.2.2⟩ ⟨by omega, h2.2.2⟩
 exact ⟨⟨by omega, by omega⟩, ⟨by omega, by omega⟩, ⟨by omega, by omega⟩, ⟨by omega, by omega⟩⟩
theorem GU (x : Nt) (y : Nt) (h1 : VU x) (h2 : VU y) : zT Tryz.prog [] 48 [yw x, yw y] (yw (⟨x.n * y.d - y.n * x.d, x.d * y.d⟩ : Nt)) :=
 zU (T := T0) (an := .auto) mixed zq (Eq.mp (by kernel_rfl) (Ha x y h1 h2))
theorem gp : zQ Tryz.prog [] 48 Mg := by
 intro xs ps r h hp
 unfold Mg at h
 split at h
 ·skip
  rename_i p_x p_y
  cases h
  obtain ⟨q0, q1, q2, q3, -⟩ := Zo hp
  exact weaken (ys := [yw (⟨AV.int (p_x 0), AV.int (p_x 1)⟩ : Nt), yw (⟨AV.int (p_y 0), AV.int (p_y 1)⟩ : Nt)]) ⟨zc (x := .agg 2 p_x) (α := Nt) q0, zc (x := .agg 2 p_y) (α := Nt) q1, trivial⟩ (GU (⟨AV.int (p_x 0), AV.int (p_x 1)⟩ : Nt) (⟨AV.int (p_y 0), AV.int (p_y 1)⟩ : Nt) q2 q3)
 ·cases h
def Ls : List AV → Option (List zn × AV)
 | [.agg 2 p_x, .agg 2 p_y, .xq 1 c_cf 0] => some ([.b (ZV (p_x 0) && ZV (p_x 1)), .b (ZV (p_y 0) && ZV (p_y 1)), .b (KX 49 (c_cf 0)), .p (uL (⟨AV.bytes (p_x 0), AV.bytes (p_x 1)⟩ : Pt)), .p (uL (⟨AV.bytes (p_y 0), AV.bytes (p_y 1)⟩ : Pt))], .tup 2 (zt [.str (TC (· - ·) (⟨AV.bytes (p_x 0), AV.bytes (p_x 1)⟩ : Pt) (⟨AV.bytes (p_y 0), AV.bytes (p_y 1)⟩ : Pt)), .i (Wy (· - ·) (⟨AV.bytes (p_x 0), AV.bytes (p_x 1)⟩ : Pt) (⟨AV.bytes (p_y 0), AV.bytes (p_y 1)⟩ : Pt))]))
 | _ => none
theorem Ii (G : List (Nat × Obj)) (x : Pt) (y : Pt) (h1 : uL x) (h2 : uL y) :
 let q1 := (yI (fun (x1 x2 : Int) => x1 * x2) (Pt.n x) (Pt.d y) != iZ); let q2 := (True ∧ bA #[] = TC (fun (x1 x2 : Int) => x1 - x2) x y); let q3 := (bA #[]); let q4 := (YR (fun (x1 x2 : Int) => x1 * x2) (Pt.n x) (Pt.d y)); let q5 := (YR (fun (x1 x2 : Int) => x1 * x2) (Pt.n y) (Pt.d x)); let q6 := (YR (fun (x1 x2 : Int) => x1 - x2) q4 q5); let q7 := (YR (fun (x1 x2 : Int) => x1 * x2) (Pt.d x) (Pt.d y)); ZY [AV.agg 2 (zi.enc x), AV.agg 2 (zi.enc y), AV.xq 1 (fun (x : Nat) => AV.fn (Fn.func (49 :
 FuncId)) 0 (fun (x : Nat) => AV.junk) 0 fun (x : Nat) => AV.junk) 0] → lN (Pt.n x) ≤ nM ∧ lN (Pt.d y) ≤ nM ∧ zY q1 (zY q1 (j2 ∧ q2 ∧ kI ∧ yI (fun (x1 x2 : Int) => x1 * x2) (Pt.n x) (Pt.d y) = Wy (fun (x1 x2 : Int) => x1 - x2) x y) (0 ≤ nM ∧ 0 ≤ nM ∧ j2 ∧ q2 ∧ kI ∧ yI (fun (x1 x2 : Int) => x1 - x2) q3 q3 = Wy (fun (x1 x2 : Int) => x1 - x2) x y)) (lN (Pt.n y) ≤ nM ∧ lN (Pt.d x) ≤ nM ∧ zY (yI (fun (x1 x2
 : Int) => x1 * x2) (Pt.n y) (Pt.d x) != iZ) (j2 ∧ q2 ∧ kI ∧ yI (fun (x1 x2 : Int) => x1 * x2) (Pt.n y) (Pt.d x) = Wy (fun (x1 x2 : Int) => x1 - x2) x y) (lN q4 ≤ nM ∧ lN q5 ≤ nM ∧ zY (yI (fun (x1 x2 : Int) => x1 - x2) q4 q5 != iZ) (j2 ∧ q2 ∧ kI ∧ yI (fun (x1 x2 : Int) => x1 - x2) q4 q5 = Wy (fun (x1 x2 : Int) => x1 - x2) x y) (lN (Pt.d x) ≤ nM ∧ lN (Pt.d y) ≤ nM ∧ zY (yI (fun (x1 x2 : Int) => x1 * x2)
 (Pt.d x) (Pt.d y) != iZ) (j2 ∧ q2 ∧ kI ∧ yI (fun (x1 x2 : Int) => x1 * x2) (Pt.d x) (Pt.d y) = Wy (fun (x1 x2 : Int) => x1 - x2) x y) (ZX q6 = iZ ∧ ZX q7 = iZ ∧ zV q7 ≠ iZ ∧ j2 ∧ (True ∧ xR (zV q6) (zV q7) = TC (fun (x1 x2 : Int) => x1 - x2) x y) ∧ kI ∧ iZ = Wy (fun (x1 x2 : Int) => x1 - x2) x y)))) := by
 delta bA nM kI j2 lN iZ
 dsimp only
 intro hb
 simp only [sS, dS]
 exact ll h1 h2
theorem fU {G : List (Nat × Obj)} (hG : zh G) (x : Pt) (y : Pt) (h1 : uL x) (h2 : uL y) : zT Tryz.prog G 105 [yw x, yw y, .xq 1 (fun _ => KY 49) 0] (.tup 2 (zt [.str (TC (· - ·) x y), .i (Wy (· - ·) x y)])) :=
 zU (T := FC G) (an := .auto) mixed (Sv hG) (Eq.mp (by kernel_rfl) (Ii G x y h1 h2))
theorem gJ {G : List (Nat × Obj)} (hG : zh G) : zQ Tryz.prog G 105 Ls := by
 intro xs ps r h hp
 unfold Ls at h
 split at h
 ·skip
  rename_i p_x p_y c_cf
  cases h
  obtain ⟨q0, q1, q2, q3, q4, -⟩ := Zo hp
  exact weaken (ys := [yw (⟨AV.bytes (p_x 0), AV.bytes (p_x 1)⟩ : Pt), yw (⟨AV.bytes (p_y 0), AV.bytes (p_y 1)⟩ : Pt), .xq 1 (fun _ => KY 49) 0]) ⟨zc (x := .agg 2 p_x) (α := Pt) q0, zc (x := .agg 2 p_y) (α := Pt) q1, ⟨rfl, rfl, qE q2⟩, trivial⟩ (fU hG (⟨AV.bytes (p_x 0), AV.bytes (p_x 1)⟩ : Pt) (⟨AV.bytes (p_y 0), AV.bytes (p_y 1)⟩ : Pt) q3 q4)
 ·cases h
theorem Kg (G : List (Nat × Obj)) (a : List UInt8) (b : List UInt8) (hla : a.length ≤ 9223372036854775807) (hlb : b.length ≤ 9223372036854775807) :
 let q2 := (True ∧ bA #[] = Re (fun (x1 x2 : Int) => x1 - x2) a b); let q3 := (Pt.mk (AV.bytes (AV.str (bif zN a == iZ then zp a else []))) (AV.bytes (AV.str (bif zN a == iZ then Zm a else [])))); let q4 := (Pt.d q3); let q5 := (Pt.mk (AV.bytes (AV.str (bif zN b == iZ then zp b else []))) (AV.bytes (AV.str (bif zN b == iZ then Zm b else [])))); let q6 := (Pt.d q5); let q1 := (lN a ≤ nX ∧ zY (zN a != iZ) (j2 ∧ q2 ∧ kI ∧ zN
 a = V6 (fun (x1 x2 : Int) => x1 - x2) a b) (lN b ≤ nX ∧ zY (zN b != iZ) (j2 ∧ q2 ∧ kI ∧ zN b = V6 (fun (x1 x2 : Int) => x1 - x2) a b) ((ZX (Pt.n q3) = iZ ∧ ZX q4 = iZ ∧ zV q4 ≠ iZ) ∧ (ZX (Pt.n q5) = iZ ∧ ZX q6 = iZ ∧ zV q6 ≠ iZ) ∧ j2 ∧ (True ∧ TC (fun (x1 x2 : Int) => x1 - x2) q3 q5 = Re (fun (x1 x2 : Int) => x1 - x2) a b) ∧ kI ∧ Wy (fun (x1 x2 : Int) => x1 - x2) q3 q5 = V6 (fun (x1 x2 : Int) => x1 -
 x2) a b))); let q7 := (Nt.mk (AV.int (aI (bif Zw a then zJ a else iZ))) (AV.int (aI (bif Zw a then (cI (zP a)) else iZ)))); let q8 := (Nt.mk (AV.int (aI (bif Zw b then zJ b else iZ))) (AV.int (aI (bif Zw b then (cI (zP b)) else iZ)))); let q10 := (Nt.mk (Nt.n q7 * Nt.d q8 - Nt.n q8 * Nt.d q7) (Nt.d q7 * Nt.d q8)); let q9 := (Nt.mk (AV.int (aI (Nt.n q10))) (AV.int (aI (Nt.d q10)))); ZY [AV.str a, AV.str b] → lN a ≤
 nX ∧ zY (!Zw a) q1 (lN b ≤ nX ∧ zY (!Zw b) q1 ((((-99999999 : Int) ≤ Nt.n q7 ∧ Nt.n q7 ≤ (99999999 : Int)) ∧ iZ < Nt.d q7 ∧ Nt.d q7 ≤ (99999999 : Int)) ∧ (((-99999999 : Int) ≤ Nt.n q8 ∧ Nt.n q8 ≤ (99999999 : Int)) ∧ iZ < Nt.d q8 ∧ Nt.d q8 ≤ (99999999 : Int)) ∧ Nt.d q9 ≠ iZ ∧ ((-1000000000000000000 : Int) ≤ Nt.d q9 ∧ Nt.d q9 ≤ (1000000000000000000 : Int)) ∧ ((-1000000000000000000 : Int) ≤ Nt.n q9 ∧ Nt.n q9 ≤ (1000000000000000000 : Int)) ∧ j2 ∧ (True ∧ xR (Nt.n q9) (Nt.d q9) = Re (fun (x1
 x2 : Int) => x1 - x2) a b) ∧ kI ∧ iZ = V6 (fun (x1 x2 : Int) => x1 - x2) a b)) := by
 delta bA nX cI kI j2 lN iZ aI
 dsimp only
 intro hb
 simp only [sS, dS]
 refine ⟨hla, zv.2 ⟨fun c => ?_, fun c => ⟨hlb, zv.2 ⟨fun c2 => ?_, fun c2 => ?_⟩⟩⟩⟩
 rotate_left 2
 ·rw [Bool.not_eq_false'] at c c2
  obtain ⟨q1, q2, q3, q4, q5⟩ := QX (f := fun x1 x2 => x1 - x2) (fun u v => by omega) c c2
  rw [q1, q2, c, c2]
  exact ⟨UV c, UV c2, q3, q4, q5, rfl, rfl, rfl⟩
 all_goals
  refine ⟨hla, fun h => ⟨rfl, H9 h⟩, fun h0 => ⟨hlb, fun h => ⟨rfl, Gc h0 h⟩, fun h1 => ?_⟩⟩
  obtain ⟨q1, q2⟩ := Jc (f := fun x1 x2 => x1 - x2) h0 h1
  rw [h0, h1]
  exact ⟨Ws h0, Ws h1, rfl, q1, q2⟩
theorem HR {G : List (Nat × Obj)} (hG : zh G) (a : List UInt8) (b : List UInt8) (hla : a.length ≤ 9223372036854775807) (hlb : b.length ≤ 9223372036854775807) : zT Tryz.prog G 20 [.str a, .str b] (.tup 2 (zt [.str (Re (· - ·) a b), .i (V6 (· - ·) a b)])) :=
 zU (T := (((fB G).plus 48 Mg).plus 105 Ls).body Tryz.prog FJ) (an := .auto) mixed (zZ.body mixed (zZ.plus (zZ.plus (uU hG) (zQ.mono gp)) (gJ hG)) _) (Eq.mp (by kernel_rfl) (Kg G a b hla hlb))
def Hm := Ut (QK 140) (JF (· - ·))
theorem iD {G : List (Nat × Obj)} (hG : zh G) : zQ Tryz.prog G 20 Hm := qu fun a b h => by
 have := HR hG a b (yK h.1 (by decide) (by decide)) (yK h.2 (by decide) (by decide))
 obtain ⟨e1, e2⟩ := JB (f := fun x y => x - y) (fun u v => by omega) h.1 h.2
 rw [e1, e2, K9 h.1.parts.2.2 h.2.parts.2.2] at this
 exact this
theorem Jx (G : List (Nat × Obj)) (a : List UInt8) (ha : Xl 140 a) :
 let q2 := (bif Zw a then (cI (zP a)) else iZ); let q1 := (DB.db (q2 ≠ iZ)); let q3 := (Int.tdiv (bif Zw a then zJ a else iZ) q2); let q4 := (Int.tdiv (bif Zw a then zJ a else iZ) q2 - iO); let q5 := (bif zN a == iZ then zp a else []); let q6 := (bif zN a == iZ then Zm a else []); ZY [AV.str a] → lN a ≤ nX ∧ zY (Zw a) (bF q1 (bF (dK q3) (bF q1 (zY (zH (Int.tmod (bif Zw a then zJ a else iZ) q2) iZ) (zY (dK q4)
 ((iN ≤ Int.tdiv (bif Zw a then zJ a else iZ) q2 - iO ∧ Int.tdiv (bif Zw a then zJ a else iZ) q2 - iO ≤ iX) ∧ j2 ∧ (True ∧ Lib.itoa q4 = Lib.itoa (Kf (ZP a))) ∧ kI ∧ iZ = iZ) False) ((iN ≤ Int.tdiv (bif Zw a then zJ a else iZ) q2 ∧ Int.tdiv (bif Zw a then zJ a else iZ) q2 ≤ iX) ∧ j2 ∧ (True ∧ Lib.itoa q3 = Lib.itoa (Kf (ZP a))) ∧ IntKind.i64
 = .i64 ∧ iZ = iZ))))) (lN a ≤ nX ∧ zY (zN a != iZ) (j2 ∧ (True ∧ bA #[] = Lib.itoa (Kf (ZP a))) ∧ kI ∧ zN a = iZ) (lN q5 ≤ nM ∧ lN q6 ≤ nM ∧ j2 ∧ (True ∧ yF q5 q6 = Lib.itoa (Kf (ZP a))) ∧ kI ∧ xe q5 q6 = iZ)) := by
 delta bF dK bA nX nM cI kI j2 lN iZ iO iX iN
 dsimp only
 intro hb
 simp only [sS, dS]
 have pp := ha.parts
 have e : Kf (ZP a) = zJ a / (zP a : Int) := by unfold Kf; rw [(Z6 ha.1).1, (Z6 ha.1).2]
 rw [e]
 refine ⟨yK ha (by decide) (by decide), zv.2 ⟨fun c => ?_, fun c => ?_⟩⟩
 ·rw [c]
  simp only [cond_true]
  obtain ⟨_, b1, b2⟩ := Yf c
  have hb : ((zJ a).tdiv (zP a : Int)).natAbs ≤ (zJ a).natAbs := by
   rw [Int.natAbs_tdiv]
   exact Nat.div_le_self _ _
  have hq := kB (n := zJ a) (d := (zP a : Int)) (by omega)
  generalize (zJ a).tdiv (zP a : Int) = q at *
  refine ⟨by omega, by simp only [Y1]; omega, by omega, fun h => ?_, fun h => ?_⟩
  ·rcases hq with hq | hq
   ·exact ⟨by simp only [Y1]; omega, ⟨by omega, by omega⟩, rfl, by rw [hq.2]⟩
   ·omega
  ·rcases hq with hq | hq
   ·omega
   ·exact ⟨⟨by omega, by omega⟩, rfl, by rw [hq.2]⟩
 ·obtain ⟨v1, v2, v3, v4⟩ := mZ ha.1
  have l1 := (Zb v1).2.1
  have l2 := (Zb v2).2.1
  have hd : xe (zp a) (Zm a) = 0 := by
   unfold xe zI
   rw [v1, v2]
   have : (Zm a == [48]) = false := beq_eq_false_iff_ne.2 fun e => by
    rw [e] at v4
    have h0 : zV [48] = 0 := by decide
    omega
   rw [this]; rfl
  rw [ha.1]
  simp only [beq_self_eq_true, cond_true]
  refine ⟨yK ha (by decide) (by decide), fun h => absurd rfl h, fun _ => ⟨by omega, by omega, rfl, ?_, hd⟩⟩
  rw [(P8 hd).1, v3, v4, Int.fdiv_eq_ediv_of_nonneg _ (by omega)]
theorem IR {G : List (Nat × Obj)} (hG : zh G) (a : List UInt8) (ha : Xl 140 a) : zT Tryz.prog G 206 [.str a] (.tup 2 (zt [.str (Lib.itoa (Kf (ZP a))), .i 0])) :=
 zU (T := ((((Kk G).plus 32 XG).plus 30 vf).plus 104 tw)) (an := .auto) mixed (zZ.plus (zZ.plus (zZ.plus (Yj hG) (vX hG)) (zQ.mono tC)) (QG hG)) (Eq.mp (by kernel_rfl) (Jx G a ha))
end Go.Te

namespace Go.Proofs
open Go.Shelf
def Tryz.lays105_ren : Go.Shelf.Ren := ⟨fun | 105 => 89 | 212 => 141 | 99 => 102 | 165 => 142 | 166 => 143 | 170 => 144 | 169 => 145 | 263 => 199 | 264 => 200 | 206 => 162 | 240 => 201 | 241 => 202 | 276 => 238 | 277 => 239 | n => n, fun | 9 => 9 | 3 => 3 | 4 => 4 | 20 => 20 | 0 => 0 | 46 => 168 | 109 => 169 | 5 => 5 | 72 => 174 | 76 => 159 | 51 => 214 | 146 => 215 | 53 => 217 | 148 => 218 | 70 => 171 | 37 => 172 | 75 => 158 | 127 => 220 | 164 => 255 | 80 => 177 | n => n, fun | n => n⟩
theorem Tryz.lays105 : Go.Proofs.Lays.n105 Tryz.prog Tryz.lays105_ren := {
 mixed := by kernel_rfl
 f99 := Tryz.func102.trans (congrArg some (by kernel_rfl))
 f105 := Tryz.func89.trans (congrArg some (by kernel_rfl))
 f165 := Tryz.func142.trans (congrArg some (by kernel_rfl))
 f166 := Tryz.func143.trans (congrArg some (by kernel_rfl))
 f169 := Tryz.func145.trans (congrArg some (by kernel_rfl))
 f170 := Tryz.func144.trans (congrArg some (by kernel_rfl))
 f206 := Tryz.func162.trans (congrArg some (by kernel_rfl))
 f212 := Tryz.func141.trans (congrArg some (by kernel_rfl))
 f240 := Tryz.func201.trans (congrArg some (by kernel_rfl))
 f241 := Tryz.func202.trans (congrArg some (by kernel_rfl))
 f263 := Tryz.func199.trans (congrArg some (by kernel_rfl))
 f264 := Tryz.func200.trans (congrArg some (by kernel_rfl))
 f276 := Tryz.func238.trans (congrArg some (by kernel_rfl))
 f277 := Tryz.func239.trans (congrArg some (by kernel_rfl))
 t0 := Tryz.underlying0
 a0 := Tryz.isAgg0
 z0 := Tryz.sizeOf0
 v0 := Tryz.zeroValue0
 t3 := Tryz.underlying3
 a3 := Tryz.isAgg3
 z3 := Tryz.sizeOf3
 v3 := Tryz.zeroValue3
 t4 := Tryz.underlying4
 a4 := Tryz.isAgg4
 z4 := Tryz.sizeOf4
 v4 := Tryz.zeroValue4
 t5 := Tryz.underlying5
 a5 := Tryz.isAgg5
 z5 := Tryz.sizeOf5
 v5 := Tryz.zeroValue5
 t9 := Tryz.underlying9
 a9 := Tryz.isAgg9
 z9 := Tryz.sizeOf9
 v9 := Tryz.zeroValue9
 t20 := Tryz.underlying20
 a20 := Tryz.isAgg20
 z20 := Tryz.sizeOf20
 v20 := Tryz.zeroValue20
 t37 := Tryz.underlying172
 a37 := Tryz.isAgg172
 z37 := Tryz.sizeOf172
 v37 := Tryz.zeroValue172
 t46 := Tryz.underlying168
 a46 := Tryz.isAgg168
 z46 := Tryz.sizeOf168
 v46 := Tryz.zeroValue168
 t51 := Tryz.underlying214
 a51 := Tryz.isAgg214
 z51 := Tryz.sizeOf214
 v51 := Tryz.zeroValue214
 t53 := Tryz.underlying217
 a53 := Tryz.isAgg217
 z53 := Tryz.sizeOf217
 v53 := Tryz.zeroValue217
 t70 := Tryz.underlying171
 a70 := Tryz.isAgg171
 z70 := Tryz.sizeOf171
 v70 := Tryz.zeroValue171
 t72 := Tryz.underlying174
 a72 := Tryz.isAgg174
 z72 := Tryz.sizeOf174
 v72 := Tryz.zeroValue174
 t75 := Tryz.underlying158
 a75 := Tryz.isAgg158
 z75 := Tryz.sizeOf158
 v75 := Tryz.zeroValue158
 t76 := Tryz.underlying159
 a76 := Tryz.isAgg159
 z76 := Tryz.sizeOf159
 v76 := Tryz.zeroValue159
 t109 := Tryz.underlying169
 a109 := Tryz.isAgg169
 z109 := Tryz.sizeOf169
 v109 := Tryz.zeroValue169
 t127 := Tryz.underlying220
 a127 := Tryz.isAgg220
 z127 := Tryz.sizeOf220
 v127 := Tryz.zeroValue220
 t146 := Tryz.underlying215
 a146 := Tryz.isAgg215
 z146 := Tryz.sizeOf215
 v146 := Tryz.zeroValue215
 t148 := Tryz.underlying218
 a148 := Tryz.isAgg218
 z148 := Tryz.sizeOf218
 v148 := Tryz.zeroValue218
 t164 := Tryz.underlying255
 a164 := Tryz.isAgg255
 z164 := Tryz.sizeOf255
 v164 := Tryz.zeroValue255 }
theorem Tryz.Builder_Extra_105 : Builder.Extra Tryz.prog Tryz.lays105_ren := {
 sizeBuilder := by kernel_rfl
 liesBuilder := by kernel_rfl
 t5 := Tryz.underlying5
 a5 := Tryz.isAgg5
 z5 := Tryz.sizeOf5
 v5 := Tryz.zeroValue5
 infoByte := by kernel_rfl
 cellsByte := by kernel_rfl
 sizeByte := by kernel_rfl
 neB5 := by decide }
end Go.Proofs

namespace Go.Te
open Go Go.Sx Go.Proofs Go.Ar
set_option maxRecDepth 100000
set_option maxHeartbeats 4000000
theorem eT (n : Nat) : Lib.repeatL [48] n = List.replicate n (48 : UInt8) := by
 have := Lib.repeatL_replicate 48 1 n
 rwa [Nat.mul_one] at this
def px : List AV → Option (List zn × AV)
 | [.str s, .v (.int .i64 k)] => some ([.b (s == [48]), .p (0 ≤ k ∧ k ≤ 1000000)], .str (List.replicate k.toNat 48))
 | _ => none
theorem NB : zQ Tryz.prog [] 89 px := by
 intro xs ps r h hp
 unfold px at h
 split at h
 ·rename_i s k
  cases h
  have q : (s == [48]) = true := hp _ List.mem_cons_self
  have q1 : 0 ≤ k ∧ k ≤ 1000000 := hp _ (List.mem_cons_of_mem _ List.mem_cons_self)
  obtain rfl := eq_of_beq q
  obtain ⟨n, rfl⟩ : ∃ n : Nat, k = n := ⟨k.toNat, by omega⟩
  refine ⟨enters_of Tryz.func89 (by kernel_rfl) rfl, fun w S vals hS hg hr => ?_⟩
  match vals, hr with
  | [v, v2], ⟨hv, hv2, _⟩ =>
  obtain rfl := Z4 hv
  obtain rfl := ZW hv2
  have hsz : (⟨[48].toArray⟩ : ByteArray).size = 1 := rfl
  refine (Calls.drawn (fun e w' h => ⟨_, h.1⟩) (Any.strings_Repeat Tryz.lays105 Tryz.Builder_Extra_105 ⟨[48].toArray⟩ n w (by omega) (by show 1 * n ≤ 140737488355328; omega))).mono ?_
  rintro e w' ⟨⟨rfl, hb⟩, hd⟩
  rw [eT]
  exact ⟨⟨hb, Jm hd⟩, _, rfl, .str _⟩
 ·cases h
end Go.Te

namespace Go.Te
open Go Go.Sx Go.Proofs Go.Ar Go.Lib
set_option maxRecDepth 100000
set_option maxHeartbeats 4000000
def iG (n : Nat) : Z9 :=
 .two .auto (.two .auto (.two .auto (.two .auto (.two (.one (.loop Nat (fun σ z => [(4, σ.tm 4), (6, .i (z : Int))]) (fun σ z => []) 0 (fun σ z => 0 < z ∧ z ≤ 2000000000) (fun σ z => 4000000000 - z) .auto)) (.one (.loop Nat (fun σ z => [(4, σ.tm 4), (6, .i (z : Int))]) (fun σ z => []) 0 (fun σ z => 0 < z ∧ z ≤ 2000000000 ∧ n < (z + 1) * (z + 1)) (fun σ z => z) .auto))))))
def Pd : List AV → Option (List zn × AV)
 | [.str a] => some ([.p (zC a = true), .p (0 < zV a), .p (a.length ≤ 18)], .tup 2 (zt [.str (Lib.itoa (Yk (zV a).toNat)), .i 0]))
 | _ => none
theorem KD (G : List (Nat × Obj)) (a : List UInt8) (hi : zC a = true) (h0 : 0 < zV a) (hl : a.length ≤ 18) :
 ZY [AV.str a] → bF (zC a) (lN a ≤ 18 ∧ (∃ (z : Nat), ((0 < z ∧ z ≤ 2000000000) ∧ (kI ∧ zV a = zV a) ∧ kI ∧ iO = (cI z)) ∧ True) ∧ ∀ (z : Nat), 0 < z ∧ z ≤ 2000000000 → bF (DB.db ((cI z) ≠ iZ)) (bF (dK (Int.tdiv (zV a) (cI z))) (zY (zH (cI z) (Int.tdiv (zV a) (cI z))) (bF (dK ((cI z) * (2 : Int))) (∃ (z' : Nat), (((0 < z' ∧ z' ≤ 2000000000) ∧ 4000000000 - z' < 4000000000 - z) ∧ (kI ∧ zV a = zV a) ∧ kI ∧ (cI z) * (2 :
 Int) = (cI z')) ∧ True)) ((∃ (z_1 : Nat), ((0 < z_1 ∧ z_1 ≤ 2000000000 ∧ Int.toNat (zV a) < (z_1 + 1) * (z_1 + 1)) ∧ (kI ∧ zV a = zV a) ∧ kI ∧ (cI z) = (cI z_1)) ∧ True) ∧ ∀ (z : Nat), 0 < z ∧ z ≤ 2000000000 ∧ Int.toNat (zV a) < (z + 1) * (z + 1) → bF (DB.db ((cI z) ≠ iZ)) (bF (dK (Int.tdiv (zV a) (cI z))) (bF (dK ((cI z) + Int.tdiv (zV a) (cI z))) (bF (dK (Int.tdiv ((cI z) + Int.tdiv (zV a) (cI z)) (2 : Int))) (zY (leB (cI z) (Int.tdiv
 ((cI z) + Int.tdiv (zV a) (cI z)) (2 : Int))) ((iN ≤ (cI z) ∧ (cI z) ≤ iX) ∧ j2 ∧ (True ∧ itoa (cI z) = itoa (cI (Yk (Int.toNat (zV a))))) ∧ kI ∧ iZ = iZ) (∃ (z' : Nat), (((0 < z' ∧ z' ≤ 2000000000 ∧ Int.toNat (zV a) < (z' + 1) * (z' + 1)) ∧ z' < z) ∧ (kI ∧ zV a = zV a) ∧ kI ∧ Int.tdiv ((cI z) + Int.tdiv (zV a) (cI z)) (2 : Int) = (cI z')) ∧ True))))))))) := by
 delta bF dK cI kI j2 lN iZ iO iX iN
 intro hb
 simp only [↓ZE, ↓ZR, row_one]
 simp only [sS, dS]
 obtain ⟨n, hn⟩ : ∃ n : Nat, zV a = n := ⟨(zV a).toNat, by omega⟩
 have hb2 : (zV a).natAbs < 10 ^ 18 := Nat.lt_of_lt_of_le (TS hi) (Nat.pow_le_pow_right (by omega) hl)
 rw [show 10 ^ 18 = 1000000000000000000 from by decide] at hb2
 rw [hn] at hb2 h0 ⊢
 rw [Int.natAbs_natCast] at hb2
 rw [Int.toNat_natCast, hi]
 have hn0 : 0 < n := by omega
 have ed : ∀ z : Nat, (n : Int).tdiv (z : Int) = ((n / z : Nat) : Int) := fun z => by rw [Int.tdiv_eq_ediv_of_nonneg (by omega), Int.natCast_ediv]
 refine zv.2 ⟨fun _ => ⟨hl, ⟨1, by omega, rfl⟩, fun z ⟨z1, z2⟩ => ?_⟩, fun c => (by cases c)⟩
 have q1 : n / z ≤ n := Nat.div_le_self _ _
 have q2 := Nat.div_mul_le_self n z
 have q3 := Nat.lt_div_mul_add (a := n) z1
 rw [ed]
 generalize n / z = q at *
 refine ⟨by omega, by simp only [Y1]; omega, fun hlt => ?_, fun hge => ⟨⟨z, ⟨z1, z2, ?_⟩, rfl⟩, fun y ⟨y1, y2, y3⟩ => ?_⟩⟩
 ·have hz9 : z * z < 1000000000 * 1000000000 := by
   have : z * z ≤ q * z := Nat.mul_le_mul_right _ (by omega)
   omega
  have := QQ hz9
  exact ⟨by simp only [Y1]; omega, z * 2, ⟨⟨by omega, by omega⟩, by omega⟩, by omega⟩
 ·have : q * z ≤ z * z := Nat.mul_le_mul_right _ (by omega)
  have e : (z + 1) * (z + 1) = z * z + 2 * z + 1 := by grind
  omega
 ·obtain ⟨g1, g2⟩ := Ja y1 y3 hn0
  have r1 : n / y ≤ n := Nat.div_le_self _ _
  rw [ed]
  generalize n / y = r at *
  have e2 : ((y : Int) + (r : Int)).tdiv 2 = (((y + r) / 2 : Nat) : Int) := by rw [Int.tdiv_eq_ediv_of_nonneg (by omega)]; omega
  rw [e2]
  refine ⟨by omega, by simp only [Y1]; omega, by simp only [Y1]; omega, by simp only [Y1]; omega, fun h => ⟨⟨by omega, by omega⟩, rfl, by rw [← g1 (by omega)]⟩, fun h => ⟨(y + r) / 2, ⟨⟨(g2 (by omega)).1, by omega, (g2 (by omega)).2⟩, by omega⟩, rfl⟩⟩
theorem I9 {G : List (Nat × Obj)} (hG : zh G) (a : List UInt8) (hi : zC a = true) (h0 : 0 < zV a) (hl : a.length ≤ 18) : zT Tryz.prog G 204 [.str a] (.tup 2 (zt [.str (Lib.itoa (Yk (zV a).toNat)), .i 0])) :=
 zU (T := (Kk G).plus 134 ry) (an := iG (zV a).toNat) mixed (zZ.plus (Yj hG) (zQ.mono PY)) (Eq.mp (by kernel_rfl) (KD G a hi h0 hl))
theorem Hh {G : List (Nat × Obj)} (hG : zh G) : zQ Tryz.prog G 204 Pd := by
 intro xs ps r h hp
 unfold Pd at h
 split at h
 ·skip
  rename_i a
  cases h
  obtain ⟨q0, q1, q2, -⟩ := Zo hp
  exact weaken (ys := [.str a]) ⟨zr _, trivial⟩ (I9 hG a q0 q1 q2)
 ·cases h
noncomputable def G8 (G : List (Nat × Obj)) : Tb := (((((((Vw G).plus 133 VW).plus 87 UM).plus 89 px).plus 132 UK).plus 137 tG).plus 139 tj).plus 100 WC |>.plus 204 Pd
theorem pP {G : List (Nat × Obj)} (hG : zh G) : zZ Tryz.prog (G8 G) := zZ.plus (zZ.plus (zZ.plus (zZ.plus (zZ.plus (zZ.plus (zZ.plus (zZ.plus zq (zQ.mono Qt)) (zQ.mono Ol)) (zQ.mono NB)) (zQ.mono OS)) (zQ.mono QD)) (zQ.mono Qe)) (SP hG)) (Hh hG)
def Ib (n : Nat) : Z9 :=
 .two .auto (.two .auto (.two .auto (.two .auto (.two .auto (.two .auto (.two .auto (.one (.loop Nat (fun σ z => [(5, σ.tm 5), (6, ZF (zw 1000000000 z))]) (fun σ z => []) 0 (fun σ z => 0 < z ∧ n < (z + 1) * (z + 1) ∧ z ≤ 10 ^ 108) (fun σ z => z) .auto))))))))
theorem HD (G : List (Nat × Obj)) (a : List UInt8) (hi : zC a = true) (h0 : 0 ≤ zV a) (hl : a.length ≤ 216) :
 let q1 := (True ∧ bA #[] = itoa (cI (Yk (Int.toNat (zV a))))); let q2 := (Int.tdiv ((lZ a) + iO) (2 : Int)); let q3 := (Int.toNat q2); let q4 := (bA #[(49 : UInt8)] ++ List.replicate q3 (48 : UInt8)); let q6 := (zw 1000000000 (Int.natAbs (zV a))); let q5 := (xI q6); let q7 := (zw 1000000000 (Int.natAbs (zV q4))); let q10 := (zW q5); let q20 := (AV.xl true 1 1 (Sx.rowAt [fun (x : Nat)
 => aI (2 : Int)])); let q19 := (zW q20); ZY [AV.str a] → lN a ≤ nM ∧ zY (ZX a != iZ) (j2 ∧ q1 ∧ kI ∧ ZX a = iZ) (bF (DB.db (iZ ≤ iZ ∧ iZ < (lZ a))) (zY ((cI (UInt8.toNat (gD a 0 (0 : UInt8)))) == (45 : Int)) (j2 ∧ q1 ∧ kI ∧ (2 : Int) = iZ) (zY (a == bA #[(48 : UInt8)]) (j2 ∧ (True ∧ a = itoa
 (cI (Yk (Int.toNat (zV a))))) ∧ kI ∧ iZ = iZ) (zC a = true ∧ lN a ≤ 100000000 ∧ zY (leB (lZ a) (18 : Int)) (zC a = true ∧ iZ < zV a ∧ lN a ≤ 18 ∧ j2 ∧ (True ∧ itoa (cI (Yk (Int.toNat (zV a)))) = itoa (cI (Yk (Int.toNat (zV a))))) ∧ kI ∧ iZ = iZ) (bF (dK ((lZ a) + iO)) (zY (dK q2) ((iZ ≤ Int.tdiv ((lZ a) + iO) (2 : Int) ∧ Int.tdiv
 ((lZ a) + iO) (2 : Int) ≤ (1000000 : Int)) ∧ bF (DB.db (1 + lN (List.replicate q3 (48 : UInt8)) ≤ nX)) (zC q4 = true ∧ lN q4 ≤ 100000000 ∧ (∃ (z : Nat), ((0 < z ∧ Int.toNat (zV a) < (z + 1) * (z + 1) ∧ z ≤ 1000000000000000000000000000000000000000000000000000000000000000000000000000000000000000000000000000000000000) ∧ zB q5 q5 ∧ (false = true → false = true) ∧ 1 = 1 ∧ lN (zw 1000000000 z) = lN q7 ∧ ∀ (i j : Nat), i < lN q7 → j < 1 → kI ∧ gD q7 i zi.dflt = gD (zw
 1000000000 z) i zi.dflt) ∧ True) ∧ ∀ (z : Nat), let q9 := (xI (zw 1000000000 z)); let q8 := (Zy Int q9); let q12 := (zW q9); let q11 := (∀ (x : Int), List.Mem x q12 → iZ ≤ x ∧ x < iB); let q14 := (zw 1000000000 (Int.toNat (zX iB q10) / Int.toNat (zX iB q12))); let q13 := (xI q14); let q15 := (zW q13); let q17 := (zw 1000000000
 (Int.toNat (zX iB q12 + zX iB q15))); let q16 := (xI q17); let q18 := (zW q16); let q23 := (zX iB q18); let q22 := (zw 1000000000 (Int.toNat q23 / Int.toNat (zX iB q19))); let q21 := (xI q22); let q25 := (AV.agg 2 (zt [AV.v (Array.getD (Value.cells (Value.agg #[Value.bool false, Value.slice (wP Addr) 0 0])) 0 undef), AV.xl false 1 (List.length
 (zw 1000000000 z)) fun i j => aI (gD (zw 1000000000 z) i zi.dflt)])); let q27 := (Zi q25); let q26 := (Big.l q27); let q28 := (yG (Big.neg q27) q26); 0 < z ∧ Int.toNat (zV a) < (z + 1) * (z + 1) ∧ z ≤ 1000000000000000000000000000000000000000000000000000000000000000000000000000000000000000000000000000000000000 → bF (Zy Int q5) (bF q8 ((∀ (x : Int), List.Mem x q10 → iZ ≤ x ∧ x < iB) ∧ q11 ∧ zO q10 = zW q5 ∧ zO q12 = zW q9 ∧ lN q12 ≠ 0 ∧ lN q10 ≤ 100000000 ∧ lN q12 ≤ 100000000 ∧ zY
 q8 (bF (Zy Int q13) (q11 ∧ (∀ (x : Int), List.Mem x q15 → iZ ≤ x ∧ x < iB) ∧ lN q12 ≤ 1000000000 ∧ lN q15 ≤ 1000000000 ∧ bF (Zy Int q16) ((∀ (x : Int), List.Mem x q18 → iZ ≤ x ∧ x < iB) ∧ (∀ (x : Int), List.Mem x (zW (AV.xl true 1 1 (Sx.rowAt [fun (x : Nat) => aI (2 : Int)]))) → iZ ≤ x ∧ x < iB) ∧ zO q18 = zW q16 ∧ zO q19 = zW q20 ∧ lN q19 ≠ 0 ∧ lN q18 ≤ 100000000 ∧ lN q19 ≤ 100000000 ∧ bF (Zy Int q21) (bF q8 ((∀ (x : Int),
 let q24 := (zw 1000000000 (Int.toNat q23 / Int.toNat (zX iB (zW (AV.xl true 1 1 (Sx.rowAt [fun (x : Nat) => aI (2 : Int)])))))); List.Mem x (zW (xI q24)) → iZ ≤ x ∧ x < iB) ∧ q11 ∧ zY (leB iZ (Ar.cmpL (zW q21) q12)) (bF (yZ Big q25) ((∀ (x : Int), List.Mem x q26 → iZ ≤ x ∧ x < iB) ∧ zO q26 = Big.l q27 ∧ lN q26 ≤ 100000000 ∧ j2 ∧ (True ∧ yp q28 = itoa
 (cI (Yk (Int.toNat (zV a))))) ∧ kI ∧ ZU q28 = iZ)) (∃ (z' : Nat), (((0 < z' ∧ Int.toNat (zV a) < (z' + 1) * (z' + 1) ∧ z' ≤ 1000000000000000000000000000000000000000000000000000000000000000000000000000000000000000000000000000000000000) ∧ z' < z) ∧ zB q5 q5 ∧ (false = true → false = true) ∧ 1 = 1 ∧ lN (zw 1000000000 z') = lN q22 ∧ ∀ (i j : Nat), i < lN q22 → j < 1 → kI ∧ gD q22 i zi.dflt = gD (zw 1000000000 z') i zi.dflt) ∧ True)))))) False))))
 False)))))) := by
 delta bF dK bA xI nX nM cI kI j2 lZ lN gD iZ iO iB aI
 dsimp only
 intro hb
 have e0 : (zi.dflt : Int) = 0 := rfl
 simp only [↓ZE, ↓ZR, row_one]
 by_cases hz : a = [48]
 ·have z0 : ZX [48] = 0 := by decide +kernel
  have z1 : Lib.itoa (Yk (zV [48]).toNat : Int) = [48] := by decide +kernel
  have z2 : (([48] : zL).getD 0 0).toNat = 48 := rfl
  have z3 : ([48] : zL).length = 1 := rfl
  subst hz
  simp only [sS, dS, e0, z0, z1, z2, z3, beq_self_eq_true]
  refine ⟨by decide, fun h => absurd rfl h, fun _ => ⟨⟨by decide, by decide⟩, fun h => absurd h (by decide), fun _ => rfl⟩⟩
 replace h0 : 0 < zV a := by
  refine Int.lt_iff_le_and_ne.2 ⟨h0, fun e => hz ?_⟩
  rw [← x9 hi, ← e]; decide +kernel
 have hE : ZX a = 0 := Ze.2 ⟨hi, by have := (xB a).1; omega⟩
 obtain ⟨n, hn⟩ : ∃ n : Nat, zV a = n := ⟨(zV a).toNat, by omega⟩
 have hb2 : (zV a).natAbs < 10 ^ a.length := TS hi
 rw [hn, Int.natAbs_natCast] at hb2
 have h48 : (a == [48]) = false := beq_eq_false_iff_ne.2 fun e => by
  rw [e] at h0
  exact absurd h0 (by decide)
 have h45 : ((a.getD 0 0).toNat : Int) ≠ 45 := fun e => by
  rcases yQ hi with ⟨r, rfl, _, _, g3⟩ | ⟨g1, g3⟩
  ·rw [g3] at h0; omega
  ·have hm : zG a = false := by
    cases hm : zG a with
    | false => rfl
    | true =>
     match a, hm, g1 with
     | c :: r, hm, g1 =>
      have hc : c = 45 := eq_of_beq hm
      subst hc
      exact (wJ g1).elim
   match a, g1, e, hm with
   | c :: r, g1, e, hm =>
    have e : (c.toNat : Int) = 45 := e
    have : c = 45 := UInt8.toNat.inj (by show c.toNat = 45; omega)
    rw [this] at hm
    cases hm
 have hl0 : 0 < a.length := Nat.pos_of_ne_zero fun e => by rw [List.eq_nil_of_length_eq_zero e] at hi; cases hi
 simp only [sS, dS, e0, Yb, YW, Ym, yE, x8, YD, x5, YB, Y3, kP, xN, lj, L4, PM]
 have ek : ((a.length : Int) + 1).tdiv 2 = (((a.length + 1) / 2 : Nat) : Int) := by rw [Int.tdiv_eq_ediv_of_nonneg (by omega)]; omega
 have hk : 10 ^ a.length ≤ 10 ^ ((a.length + 1) / 2) * 10 ^ ((a.length + 1) / 2) := by
  rw [← Nat.pow_add]
  exact Nat.pow_le_pow_right (by omega) (by omega)
 have hk2 : 10 ^ ((a.length + 1) / 2) ≤ 10 ^ 108 := Nat.pow_le_pow_right (by omega) (by omega)
 have hk3 : 0 < 10 ^ ((a.length + 1) / 2) := Nat.pow_pos (by omega)
 have hl2 := Ww (n := n) (k := 216) (Nat.lt_of_lt_of_le hb2 (Nat.pow_le_pow_right (by omega) hl))
 rw [hE, ek, Int.toNat_natCast, hn, Int.toNat_natCast, Int.natAbs_natCast]
 rw [hn] at h0
 have hn0 : 0 < n := by omega
 refine ⟨by omega, fun h => absurd rfl h, fun _ => ⟨⟨by omega, by omega⟩, fun h => absurd h h45, fun _ => zv.2 ⟨fun c => (by rw [h48] at c; cases c), fun _ => ⟨hi, by omega, fun h => ⟨hi, by omega, by omega, rfl⟩, fun h18 => ?_⟩⟩⟩⟩
 obtain ⟨t1, t2⟩ := ju ((a.length + 1) / 2)
 have et : ([49] ++ List.replicate ((a.length + 1) / 2) 48 : zL) = 49 :: List.replicate ((a.length + 1) / 2) 48 := rfl
 rw [et, t2, Int.natAbs_natCast]
 generalize hKK : (a.length + 1) / 2 = K at *
 generalize 10 ^ K = Z at *
 refine ⟨by simp only [Y1]; omega, by simp only [Y1]; omega, ⟨by omega, by omega⟩, by rw [List.length_replicate]; omega, t1, by rw [List.length_cons, List.length_replicate]; omega, ⟨Z, ⟨hk3, ?_, hk2⟩, fun h => h, rfl, fun _ _ _ _ => rfl⟩, fun z ⟨z1, z2, z3⟩ => ?_⟩
 ·have e : (Z + 1) * (Z + 1) = Z * Z + 2 * Z + 1 := by grind
  omega
 have z3 : z ≤ 10 ^ 108 := Nat.le_trans z3 (Nat.le_of_eq (by decide))
 obtain ⟨g1, g2⟩ := Ja z1 z2 hn0
 have q1 : n / z ≤ n := Nat.div_le_self _ _
 have lz := Ww (n := z) (k := 109) (Nat.lt_of_le_of_lt z3 (Nat.pow_lt_pow_right (by omega) (by omega)))
 have lq := Zu (b := 1000000000) (by omega) q1
 have lz0 : (zw 1000000000 z).length ≠ 0 := fun e => by have := yb (b := 1000000000) (by omega) e; omega
 generalize n / z = q at *
 have e2 : ((z : Int) + (q : Int)).toNat = z + q := by omega
 have e3 : Int.toNat 2 = 2 := rfl
 have hs : z + q < 10 ^ 217 := by
  have b1 : n < 10 ^ 216 := Nat.lt_of_lt_of_le hb2 (Nat.pow_le_pow_right (by omega) hl)
  have b2 : z < 10 ^ 216 := Nat.lt_of_le_of_lt z3 (Nat.pow_lt_pow_right (by omega) (by omega))
  have e : (10 : Nat) ^ 217 = 10 ^ 216 * 10 := rfl
  omega
 have ls := Ww hs
 have o2 : z8 1000000000 [2] := .one (by omega) (by omega)
 have cl := qk (x := zw 1000000000 ((z + q) / 2)) (y := zw 1000000000 z) (Zg _).1 (Zg _).1 (Zg _).2 (Zg _).2
 rw [xN, xN] at cl
 rw [e2, e3]
 refine ⟨(Zg _).1, (Zg _).1, (Zg _).2, (Zg _).2, lz0, by omega, by omega, (Zg _).1, (Zg _).1, by omega, by omega, (Zg _).1, o2, (Zg _).2, by decide, by decide, by omega, by decide, (Zg _).1, (Zg _).1, fun hc => ?_, fun hc => ?_⟩
 ·have hle : z ≤ (z + q) / 2 := by have := cl.1 hc; omega
  have e := g1 hle
  obtain ⟨r1, r2⟩ := ZS (n := (z : Int)) (k := 109) (by omega) (by omega) (by rw [Int.natAbs_natCast]; exact Nat.lt_of_le_of_lt z3 (Nat.pow_lt_pow_right (by omega) (by omega)))
  rw [Wg, cond_false, r1, r2, ← e]
  exact ⟨(Zg _).1, (Zg _).2, by omega, rfl, rfl, rfl⟩
 ·have hlt : (z + q) / 2 < z := by
   refine Nat.lt_of_not_le fun hle => ?_
   have := cl.2 (by omega)
   omega
  obtain ⟨k1, k2⟩ := g2 hlt
  exact ⟨(z + q) / 2, ⟨⟨k1, k2, by omega⟩, hlt⟩, fun h => h, rfl, fun _ _ _ _ => rfl⟩
theorem gC {G : List (Nat × Obj)} (hG : zh G) (a : List UInt8) (hi : zC a = true) (h0 : 0 ≤ zV a) (hl : a.length ≤ 216) : zT Tryz.prog G 152 [.str a] (.tup 2 (zt [.str (Lib.itoa (Yk (zV a).toNat)), .i 0])) :=
 zU (T := G8 G) (an := Ib (zV a).toNat) mixed (pP hG) (Eq.mp (by kernel_rfl) (HD G a hi h0 hl))
end Go.Te

namespace Go.Te
open Go Go.Sx Go.Proofs Go.Ar
set_option maxRecDepth 100000
set_option maxHeartbeats 4000000
structure x6 (r : Pt) : Prop where
 lo : Xl 140 r.n
 hi : Xl 140 r.d
 le : ZP r.n ≤ ZP r.d
theorem X8 {p q : Rat} : 0 < Yg p q ↔ q < p := by
 unfold Yg
 split
 ·rename_i h; exact ⟨fun h => absurd h (by decide), fun h2 => by grind⟩
 ·split
  ·rename_i h h2; exact ⟨fun h => absurd h (by decide), fun h3 => by grind⟩
  ·rename_i h h2; exact ⟨fun _ => by grind, fun _ => by decide⟩
theorem qm {p q : Rat} : Yg p q < 0 ↔ p < q := by
 unfold Yg
 split
 ·rename_i h; exact ⟨fun _ => h, fun _ => by decide⟩
 ·split
  ·rename_i h h2; exact ⟨fun h => absurd h (by decide), fun h3 => by grind⟩
  ·rename_i h h2; exact ⟨fun h => absurd h (by decide), fun h3 => by grind⟩
theorem rN {p q : Rat} : Yg p q ≤ 0 ↔ p ≤ q := by
 have := X8 (p := p) (q := q)
 constructor
 ·intro h
  exact Rat.not_lt.1 fun h2 => by have := this.2 h2; omega
 ·intro h
  exact Int.not_lt.1 fun h2 => by have := this.1 h2; grind
def iR  : Z9 :=
 .two .auto (.two (.two .auto (.one (.unroll 3 (.auto)))) .auto)
def oT : List AV → Option (List zn × AV)
 | [.agg 2 p_r] => some ([.b (ZV (p_r 0) && ZV (p_r 1)), .p (x6 (⟨AV.bytes (p_r 0), AV.bytes (p_r 1)⟩ : Pt))], .i 0)
 | _ => none
theorem HK (G : List (Nat × Obj)) (r : Pt) (h : x6 r) :
 ZY [AV.agg 2 (zi.enc r)] → Xl 300 (Pt.n r) ∧ Xl 300 (Pt.d r) ∧ QK 140 (Pt.n r) (Pt.d r) ∧ zY (zH iZ (Yg (ZP (Pt.n r)) (ZP (Pt.d r)))) (kI ∧ (10 : Int) = iZ) (kI ∧ iZ = iZ) := by
 delta kI iZ
 intro hb
 simp only [↓ZE, ↓ZR, row_one]
 simp only [sS, dS]
 exact ⟨h.lo.mono (by decide), h.hi.mono (by decide), ⟨h.lo, h.hi⟩, fun e => absurd (X8.1 e) (Rat.not_lt.2 h.le), fun _ => trivial⟩
theorem GY {G : List (Nat × Obj)} (hG : zh G) (r : Pt) (h : x6 r) : zT Tryz.prog G 10 [yw r] (.i 0) :=
 zU (T := ((Vw G).plus 29 LZ).plus 12 rO) (an := iR) mixed (zZ.plus (zZ.plus zq (lU hG)) (RQ hG)) (Eq.mp (by kernel_rfl) (HK G r h))
theorem Ji {G : List (Nat × Obj)} (hG : zh G) : zQ Tryz.prog G 10 oT := by
 intro xs ps r h hp
 unfold oT at h
 split at h
 ·skip
  rename_i p_r
  cases h
  obtain ⟨q0, q1, -⟩ := Zo hp
  exact weaken (ys := [yw (⟨AV.bytes (p_r 0), AV.bytes (p_r 1)⟩ : Pt)]) ⟨zc (x := .agg 2 p_r) (α := Pt) q0, trivial⟩ (GY hG (⟨AV.bytes (p_r 0), AV.bytes (p_r 1)⟩ : Pt) q1)
 ·cases h
def Qk (a b : Pt) : zL := if ZP a.n < ZP b.n then b.n else a.n
def QJ (a b : Pt) : zL := if ZP b.d < ZP a.d then b.d else a.d
def vR (a b : Pt) : Bool := decide (ZP (Qk a b) ≤ ZP (QJ a b))
def Xf (a b : Pt) : Pt := if vR a b then ⟨Qk a b, QJ a b⟩ else ⟨[], []⟩
def ic  : Z9 :=
 .two .auto (.two .auto (.two (.two .auto (.one (.unroll 2 (.auto)))) .auto))
noncomputable def eP (G : List (Nat × Obj)) : Tb := ((Vw G).plus 12 rO).body Tryz.prog [(77, .auto), (78, .auto)] |>.body Tryz.prog [(72, ic)]
theorem OJ {G : List (Nat × Obj)} (hG : zh G) : zZ Tryz.prog (eP G) := zZ.body mixed (zZ.body mixed (zZ.plus zq (RQ hG)) _) _
def MN : List AV → Option (List zn × AV)
 | [.agg 2 p_a, .agg 2 p_b] => some ([.b (ZV (p_a 0) && ZV (p_a 1)), .b (ZV (p_b 0) && ZV (p_b 1)), .p (x6 (⟨AV.bytes (p_a 0), AV.bytes (p_a 1)⟩ : Pt)), .p (x6 (⟨AV.bytes (p_b 0), AV.bytes (p_b 1)⟩ : Pt))], .tup 3 (zt [yw (Xf (⟨AV.bytes (p_a 0), AV.bytes (p_a 1)⟩ : Pt) (⟨AV.bytes (p_b 0), AV.bytes (p_b 1)⟩ : Pt)), .b (vR (⟨AV.bytes (p_a 0), AV.bytes (p_a 1)⟩ : Pt) (⟨AV.bytes (p_b 0), AV.bytes (p_b 1)⟩ : Pt)), .i 0]))
 | _ => none
theorem HW (G : List (Nat × Obj)) (a : Pt) (b : Pt) (ha : x6 a) (hc : x6 b) :
 let q1 := (zH (Yg (ZP (Pt.d b)) (ZP (Pt.d a))) iZ); let q2 := (3 = lN [AV.junk, AV.junk, AV.junk] ∧ ((True ∧ 2 = 2 ∧ bA #[] = Pt.n (Xf a b) ∧ bA #[] = Pt.d (Xf a b)) ∧ false = vR a b) ∧ kI ∧ iZ = iZ); ZY [AV.agg 2 (zi.enc a), AV.agg 2 (zi.enc b)] → QK 140 (Pt.n b) (Pt.n a) ∧ zY (zH iZ (Yg (ZP (Pt.n b)) (ZP (Pt.n a)))) (QK 140 (Pt.d b) (Pt.d a) ∧ zY q1 (QK 140 (Pt.n b) (Pt.d b) ∧ zY (bif iZ != iZ then true else zH
 iZ (Yg (ZP (Pt.n b)) (ZP (Pt.d b)))) q2 (3 = lN [AV.junk, AV.junk, AV.junk] ∧ ((True ∧ 2 = 2 ∧ Pt.n b = Pt.n (Xf a b) ∧ Pt.d b = Pt.d (Xf a b)) ∧ true = vR a b) ∧ kI ∧ iZ = iZ)) (QK 140 (Pt.n b) (Pt.d a) ∧ zY (bif iZ != iZ then true else zH iZ (Yg (ZP (Pt.n b)) (ZP (Pt.d a)))) q2 (3 = lN [AV.junk, AV.junk, AV.junk] ∧ ((True ∧ 2 = 2 ∧ Pt.n b = Pt.n (Xf a b) ∧ Pt.d a = Pt.d (Xf a b)) ∧ true = vR a b) ∧ kI ∧ iZ = iZ))) (QK 140 (Pt.d b) (Pt.d a) ∧ zY q1 (QK 140 (Pt.n
 a) (Pt.d b) ∧ zY (bif iZ != iZ then true else zH iZ (Yg (ZP (Pt.n a)) (ZP (Pt.d b)))) q2 (3 = lN [AV.junk, AV.junk, AV.junk] ∧ ((True ∧ 2 = 2 ∧ Pt.n a = Pt.n (Xf a b) ∧ Pt.d b = Pt.d (Xf a b)) ∧ true = vR a b) ∧ kI ∧ iZ = iZ)) (QK 140 (Pt.n a) (Pt.d a) ∧ zY (bif iZ != iZ then true else zH iZ (Yg (ZP (Pt.n a)) (ZP (Pt.d a)))) q2 (3 = lN [AV.junk, AV.junk, AV.junk] ∧ ((True ∧ 2 = 2 ∧ Pt.n a = Pt.n (Xf a b) ∧ Pt.d a = Pt.d (Xf a b)) ∧ true = vR a b) ∧ kI ∧ iZ =
 iZ))) := by
 delta bA kI lN iZ
 dsimp only
 intro hb
 simp only [↓ZE, ↓ZR, row_one]
 simp only [sS, dS]
 have fin : ∀ lo hi : zL, Xl 140 lo → Xl 140 hi → Qk a b = lo → QJ a b = hi → QK 140 lo hi ∧ zY (0 != 0 || zH 0 (Yg (ZP lo) (ZP hi)))
   (3 = [AV.junk, AV.junk, AV.junk].length ∧ ([] = (Xf a b).n ∧ [] = (Xf a b).d) ∧ false = vR a b)
   (3 = [AV.junk, AV.junk, AV.junk].length ∧ (lo = (Xf a b).n ∧ hi = (Xf a b).d) ∧ true = vR a b) := fun lo hi h1 h2 e1 e2 => by
  have ei : vR a b = decide (ZP lo ≤ ZP hi) := by unfold vR; rw [e1, e2]
  refine ⟨⟨h1, h2⟩, zv.2 ⟨fun c => ?_, fun c => ?_⟩⟩
  ·have c : zH 0 (Yg (ZP lo) (ZP hi)) = true := c
   have c := X8.1 ((zR _ _).1 c)
   have e : vR a b = false := by rw [ei]; exact decide_eq_false (Rat.not_le.2 c)
   unfold Xf
   rw [e]
   exact ⟨rfl, ⟨rfl, rfl⟩, rfl⟩
  ·have c : zH 0 (Yg (ZP lo) (ZP hi)) = false := c
   have e : vR a b = true := by
    rw [ei]
    refine decide_eq_true (Rat.not_lt.1 fun h => ?_)
    rw [(zR _ _).2 (X8.2 h)] at c
    cases c
   unfold Xf
   rw [e, e1, e2]
   exact ⟨rfl, ⟨rfl, rfl⟩, rfl⟩
 have lo1 : 0 < Yg (ZP b.n) (ZP a.n) → Qk a b = b.n := fun h => by unfold Qk; rw [if_pos (X8.1 h)]
 have lo2 : Yg (ZP b.n) (ZP a.n) ≤ 0 → Qk a b = a.n := fun h => by unfold Qk; rw [if_neg (Rat.not_lt.2 (rN.1 h))]
 have hi1 : Yg (ZP b.d) (ZP a.d) < 0 → QJ a b = b.d := fun h => by unfold QJ; rw [if_pos (qm.1 h)]
 have hi2 : 0 ≤ Yg (ZP b.d) (ZP a.d) → QJ a b = a.d := fun h => by unfold QJ; rw [if_neg fun e => by have := qm.2 e; omega]
 exact ⟨⟨hc.lo, ha.lo⟩, fun g => ⟨⟨hc.hi, ha.hi⟩, fun k => fin _ _ hc.lo hc.hi (lo1 g) (hi1 k), fun k => fin _ _ hc.lo ha.hi (lo1 g) (hi2 k)⟩, fun g => ⟨⟨hc.hi, ha.hi⟩, fun k => fin _ _ ha.lo hc.hi (lo2 g) (hi1 k), fun k => fin _ _ ha.lo ha.hi (lo2 g) (hi2 k)⟩⟩
theorem gF {G : List (Nat × Obj)} (hG : zh G) (a : Pt) (b : Pt) (ha : x6 a) (hc : x6 b) : zT Tryz.prog G 28 [yw a, yw b] (.tup 3 (zt [yw (Xf a b), .b (vR a b), .i 0])) :=
 zU (T := eP G) (an := .auto) mixed (OJ hG) (Eq.mp (by kernel_rfl) (HW G a b ha hc))
theorem GI {G : List (Nat × Obj)} (hG : zh G) : zQ Tryz.prog G 28 MN := by
 intro xs ps r h hp
 unfold MN at h
 split at h
 ·skip
  rename_i p_a p_b
  cases h
  obtain ⟨q0, q1, q2, q3, -⟩ := Zo hp
  exact weaken (ys := [yw (⟨AV.bytes (p_a 0), AV.bytes (p_a 1)⟩ : Pt), yw (⟨AV.bytes (p_b 0), AV.bytes (p_b 1)⟩ : Pt)]) ⟨zc (x := .agg 2 p_a) (α := Pt) q0, zc (x := .agg 2 p_b) (α := Pt) q1, trivial⟩ (gF hG (⟨AV.bytes (p_a 0), AV.bytes (p_a 1)⟩ : Pt) (⟨AV.bytes (p_b 0), AV.bytes (p_b 1)⟩ : Pt) q2 q3)
 ·cases h
structure MO (l : List Pt) : Prop where
 len : l.length ≤ 4
 h : ∀ r ∈ l, x6 r
def If  : Z9 :=
 .two .auto (.two (.two .auto (.one (.loop Nat (fun σ z => [(0, σ.tm 0), (1, σ.tm 1), (7, σ.tm 7), (8, .i (z : Int))]) (fun σ z => []) 0 (fun σ z => 0 ≤ z) (fun σ z => 100 - z) .auto))) .auto)
noncomputable def En (G : List (Nat × Obj)) : Tb := (((Vw G).plus 10 oT).body Tryz.prog [(76, .auto)]).body Tryz.prog [(127, If)] |>.body Tryz.prog [(75, .auto)]
theorem No {G : List (Nat × Obj)} (hG : zh G) : zZ Tryz.prog (En G) := zZ.body mixed (zZ.body mixed (zZ.body mixed (zZ.plus zq (Ji hG)) _) _) _
def pd : List AV → Option (List zn × AV)
 | [x_l] => some ([.b (Zy Pt x_l), .p (MO (So (α := Pt) x_l))], .i 0)
 | _ => none
theorem KA (G : List (Nat × Obj)) (l : List Pt) (h : MO l) :
 let q1 := (AV.xl false 2 (lN l) fun i j => zi.enc (gD l i zi.dflt) j); let q2 := (AV.fn (Fn.func 76) 0 (fun (x : Nat) => AV.junk) 0 fun (x : Nat) => AV.junk); let q3 := (kI ∧ (lZ l) = (lZ l)); ZY [AV.xl false 2 (lN l) fun i j => zi.enc (gD l i zi.dflt) j] → (∃ (z : Nat), (0 ≤ z ∧ zB q1 q1 ∧ zB q2 q2 ∧ q3 ∧ kI ∧ iZ = (cI z)) ∧ True) ∧ ∀ (z : Nat), let q4 := (gD l (Int.toNat (cI z)) zi.dflt); 0 ≤ z → zY (zH (cI z) (lZ l)) (bF (DB.db ((0
 : Int) ≤ (cI z) ∧ (cI z) < (lZ l))) (x6 (Pt.mk (AV.bytes (AV.str (Pt.n q4))) (AV.bytes (AV.str (Pt.d q4)))) ∧ bF (dK ((cI z) + iO)) (∃ (z' : Nat), ((0 ≤ z' ∧ 100 - z' < 100 - z) ∧ zB q1 q1 ∧ zB q2 q2 ∧ q3 ∧ kI ∧ (cI z) + iO = (cI z')) ∧ True))) (kI ∧ iZ = iZ) := by
 delta bF dK cI kI lZ lN gD iZ iO
 dsimp only
 intro hb
 simp only [↓ZE, ↓ZR, row_one]
 simp only [sS, dS]
 have hl := h.len
 refine ⟨⟨0, rfl⟩, fun z _ => ⟨fun hz => ⟨⟨by omega, hz⟩, ?_, by simp only [Y1]; omega, z + 1, by omega, by omega⟩, fun _ => trivial⟩⟩
 have hm : l.getD z zi.dflt ∈ l := by
  rw [List.getD_eq_getElem?_getD, List.getElem?_eq_getElem (by omega)]
  exact List.getElem_mem _
 exact h.h _ hm
theorem Hn {G : List (Nat × Obj)} (hG : zh G) (l : List Pt) (h : MO l) : zT Tryz.prog G 27 [ZF l] (.i 0) :=
 zU (T := En G) (an := .auto) mixed (No hG) (Eq.mp (by kernel_rfl) (KA G l h))
theorem Ia {G : List (Nat × Obj)} (hG : zh G) : zQ Tryz.prog G 27 pd := by
 intro xs ps r h hp
 unfold pd at h
 split at h
 ·skip
  rename_i x_l
  cases h
  obtain ⟨q0, q1, -⟩ := Zo hp
  exact weaken (ys := [ZF (So (α := Pt) x_l)]) ⟨za q0, trivial⟩ (Hn hG (So (α := Pt) x_l) q1)
 ·cases h
structure Mo (a b : Pt) : Prop where
 fa : x6 a
 fb : x6 b
noncomputable def e7 (G : List (Nat × Obj)) : Tb := ((Vw G).plus 27 pd).plus 28 MN
theorem nR {G : List (Nat × Obj)} (hG : zh G) : zZ Tryz.prog (e7 G) := zZ.plus (zZ.plus zq (Ia hG)) (GI hG)
def Mi : List AV → Option (List zn × AV)
 | [.agg 2 p_a, .agg 2 p_b] => some ([.b (ZV (p_a 0) && ZV (p_a 1)), .b (ZV (p_b 0) && ZV (p_b 1)), .p (Mo (⟨AV.bytes (p_a 0), AV.bytes (p_a 1)⟩ : Pt) (⟨AV.bytes (p_b 0), AV.bytes (p_b 1)⟩ : Pt))], .tup 3 (zt [yw (Xf (⟨AV.bytes (p_a 0), AV.bytes (p_a 1)⟩ : Pt) (⟨AV.bytes (p_b 0), AV.bytes (p_b 1)⟩ : Pt)), .b (vR (⟨AV.bytes (p_a 0), AV.bytes (p_a 1)⟩ : Pt) (⟨AV.bytes (p_b 0), AV.bytes (p_b 1)⟩ : Pt)), .i 0]))
 | _ => none
theorem HT (G : List (Nat × Obj)) (a : Pt) (b : Pt) (h : Mo a b) :
 let q1 := (Pt.mk (AV.bytes (AV.str (Pt.n a))) (AV.bytes (AV.str (Pt.d a)))); let q2 := (Pt.mk (AV.bytes (AV.str (Pt.n b))) (AV.bytes (AV.str (Pt.d b)))); let q3 := (Xf q1 q2); ZY [AV.agg 2 (zi.enc a), AV.agg 2 (zi.enc b)] → MO (So (AV.xl true 2 2 (Sx.rowAt [fun (i : Nat) => zi.enc a (0 + i), fun (i : Nat) => zi.enc b (0 + i)]))) ∧ x6 q1 ∧ x6 q2 ∧ 3 = lN [AV.junk, AV.junk, AV.junk] ∧ ((True ∧ 2 = 2 ∧ Pt.n q3 = Pt.n (Xf a b) ∧ Pt.d q3 = Pt.d (Xf a b)) ∧ vR q1 q2 = vR a b) ∧ kI ∧ iZ = iZ := by
 delta kI lN iZ
 dsimp only
 intro hb
 simp only [↓ZE, ↓ZR, row_one]
 simp only [sS, dS]
 have hs : MO [a, b] := ⟨by show 2 ≤ 4; decide, fun r hr => by
  rcases List.mem_cons.1 hr with rfl | hr
  ·exact h.fa
  ·obtain rfl := List.mem_singleton.1 hr
   exact h.fb⟩
 exact ⟨hs, h.fa, h.fb, rfl, ⟨rfl, rfl⟩, rfl⟩
theorem gY {G : List (Nat × Obj)} (hG : zh G) (a : Pt) (b : Pt) (h : Mo a b) : zT Tryz.prog G 9 [yw a, yw b] (.tup 3 (zt [yw (Xf a b), .b (vR a b), .i 0])) :=
 zU (T := e7 G) (an := .auto) mixed (nR hG) (Eq.mp (by kernel_rfl) (HT G a b h))
theorem G4 {G : List (Nat × Obj)} (hG : zh G) : zQ Tryz.prog G 9 Mi := by
 intro xs ps r h hp
 unfold Mi at h
 split at h
 ·skip
  rename_i p_a p_b
  cases h
  obtain ⟨q0, q1, q2, -⟩ := Zo hp
  exact weaken (ys := [yw (⟨AV.bytes (p_a 0), AV.bytes (p_a 1)⟩ : Pt), yw (⟨AV.bytes (p_b 0), AV.bytes (p_b 1)⟩ : Pt)]) ⟨zc (x := .agg 2 p_a) (α := Pt) q0, zc (x := .agg 2 p_b) (α := Pt) q1, trivial⟩ (gY hG (⟨AV.bytes (p_a 0), AV.bytes (p_a 1)⟩ : Pt) (⟨AV.bytes (p_b 0), AV.bytes (p_b 1)⟩ : Pt) q2)
 ·cases h
end Go.Te

namespace Go.Te
open Go Go.Sx Go.Proofs Go.Ar Go.RowKit
set_option maxRecDepth 100000
set_option maxHeartbeats 4000000
end Go.Te
