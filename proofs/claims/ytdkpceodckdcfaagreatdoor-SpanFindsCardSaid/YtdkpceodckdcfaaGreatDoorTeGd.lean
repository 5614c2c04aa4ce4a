/- kingpostref02: add, Add, Sub. -/
import Derived.Test.YtdkpceodckdcfaaGreatDoorTeFb
import Derived.Test.YtdkpceodckdcfaaGreatDoorTeOe
import Derived.Test.YtdkpceodckdcfaaGreatDoorTeJ
import Derived.ChangeArms
import Derived.Lib.LaidTab
import Derived.Test.YtdkpceodckdcfaaGreatDoorTeOa
set_option linter.unusedSimpArgs false
set_option linter.unusedVariables false
namespace Go.Te
open Go Go.Sx Go.Proofs Go.Ar
set_option maxRecDepth 100000
set_option maxHeartbeats 4000000
def vE : List AV → Option (List zN × AV)
 | [.str a, .str b, .str c, .str d] => some ([.p (a.length ≤ 100000000), .p (b.length ≤ 100000000), .p (c.length ≤ 100000000), .p (d.length ≤ 100000000)], .tup 3 (zT [.str (y5 (· * ·) a b), .str (bif yZ (· * ·) a b != 0 then [] else y5 (· * ·) c d), .i (bif yZ (· * ·) a b != 0 then yZ (· * ·) a b else yZ (· * ·) c d)]))
 | _ => none
theorem nT (G : List (Nat × Obj)) (a : List UInt8) (b : List UInt8) (c : List UInt8) (d : List UInt8) (h1 : a.length ≤ 100000000) (h2 : b.length ≤ 100000000) (h3 : c.length ≤ 100000000) (h4 : d.length ≤ 100000000) :
 zB [AV.str a, AV.str b, AV.str c, AV.str d] → lN a ≤ 100000000 ∧ lN b ≤ 100000000 ∧ zZ (yZ (fun (x1 x2 : Int) => x1 * x2) a b != iZ) (3 = lN [AV.junk, AV.junk, AV.junk] ∧ ((True ∧ bA #[] = y5 (fun (x1 x2 : Int) => x1 * x2) a b) ∧ bA #[] = bif yZ (fun (x1 x2 : Int) => x1 * x2) a b != iZ then [] else y5 (fun (x1 x2 : Int) => x1 * x2) c d) ∧ kI ∧ yZ (fun (x1 x2 : Int) => x1 * x2) a b = bif yZ (fun (x1 x2 : Int) => x1 * x2) a b != iZ then
 yZ (fun (x1 x2 : Int) => x1 * x2) a b else yZ (fun (x1 x2 : Int) => x1 * x2) c d) (lN c ≤ 100000000 ∧ lN d ≤ 100000000 ∧ 3 = lN [AV.junk, AV.junk, AV.junk] ∧ ((True ∧ y5 (fun (x1 x2 : Int) => x1 * x2) a b = y5 (fun (x1 x2 : Int) => x1 * x2) a b) ∧ y5 (fun (x1 x2 : Int) => x1 * x2) c d = bif yZ (fun (x1 x2 : Int) => x1 * x2) a b != iZ then [] else y5 (fun (x1 x2 : Int) => x1 * x2) c d) ∧ kI ∧ yZ (fun (x1 x2 : Int) => x1 * x2) c d = bif yZ (fun (x1 x2 : Int) => x1 * x2) a b != iZ then yZ (fun (x1 x2 : Int) => x1 * x2) a b else yZ
 (fun (x1 x2 : Int) => x1 * x2) c d) := by
 delta bA kI lN iZ
 intro hb
 simp only [sS, dS]
 refine ⟨h1, h2, fun h => ?_, fun h => ?_⟩
 ·rw [bne_iff_ne.2 h]
  exact ⟨rfl, ⟨by unfold y5; rw [beq_eq_false_iff_ne.2 h]; rfl, rfl⟩, rfl⟩
 ·rw [h]
  exact ⟨h3, h4, rfl, rfl, rfl⟩
theorem MB {G : List (Nat × Obj)} (hG : zM G) (a : List UInt8) (b : List UInt8) (c : List UInt8) (d : List UInt8) (h1 : a.length ≤ 100000000) (h2 : b.length ≤ 100000000) (h3 : c.length ≤ 100000000) (h4 : d.length ≤ 100000000) : zS Tryz.prog G 53 [.str a, .str b, .str c, .str d] (.tup 3 (zT [.str (y5 (· * ·) a b), .str (bif yZ (· * ·) a b != 0 then [] else y5 (· * ·) c d), .i (bif yZ (· * ·) a b != 0 then yZ (· * ·) a b else yZ (· * ·) c d)])) :=
 zV (T := (wn G).plus 107 uB) (an := .auto) mixed (zY.plus zr (PH hG)) (Eq.mp (by kernel_rfl) (nT G a b c d h1 h2 h3 h4))
theorem Rc {G : List (Nat × Obj)} (hG : zM G) : zQ Tryz.prog G 53 vE := by
 intro xs ps r h hp
 unfold vE at h
 split at h
 ·skip
  rename_i a b c d
  cases h
  obtain ⟨q0, q1, q2, q3, -⟩ := Zx hp
  exact weaken (ys := [.str a, .str b, .str c, .str d]) ⟨zX _, zX _, zX _, zX _, trivial⟩ (MB hG a b c d q0 q1 q2 q3)
 ·cases h
theorem YN (n : Int) : ZZ n = 0 ∨ ZZ n = 4 := by unfold ZZ; cases Nat.blt 300 (Vk n) <;> simp
theorem Wr {n : Int} (h : ZZ n = 0) : yq n = Lib.itoa n ∧ Zt (Lib.itoa n) = 0 ∧ zt (Lib.itoa n) = n ∧ (Lib.itoa n).length ≤ 301 := by
 have e : yq n = Lib.itoa n := by unfold yq; rw [h]; rfl
 have i : Zt (Lib.itoa n) = 0 := by rw [W2, h]
 exact ⟨e, i, (Z8 n).2, (Z1 i).2.1⟩
theorem G6 {a b : zh} (ha : zo a = 0) (hb : zo b = 0) : yZ (fun x1 x2 => x1 * x2) (Zo a) (Zo b) = ZZ ((zP a : Int) * (zP b : Int)) ∧ y5 (fun x1 x2 => x1 * x2) (Zo a) (Zo b) = yq ((zP a : Int) * (zP b : Int)) := by
 obtain ⟨_, a2, _, a4⟩ := MY ha
 obtain ⟨_, b2, _, b4⟩ := MY hb
 obtain ⟨e1, e2⟩ := xa (f := fun x1 x2 => x1 * x2) (a := Zo a) (b := Zo b) (by unfold zI; rw [a2, b2]; rfl)
 rw [a4, b4] at e1 e2
 exact ⟨e2, e1⟩
theorem fS {a b : zh} (ha : zo a = 0) (hb : zo b = 0) : yZ (fun x1 x2 => x1 * x2) (zO a) (zO b) = ZZ (zL a * zL b) ∧ y5 (fun x1 x2 => x1 * x2) (zO a) (zO b) = yq (zL a * zL b) := by
 obtain ⟨a1, _, a3, _⟩ := MY ha
 obtain ⟨b1, _, b3, _⟩ := MY hb
 obtain ⟨e1, e2⟩ := xa (f := fun x1 x2 => x1 * x2) (a := zO a) (b := zO b) (by unfold zI; rw [a1, b1]; rfl)
 rw [a3, b3] at e1 e2
 exact ⟨e2, e1⟩
theorem GM : yZ (fun x1 x2 => x1 * x2) [49] [49] = 0 ∧ y5 (fun x1 x2 => x1 * x2) [49] [49] = [49] := by
 have i1 : ([49] : zh) = Lib.itoa 1 := by rw [show (1 : Int) = ((1 : Nat) : Int) from rfl, Zi, zA (by omega)]; rfl
 have r1 := (ZW (n := 1) (k := 1) (by omega) (by omega) (by decide)).2
 obtain ⟨_, i2, i3, _⟩ := Wr r1
 have := xa (f := fun x1 x2 => x1 * x2) (a := Lib.itoa 1) (b := Lib.itoa 1) (by unfold zI; rw [i2]; rfl)
 rw [i3, show (1 : Int) * 1 = 1 from rfl, r1] at this
 rw [i1]
 exact ⟨this.2, by rw [this.1, (Wr r1).1]⟩
theorem ky {a : zh} (h : zo a = 0) (hs : Y7 a = true) : jv 9 a := by
 obtain ⟨h1, h2⟩ := Xg h hs
 rw [jv, show 10 ^ 9 = 1000000000 from by decide]
 exact ⟨h, by omega, by omega, Zb (Zu.1 h).1⟩
theorem LP {f : Int → Int → Int} {a b : zh} (ha : zo a = 0) (hb : zo b = 0) : yD f a b = (bif ZZ (zL a * (zP b : Int)) != 0 || ZZ (zL b * (zP a : Int)) != 0 || ZZ (SE f a b) != 0 || ZZ ((zP a : Int) * (zP b : Int)) != 0 then 4 else 0) ∧
  YD f a b = (bif ZZ (zL a * (zP b : Int)) != 0 || ZZ (zL b * (zP a : Int)) != 0 || ZZ (SE f a b) != 0 || ZZ ((zP a : Int) * (zP b : Int)) != 0 then [] else ZQ (SE f a b) (zP a * zP b)) := by
 have e : yD f a b = (bif ZZ (zL a * (zP b : Int)) != 0 || ZZ (zL b * (zP a : Int)) != 0 || ZZ (SE f a b) != 0 || ZZ ((zP a : Int) * (zP b : Int)) != 0 then 4 else 0) := by
  unfold yD Yw
  rw [ha, hb]
  rcases YN (zL a * (zP b : Int)) with h1 | h1 <;> rcases YN (zL b * (zP a : Int)) with h2 | h2 <;> rcases YN (SE f a b) with h3 | h3 <;> rcases YN ((zP a : Int) * (zP b : Int)) with h4 | h4 <;> rw [h1, h2, h3, h4] <;> rfl
 refine ⟨e, ?_⟩
 unfold YD
 rw [e]
 cases (ZZ (zL a * (zP b : Int)) != 0 || ZZ (zL b * (zP a : Int)) != 0 || ZZ (SE f a b) != 0 || ZZ ((zP a : Int) * (zP b : Int)) != 0) <;> rfl
noncomputable def gJ (G : List (Nat × Obj)) : Tb := ((((((wn G).plus 51 WJ).plus 52 wR).plus 53 vE).plus 236 rB).plus 185 rF).plus 184 Xu
theorem qD {G : List (Nat × Obj)} (hG : zM G) : zY Tryz.prog (gJ G) :=
 zY.plus (zY.plus (zY.plus (zY.plus (zY.plus (zY.plus zr (zQ.mono UJ)) (zQ.mono uZ)) (Rc hG)) (L3 hG)) (mi hG)) (zQ.mono Wg)
def RV : List AV → Option (List zN × AV)
 | [.str a, .str b] => some ([.p (a.length ≤ 100000000), .p (b.length ≤ 100000000), .p (zo a = 0), .p (zo b = 0)], .tup 2 (zT [.str (YD (· + ·) a b), .i (yD (· + ·) a b)]))
 | _ => none
theorem mY (G : List (Nat × Obj)) (a : List UInt8) (b : List UInt8) (hla : a.length ≤ 100000000) (hlb : b.length ≤ 100000000) (ha : zo a = 0) (hb0 : zo b = 0) :
 let q1 := ((bif Y7 a then zL a else iZ) * bif Y7 b then (cI (zP b)) else iZ); let q2 := (q1 + (bif Y7 b then zL b else iZ) * bif Y7 a then (cI (zP a)) else iZ); let q4 := (bif Y7 a then (cI (zP a)) else iZ); let q3 := (q4 * bif Y7 b then (cI (zP b)) else iZ); let q5 := (bif yZ (fun (x1 x2 : Int) => x1 * x2) (zO a) (Zo b) != iZ then yZ (fun (x1 x2 : Int) => x1 * x2) (zO a) (Zo b) else yZ (fun (x1 x2 : Int) => x1 * x2) (zO b) (Zo a)); let q6 := (True ∧ bA #[]
 = YD (fun (x1 x2 : Int) => x1 + x2) a b); let q10 := (ByteArray.data (ByteArray.mk #[(49 : UInt8)])); let q9 := (Array.toList q10); let q8 := (bif yZ (fun (x1 x2 : Int) => x1 * x2) (Zo a) (Zo b) != iZ then yZ (fun (x1 x2 : Int) => x1 * x2) (Zo a) (Zo b) else yZ (fun (x1 x2 : Int) => x1 * x2) q9 q9); let q7 := (q8 != iZ); let q11 := (y5 (fun (x1 x2 : Int) => x1 * x2) (zO a) (Zo b)); let q12 := (bif yZ (fun (x1 x2 : Int) => x1 * x2) (zO a) (Zo b) != iZ then [] else y5 (fun (x1 x2 : Int) => x1 * x2) (zO b) (Zo a)); let q13 := (y5 (fun (x1 x2 : Int)
 => x1 + x2) q11 q12); let q14 := (y5 (fun (x1 x2 : Int) => x1 * x2) (Zo a) (Zo b)); zB [AV.str a, AV.str b] → lN a ≤ nM ∧ zo a = iZ ∧ lN b ≤ nM ∧ zo b = iZ ∧ bF (!Y7 a || zU true (Y7 a)) (zZ (bif Y7 a then Y7 b else false) (bF (dK q1) (bF (dK ((bif Y7 b then zL b else iZ) * bif Y7 a then (cI (zP a)) else iZ)) (bF (dK q2) (bF (dK q3) ((((-9223372036854775807 : Int) ≤ q1 + (bif Y7 b then zL b else iZ) * bif Y7 a then
 (cI (zP a)) else iZ) ∧ q2 ≤ iX) ∧ ((iZ < q4 * bif Y7 b then (cI (zP b)) else iZ) ∧ q3 ≤ iX) ∧ j2 ∧ (True ∧ ZQ q2 (Int.toNat q3) = YD (fun (x1 x2 : Int) => x1 + x2) a b) ∧ kI ∧ iZ = yD (fun (x1 x2 : Int) => x1 + x2) a b))))) (lN a ≤ nM ∧ lN b ≤ nM ∧ lN (zO a) ≤ 100000000 ∧ lN (Zo b) ≤ 100000000 ∧ lN (zO b) ≤ 100000000 ∧ lN (Zo a) ≤ 100000000 ∧ zZ (q5
 != iZ) (j2 ∧ q6 ∧ kI ∧ q5 = yD (fun (x1 x2 : Int) => x1 + x2) a b) (lN (Zo a) ≤ 100000000 ∧ lN (Zo b) ≤ 100000000 ∧ 1 ≤ 100000000 ∧ 1 ≤ 100000000 ∧ bF (!zU false q7 || zU false q7) (bF (!!q8 != iZ || zU false q7) (zZ (bif q8 != iZ then true else !(bif yZ (fun (x1 x2 : Int) => x1 * x2) (Zo a) (Zo b) != iZ then [] else y5 (fun (x1 x2 : Int) => x1 * x2) q9 q9) == Array.toList q10) (j2 ∧ q6 ∧ kI ∧ q8 = yD (fun (x1 x2 : Int) => x1
 + x2) a b) (lN q11 ≤ 100000000 ∧ lN q12 ≤ 100000000 ∧ zZ (yZ (fun (x1 x2 : Int) => x1 + x2) q11 q12 != iZ) (j2 ∧ q6 ∧ kI ∧ yZ (fun (x1 x2 : Int) => x1 + x2) q11 q12 = yD (fun (x1 x2 : Int) => x1 + x2) a b) (Zt q13 = iZ ∧ Zt q14 = iZ ∧ iZ < zt q14 ∧ j2 ∧ (True ∧ ZQ (zt q13) (Int.toNat (zt q14)) = YD (fun (x1 x2 : Int) => x1 + x2) a b) ∧ kI ∧ iZ = yD (fun (x1 x2 : Int) => x1 + x2) a b))))))) := by
 delta bF dK bA nM cI kI j2 lN iZ iX
 dsimp only
 intro hb
 simp only [↓ZK, ↓ZT, row_one]
 simp only [sS, dS]
 have ncd := Yy a
 have ncb := Yy b
 have da := Zb (Zu.1 ha).1
 have db := Zb (Zu.1 hb0).1
 have hD : 0 < (zP a : Int) * (zP b : Int) := Int.mul_pos (by omega) (by omega)
 have hDn : ((zP a : Int) * (zP b : Int)).toNat = zP a * zP b := by rw [← Int.natCast_mul]; rfl
 refine ⟨by omega, ha, by omega, hb0, zu.2 ⟨fun c => ?_, fun c => ?_⟩⟩
 ·rw [Bool.and_eq_true] at c
  obtain ⟨a2, a3⟩ := Xg ha c.1
  obtain ⟨b2, b3⟩ := Xg hb0 c.2
  obtain ⟨f1, _, f2⟩ := IS (f := fun x1 x2 => x1 + x2) (fun u v => by omega) (by omega) (by omega) (ky ha c.1) (ky hb0 c.2)
  rw [c.1, c.2, f1, f2]
  simp only [cond_true]
  have m1 : (zL a * (zP b : Int)).natAbs ≤ 999999999 * 999999999 := by rw [Int.natAbs_mul, Int.natAbs_natCast]; exact Nat.mul_le_mul a2 b3
  have m2 : (zL b * (zP a : Int)).natAbs ≤ 999999999 * 999999999 := by rw [Int.natAbs_mul, Int.natAbs_natCast]; exact Nat.mul_le_mul b2 a3
  have m3 : ((zP a : Int) * (zP b : Int)).natAbs ≤ 999999999 * 999999999 := by rw [Int.natAbs_mul, Int.natAbs_natCast, Int.natAbs_natCast]; exact Nat.mul_le_mul a3 b3
  rw [hDn]
  generalize zL a * (zP b : Int) = x at *
  generalize zL b * (zP a : Int) = y at *
  generalize (zP a : Int) * (zP b : Int) = z at *
  simp only [YZ]
  exact ⟨by omega, by omega, by omega, by omega, ⟨by omega, by omega⟩, ⟨by omega, by omega⟩, rfl, trivial, trivial⟩
 ·obtain ⟨p1, p2⟩ := I6 ha hb0
  obtain ⟨p3, p4⟩ := I6 hb0 ha
  obtain ⟨p5, p6⟩ := G6 ha hb0
  obtain ⟨p7, p8⟩ := GM
  obtain ⟨f1, f2⟩ := LP (f := fun x1 x2 => x1 + x2) ha hb0
  have dla := W7 ha
  have dlb := W7 hb0
  rw [f1, f2]
  unfold SE
  simp only [p1, p2, p3, p4, p5, p6, p7, p8]
  generalize zL a * (zP b : Int) = x at *
  generalize zL b * (zP a : Int) = y at *
  generalize hz : (zP a : Int) * (zP b : Int) = z at *
  refine ⟨by omega, by omega, by omega, by omega, by omega, by omega, fun h => ?_, fun h => ?_⟩
  ·rcases YN x with h1 | h1 <;> rcases YN y with h2 | h2 <;> rw [h1, h2] at h ⊢ <;> first | exact absurd rfl h | exact ⟨rfl, rfl, rfl⟩
  have h1 : ZZ x = 0 := by rcases YN x with h1 | h1; exact h1; rw [h1] at h; cases h
  have h2 : ZZ y = 0 := by rw [h1] at h; exact h
  obtain ⟨x1, x2, x3, x4⟩ := Wr h1
  obtain ⟨y1, y2, y3, y4⟩ := Wr h2
  have oe := xa (f := fun x1 x2 => x1 + x2) (a := Lib.itoa x) (b := Lib.itoa y) (by unfold zI; rw [x2, y2]; rfl)
  rw [x3, y3] at oe
  simp only [h1, h2, bne_self_eq_false, Bool.false_or, cond_false, x1, y1, oe.1, oe.2]
  refine ⟨by omega, by omega, by omega, by omega, zu.2 ⟨fun c => ?_, fun c => ?_⟩⟩
  ·rcases YN z with h3 | h3
   ·rw [h3] at c; exact absurd c (by decide)
   ·rw [h3, show ((4 : Int) != 0) = true from rfl, Bool.or_true]; exact ⟨rfl, rfl, rfl⟩
  have h3 : ZZ z = 0 := by
   rcases YN z with h3 | h3
   ·exact h3
   ·rw [h3] at c; exact absurd c (by decide)
  obtain ⟨z1, z2, z3, z4⟩ := Wr h3
  rw [h3, z1]
  refine ⟨by omega, by omega, fun h => ?_, fun h => ?_⟩
  ·rcases YN (x + y) with h4 | h4
   ·exact absurd h4 h
   ·rw [h4]; exact ⟨rfl, rfl, rfl⟩
  ·obtain ⟨w1, w2, w3, w4⟩ := Wr h
   rw [h, w1, w3, z3, hDn]
   exact ⟨w2, z2, hD, rfl, rfl, rfl⟩
theorem jY {G : List (Nat × Obj)} (hG : zM G) (a : List UInt8) (b : List UInt8) (hla : a.length ≤ 100000000) (hlb : b.length ≤ 100000000) (ha : zo a = 0) (hb0 : zo b = 0) : zS Tryz.prog G 202 [.str a, .str b] (.tup 2 (zT [.str (YD (· + ·) a b), .i (yD (· + ·) a b)])) :=
 zV (T := gJ G) (an := .auto) mixed (qD hG) (Eq.mp (by kernel_rfl) (mY G a b hla hlb ha hb0))
theorem kY {G : List (Nat × Obj)} (hG : zM G) : zQ Tryz.prog G 202 RV := by
 intro xs ps r h hp
 unfold RV at h
 split at h
 ·skip
  rename_i a b
  cases h
  obtain ⟨q0, q1, q2, q3, -⟩ := Zx hp
  exact weaken (ys := [.str a, .str b]) ⟨zX _, zX _, trivial⟩ (jY hG a b q0 q1 q2 q3)
 ·cases h
end Go.Te

namespace Go.Te
open Go Go.Sx Go.Proofs Go.Ar
set_option maxRecDepth 100000
set_option maxHeartbeats 4000000
def Uv (a : zh) : zh := y6 (- zL a) (zP a)
theorem mc {a : zh} (h : zo a = 0) : zo (Uv a) = 0 ∧ zL (Uv a) = - zL a ∧ zP (Uv a) = zP a ∧ (Uv a).length ≤ 700 := by
 obtain ⟨h1, h2, h3, h4⟩ := Zu.1 h
 have hp := Zb h1
 obtain ⟨t1, t2, t3, t4, t5⟩ := xL (zL a) hp
 obtain ⟨s1, s2, s3, s4, s5⟩ := xL (- zL a) hp
 rw [Tw h1] at t4 t5
 have e : Vk (- zL a) = Vk (zL a) := by unfold Vk; rw [Int.natAbs_neg]
 refine ⟨Zu.2 ⟨s1, by rw [show Uv a = y6 _ _ from rfl, s4, e, ← t4]; exact h2, by rw [show Uv a = y6 _ _ from rfl, s5, ← t5]; exact h3, by rw [show Uv a = y6 _ _ from rfl, s2, s3, Int.natAbs_neg]; exact h4⟩, s2, s3, ?_⟩
 have l1 := Yf (- zL a)
 unfold Uv y6
 rw [List.length_append, l1, e, ← t4]
 have : (bif Nat.beq (zP a) 1 then [] else 47 :: Lib.decDigits (zP a)).length ≤ 301 := by
  cases hq : Nat.beq (zP a) 1 with
  | true => simp
  | false =>
   rw [cond_false, List.length_cons, Lib.decDigits_length]
   rw [if_neg (fun e => by rw [e] at hq; cases hq)] at t5
   omega
 split <;> omega
theorem H0 {a : zh} (h : zo a = 0) : (bif a == [48] then a else bif a.getD 0 0 == 45 then a.drop 1 else 45 :: a) = Uv a ∧ 0 < a.length := by
 obtain ⟨h1, h2, h3, h4⟩ := Zu.1 h
 have hp := Zb h1
 have e := Tw h1
 have l0 : ∀ m : Nat, 0 < (Lib.decDigits m).length := yw
 have hd : ∀ (m : Nat) (t : zh), ((Lib.decDigits m ++ t).getD 0 0 == 45) = false := fun m t => by
  have hd := (ZX.1 (Yp m))
  match hq : Lib.decDigits m, hd with
  | c :: r, hd =>
   have := Z6.1 (hd.2.1 c List.mem_cons_self)
   exact beq_eq_false_iff_ne.2 fun e => by
    have e : c = 45 := e
    subst e; exact absurd this.1 (by decide)
 obtain ⟨t, ht⟩ : ∃ t : zh, t = bif Nat.beq (zP a) 1 then [] else 47 :: Lib.decDigits (zP a) := ⟨_, rfl⟩
 rcases Int.lt_trichotomy (zL a) 0 with hn | hn | hn
 ·obtain ⟨m, hm⟩ : ∃ m : Nat, zL a = -(m : Int) := ⟨(zL a).natAbs, by omega⟩
  unfold Uv
  rw [hm, Int.neg_neg]
  rw [hm] at e
  unfold y6 at e ⊢
  rw [← ht] at e ⊢
  rw [itoa_neg (by omega)] at e
  rw [Zi, ← e]
  exact ⟨rfl, by simp⟩
 ·rw [hn] at h4 e
  have hD : zP a = 1 := by rw [← h4]; simp
  rw [hD] at e
  have e2 : a = [48] := by
   rw [← e]; unfold y6
   rw [show (0 : Int) = ((0 : Nat) : Int) from rfl, Zi, zA (by omega)]; rfl
  unfold Uv
  rw [hn, hD, show -(0 : Int) = 0 from rfl, e, e2]
  exact ⟨rfl, by simp⟩
 ·obtain ⟨m, hm⟩ : ∃ m : Nat, zL a = (m : Int) := ⟨(zL a).toNat, by omega⟩
  have e48 : (a == [48]) = false := beq_eq_false_iff_ne.2 fun q => by rw [q] at hn; exact absurd hn (by decide)
  rw [e48, cond_false]
  unfold Uv
  rw [hm]
  rw [hm] at e
  unfold y6 at e ⊢
  rw [← ht] at e ⊢
  rw [Zi] at e
  rw [itoa_neg (by omega)]
  have hq := hd m t
  rw [e] at hq
  rw [hq, cond_false, ← e]
  have := l0 m
  exact ⟨rfl, by rw [List.length_append]; omega⟩
theorem hH {a b : zh} (ha : zo a = 0) (hb : zo b = 0) : yD (fun x1 x2 => x1 + x2) a (Uv b) = yD (fun x1 x2 => x1 - x2) a b ∧ YD (fun x1 x2 => x1 + x2) a (Uv b) = YD (fun x1 x2 => x1 - x2) a b := by
 obtain ⟨b1, b2, b3, _⟩ := mc hb
 obtain ⟨e1, e2⟩ := LP (f := fun x1 x2 => x1 + x2) ha b1
 obtain ⟨e3, e4⟩ := LP (f := fun x1 x2 => x1 - x2) ha hb
 have r : ZZ (- zL b * (zP a : Int)) = ZZ (zL b * (zP a : Int)) := by unfold ZZ Vk; rw [Int.neg_mul, Int.natAbs_neg]
 have n : SE (fun x1 x2 => x1 + x2) a (Uv b) = SE (fun x1 x2 => x1 - x2) a b := by
  unfold SE
  rw [b2, b3, Int.neg_mul]; rfl
 rw [e1, e2, e3, e4, n, b2, b3, r]
 exact ⟨rfl, rfl⟩
def S9 : List AV → Option (List zN × AV)
 | [.str a] => some ([.p (a.length ≤ 4294967280), .p (zo a = 0)], .str (Uv a))
 | _ => none
theorem lu (a : List UInt8) (hl : a.length ≤ 4294967280) (hr : zo a = 0) :
 zB [AV.str a] → zZ (a == bA #[(48 : UInt8)]) (a = Uv a) (bF (DB.db (iZ ≤ iZ ∧ iZ < (lZ a))) (zZ ((cI (UInt8.toNat (gD a 0 (0 : UInt8)))) == (45 : Int)) (bF (DB.db (iZ ≤ iO ∧ iO ≤ (lZ a))) (List.drop 1 a = Uv a)) (bF (DB.db (1 + lN a ≤ nX)) (bA #[(45 : UInt8)] ++ a = Uv a)))) := by
 delta bF bA nX cI lZ lN gD iZ iO
 intro hb
 simp only [↓ZK, ↓ZT, row_one]
 simp only [sS, dS]
 obtain ⟨e, e0⟩ := H0 hr
 have eb : (((a.getD 0 0).toNat : Int) == 45) = (a.getD 0 0 == 45) := yb (a.getD 0 0) 45 (by decide)
 have k1 : (((a.getD 0 0).toNat : Int) = 45) ↔ (a.getD 0 0 == 45) = true := by rw [← eb, beq_iff_eq]
 rw [Ne, k1, Bool.not_eq_true]
 refine zu.2 ⟨fun c => ?_, fun c => ⟨⟨by omega, by omega⟩, fun h => ⟨⟨by omega, by omega⟩, ?_⟩, fun h => ⟨by omega, ?_⟩⟩⟩
 ·rw [c] at e; exact e
 ·rw [c, h] at e; exact e
 ·rw [c, h] at e; exact e
theorem jh (a : List UInt8) (hl : a.length ≤ 4294967280) (hr : zo a = 0) : zS Tryz.prog [] 235 [.str a] (.str (Uv a)) :=
 zV (T := T0) (an := .auto) mixed zr (Eq.mp (by kernel_rfl) (lu a hl hr))
theorem Ks : zQ Tryz.prog [] 235 S9 := by
 intro xs ps r h hp
 unfold S9 at h
 split at h
 ·skip
  rename_i a
  cases h
  obtain ⟨q0, q1, -⟩ := Zx hp
  exact weaken (ys := [.str a]) ⟨zX _, trivial⟩ (jh a q0 q1)
 ·cases h
noncomputable def ic (G : List (Nat × Obj)) : Tb := (((wn G).plus 50 WU).plus 202 RV).plus 235 S9
theorem tA {G : List (Nat × Obj)} (hG : zM G) : zY Tryz.prog (ic G) :=
 zY.plus (zY.plus (zY.plus zr (UG hG)) (kY hG)) (zQ.mono Ks)
theorem vq {a b : zh} (h : (bif zo a != 0 then zo a else zo b) = 0) : zo a = 0 ∧ zo b = 0 := by
 by_cases h0 : zo a = 0
 ·rw [h0] at h; exact ⟨h0, h⟩
 ·rw [bne_iff_ne.2 h0] at h; exact absurd h h0
theorem P4 {f : Int → Int → Int} {a b : zh} (h : (bif zo a != 0 then zo a else zo b) ≠ 0) : [] = YD f a b ∧ (bif zo a != 0 then zo a else zo b) = yD f a b := by
 by_cases h0 : zo a = 0
 ·rw [h0] at h ⊢; exact J9 h0 h
 ·rw [bne_iff_ne.2 h0]; exact iy h0
def Rt : List AV → Option (List zN × AV)
 | [.str a, .str b] => some ([.p (a.length ≤ 100000000), .p (b.length ≤ 100000000)], .tup 2 (zT [.str (YD (· + ·) a b), .i (yD (· + ·) a b)]))
 | _ => none
theorem mw (G : List (Nat × Obj)) (a : List UInt8) (b : List UInt8) (hla : a.length ≤ 100000000) (hlb : b.length ≤ 100000000) :
 zB [AV.str a, AV.str b] → lN a ≤ 100000000 ∧ lN b ≤ 100000000 ∧ zZ ((bif zo a != iZ then zo a else zo b) != iZ) (j2 ∧ (True ∧ bA #[] = YD (fun (x1 x2 : Int) => x1 + x2) a b) ∧ kI ∧ (bif zo a != iZ then zo a else zo b) = yD (fun (x1 x2 : Int) => x1 + x2) a b) (lN a ≤ 100000000 ∧ lN b ≤ 100000000 ∧ zo a = iZ ∧ zo b = iZ ∧ j2 ∧ (True ∧ YD (fun (x1 x2 : Int) => x1 + x2) a b = YD (fun
 (x1 x2 : Int) => x1 + x2) a b) ∧ kI ∧ yD (fun (x1 x2 : Int) => x1 + x2) a b = yD (fun (x1 x2 : Int) => x1 + x2) a b) := by
 delta bA kI j2 lN iZ
 intro hb
 simp only [↓ZK, ↓ZT, row_one]
 simp only [sS, dS]
 refine ⟨hla, hlb, fun h => ⟨rfl, P4 h⟩, fun h => ?_⟩
 obtain ⟨h0, h1⟩ := vq h
 exact ⟨hla, hlb, h0, h1, rfl⟩
theorem jq {G : List (Nat × Obj)} (hG : zM G) (a : List UInt8) (b : List UInt8) (hla : a.length ≤ 100000000) (hlb : b.length ≤ 100000000) : zS Tryz.prog G 138 [.str a, .str b] (.tup 2 (zT [.str (YD (· + ·) a b), .i (yD (· + ·) a b)])) :=
 zV (T := ic G) (an := .auto) mixed (tA hG) (Eq.mp (by kernel_rfl) (mw G a b hla hlb))
theorem jP {G : List (Nat × Obj)} (hG : zM G) : zQ Tryz.prog G 138 Rt := by
 intro xs ps r h hp
 unfold Rt at h
 split at h
 ·skip
  rename_i a b
  cases h
  obtain ⟨q0, q1, -⟩ := Zx hp
  exact weaken (ys := [.str a, .str b]) ⟨zX _, zX _, trivial⟩ (jq hG a b q0 q1)
 ·cases h
def S6 : List AV → Option (List zN × AV)
 | [.str a, .str b] => some ([.p (a.length ≤ 100000000), .p (b.length ≤ 100000000)], .tup 2 (zT [.str (YD (· - ·) a b), .i (yD (· - ·) a b)]))
 | _ => none
theorem Md (G : List (Nat × Obj)) (a : List UInt8) (b : List UInt8) (hla : a.length ≤ 100000000) (hlb : b.length ≤ 100000000) :
 zB [AV.str a, AV.str b] → lN a ≤ 100000000 ∧ lN b ≤ 100000000 ∧ zZ ((bif zo a != iZ then zo a else zo b) != iZ) (j2 ∧ (True ∧ bA #[] = YD (fun (x1 x2 : Int) => x1 - x2) a b) ∧ kI ∧ (bif zo a != iZ then zo a else zo b) = yD (fun (x1 x2 : Int) => x1 - x2) a b) (lN b ≤ nM ∧ zo b = iZ ∧ lN a ≤ 100000000 ∧ lN (Uv b) ≤ 100000000 ∧ zo a = iZ ∧ zo (Uv b) = iZ ∧ 2 = lN [AV.junk,
 AV.junk] ∧ (True ∧ YD (fun (x1 x2 : Int) => x1 + x2) a (Uv b) = YD (fun (x1 x2 : Int) => x1 - x2) a b) ∧ kI ∧ yD (fun (x1 x2 : Int) => x1 + x2) a (Uv b) = yD (fun (x1 x2 : Int) => x1 - x2) a b) := by
 delta bA nM kI j2 lN iZ
 intro hb
 simp only [↓ZK, ↓ZT, row_one]
 simp only [sS, dS]
 refine ⟨hla, hlb, fun h => ⟨rfl, P4 h⟩, fun h => ?_⟩
 obtain ⟨h0, h1⟩ := vq h
 obtain ⟨n1, n2, n3, n4⟩ := mc h1
 obtain ⟨n5, n6⟩ := hH h0 h1
 exact ⟨by omega, h1, hla, by omega, h0, n1, rfl, n6, n5⟩
theorem kc {G : List (Nat × Obj)} (hG : zM G) (a : List UInt8) (b : List UInt8) (hla : a.length ≤ 100000000) (hlb : b.length ≤ 100000000) : zS Tryz.prog G 198 [.str a, .str b] (.tup 2 (zT [.str (YD (· - ·) a b), .i (yD (· - ·) a b)])) :=
 zV (T := ic G) (an := .auto) mixed (tA hG) (Eq.mp (by kernel_rfl) (Md G a b hla hlb))
theorem kg {G : List (Nat × Obj)} (hG : zM G) : zQ Tryz.prog G 198 S6 := by
 intro xs ps r h hp
 unfold S6 at h
 split at h
 ·skip
  rename_i a b
  cases h
  obtain ⟨q0, q1, -⟩ := Zx hp
  exact weaken (ys := [.str a, .str b]) ⟨zX _, zX _, trivial⟩ (kc hG a b q0 q1)
 ·cases h
end Go.Te

namespace Go.Te
open Go Go.Sx Go.Proofs Go.Ar
set_option maxRecDepth 100000
set_option maxHeartbeats 4000000
theorem gI {a b : zh} (ha : zo a = 0) (hb : zo b = 0) : XQ a b = (bif ZZ (zL a * zL b) != 0 || ZZ ((zP a : Int) * (zP b : Int)) != 0 then 4 else 0) ∧
  Xa a b = (bif ZZ (zL a * zL b) != 0 || ZZ ((zP a : Int) * (zP b : Int)) != 0 then [] else ZQ (zL a * zL b) (zP a * zP b)) := by
 have e : XQ a b = (bif ZZ (zL a * zL b) != 0 || ZZ ((zP a : Int) * (zP b : Int)) != 0 then 4 else 0) := by
  unfold XQ
  rw [ha, hb]
  rcases YN (zL a * zL b) with h1 | h1 <;> rcases YN ((zP a : Int) * (zP b : Int)) with h2 | h2 <;> rw [h1, h2] <;> rfl
 refine ⟨e, ?_⟩
 unfold Xa
 rw [e]
 cases (ZZ (zL a * zL b) != 0 || ZZ ((zP a : Int) * (zP b : Int)) != 0) <;> rfl
theorem K5 {a b : zh} (h : (bif zo a != 0 then zo a else zo b) ≠ 0) : [] = Xa a b ∧ (bif zo a != 0 then zo a else zo b) = XQ a b := by
 by_cases h0 : zo a = 0
 ·rw [h0] at h ⊢; exact HZ h0 h
 ·rw [bne_iff_ne.2 h0]; exact gR h0
noncomputable def H9 (G : List (Nat × Obj)) : Tb := (((((wn G).plus 50 WU).plus 51 WJ).plus 52 wR).plus 53 vE).plus 185 rF
theorem QI {G : List (Nat × Obj)} (hG : zM G) : zY Tryz.prog (H9 G) :=
 zY.plus (zY.plus (zY.plus (zY.plus (zY.plus zr (UG hG)) (zQ.mono UJ)) (zQ.mono uZ)) (Rc hG)) (mi hG)
def Sa : List AV → Option (List zN × AV)
 | [.str a, .str b] => some ([.p (a.length ≤ 100000000), .p (b.length ≤ 100000000)], .tup 2 (zT [.str (Xa a b), .i (XQ a b)]))
 | _ => none
theorem mT (G : List (Nat × Obj)) (a : List UInt8) (b : List UInt8) (hla : a.length ≤ 100000000) (hlb : b.length ≤ 100000000) :
 let q1 := (bif zo a != iZ then zo a else zo b); let q2 := (True ∧ bA #[] = Xa a b); let q3 := ((bif Y7 a then zL a else iZ) * bif Y7 b then zL b else iZ); let q5 := (bif Y7 a then (cI (zP a)) else iZ); let q4 := (q5 * bif Y7 b then (cI (zP b)) else iZ); let q6 := (bif yZ (fun (x1 x2 : Int) => x1 * x2) (zO a) (zO b) != iZ then yZ (fun (x1 x2 : Int) => x1 * x2) (zO a) (zO b) else yZ (fun (x1 x2 : Int) => x1 * x2) (Zo a) (Zo b)); let q7 := (y5 (fun (x1 x2 : Int) => x1 *
 x2) (zO a) (zO b)); let q8 := (bif yZ (fun (x1 x2 : Int) => x1 * x2) (zO a) (zO b) != iZ then [] else y5 (fun (x1 x2 : Int) => x1 * x2) (Zo a) (Zo b)); zB [AV.str a, AV.str b] → lN a ≤ 100000000 ∧ lN b ≤ 100000000 ∧ zZ (q1 != iZ) (j2 ∧ q2 ∧ kI ∧ q1 = XQ a b) (lN a ≤ nM ∧ zo a = iZ ∧ lN b ≤ nM ∧ zo b = iZ ∧ bF (!Y7 a || zU true (Y7 a)) (zZ (bif Y7 a then Y7 b else false) (bF (dK q3) (zZ (dK q4)
 ((((-9223372036854775807 : Int) ≤ (bif Y7 a then zL a else iZ) * bif Y7 b then zL b else iZ) ∧ q3 ≤ iX) ∧ ((iZ < q5 * bif Y7 b then (cI (zP b)) else iZ) ∧ q4 ≤ iX) ∧ j2 ∧ (True ∧ ZQ q3 (Int.toNat q4) = Xa a b) ∧ kI ∧ iZ = XQ a b) False)) (lN a ≤ nM ∧ lN b ≤ nM ∧ lN (zO a) ≤ 100000000 ∧ lN (zO b) ≤ 100000000 ∧ lN (Zo a) ≤ 100000000 ∧ lN (Zo b) ≤ 100000000 ∧ zZ
 (q6 != iZ) (j2 ∧ q2 ∧ kI ∧ q6 = XQ a b) (Zt q7 = iZ ∧ Zt q8 = iZ ∧ iZ < zt q8 ∧ j2 ∧ (True ∧ ZQ (zt q7) (Int.toNat (zt q8)) = Xa a b) ∧ kI ∧ iZ = XQ a b)))) := by
 delta bF dK bA nM cI kI j2 lN iZ iX
 dsimp only
 intro hb
 simp only [↓ZK, ↓ZT, row_one]
 simp only [sS, dS]
 refine ⟨hla, hlb, fun h => ⟨rfl, K5 h⟩, fun h => ?_⟩
 obtain ⟨ha, hb0⟩ := vq h
 have ncd := Yy a
 have ncb := Yy b
 have da := Zb (Zu.1 ha).1
 have db := Zb (Zu.1 hb0).1
 have hD : 0 < (zP a : Int) * (zP b : Int) := Int.mul_pos (by omega) (by omega)
 have hDn : ((zP a : Int) * (zP b : Int)).toNat = zP a * zP b := by rw [← Int.natCast_mul]; rfl
 refine ⟨by omega, ha, by omega, hb0, zu.2 ⟨fun c => ?_, fun c => ?_⟩⟩
 ·rw [Bool.and_eq_true] at c
  obtain ⟨a2, a3⟩ := Xg ha c.1
  obtain ⟨b2, b3⟩ := Xg hb0 c.2
  obtain ⟨f1, _, f2⟩ := kh (by omega) (by omega) (ky ha c.1) (ky hb0 c.2)
  rw [c.1, c.2, f1, f2]
  simp only [cond_true]
  have m1 : (zL a * zL b).natAbs ≤ 999999999 * 999999999 := by rw [Int.natAbs_mul]; exact Nat.mul_le_mul a2 b2
  have m3 : ((zP a : Int) * (zP b : Int)).natAbs ≤ 999999999 * 999999999 := by rw [Int.natAbs_mul, Int.natAbs_natCast, Int.natAbs_natCast]; exact Nat.mul_le_mul a3 b3
  rw [hDn]
  generalize zL a * zL b = x at *
  generalize (zP a : Int) * (zP b : Int) = z at *
  simp only [YZ]
  exact ⟨by omega, by omega, ⟨by omega, by omega⟩, ⟨by omega, by omega⟩, rfl, trivial, trivial⟩
 ·obtain ⟨p1, p2⟩ := fS ha hb0
  obtain ⟨p5, p6⟩ := G6 ha hb0
  obtain ⟨f1, f2⟩ := gI ha hb0
  have dla := W7 ha
  have dlb := W7 hb0
  rw [f1, f2]
  simp only [p1, p2, p5, p6]
  generalize zL a * zL b = x at *
  generalize hz : (zP a : Int) * (zP b : Int) = z at *
  refine ⟨by omega, by omega, by omega, by omega, by omega, by omega, fun h => ?_, fun h => ?_⟩
  ·rcases YN x with h1 | h1 <;> rcases YN z with h2 | h2 <;> rw [h1, h2] at h ⊢ <;> first | exact absurd rfl h | exact ⟨rfl, rfl, rfl⟩
  have h1 : ZZ x = 0 := by rcases YN x with h1 | h1; exact h1; rw [h1] at h; cases h
  have h2 : ZZ z = 0 := by rw [h1] at h; exact h
  obtain ⟨x1, x2, x3, x4⟩ := Wr h1
  obtain ⟨z1, z2, z3, z4⟩ := Wr h2
  simp only [h1, h2, bne_self_eq_false, cond_false, x1, z1, x3, z3, hDn, Bool.or_self]
  exact ⟨x2, z2, hD, rfl, trivial, trivial⟩
theorem L4 {G : List (Nat × Obj)} (hG : zM G) (a : List UInt8) (b : List UInt8) (hla : a.length ≤ 100000000) (hlb : b.length ≤ 100000000) : zS Tryz.prog G 137 [.str a, .str b] (.tup 2 (zT [.str (Xa a b), .i (XQ a b)])) :=
 zV (T := ((H9 G).plus 184 Xu).body Tryz.prog [(201, .auto)]) (an := .auto) mixed (zY.body mixed (zY.plus (QI hG) (zQ.mono Wg)) _) (Eq.mp (by kernel_rfl) (mT G a b hla hlb))
theorem jE {G : List (Nat × Obj)} (hG : zM G) : zQ Tryz.prog G 137 Sa := by
 intro xs ps r h hp
 unfold Sa at h
 split at h
 ·skip
  rename_i a b
  cases h
  obtain ⟨q0, q1, -⟩ := Zx hp
  exact weaken (ys := [.str a, .str b]) ⟨zX _, zX _, trivial⟩ (L4 hG a b q0 q1)
 ·cases h
end Go.Te

namespace Go.Te
open Go Go.Sx Go.Proofs Go.Ar
set_option maxRecDepth 100000
set_option maxHeartbeats 4000000
structure zD where
 x : zh
 y : zh
 z : zh
instance : zp zD := ⟨3, ⟨[], [], []⟩, fun c => zT [.str c.x, .str c.y, .str c.z], fun cs => ⟨AV.bytes (cs 0), AV.bytes (cs 1), AV.bytes (cs 2)⟩, fun cs => ZO (cs 0) && ZO (cs 1) && ZO (cs 2), fun cs h j hj => by
 simp only [Bool.and_eq_true] at h
 match j, hj with
 | 0, _ => exact zf (ya h.1.1)
 | 1, _ => exact zf (ya h.1.2)
 | 2, _ => exact zf (ya h.2)⟩
instance : Yt zD := ⟨fun _ => rfl, fun _ => rfl⟩
def Nx (a : zD) : Prop := a.x.length ≤ 9223372036854775807 ∧ a.y.length ≤ 9223372036854775807 ∧ a.z.length ≤ 9223372036854775807
def YU (a : zD) : Int := bif zo a.x != 0 then zo a.x else bif zo a.y != 0 then zo a.y else zo a.z
def K1  : yW :=
 .two .auto (.two (.two .auto (.one (.unroll 4 .auto))) .auto)
def rR : List AV → Option (List zN × AV)
 | [.agg 3 p_a] => some ([.b (ZO (p_a 0) && ZO (p_a 1) && ZO (p_a 2)), .p (Nx (⟨AV.bytes (p_a 0), AV.bytes (p_a 1), AV.bytes (p_a 2)⟩ : zD))], .i (YU (⟨AV.bytes (p_a 0), AV.bytes (p_a 1), AV.bytes (p_a 2)⟩ : zD)))
 | _ => none
theorem jt (G : List (Nat × Obj)) (a : zD) (hl : Nx a) :
 zB [AV.agg 3 (zp.enc a)] → lN (zD.x a) ≤ nX ∧ zZ (zo (zD.x a) != iZ) (kI ∧ zo (zD.x a) = YU a) (lN (zD.y a) ≤ nX ∧ zZ (zo (zD.y a) != iZ) (kI ∧ zo (zD.y a) = YU a) (lN (zD.z a) ≤ nX ∧ zZ (zo (zD.z a) != iZ) (kI ∧ zo (zD.z a) = YU a) (kI ∧ iZ = YU a))) := by
 delta nX kI lN iZ
 intro hb
 simp only [sS, dS]
 obtain ⟨l1, l2, l3⟩ := hl
 refine ⟨l1, fun h => ?_, fun h1 => ⟨l2, fun h => ?_, fun h2 => ⟨l3, fun h => ?_, fun h3 => ?_⟩⟩⟩
 ·unfold YU; rw [bne_iff_ne.2 h]; rfl
 ·unfold YU; rw [h1, bne_iff_ne.2 h]; rfl
 ·unfold YU; rw [h1, h2]; rfl
 ·unfold YU; rw [h1, h2, h3]; rfl
theorem Jo {G : List (Nat × Obj)} (hG : zM G) (a : zD) (hl : Nx a) : zS Tryz.prog G 127 [yx a] (.i (YU a)) :=
 zV (T := ((wn G).plus 110 SU).body Tryz.prog [(139, .auto)]) (an := K1) mixed (zY.body mixed (zY.plus zr (lE hG)) _) (Eq.mp (by kernel_rfl) (jt G a hl))
theorem l9 {G : List (Nat × Obj)} (hG : zM G) : zQ Tryz.prog G 127 rR := by
 intro xs ps r h hp
 unfold rR at h
 split at h
 ·skip
  rename_i p_a
  cases h
  obtain ⟨q0, q1, -⟩ := Zx hp
  exact weaken (ys := [yx (⟨AV.bytes (p_a 0), AV.bytes (p_a 1), AV.bytes (p_a 2)⟩ : zD)]) ⟨zH (x := .agg 3 p_a) (α := zD) q0, trivial⟩ (Jo hG (⟨AV.bytes (p_a 0), AV.bytes (p_a 1), AV.bytes (p_a 2)⟩ : zD) q1)
 ·cases h
def kf  : yW :=
 .two .auto (.two .auto (.two .auto (.two (.two .auto (.one (.unroll 4 .auto))) .auto)))
def Ws (a b : zD) : Int :=
 bif YU a != 0 then YU a else bif YU b != 0 then YU b else bif yD (· - ·) a.x b.x != 0 then yD (· - ·) a.x b.x else bif yD (· - ·) a.y b.y != 0 then yD (· - ·) a.y b.y else yD (· - ·) a.z b.z
def wx (a b : zD) : zD := bif Ws a b == 0 then ⟨YD (· - ·) a.x b.x, YD (· - ·) a.y b.y, YD (· - ·) a.z b.z⟩ else ⟨[], [], []⟩
noncomputable def fV (G : List (Nat × Obj)) : Tb := ((((wn G).plus 127 rR).plus 94 Qz).body Tryz.prog [(139, .auto), (140, .auto)]).body Tryz.prog [(92, .auto), (93, kf)]
theorem ni {G : List (Nat × Obj)} (hG : zM G) : zY Tryz.prog (fV G) := zY.body mixed (zY.body mixed (zY.plus (zY.plus zr (l9 hG)) (iU hG)) _) _
def pE : List AV → Option (List zN × AV)
 | [.agg 3 p_a, .agg 3 p_b] => some ([.b (ZO (p_a 0) && ZO (p_a 1) && ZO (p_a 2)), .b (ZO (p_b 0) && ZO (p_b 1) && ZO (p_b 2)), .p (Nx (⟨AV.bytes (p_a 0), AV.bytes (p_a 1), AV.bytes (p_a 2)⟩ : zD)), .p (Nx (⟨AV.bytes (p_b 0), AV.bytes (p_b 1), AV.bytes (p_b 2)⟩ : zD))], .tup 2 (zT [yx (wx (⟨AV.bytes (p_a 0), AV.bytes (p_a 1), AV.bytes (p_a 2)⟩ : zD) (⟨AV.bytes (p_b 0), AV.bytes (p_b 1), AV.bytes (p_b 2)⟩ : zD)), .i (Ws (⟨AV.bytes (p_a 0), AV.bytes (p_a 1), AV.bytes (p_a 2)⟩ : zD) (⟨AV.bytes (p_b 0), AV.bytes (p_b 1), AV.bytes (p_b 2)⟩ : zD))]))
 | _ => none
theorem kX (G : List (Nat × Obj)) (a : zD) (b : zD) (ha : Nx a) (hb' : Nx b) :
 let q1 := (zD.mk (AV.bytes ((fun (i : Nat) => zp.enc a (0 + i)) 0)) (AV.bytes ((fun (i : Nat) => zp.enc a (0 + i)) 1)) (AV.bytes ((fun (i : Nat) => zp.enc a (0 + i)) 2))); let q2 := (YU q1 != iZ); let q3 := (True ∧ 3 = 3 ∧ (bA #[] = zD.x (wx a b) ∧ bA #[] = zD.y (wx a b)) ∧ bA #[] = zD.z (wx a b)); let q4 := (lN (zD.x a) ≤ nX ∧ lN (zD.x b) ≤ nX ∧ zZ (yD (fun (x1 x2 : Int) => x1 - x2) (zD.x a)
 (zD.x b) != iZ) (j2 ∧ q3 ∧ kI ∧ yD (fun (x1 x2 : Int) => x1 - x2) (zD.x a) (zD.x b) = Ws a b) (lN (zD.y a) ≤ nX ∧ lN (zD.y b) ≤ nX ∧ zZ (yD (fun (x1 x2 : Int) => x1 - x2) (zD.y a) (zD.y b) != iZ) (j2 ∧ q3 ∧ kI ∧ yD (fun (x1 x2 : Int) => x1 - x2) (zD.y a) (zD.y b) = Ws a b) (lN (zD.z a) ≤ nX ∧ lN (zD.z b) ≤ nX ∧ zZ (yD (fun (x1 x2 : Int) => x1 - x2) (zD.z a)
 (zD.z b) != iZ) (j2 ∧ q3 ∧ kI ∧ yD (fun (x1 x2 : Int) => x1 - x2) (zD.z a) (zD.z b) = Ws a b) (j2 ∧ (True ∧ 3 = 3 ∧ (YD (fun (x1 x2 : Int) => x1 - x2) (zD.x a) (zD.x b) = zD.x (wx a b) ∧ YD (fun (x1 x2 : Int) => x1 - x2) (zD.y a) (zD.y b) = zD.y (wx a b)) ∧ YD (fun (x1 x2 : Int) => x1 - x2) (zD.z a) (zD.z b) = zD.z (wx a b)) ∧ kI ∧ iZ = Ws a b)))); let q5 := (zD.mk (AV.bytes ((fun (i : Nat) => zp.enc b (0 + i)) 0)) (AV.bytes ((fun (i : Nat) => zp.enc b (0 + i))
 1)) (AV.bytes ((fun (i : Nat) => zp.enc b (0 + i)) 2))); zB [AV.agg 3 (zp.enc a), AV.agg 3 (zp.enc b)] → (lN (zD.x q1) ≤ nX ∧ lN (zD.y q1) ≤ nX ∧ lN (zD.z q1) ≤ nX) ∧ zZ q2 (zZ q2 (j2 ∧ q3 ∧ kI ∧ YU q1 = Ws a b) q4) ((lN (zD.x q5) ≤ nX ∧ lN (zD.y q5) ≤ nX ∧ lN (zD.z q5) ≤ nX) ∧ zZ (YU q5 != iZ) (j2 ∧ q3 ∧ kI ∧ YU
 q5 = Ws a b) q4) := by
 delta bA nX kI j2 lN iZ
 dsimp only
 intro hb
 have spS : (∀ m : zD, AV.bytes (zp.enc m 0) = m.x) ∧ (∀ m : zD, AV.bytes (zp.enc m 1) = m.y) ∧ (∀ m : zD, AV.bytes (zp.enc m 2) = m.z) := ⟨fun _ => rfl, fun _ => rfl, fun _ => rfl⟩
 have eta : ∀ m : zD, (⟨m.x, m.y, m.z⟩ : zD) = m := fun _ => rfl
 simp only [sS, dS, spS, eta]
 have bad : ∀ e : Int, e ≠ 0 → e = Ws a b → 2 = [AV.junk, AV.junk].length ∧ (([] = (wx a b).x ∧ [] = (wx a b).y) ∧ [] = (wx a b).z) ∧ e = Ws a b := fun e h0 h => by
  have e1 : wx a b = ⟨[], [], []⟩ := by unfold wx; rw [← h, beq_eq_false_iff_ne.2 h0]; rfl
  simp_all
 refine ⟨ha, fun h => ⟨fun _ => bad _ h ?_, fun h0 => absurd h0 h⟩, fun h1 => ⟨hb', fun h => bad _ h ?_, fun h2 => ⟨ha.1, hb'.1, fun h => bad _ h ?_, fun h3 => ⟨ha.2.1, hb'.2.1, fun h => bad _ h ?_, fun h4 => ⟨ha.2.2, hb'.2.2, fun h => bad _ h ?_, fun h5 => ?_⟩⟩⟩⟩⟩
 ·unfold Ws; rw [bne_iff_ne.2 h]; rfl
 ·unfold Ws; rw [h1, bne_iff_ne.2 h]; rfl
 ·unfold Ws; rw [h1, h2, bne_iff_ne.2 h]; rfl
 ·unfold Ws; rw [h1, h2, h3, bne_iff_ne.2 h]; rfl
 ·unfold Ws; rw [h1, h2, h3, h4]; rfl
 ·have e : Ws a b = 0 := by unfold Ws; rw [h1, h2, h3, h4, h5]; rfl
  have e1 : wx a b = ⟨YD (· - ·) a.x b.x, YD (· - ·) a.y b.y, YD (· - ·) a.z b.z⟩ := by unfold wx; rw [e]; rfl
  simp_all
theorem io {G : List (Nat × Obj)} (hG : zM G) (a : zD) (b : zD) (ha : Nx a) (hb' : Nx b) : zS Tryz.prog G 40 [yx a, yx b] (.tup 2 (zT [yx (wx a b), .i (Ws a b)])) :=
 zV (T := fV G) (an := .auto) mixed (ni hG) (Eq.mp (by kernel_rfl) (kX G a b ha hb'))
theorem Iw {G : List (Nat × Obj)} (hG : zM G) : zQ Tryz.prog G 40 pE := by
 intro xs ps r h hp
 unfold pE at h
 split at h
 ·skip
  rename_i p_a p_b
  cases h
  obtain ⟨q0, q1, q2, q3, -⟩ := Zx hp
  exact weaken (ys := [yx (⟨AV.bytes (p_a 0), AV.bytes (p_a 1), AV.bytes (p_a 2)⟩ : zD), yx (⟨AV.bytes (p_b 0), AV.bytes (p_b 1), AV.bytes (p_b 2)⟩ : zD)]) ⟨zH (x := .agg 3 p_a) (α := zD) q0, zH (x := .agg 3 p_b) (α := zD) q1, trivial⟩ (io hG (⟨AV.bytes (p_a 0), AV.bytes (p_a 1), AV.bytes (p_a 2)⟩ : zD) (⟨AV.bytes (p_b 0), AV.bytes (p_b 1), AV.bytes (p_b 2)⟩ : zD) q2 q3)
 ·cases h
end Go.Te

namespace Go.Te
open Go Go.Sx Go.Proofs Go.Ar Go.RowKit
set_option maxRecDepth 100000
section
variable {H : Type} {enc : TypeId × Value → H} {W : World} {spare : Nat → Bool} {held : Bool}
theorem Mx {base n : Nat} {A : Addr} {cs : List Value} (h : W.cells? base A n = some cs) : cs.length = n ∧ ∀ i, i < n → W.cell? (A.add i) = some (cs.getD i undef) := by
 unfold World.cells? at h
 split at h
 ·refine ⟨by simpa using Lib.mapM_length h, fun i hi => ?_⟩
  obtain ⟨b, hb, hf⟩ := Lib.mapM_at h i i (by simp [hi])
  rw [hf, List.getD_eq_getElem?_getD, hb, Option.getD_some]
 ·cases h
theorem KO {A : Addr} {v : Value} (h : W.cell? A = some v) : A.block < W.heap.size := by
 rcases Nat.lt_or_ge A.block W.heap.size with h' | h'
 ·exact h'
 ·simp [World.cell?, Array.getElem?_eq_none h'] at h
theorem Uq : Tryz.prog.cellsOf 3 = 1 := by kernel_rfl
abbrev kt (W : World) : Nat → Prop := fun b => b < W.heap.size
def T7 {α : Type} [zp α] (W : World) (a : α) (cs : List Value) : Prop :=
 ∀ j, j < zp.n α → Zz W (kt W) yL (zp.enc a j) (cs.getD j undef) ∧ (cs.getD j undef).oneCell' = true
theorem yI {n : Nat} {cs : List Value} {x : DataW H × List MemPlace} (h : DataW.trod enc Tryz.prog W 0 spare held n 3 cs = some x) : ∃ m, cs = [.int .i64 m] ∧ YZ .i64 m := by
 obtain ⟨m, h1, _, h3⟩ := DataW.trod_int Tryz.underlying3 h
 refine ⟨m, h1, ?_⟩
 simp only [Lit.wf, Bool.and_eq_true, decide_eq_true_eq] at h3
 exact h3
theorem t8 {α : Type} [zp α] {t e : TypeId} (hu : Tryz.prog.underlying t = some (.slice e)) (hn : Tryz.prog.cellsOf e = zp.n α) {Good : α → Prop} (hd : Good zp.dflt)
  (hel : ∀ {n : Nat} {cs : List Value} {x : DataW H × List MemPlace}, DataW.trod enc Tryz.prog W 0 spare held n e cs = some x → ∃ a : α, T7 W a cs ∧ Good a)
  {n : Nat} {cs : List Value} {x : DataW H × List MemPlace} (h : DataW.trod enc Tryz.prog W 0 spare held n t cs = some x) :
  ∃ (v : Value) (l : List α), cs = [v] ∧ v.oneCell' = true ∧ Zz W (kt W) yL (Zp l) v ∧ ∀ j, Good (l.getD j zp.dflt) := by
 rcases DataW.trod_slice hu h with ⟨h1, _⟩ | ⟨a, len, cap, elems, rest, m, _, h1, _, _, h2, h3, h4, h5, _, _⟩
 ·exact ⟨_, [], h1, rfl, .xl none 0 (fun _ _ => undef) (Nat.le_refl _) (Nat.zero_le _) (fun _ => rfl) (fun i j hi => absurd hi (Nat.not_lt_zero _)) (fun i j hi => absurd hi (Nat.not_lt_zero _)), fun j => by simpa using hd⟩
 ·rw [hn] at h5
  have key : ∀ i, ∃ u : α, (i < len → ∀ j, j < zp.n α → ∃ c, W.cell? (a.add (i * zp.n α + j)) = some c ∧ Zz W (kt W) yL (zp.enc u j) c ∧ c.oneCell' = true) ∧ Good u := fun i => by
   by_cases hi : i < len
   ·have := h5 i hi
    rw [List.getElem?_eq_getElem (by omega)] at this
    obtain ⟨cs', hc, hd'⟩ := Option.bind_eq_some_iff.1 this
    obtain ⟨u, h6, h7⟩ := hel hd'
    refine ⟨u, fun _ j hj => ⟨cs'.getD j undef, ?_, h6 j hj⟩, h7⟩
    have := (Mx hc).2 j hj
    rw [XP] at this
    exact this
   ·exact ⟨zp.dflt, fun h => absurd h hi, hd⟩
  obtain ⟨f, hf⟩ : ∃ f : Nat → α, ∀ i, (i < len → ∀ j, j < zp.n α → ∃ c, W.cell? (a.add (i * zp.n α + j)) = some c ∧ Zz W (kt W) yL (zp.enc (f i) j) c ∧ c.oneCell' = true) ∧ Good (f i) :=
   ⟨fun i => Classical.choose (key i), fun i => Classical.choose_spec (key i)⟩
  have hg : ∀ i, i < len → (wH len f).getD i zp.dflt = f i := fun i hi => by simp [wH, List.getD_eq_getElem?_getD, hi]
  have hlen : (wH len f).length = len := by simp [wH]
  refine ⟨_, wH len f, h1, rfl, ?_, fun i => ?_⟩
  ·unfold Zp
   rw [hlen]
   refine .xl (some a) cap (fun i j => (W.cell? (a.add (i * zp.n α + j))).getD undef) h2 h3 (fun e => by cases e) (fun i j hi hj => ?_) (fun i j hi hj => ?_)
   ·obtain ⟨c, hc, _, ho⟩ := (hf i).1 hi j hj
    refine ⟨a, rfl, ?_, ?_, ?_⟩
    ·have := KO hc
     rw [yp] at this
     exact this
    ·show W.cell? (a.add (i * zp.n α + j)) = some _
     rw [hc]; rfl
    ·rw [hc]; exact ho
   ·obtain ⟨c, hc, hr, _⟩ := (hf i).1 hi j hj
    rw [hg i hi, hc]
    exact hr
  ·by_cases hi : i < len
   ·rw [hg i hi]; exact (hf i).2
   ·rw [List.getD_eq_getElem?_getD, List.getElem?_eq_none (by omega)]
    exact hd
theorem Rk : Tryz.prog.cellsOf 38 = 5 := by kernel_rfl
theorem m6 {n : Nat} {cs : List Value} {x : DataW H × List MemPlace} (h : DataW.trod enc Tryz.prog W 0 spare held n 38 cs = some x) : ∃ g : Row, T7 W g cs ∧ True := by
 obtain ⟨xs, m, _, _, hl, hx, hf⟩ := DataW.trod_struct Tryz.underlying38 h
 rw [Rk] at hl
 match cs, hl with
 | [c0, c1, c2, c3, c4], _ =>
 have hx3 : xs.length = 5 := hx
 have g0 : DataW.trod enc Tryz.prog W 0 spare held m 3 (([c0, c1, c2, c3, c4].drop 0).take (Tryz.prog.cellsOf 3)) = xs[0]? := hf 0 _ rfl
 have g1 : DataW.trod enc Tryz.prog W 0 spare held m 3 (([c0, c1, c2, c3, c4].drop 1).take (Tryz.prog.cellsOf 3)) = xs[1]? := hf 1 _ rfl
 have g2 : DataW.trod enc Tryz.prog W 0 spare held m 3 (([c0, c1, c2, c3, c4].drop 2).take (Tryz.prog.cellsOf 3)) = xs[2]? := hf 2 _ rfl
 have g3 : DataW.trod enc Tryz.prog W 0 spare held m 3 (([c0, c1, c2, c3, c4].drop 3).take (Tryz.prog.cellsOf 3)) = xs[3]? := hf 3 _ rfl
 have g4 : DataW.trod enc Tryz.prog W 0 spare held m 3 (([c0, c1, c2, c3, c4].drop 4).take (Tryz.prog.cellsOf 3)) = xs[4]? := hf 4 _ rfl
 rw [Uq] at g0 g1 g2 g3 g4
 rw [List.getElem?_eq_getElem (by omega)] at g0 g1 g2 g3 g4
 obtain ⟨z0, e0, _⟩ := yI g0
 obtain ⟨z1, e1, _⟩ := yI g1
 obtain ⟨z2, e2, _⟩ := yI g2
 obtain ⟨z3, e3, _⟩ := yI g3
 obtain ⟨z4, e4, _⟩ := yI g4
 simp only [List.drop_zero, List.drop_succ_cons, List.take_succ_cons, List.take_zero, List.cons.injEq, and_true] at e0 e1 e2 e3 e4
 subst e0 e1 e2 e3 e4
 refine ⟨⟨z0, z1, z2, z3, z4⟩, fun j hj => ?_, trivial⟩
 match j, hj with
 | 0, _ => exact ⟨.v _, rfl⟩
 | 1, _ => exact ⟨.v _, rfl⟩
 | 2, _ => exact ⟨.v _, rfl⟩
 | 3, _ => exact ⟨.v _, rfl⟩
 | 4, _ => exact ⟨.v _, rfl⟩
theorem Lq {α : Type} [zp α] {t e : TypeId} (hu : Tryz.prog.underlying t = some (.slice e)) (hn : Tryz.prog.cellsOf e = zp.n α) {Good : α → Prop} (hd : Good zp.dflt)
  (hel : ∀ {n : Nat} {cs : List Value} {x : DataW H × List MemPlace}, DataW.trod enc Tryz.prog W 0 spare held n e cs = some x → ∃ a : α, T7 W a cs ∧ Good a)
  {o : Option Addr} {n c : Nat} {d : DataW H} {ps : List MemPlace} (h : DataW.Trod enc Tryz.prog W 0 spare held t (.slice o n c) d ps) :
  ∃ l : List α, Zz W (kt W) yL (Zp l) (.slice o n c) ∧ ∀ j, Good (l.getD j zp.dflt) := by
 obtain ⟨m, h⟩ := h
 have hcs : (Value.slice o n c).cells.toList = [.slice o n c] := rfl
 rw [hcs] at h
 obtain ⟨v, l, e1, _, e3, e4⟩ := t8 hu hn hd hel h
 obtain rfl : Value.slice o n c = v := by simpa using e1
 exact ⟨l, e3, e4⟩
end
end Go.Te

namespace Go.Te
open Go Go.Sx Go.Proofs Go.Ar Go.RowKit
set_option maxRecDepth 100000
structure Qu where
 l : List Row
 w : Int
 d : Int
 s : Int
 q : Int
 sp : zh
instance : zp Qu := ⟨6, ⟨[], 0, 0, 0, 0, []⟩, fun c => zT [Zp c.l, .i c.w, .i c.d, .i c.s, .i c.q, .str c.sp], fun cs => ⟨xy (cs 0), AV.int (cs 1), AV.int (cs 2), AV.int (cs 3), AV.int (cs 4), AV.bytes (cs 5)⟩,
 fun cs => za Row (cs 0) && yz (cs 1) && yz (cs 2) && yz (cs 3) && yz (cs 4) && ZO (cs 5), fun cs h j hj => by
 simp only [Bool.and_eq_true] at h
 match j, hj with
 | 0, _ => exact zi h.1.1.1.1.1
 | 1, _ => exact zf (Za h.1.1.1.1.2)
 | 2, _ => exact zf (Za h.1.1.1.2)
 | 3, _ => exact zf (Za h.1.1.2)
 | 4, _ => exact zf (Za h.1.2)
 | 5, _ => exact zf (ya h.2)⟩
instance : Yt Qu := ⟨fun c => by cases c; simp [zp.enc, zp.dec, zT, UZ, AV.int, AV.bytes], fun c => by cases c; simp [zp.enc, zp.ok, zT, Vy, yz, ZO]⟩
section
variable {H : Type} {enc : TypeId × Value → H} {W : World} {spare : Nat → Bool} {held : Bool}
theorem wG (s : ByteArray) {S : Nat → Prop} {ρ : Nat → Sx.Own} : Zz W S ρ (.str s.data.toList) (.string s) := by
 have h : Zz W S ρ (.str s.data.toList) (.string ⟨s.data.toList.toArray⟩) := .str _
 simpa using h
theorem Pa : Tryz.prog.cellsOf 25 = 6 := by kernel_rfl
theorem qF : Tryz.prog.cellsOf 23 = 1 := by kernel_rfl
theorem oN : Tryz.prog.cellsOf 22 = 1 := by kernel_rfl
theorem OZ {n : Nat} {cs : List Value} {x : DataW H × List MemPlace} (h : DataW.trod enc Tryz.prog W 0 spare held n 22 cs = some x) :
  ∃ (v : Value) (l : List Row), cs = [v] ∧ v.oneCell' = true ∧ Zz W (kt W) yL (Zp l) v ∧ ∀ j : Nat, True :=
 t8 (α := Row) (Good := fun _ => True) Tryz.underlying22 Rk trivial m6 h
theorem Lg {n : Nat} {cs : List Value} {x : DataW H × List MemPlace} (h : DataW.trod enc Tryz.prog W 0 spare held n 25 cs = some x) : ∃ g : Qu, T7 W g cs ∧ True := by
 obtain ⟨xs, m, _, _, hl, hx, hf⟩ := DataW.trod_struct Tryz.underlying25 h
 rw [Pa] at hl
 match cs, hl with
 | [c0, c1, c2, c3, c4, c5], _ =>
 have hx3 : xs.length = 6 := hx
 have g0 : DataW.trod enc Tryz.prog W 0 spare held m 22 (([c0, c1, c2, c3, c4, c5].drop 0).take (Tryz.prog.cellsOf 22)) = xs[0]? := hf 0 _ rfl
 have g1 : DataW.trod enc Tryz.prog W 0 spare held m 3 (([c0, c1, c2, c3, c4, c5].drop 1).take (Tryz.prog.cellsOf 3)) = xs[1]? := hf 1 _ rfl
 have g2 : DataW.trod enc Tryz.prog W 0 spare held m 3 (([c0, c1, c2, c3, c4, c5].drop 2).take (Tryz.prog.cellsOf 3)) = xs[2]? := hf 2 _ rfl
 have g3 : DataW.trod enc Tryz.prog W 0 spare held m 3 (([c0, c1, c2, c3, c4, c5].drop 3).take (Tryz.prog.cellsOf 3)) = xs[3]? := hf 3 _ rfl
 have g4 : DataW.trod enc Tryz.prog W 0 spare held m 3 (([c0, c1, c2, c3, c4, c5].drop 4).take (Tryz.prog.cellsOf 3)) = xs[4]? := hf 4 _ rfl
 have g5 : DataW.trod enc Tryz.prog W 0 spare held m 23 (([c0, c1, c2, c3, c4, c5].drop 5).take (Tryz.prog.cellsOf 23)) = xs[5]? := hf 5 _ rfl
 rw [Uq] at g1 g2 g3 g4
 rw [oN] at g0
 rw [qF] at g5
 rw [List.getElem?_eq_getElem (by omega)] at g0 g1 g2 g3 g4 g5
 obtain ⟨v, l, e0, o, r, _⟩ := OZ g0
 obtain ⟨z1, e1, _⟩ := yI g1
 obtain ⟨z2, e2, _⟩ := yI g2
 obtain ⟨z3, e3, _⟩ := yI g3
 obtain ⟨z4, e4, _⟩ := yI g4
 obtain ⟨s5, e5, _⟩ := DataW.trod_string Tryz.underlying23 g5
 simp only [List.drop_zero, List.drop_succ_cons, List.take_succ_cons, List.take_zero, List.cons.injEq, and_true] at e0 e1 e2 e3 e4 e5
 subst e0 e1 e2 e3 e4 e5
 refine ⟨⟨l, z1, z2, z3, z4, s5.data.toList⟩, fun j hj => ?_, trivial⟩
 match j, hj with
 | 0, _ => exact ⟨r, o⟩
 | 1, _ => exact ⟨.v _, rfl⟩
 | 2, _ => exact ⟨.v _, rfl⟩
 | 3, _ => exact ⟨.v _, rfl⟩
 | 4, _ => exact ⟨.v _, rfl⟩
 | 5, _ => exact ⟨wG s5, rfl⟩
theorem Nw {cs : Array Value} {d : DataW H} {ps : List MemPlace} (h : DataW.Trod enc Tryz.prog W 0 spare held 25 (.agg cs) d ps) (hs : cs.size = 6) : ∃ b : Qu, Zz W (kt W) yL (yx b) (.agg cs) := by
 obtain ⟨m, h⟩ := h
 have hcs : (Value.agg cs).cells.toList = cs.toList := rfl
 rw [hcs] at h
 obtain ⟨b, hb, _⟩ := Lg h
 refine ⟨b, .agg cs hs fun i hi => ?_⟩
 have e : cs.getD i undef = cs.toList.getD i undef := by
  rw [Array.getD_eq_getD_getElem?, List.getD_eq_getElem?_getD, Array.getElem?_toList]
 rw [e]
 exact (hb i hi).1
end
end Go.Te

namespace Go.Te
open Go Go.Sx Go.Proofs Go.Ar Go.Lib
set_option maxRecDepth 100000
set_option maxHeartbeats 4000000
def Wm : List AV → Option (List zN × AV)
 | [x_l, .v (.int .i64 w), .v (.int .i64 d), .v (.int .i64 s), .v (.int .i64 q)] => some ([.b (za Row x_l)], .i (yr (xy (α := Row) x_l) w d s q))
 | _ => none
theorem nw (l : List Row) (w : Int) (d : Int) (s : Int) (q : Int) :
 zB [AV.xl false 5 (lN l) fun i j => zp.enc (gD l i zp.dflt) j, aI w, aI d, aI s, aI q] → bF (za Row (AV.xl false 5 (lN l) fun i j => zp.enc (gD l i zp.dflt) j)) (zZ (Y4 (rowsOf (AV.xl false 5 (lN l) fun i j => zp.enc (gD l i zp.dflt) j)) != iZ) (kI ∧ iO = yr l w d s q) (kI ∧ (bif yc w d s q then iZ else (2 : Int)) = yr l w d s q)) := by
 delta bF kI lN gD iZ iO aI
 intro hb
 have e2 : (zp.dflt : Row) = r0 := rfl
 simp only [sS, ZN, Zr, ZS, ZY, YJ, yn, W9, Yd, vN, YA, vk, Yb, YC, yM, e2]
 unfold yr
 refine ⟨fun h => by rw [bne_iff_ne.2 h]; rfl, fun h => ?_⟩
 rw [h]
 cases yc w d s q <;> rfl
theorem mn (l : List Row) (w : Int) (d : Int) (s : Int) (q : Int) : zS Tryz.prog [] 84 [Zp l, .i w, .i d, .i s, .i q] (.i (yr l w d s q)) :=
 zV (T := ((T0.plus 20 tW).plus 62 v6)) (an := .auto) mixed (zY.plus (zY.plus zr Mo) RG) (Eq.mp (by kernel_rfl) (nw l w d s q))
theorem tL : zQ Tryz.prog [] 84 Wm := by
 intro xs ps r h hp
 unfold Wm at h
 split at h
 ·skip
  rename_i x_l w d s q
  cases h
  obtain ⟨q0, -⟩ := Zx hp
  exact weaken (ys := [Zp (xy (α := Row) x_l), .i w, .i d, .i s, .i q]) ⟨zi q0, zX _, zX _, zX _, zX _, trivial⟩ (mn (xy (α := Row) x_l) w d s q)
 ·cases h
def So : List AV → Option (List zN × AV)
 | [x_l, .v (.int .i64 w), .v (.int .i64 d), .v (.int .i64 s), .v (.int .i64 q)] => some ([.b (za Row x_l)], .tup 2 (zT [.i (yh (xy (α := Row) x_l) w d s q), .i (yt (xy (α := Row) x_l) w d s q)]))
 | _ => none
theorem M1 (l : List Row) (w : Int) (d : Int) (s : Int) (q : Int) :
 let q2 := (AV.xl false 5 (lN l) fun i j => zp.enc (gD l i zp.dflt) j); let q1 := (za Row q2); let q3 := (xy q2); let q4 := (True ∧ kI ∧ iZ = yh l w d s q); let q5 := (rowsOf q2); zB [AV.xl false 5 (lN l) fun i j => zp.enc (gD l i zp.dflt) j, aI w, aI d, aI s, aI q] → bF q1 (zZ (yr q3 w d s q != iZ) (j2 ∧ q4 ∧ kI ∧ yr q3 w d s q = yt l w d s q) (bF q1 (zZ (Zl q5 w d s q == (0
 : Int)) (j2 ∧ q4 ∧ kI ∧ (25 : Int) = yt l w d s q) (j2 ∧ (True ∧ kI ∧ Zl q5 w d s q = yh l w d s q) ∧ kI ∧ iZ = yt l w d s q)))) := by
 delta bF kI j2 lN gD iZ aI
 dsimp only
 intro hb
 have e2 : (zp.dflt : Row) = r0 := rfl
 simp only [sS, ZN, Zr, ZS, ZY, YJ, yn, W9, Yd, vN, YA, vk, Yb, YC, yM, e2]
 refine ⟨fun h => ?_, fun h => ⟨fun h2 => ?_, fun h2 => ?_⟩⟩
 ·have e : yt l w d s q = yr l w d s q := by unfold yt; rw [bne_iff_ne.2 h]; rfl
  exact ⟨rfl, by unfold yh; rw [e, beq_false_of_ne h]; rfl, e.symm⟩
 ·have e : yt l w d s q = 25 := by unfold yt; rw [h, h2]; rfl
  exact ⟨rfl, by unfold yh; rw [e]; rfl, e.symm⟩
 ·have e : yt l w d s q = 0 := by unfold yt; rw [h, beq_false_of_ne h2]; rfl
  exact ⟨rfl, by unfold yh; rw [e]; rfl, e.symm⟩
theorem kV (l : List Row) (w : Int) (d : Int) (s : Int) (q : Int) : zS Tryz.prog [] 34 [Zp l, .i w, .i d, .i s, .i q] (.tup 2 (zT [.i (yh l w d s q), .i (yt l w d s q)])) :=
 zV (T := ((T0.plus 84 Wm).plus 80 t6)) (an := .auto) mixed (zY.plus (zY.plus zr tL) Pw) (Eq.mp (by kernel_rfl) (M1 l w d s q))
theorem jG : zQ Tryz.prog [] 34 So := by
 intro xs ps r h hp
 unfold So at h
 split at h
 ·skip
  rename_i x_l w d s q
  cases h
  obtain ⟨q0, -⟩ := Zx hp
  exact weaken (ys := [Zp (xy (α := Row) x_l), .i w, .i d, .i s, .i q]) ⟨zi q0, zX _, zX _, zX _, zX _, trivial⟩ (kV (xy (α := Row) x_l) w d s q)
 ·cases h
theorem Mc (c : Qu) : ZR (.agg 6 fun i => zp.enc c i) = c := Vz c
theorem P1 (c : Qu) : ZH Qu (.agg 6 fun i => zp.enc c i) = true := Xo c
end Go.Te

namespace Go.Te
open Go Go.Sx Go.Proofs Go.Ar
set_option maxRecDepth 100000
set_option maxHeartbeats 4000000
def vw (a : zh) : Int := bif zo a != 0 then zo a else bif a.getD 0 0 == 45 then 2 else 0
theorem PF {a : zh} (h : zo a = 0) : 0 < a.length := by
 obtain ⟨h1, _⟩ := Zu.1 h
 match a, h1 with
 | [], h1 => cases h1
 | x :: r, _ => simp
def Pg : List AV → Option (List zN × AV)
 | [.str a] => some ([.p (a.length ≤ 4294967280)], .i (vw a))
 | _ => none
theorem iV (G : List (Nat × Obj)) (a : List UInt8) (hl : a.length ≤ 4294967280) :
 zB [AV.str a] → lN a ≤ nX ∧ zZ (zo a != iZ) (kI ∧ zo a = vw a) (bF (DB.db (iZ ≤ iZ ∧ iZ < (lZ a))) (zZ ((cI (UInt8.toNat (gD a 0 (0 : UInt8)))) == (45 : Int)) (kI ∧ (2 : Int) = vw a) (kI ∧ iZ = vw a))) := by
 delta bF nX cI kI lZ lN gD iZ
 intro hb
 simp only [sS, ZN, Zr, ZS, ZY, YJ, yn, W9, Yd, vN, YA, vk, Yb, YC, yM, Ze]
 have nD : (((a.getD 0 0).toNat : Int) = 45) ↔ (a.getD 0 0 == 45) = true := by
  have := yb (a.getD 0 0) 45 (by decide)
  rw [← beq_iff_eq (a := ((a.getD 0 0).toNat : Int)) (b := 45)]
  rw [show (((a.getD 0 0).toNat : Int) == 45) = (a.getD 0 0 == 45) from this]
 unfold vw
 refine ⟨by omega, fun h => by rw [bne_iff_ne.2 h]; rfl, fun h => ⟨⟨Int.le_refl _, by have := PF h; omega⟩, fun h2 => ?_, fun h2 => ?_⟩⟩
 ·rw [h, nD.1 h2]; rfl
 ·rw [h, show (a.getD 0 0 == 45) = false from Bool.eq_false_iff.2 fun e => h2 (nD.2 e)]; rfl
theorem Hg {G : List (Nat × Obj)} (hG : zM G) (a : List UInt8) (hl : a.length ≤ 4294967280) : zS Tryz.prog G 56 [.str a] (.i (vw a)) :=
 zV (T := (wn G).plus 110 SU) (an := .auto) mixed (zY.plus zr (lE hG)) (Eq.mp (by kernel_rfl) (iV G a hl))
theorem Jz {G : List (Nat × Obj)} (hG : zM G) : zQ Tryz.prog G 56 Pg := by
 intro xs ps r h hp
 unfold Pg at h
 split at h
 ·skip
  rename_i a
  cases h
  obtain ⟨q0, -⟩ := Zx hp
  exact weaken (ys := [.str a]) ⟨zX _, trivial⟩ (Hg hG a q0)
 ·cases h
theorem Ui {n : Int} (h : YZ .i64 n) : zo (Lib.itoa n) = 0 ∧ zL (Lib.itoa n) = n ∧ zP (Lib.itoa n) = 1 ∧ (Lib.itoa n).length ≤ 21 := by
 have hs : y6 n 1 = Lib.itoa n := by unfold y6; show Lib.itoa n ++ [] = _; rw [List.append_nil]
 obtain ⟨p1, p2, p3, p4, p5⟩ := xL n (d := 1) (by omega)
 rw [hs] at p1 p2 p3 p4 p5
 simp only [YZ] at h
 have hn : Vk n ≤ 20 := WV (by omega) (by omega)
 refine ⟨Zu.2 ⟨p1, by omega, by rw [p5]; simp, by rw [p3]; exact Nat.gcd_one_right _⟩, p2, p3, ?_⟩
 rw [Yf]
 split <;> omega
def PI : List AV → Option (List zN × AV)
 | [.v (.int .i64 n), .v (.int .i64 d)] => some ([.b (d == 1), .p (YZ .i64 n)], .tup 2 (zT [.str (Lib.itoa n), .i 0]))
 | _ => none
theorem jd {G : List (Nat × Obj)} (hG : zM G) : zQ Tryz.prog G 89 PI := by
 intro xs ps r h hp
 unfold PI at h
 split at h
 ·rename_i n d
  cases h
  have q : (d == 1) = true := hp _ List.mem_cons_self
  have q1 : YZ .i64 n := hp _ (List.mem_cons_of_mem _ List.mem_cons_self)
  obtain rfl := eq_of_beq q
  exact JY hG n q1
 ·cases h
def Xj (n : Int) (a : zh) : Int := Yw a (Lib.itoa n)
def Vb (n : Int) (a : zh) : Bool := Xj n a == 0 && zn 0 n && leB (zL a) (n * (zP a : Int))
def Uu : List AV → Option (List zN × AV)
 | [.v (.int .i64 n), .str a] => some ([.p (YZ .i64 n), .p (a.length ≤ 4294967280), .p (zo a = 0)], .tup 2 (zT [.b (Vb n a), .i (Xj n a)]))
 | _ => none
theorem MJ (G : List (Nat × Obj)) (n : Int) (a : List UInt8) (hn : YZ .i64 n) (hl : a.length ≤ 4294967280) (hr : zo a = 0) :
 zB [aI n, AV.str a] → (iN ≤ n ∧ n ≤ iX) ∧ lN a ≤ nX ∧ lN (Lib.itoa n) ≤ nX ∧ bF (!zU true (Yw a (Lib.itoa n) == iZ) || zU true (Yw a (Lib.itoa n) == iZ)) (bF (!Yw a (Lib.itoa n) == iZ || zU true (Yw a (Lib.itoa n) == iZ)) (bF (!zU true (bif Yw a (Lib.itoa n) == iZ then zn iZ n else false) || zU true (bif Yw a (Lib.itoa n) == iZ then zn iZ n else false)) (bF ((!bif Yw a (Lib.itoa n)
 == iZ then zn iZ n else false) || zU true (bif Yw a (Lib.itoa n) == iZ then zn iZ n else false)) (j2 ∧ (True ∧ (bif bif Yw a (Lib.itoa n) == iZ then zn iZ n else false then leB (wD a (Lib.itoa n)) iZ else false) = Vb n a) ∧ kI ∧ Yw a (Lib.itoa n) = Xj n a)))) := by
 delta bF nX kI j2 lN iZ iX iN aI
 intro hb
 simp only [sS, ZN, Zr, ZS, ZY, YJ, yn, W9, Yd, vN, YA, vk, Yb, YC, yM, Ze]
 obtain ⟨r1, r2, r3, r4⟩ := Ui hn
 refine ⟨hn, by omega, by omega, rfl, ?_, rfl⟩
 unfold Vb Xj
 cases he : Yw a (Lib.itoa n) == 0 with
 | false => rfl
 | true =>
  rw [kx (eq_of_beq he), r2, r3]
  have : leB (Xt (zL a * ((1 : Nat) : Int)) (n * (zP a : Int))) 0 = leB (zL a) (n * (zP a : Int)) := by
   rw [Bool.eq_iff_iff, zF, zF, show zL a * ((1 : Nat) : Int) = zL a from Int.mul_one _]
   unfold Xt
   generalize n * (zP a : Int) = m
   by_cases h1 : zL a < m
   ·rw [(zq _ _).2 h1]; simp; omega
   ·rw [show zn (zL a) m = false from Bool.eq_false_iff.2 fun e => h1 ((zq _ _).1 e)]
    by_cases h2 : zL a = m
    ·rw [h2, beq_self_eq_true]; simp
    ·rw [beq_eq_false_iff_ne.2 h2]; simp; omega
  rw [this]
theorem jo {G : List (Nat × Obj)} (hG : zM G) (n : Int) (a : List UInt8) (hn : YZ .i64 n) (hl : a.length ≤ 4294967280) (hr : zo a = 0) : zS Tryz.prog G 57 [.i n, .str a] (.tup 2 (zT [.b (Vb n a), .i (Xj n a)])) :=
 zV (T := ((wn G).plus 89 PI).plus 90 Rz) (an := .auto) mixed (zY.plus (zY.plus zr (jd hG)) (N8 hG)) (Eq.mp (by kernel_rfl) (MJ G n a hn hl hr))
theorem PP {G : List (Nat × Obj)} (hG : zM G) : zQ Tryz.prog G 57 Uu := by
 intro xs ps r h hp
 unfold Uu at h
 split at h
 ·skip
  rename_i n a
  cases h
  obtain ⟨q0, q1, q2, -⟩ := Zx hp
  exact weaken (ys := [.i n, .str a]) ⟨zX _, zX _, trivial⟩ (jo hG n a q0 q1 q2)
 ·cases h
theorem xW {l : List Row} {w d s q : Int} (h : Y4 l = 0) : 0 ≤ Zl l w d s q ∧ Zl l w d s q ≤ 1073741824 := by
 refine ⟨Vq _ _ _ _ _ _, RO (by omega) fun i hi => ?_⟩
 obtain ⟨_, h2⟩ := rM ((VO h).2 i hi)
 have := Z2.1 h2
 omega
def rj (l : List Row) (w d s q : Int) (a : zh) : Int := bif yr l w d s q != 0 then yr l w d s q else bif vw a != 0 then vw a else Xj (Zl l w d s q) a
def tU (l : List Row) (w d s q : Int) (a : zh) : Bool := bif yr l w d s q != 0 then false else bif vw a != 0 then false else Vb (Zl l w d s q) a
def tX : List AV → Option (List zN × AV)
 | [x_l, .v (.int .i64 w), .v (.int .i64 d), .v (.int .i64 s), .v (.int .i64 q), .str a] => some ([.b (za Row x_l), .p (a.length ≤ 4294967280)], .tup 2 (zT [.b (tU (xy (α := Row) x_l) w d s q a), .i (rj (xy (α := Row) x_l) w d s q a)]))
 | _ => none
theorem OA (G : List (Nat × Obj)) (l : List Row) (w : Int) (d : Int) (s : Int) (q : Int) (a : List UInt8) (hl : a.length ≤ 4294967280) :
 let q2 := (AV.xl false 5 (lN l) fun i j => zp.enc (gD l i zp.dflt) j); let q1 := (za Row q2); let q3 := (rowsOf q2); let q4 := (Zl q3 w d s q); zB [AV.xl false 5 (lN l) fun i j => zp.enc (gD l i zp.dflt) j, aI w, aI d, aI s, aI q, AV.str a] → bF q1 (zZ (yr q3 w d s q != iZ) (j2 ∧ (True ∧ false = tU l w d s q a) ∧ kI ∧ yr q3 w d s q = rj l w d s q a) (lN a ≤ nM ∧ zZ (vw a != iZ) (2
 = lN [AV.junk, AV.junk] ∧ (True ∧ false = tU l w d s q a) ∧ kI ∧ vw a = rj l w d s q a) (bF q1 ((iN ≤ Zl q3 w d s q ∧ Zl q3 w d s q ≤ iX) ∧ lN a ≤ nM ∧ zo a = iZ ∧ j2 ∧ (True ∧ Vb q4 a = tU l w d s q a) ∧ kI ∧ Xj q4 a = rj l w d s q a)))) := by
 delta bF nM kI j2 lN gD iZ iX iN aI
 dsimp only
 intro hb
 have e2 : (zp.dflt : Row) = r0 := rfl
 simp only [sS, ZN, Zr, ZS, ZY, YJ, yn, W9, Yd, vN, YA, vk, Yb, YC, yM, e2]
 refine ⟨fun h => ?_, fun h => ⟨hl, fun h2 => ?_, fun h2 => ?_⟩⟩
 ·unfold tU rj
  rw [bne_iff_ne.2 h]
  exact ⟨rfl, rfl, rfl⟩
 ·unfold tU rj
  rw [h, bne_iff_ne.2 h2]
  exact ⟨rfl, rfl, rfl⟩
 ·have ht : Y4 l = 0 := by
   refine Decidable.byContradiction fun e => ?_
   unfold yr at h
   rw [bne_iff_ne.2 e] at h
   cases h
  have hr : zo a = 0 := by
   refine Decidable.byContradiction fun e => ?_
   unfold vw at h2
   rw [bne_iff_ne.2 e] at h2
   exact e h2
  have hb := xW (w := w) (d := d) (s := s) (q := q) ht
  unfold tU rj
  rw [h, h2]
  exact ⟨⟨by omega, by omega⟩, hl, hr, rfl, rfl, rfl⟩
theorem lI {G : List (Nat × Obj)} (hG : zM G) (l : List Row) (w : Int) (d : Int) (s : Int) (q : Int) (a : List UInt8) (hl : a.length ≤ 4294967280) : zS Tryz.prog G 15 [Zp l, .i w, .i d, .i s, .i q, .str a] (.tup 2 (zT [.b (tU l w d s q a), .i (rj l w d s q a)])) :=
 zV (T := ((((wn G).plus 55 sH).plus 56 Pg).plus 58 XY).plus 57 Uu) (an := .auto) mixed (zY.plus (zY.plus (zY.plus (zY.plus zr (zQ.mono PM)) (Jz hG)) (zQ.mono W0)) (PP hG)) (Eq.mp (by kernel_rfl) (OA G l w d s q a hl))
theorem N3 {G : List (Nat × Obj)} (hG : zM G) : zQ Tryz.prog G 15 tX := by
 intro xs ps r h hp
 unfold tX at h
 split at h
 ·skip
  rename_i x_l w d s q a
  cases h
  obtain ⟨q0, q1, -⟩ := Zx hp
  exact weaken (ys := [Zp (xy (α := Row) x_l), .i w, .i d, .i s, .i q, .str a]) ⟨zi q0, zX _, zX _, zX _, zX _, zX _, trivial⟩ (lI hG (xy (α := Row) x_l) w d s q a q1)
 ·cases h
end Go.Te

namespace Go.Te
open Go Go.Sx Go.Proofs Go.Ar Go.RowKit
set_option maxRecDepth 100000
set_option maxHeartbeats 4000000
structure Mb where
 k : Int
 f : Int
 o : Int
 fr : zD
 to : zD
 w : Int
 d : Int
instance : zp Mb := ⟨11, ⟨0, 0, 0, ⟨[], [], []⟩, ⟨[], [], []⟩, 0, 0⟩,
 fun c => zT [.i c.k, .i c.f, .i c.o, .str c.fr.x, .str c.fr.y, .str c.fr.z, .str c.to.x, .str c.to.y, .str c.to.z, .i c.w, .i c.d],
 fun cs => ⟨AV.int (cs 0), AV.int (cs 1), AV.int (cs 2), ⟨AV.bytes (cs 3), AV.bytes (cs 4), AV.bytes (cs 5)⟩, ⟨AV.bytes (cs 6), AV.bytes (cs 7), AV.bytes (cs 8)⟩, AV.int (cs 9), AV.int (cs 10)⟩,
 fun cs => yz (cs 0) && yz (cs 1) && yz (cs 2) && ZO (cs 3) && ZO (cs 4) && ZO (cs 5) && ZO (cs 6) && ZO (cs 7) && ZO (cs 8) && yz (cs 9) && yz (cs 10), fun cs h j hj => by
 simp only [Bool.and_eq_true] at h
 match j, hj with
 | 0, _ => exact zf (Za h.1.1.1.1.1.1.1.1.1.1)
 | 1, _ => exact zf (Za h.1.1.1.1.1.1.1.1.1.2)
 | 2, _ => exact zf (Za h.1.1.1.1.1.1.1.1.2)
 | 3, _ => exact zf (ya h.1.1.1.1.1.1.1.2)
 | 4, _ => exact zf (ya h.1.1.1.1.1.1.2)
 | 5, _ => exact zf (ya h.1.1.1.1.1.2)
 | 6, _ => exact zf (ya h.1.1.1.1.2)
 | 7, _ => exact zf (ya h.1.1.1.2)
 | 8, _ => exact zf (ya h.1.1.2)
 | 9, _ => exact zf (Za h.1.2)
 | 10, _ => exact zf (Za h.2)⟩
instance : Yt Mb := ⟨fun _ => rfl, fun _ => rfl⟩
abbrev m0 : Mb := ⟨0, 0, 0, ⟨[], [], []⟩, ⟨[], [], []⟩, 0, 0⟩
theorem rK (b : Mb) : ZR (.agg 11 fun i => zp.enc b i) = b := Vz b
theorem Uy (b : Mb) : ZH Mb (.agg 11 fun i => zp.enc b i) = true := Xo b
theorem u6 (b : Mb) (g : Nat → AV) : ZR (.agg 11 fun i => if i < 11 then zp.enc b i else g i) = b := Yt.dec b
theorem vg (b : Mb) (g : Nat → AV) : ZH Mb (.agg 11 fun i => if i < 11 then zp.enc b i else g i) = true := Xo b
theorem ga : (∀ m : Mb, AV.int (zp.enc m 0) = m.k) ∧ (∀ m : Mb, AV.bytes (zp.enc m 3) = m.fr.x) ∧ (∀ m : Mb, AV.bytes (zp.enc m 4) = m.fr.y) ∧ (∀ m : Mb, AV.bytes (zp.enc m 5) = m.fr.z) ∧
  (∀ m : Mb, AV.bytes (zp.enc m 6) = m.to.x) ∧ (∀ m : Mb, AV.bytes (zp.enc m 7) = m.to.y) ∧ (∀ m : Mb, AV.bytes (zp.enc m 8) = m.to.z) ∧ (∀ m : Mb, AV.int (zp.enc m 9) = m.w) ∧ (∀ m : Mb, AV.int (zp.enc m 10) = m.d) :=
 ⟨fun _ => rfl, fun _ => rfl, fun _ => rfl, fun _ => rfl, fun _ => rfl, fun _ => rfl, fun _ => rfl, fun _ => rfl, fun _ => rfl⟩
theorem kv : (∀ s : zh, AV.bytes (.str s) = s) ∧ (∀ m : zD, (⟨m.x, m.y, m.z⟩ : zD) = m) := ⟨fun _ => rfl, fun _ => rfl⟩
theorem SF {n : Int} (h : ZZ n = 0) : n.natAbs < 10 ^ 300 := by
 have := Ur (a := Lib.itoa n) (by rw [Yc, h])
 rw [(Z8 n).2] at this
 exact this
theorem Ut (f : Int → Int → Int) (a b : zh) : (YD f a b).length ≤ 700 := by
 unfold YD
 cases h : yD f a b == 0 with
 | false => simp
 | true =>
  have h := eq_of_beq h
  unfold yD at h
  have hr : Yw a b = 0 := by
   refine Decidable.byContradiction fun e => ?_
   rw [bne_iff_ne.2 e] at h; exact e h
  rw [hr] at h
  simp only [bne_self_eq_false, cond_false] at h
  have hN : ZZ (SE f a b) = 0 := by
   refine Decidable.byContradiction fun e => ?_
   rw [bne_iff_ne.2 e] at h; exact e h
  rw [hN] at h
  simp only [bne_self_eq_false, cond_false] at h
  unfold Yw at hr
  have ha : zo a = 0 := by
   refine Decidable.byContradiction fun e => ?_
   rw [bne_iff_ne.2 e] at hr; exact e hr
  rw [ha] at hr
  simp only [bne_self_eq_false, cond_false] at hr
  have hb : zo b = 0 := by
   refine Decidable.byContradiction fun e => ?_
   rw [bne_iff_ne.2 e] at hr; exact e hr
  have pa := Zb (Zu.1 ha).1
  have pb := Zb (Zu.1 hb).1
  have d2 := SF h
  rw [← Int.natCast_mul, Int.natAbs_natCast] at d2
  exact (vH (k := 300) (by omega) (by omega) (Nat.mul_pos (by omega) (by omega)) (SF hN) d2).2.2
theorem ua (a b : zh) : (Xa a b).length ≤ 700 := by
 unfold Xa
 cases h : XQ a b == 0 with
 | false => simp
 | true =>
  have h := eq_of_beq h
  unfold XQ at h
  have ha : zo a = 0 := by
   refine Decidable.byContradiction fun e => ?_
   rw [bne_iff_ne.2 e] at h; exact e h
  rw [ha] at h
  simp only [bne_self_eq_false, cond_false] at h
  have hb : zo b = 0 := by
   refine Decidable.byContradiction fun e => ?_
   rw [bne_iff_ne.2 e] at h; exact e h
  rw [hb] at h
  simp only [bne_self_eq_false, cond_false] at h
  have hN : ZZ (zL a * zL b) = 0 := by
   refine Decidable.byContradiction fun e => ?_
   rw [bne_iff_ne.2 e] at h; exact e h
  rw [hN] at h
  simp only [bne_self_eq_false, cond_false] at h
  have pa := Zb (Zu.1 ha).1
  have pb := Zb (Zu.1 hb).1
  have d2 := SF h
  rw [← Int.natCast_mul, Int.natAbs_natCast] at d2
  exact (vH (k := 300) (by omega) (by omega) (Nat.mul_pos (by omega) (by omega)) (SF hN) d2).2.2
theorem PS (a b : zD) : (wx a b).x.length ≤ 700 ∧ (wx a b).y.length ≤ 700 := by
 unfold wx
 cases Ws a b == 0 with
 | true => exact ⟨Ut _ _ _, Ut _ _ _⟩
 | false => exact ⟨Nat.zero_le _, Nat.zero_le _⟩
def PL (m : Mb) : Prop := Nx m.fr ∧ Nx m.to
def Nz (m : Mb) : Int := bif !zK m.w 1 1000 || !zK m.d 1 1000 then 2 else bif YU m.fr != 0 then YU m.fr else YU m.to
def QX : List AV → Option (List zN × AV)
 | [x_m] => some ([.b (ZH Mb x_m), .p (PL (ZR (α := Mb) x_m))], .i (Nz (ZR (α := Mb) x_m)))
 | _ => none
theorem KR (G : List (Nat × Obj)) (m : Mb) (hl : PL m) :
 let q1 := (!zU false !zK (Mb.w m) iO (1000 : Int) || zU false !zK (Mb.w m) iO (1000 : Int)); let q2 := (zD.mk (AV.bytes (AV.str (zD.x (Mb.fr m)))) (AV.bytes (AV.str (zD.y (Mb.fr m)))) (AV.bytes (AV.str (zD.z (Mb.fr m))))); let q3 := (zD.mk (AV.bytes (AV.str (zD.x (Mb.to m)))) (AV.bytes (AV.str (zD.y (Mb.to m)))) (AV.bytes (AV.str (zD.z (Mb.to m))))); zB [AV.agg 11 (zp.enc m)] → bF q1 (bF q1 (bF q1 (bF (!!!zK (Mb.w m) iO (1000 : Int) || zU false !zK (Mb.w m) iO (1000 : Int)) (zZ (bif !zK (Mb.w m) iO
 (1000 : Int) then true else !zK (Mb.d m) iO (1000 : Int)) (kI ∧ (2 : Int) = Nz m) ((lN (zD.x q2) ≤ nX ∧ lN (zD.y q2) ≤ nX ∧ lN (zD.z q2) ≤ nX) ∧ zZ (YU q2 != iZ) (kI ∧ YU q2 = Nz m) ((lN (zD.x q3) ≤ nX ∧ lN (zD.y q3) ≤ nX ∧ lN (zD.z q3) ≤ nX) ∧ kI ∧ YU q3 = Nz m)))))) := by
 delta bF nX kI lN iZ iO
 dsimp only
 intro hb
 simp only [sS, ZN, Zr, ZS, ZY, YJ, yn, W9, Yd, vN, YA, vk, Yb, YC, yM, kv]
 unfold Nz
 refine zu.2 ⟨fun c => by rw [c]; rfl, fun c => ⟨hl.1, fun h => by rw [c, bne_iff_ne.2 h]; rfl, fun h => ⟨hl.2, by rw [c, h]; rfl⟩⟩⟩
theorem ik {G : List (Nat × Obj)} (hG : zM G) (m : Mb) (hl : PL m) : zS Tryz.prog G 87 [yx m] (.i (Nz m)) :=
 zV (T := ((wn G).plus 75 wP).plus 127 rR) (an := .auto) mixed (zY.plus (zY.plus zr (zQ.mono VT)) (l9 hG)) (Eq.mp (by kernel_rfl) (KR G m hl))
theorem JF {G : List (Nat × Obj)} (hG : zM G) : zQ Tryz.prog G 87 QX := by
 intro xs ps r h hp
 unfold QX at h
 split at h
 ·skip
  rename_i x_m
  cases h
  obtain ⟨q0, q1, -⟩ := Zx hp
  exact weaken (ys := [yx (ZR (α := Mb) x_m)]) ⟨zH q0, trivial⟩ (ik hG (ZR (α := Mb) x_m) q1)
 ·cases h
def vX (m : Mb) : zh := (wx m.to m.fr).x
def vY (m : Mb) : zh := (wx m.to m.fr).y
def uy (m : Mb) : Int :=
 bif Ws m.to m.fr != 0 then Ws m.to m.fr else bif XQ (vX m) (vX m) != 0 then XQ (vX m) (vX m) else bif XQ (vY m) (vY m) != 0 then XQ (vY m) (vY m)
 else yD (· + ·) (Xa (vX m) (vX m)) (Xa (vY m) (vY m))
def qz (m : Mb) : zh := bif uy m == 0 then YD (· + ·) (Xa (vX m) (vX m)) (Xa (vY m) (vY m)) else []
def Lz : List AV → Option (List zN × AV)
 | [x_m] => some ([.b (ZH Mb x_m), .p (PL (ZR (α := Mb) x_m))], .tup 2 (zT [.str (qz (ZR (α := Mb) x_m)), .i (uy (ZR (α := Mb) x_m))]))
 | _ => none
theorem Ia (G : List (Nat × Obj)) (m : Mb) (hl : PL m) :
 let q1 := (zD.mk (AV.bytes (AV.str (zD.x (Mb.to m)))) (AV.bytes (AV.str (zD.y (Mb.to m)))) (AV.bytes (AV.str (zD.z (Mb.to m))))); let q2 := (zD.mk (AV.bytes (AV.str (zD.x (Mb.fr m)))) (AV.bytes (AV.str (zD.y (Mb.fr m)))) (AV.bytes (AV.str (zD.z (Mb.fr m))))); let q3 := (True ∧ bA #[] = qz m); let q5 := (wx q1 q2); let q4 := (zD.x q5); let q6 := (zD.y q5); let q7 := (Xa q4 q4); let q8 := (Xa q6 q6); zB [AV.agg 11 (zp.enc m)] → (lN (zD.x q1) ≤ nX ∧ lN (zD.y q1) ≤ nX ∧ List.length
 (zD.z q1) ≤ nX) ∧ (lN (zD.x q2) ≤ nX ∧ lN (zD.y q2) ≤ nX ∧ lN (zD.z q2) ≤ nX) ∧ zZ (Ws q1 q2 != iZ) (j2 ∧ q3 ∧ kI ∧ Ws q1 q2 = uy m) (lN q4 ≤ nX ∧ lN q4 ≤ nX ∧ zZ (XQ q4 q4 != iZ) (j2 ∧ q3 ∧ kI ∧ XQ q4 q4 = uy m) (lN q6 ≤ nX ∧ lN q6 ≤ nX ∧ zZ (XQ q6 q6 != iZ) (2
 = lN [AV.junk, AV.junk] ∧ q3 ∧ kI ∧ XQ q6 q6 = uy m) (lN q7 ≤ nX ∧ lN q8 ≤ nX ∧ j2 ∧ (True ∧ YD (fun (x1 x2 : Int) => x1 + x2) q7 q8 = qz m) ∧ kI ∧ yD (fun (x1 x2 : Int) => x1 + x2) q7 q8 = uy m))) := by
 delta bA nX kI j2 lN iZ
 dsimp only
 intro hb
 simp only [sS, ZN, Zr, ZS, ZY, YJ, yn, W9, Yd, vN, YA, vk, Yb, YC, yM, kv]
 obtain ⟨l1, l2⟩ := PS m.to m.fr
 have l3 := ua (vX m) (vX m)
 have l4 := ua (vY m) (vY m)
 have eX : (wx m.to m.fr).x = vX m := rfl
 have eY : (wx m.to m.fr).y = vY m := rfl
 simp only [eX, eY] at l1 l2 ⊢
 have bad : ∀ e : Int, e ≠ 0 → e = uy m → 2 = [AV.junk, AV.junk].length ∧ [] = qz m ∧ e = uy m := fun e h0 h => ⟨rfl, by unfold qz; rw [← h, beq_eq_false_iff_ne.2 h0]; rfl, h⟩
 refine ⟨hl.2, hl.1, fun h => bad _ h ?_, fun h1 => ⟨by omega, by omega, fun h => bad _ h ?_, fun h2 => ⟨by omega, by omega, fun h => bad _ h ?_, fun h3 => ?_⟩⟩⟩
 ·unfold uy; rw [bne_iff_ne.2 h]; rfl
 ·unfold uy; rw [h1, bne_iff_ne.2 h]; rfl
 ·unfold uy; rw [h1, h2, bne_iff_ne.2 h]; rfl
 ·have e : uy m = yD (fun x1 x2 => x1 + x2) (Xa (vX m) (vX m)) (Xa (vY m) (vY m)) := by unfold uy; rw [h1, h2, h3]; rfl
  refine ⟨by omega, by omega, rfl, ?_, e.symm⟩
  unfold qz
  rw [e]
  cases h : yD (fun x1 x2 => x1 + x2) (Xa (vX m) (vX m)) (Xa (vY m) (vY m)) == 0 with
  | true => rfl
  | false => unfold YD; rw [h]; rfl
theorem H5 {G : List (Nat × Obj)} (hG : zM G) (m : Mb) (hl : PL m) : zS Tryz.prog G 88 [yx m] (.tup 2 (zT [.str (qz m), .i (uy m)])) :=
 zV (T := (((wn G).plus 40 pE).plus 128 Q9).plus 43 pF) (an := .auto) mixed (zY.plus (zY.plus (zY.plus zr (Iw hG)) (IC hG)) (IU hG)) (Eq.mp (by kernel_rfl) (Ia G m hl))
theorem Hl {G : List (Nat × Obj)} (hG : zM G) : zQ Tryz.prog G 88 Lz := by
 intro xs ps r h hp
 unfold Lz at h
 split at h
 ·skip
  rename_i x_m
  cases h
  obtain ⟨q0, q1, -⟩ := Zx hp
  exact weaken (ys := [yx (ZR (α := Mb) x_m)]) ⟨zH q0, trivial⟩ (H5 hG (ZR (α := Mb) x_m) q1)
 ·cases h
end Go.Te
