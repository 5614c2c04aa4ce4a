/- slope: what is computed of two pitches. -/
import Derived.Test.YtinnclmkhedgeaaGreatDoorTfH
import Derived.Test.YtinnclmkhedgeaaGreatDoorArY
import Derived.Test.YtinnclmkhedgeaaGreatDoorSxS
import Derived.Test.YtinnclmkhedgeaaGreatDoorTfS
import Derived.ChangeArms
import Derived.Lib.LaidTab
set_option linter.unusedSimpArgs false
set_option linter.unusedVariables false
namespace Go.Te
open Go Go.Sx Go.Proofs Go.Ar
set_option maxRecDepth 100000
set_option maxHeartbeats 4000000
def xf (p : zK) : Prop := ∃ N D : Nat, (0 < N ∧ N ≤ 48) ∧ (0 < D ∧ D ≤ 48) ∧ p = zX (N : Int) D
noncomputable def oG : Tb := (T0.plus 79 Xj).plus 80 YG
theorem sY : zz Tryz.prog oG := zz.plus (zz.plus zO VX) XX
def Vt : List AV → Option (List zN × AV)
 | [.str p] => some ([.p (zZ p = true), .p (0 < zV p)], .i 0)
 | _ => none
theorem Rc (p : List UInt8) (hn : zZ p = true) (hp : 0 < zV p) :
 let q2 := (ByteArray.data (ByteArray.mk #[(48 : UInt8)])); let q1 := (p == Array.toList q2); ZY [AV.str p] → (Zq p = iZ ∧ (zZ p = true ∨ zT p = false)) ∧ bF (!zq false q1 || zq false q1) (bF (!zq false q1 || bA #[(45 : UInt8)] == [(45 : UInt8)]) ((zq false q1 = true → zE p = false) ∧ bF (!!p == Array.toList q2 || zq false q1) (zv (bif p == Array.toList q2 then true else false) (kI ∧ (2 : Int) = iZ) (kI ∧ iZ = iZ)))) := by
 delta bF bA kI iZ
 dsimp only
 intro hb
 simp only [sS, dS]
 have h0 := sQ (q := p) (by omega)
 have hm : zE p = false := by
  have := (XN (a := p)).1
  cases hm : zE p with
  | false => rfl
  | true => rw [hm, cond_true] at this; omega
 rw [h0]
 exact ⟨xt hn, fun _ => hm, trivial⟩
theorem QI (p : List UInt8) (hn : zZ p = true) (hp : 0 < zV p) : zu Tryz.prog [] 51 [.str p] (.i 0) :=
 zW (T := oG) (an := .auto) mixed sY (Eq.mp (by kernel_rfl) (Rc p hn hp))
theorem rV : zP Tryz.prog [] 51 Vt := by
 intro xs ps r h hp
 unfold Vt at h
 split at h
 ·skip
  rename_i p
  cases h
  obtain ⟨q0, q1, -⟩ := Zs hp
  exact weaken (ys := [.str p]) ⟨zw _, trivial⟩ (QI p q0 q1)
 ·cases h
def Rx : AV → Bool
 | .v (.int .i64 0) => true
 | _ => false
theorem YJ {x : AV} (h : Rx x = true) : yy x (.i 0) := by
 unfold Rx at h
 split at h
 ·exact zw _
 ·cases h
def Vz : List AV → Option (List zN × AV)
 | [.xq 1 c_s 0, .str a, .str b] => some ([.b (Rx (c_s 0)), .p (zZ a = true), .p (zZ b = true)], .str (z8 a b))
 | _ => none
theorem rG (G : List (Nat × Obj)) (a : List UInt8) (b : List UInt8) (ha : zZ a = true) (hc : zZ b = true) :
 ZY [AV.xq 1 (fun (x : Nat) => aI iZ) 0, AV.str a, AV.str b] → zZ a = true ∧ zZ b = true ∧ z8 a b = z8 a b := by
 delta iZ aI
 intro hb
 simp only [sS, dS]
 exact ⟨ha, hc⟩
theorem qX {G : List (Nat × Obj)} (hG : zL G) (a : List UInt8) (b : List UInt8) (ha : zZ a = true) (hc : zZ b = true) : zu Tryz.prog G 46 [.xq 1 (fun _ => .i 0) 0, .str a, .str b] (.str (z8 a b)) :=
 zW (T := ((uY G).plus 41 UA).body Tryz.prog [(92, .auto)]) (an := .auto) mixed (zz.body mixed (zz.plus zO (Qg hG)) _) (Eq.mp (by kernel_rfl) (rG G a b ha hc))
theorem R5 {G : List (Nat × Obj)} (hG : zL G) : zP Tryz.prog G 46 Vz := by
 intro xs ps r h hp
 unfold Vz at h
 split at h
 ·skip
  rename_i c_s a b
  cases h
  obtain ⟨q0, q1, q2, -⟩ := Zs hp
  exact weaken (ys := [.xq 1 (fun _ => .i 0) 0, .str a, .str b]) ⟨⟨rfl, rfl, YJ q0⟩, zw _, zw _, trivial⟩ (qX hG a b q1 q2)
 ·cases h
def Xu : List AV → Option (List zN × AV)
 | [.xq 1 c_s 0, .str a, .str b] => some ([.b (Rx (c_s 0)), .p (zZ a = true), .p (zZ b = true)], .str (zH a b))
 | _ => none
theorem rE (G : List (Nat × Obj)) (a : List UInt8) (b : List UInt8) (ha : zZ a = true) (hc : zZ b = true) :
 ZY [AV.xq 1 (fun (x : Nat) => aI iZ) 0, AV.str a, AV.str b] → zZ a = true ∧ zZ b = true ∧ zH a b = zH a b := by
 delta iZ aI
 intro hb
 simp only [sS, dS]
 exact ⟨ha, hc⟩
theorem RV {G : List (Nat × Obj)} (hG : zL G) (a : List UInt8) (b : List UInt8) (ha : zZ a = true) (hc : zZ b = true) : zu Tryz.prog G 50 [.xq 1 (fun _ => .i 0) 0, .str a, .str b] (.str (zH a b)) :=
 zW (T := ((uY G).plus 18 wC).body Tryz.prog [(92, .auto)]) (an := .auto) mixed (zz.body mixed (zz.plus zO (tQ hG)) _) (Eq.mp (by kernel_rfl) (rE G a b ha hc))
theorem VT {G : List (Nat × Obj)} (hG : zL G) : zP Tryz.prog G 50 Xu := by
 intro xs ps r h hp
 unfold Xu at h
 split at h
 ·skip
  rename_i c_s a b
  cases h
  obtain ⟨q0, q1, q2, -⟩ := Zs hp
  exact weaken (ys := [.xq 1 (fun _ => .i 0) 0, .str a, .str b]) ⟨⟨rfl, rfl, YJ q0⟩, zw _, zw _, trivial⟩ (RV hG a b q1 q2)
 ·cases h
def wO : List AV → Option (List zN × AV)
 | [.xq 1 c_s 0, .str a, .str b] => some ([.b (Rx (c_s 0)), .p (zZ a = true), .p (zZ b = true), .p (zV b ≠ 0)], .str (zh a b))
 | _ => none
theorem SY (G : List (Nat × Obj)) (a : List UInt8) (b : List UInt8) (ha : zZ a = true) (hc : zZ b = true) (hp : zV b ≠ 0) :
 ZY [AV.xq 1 (fun (x : Nat) => aI iZ) 0, AV.str a, AV.str b] → zZ a = true ∧ zZ b = true ∧ zV b ≠ iZ ∧ zh a b = zh a b := by
 delta iZ aI
 intro hb
 simp only [sS, dS]
 exact ⟨ha, hc, hp⟩
theorem qn {G : List (Nat × Obj)} (hG : zL G) (a : List UInt8) (b : List UInt8) (ha : zZ a = true) (hc : zZ b = true) (hp : zV b ≠ 0) : zu Tryz.prog G 45 [.xq 1 (fun _ => .i 0) 0, .str a, .str b] (.str (zh a b)) :=
 zW (T := ((uY G).plus 52 wc).body Tryz.prog [(92, .auto)]) (an := .auto) mixed (zz.body mixed (zz.plus zO (UH hG)) _) (Eq.mp (by kernel_rfl) (SY G a b ha hc hp))
theorem Tu {G : List (Nat × Obj)} (hG : zL G) : zP Tryz.prog G 45 wO := by
 intro xs ps r h hp
 unfold wO at h
 split at h
 ·skip
  rename_i c_s a b
  cases h
  obtain ⟨q0, q1, q2, q3, -⟩ := Zs hp
  exact weaken (ys := [.xq 1 (fun _ => .i 0) 0, .str a, .str b]) ⟨⟨rfl, rfl, YJ q0⟩, zw _, zw _, trivial⟩ (qn hG a b q1 q2 q3)
 ·cases h
noncomputable def p6 (G : List (Nat × Obj)) : Tb := (((uY G).plus 46 Vz).plus 50 Xu).plus 45 wO
theorem xP {G : List (Nat × Obj)} (hG : zL G) : zz Tryz.prog (p6 G) := zz.plus (zz.plus (zz.plus zO (R5 hG)) (VT hG)) (Tu hG)
def nz (a : zK) : Prop := zZ a = true ∧ zV a ≠ 0
def UK : List AV → Option (List zN × AV)
 | [.xq 1 c_s 0, .str p, .str q] => some ([.b (Rx (c_s 0)), .p (zZ p = true)], .str (z8 [49] p))
 | _ => none
theorem RU (G : List (Nat × Obj)) (p : List UInt8) (q : List UInt8) (h1 : zZ p = true) :
 let q1 := (bA #[(49 : UInt8)]); ZY [AV.xq 1 (fun (x : Nat) => aI iZ) 0, AV.str p, AV.str q] → zZ q1 = true ∧ zZ p = true ∧ z8 q1 p = z8 [(49 : UInt8)] p := by
 delta bA iZ aI
 dsimp only
 intro hb
 simp only [sS, dS]
 exact ⟨by decide, h1⟩
theorem pj {G : List (Nat × Obj)} (hG : zL G) (p : List UInt8) (q : List UInt8) (h1 : zZ p = true) : zu Tryz.prog G 60 [.xq 1 (fun _ => .i 0) 0, .str p, .str q] (.str (z8 [49] p)) :=
 zW (T := p6 G) (an := .auto) mixed (xP hG) (Eq.mp (by kernel_rfl) (RU G p q h1))
theorem Qi {G : List (Nat × Obj)} (hG : zL G) : zP Tryz.prog G 60 UK := by
 intro xs ps r h hp
 unfold UK at h
 split at h
 ·skip
  rename_i c_s p q
  cases h
  obtain ⟨q0, q1, -⟩ := Zs hp
  exact weaken (ys := [.xq 1 (fun _ => .i 0) 0, .str p, .str q]) ⟨⟨rfl, rfl, YJ q0⟩, zw _, zw _, trivial⟩ (pj hG p q q1)
 ·cases h
def Ua : List AV → Option (List zN × AV)
 | [.xq 1 c_s 0, .str p, .str q] => some ([.b (Rx (c_s 0)), .p (nz p), .p (nz q), .p (zZ (zh [49] p) = true), .p (zZ (zh [49] q) = true), .p (nz (z8 (zh [49] p) (zh [49] q)))], .str (zh [49] (z8 (zh [49] p) (zh [49] q))))
 | _ => none
theorem Rt (G : List (Nat × Obj)) (p : List UInt8) (q : List UInt8) (h1 : nz p) (h2 : nz q) (h3 : zZ (zh [49] p) = true) (h4 : zZ (zh [49] q) = true) (h5 : nz (z8 (zh [49] p) (zh [49] q))) :
 let q1 := (bA #[(49 : UInt8)]); let q2 := (zh q1 p); let q3 := (zh q1 q); let q4 := (z8 q2 q3); ZY [AV.xq 1 (fun (x : Nat) => aI iZ) 0, AV.str p, AV.str q] → zZ q1 = true ∧ zZ p = true ∧ zV p ≠ iZ ∧ zZ q1 = true ∧ zZ q = true ∧ zV q ≠ iZ ∧ zZ q2 = true ∧ zZ q3 = true ∧ zZ q1 = true ∧ zZ q4 = true ∧ zV q4 ≠ iZ ∧ zh q1 q4 = zh [(49 : UInt8)] (z8 (zh [(49 : UInt8)] p) (zh [(49 : UInt8)] q)) := by
 delta bA iZ aI
 dsimp only
 intro hb
 simp only [sS, dS]
 exact ⟨by decide, h1.1, h1.2, by decide, h2.1, h2.2, h3, h4, by decide, h5⟩
theorem QP {G : List (Nat × Obj)} (hG : zL G) (p : List UInt8) (q : List UInt8) (h1 : nz p) (h2 : nz q) (h3 : zZ (zh [49] p) = true) (h4 : zZ (zh [49] q) = true) (h5 : nz (z8 (zh [49] p) (zh [49] q))) : zu Tryz.prog G 44 [.xq 1 (fun _ => .i 0) 0, .str p, .str q] (.str (zh [49] (z8 (zh [49] p) (zh [49] q)))) :=
 zW (T := p6 G) (an := .auto) mixed (xP hG) (Eq.mp (by kernel_rfl) (Rt G p q h1 h2 h3 h4 h5))
theorem pS {G : List (Nat × Obj)} (hG : zL G) : zP Tryz.prog G 44 Ua := by
 intro xs ps r h hp
 unfold Ua at h
 split at h
 ·skip
  rename_i c_s p q
  cases h
  obtain ⟨q0, q1, q2, q3, q4, q5, -⟩ := Zs hp
  exact weaken (ys := [.xq 1 (fun _ => .i 0) 0, .str p, .str q]) ⟨⟨rfl, rfl, YJ q0⟩, zw _, zw _, trivial⟩ (QP hG p q q1 q2 q3 q4 q5)
 ·cases h
def tl : List AV → Option (List zN × AV)
 | [.xq 1 c_s 0, .str p, .str q] => some ([.b (Rx (c_s 0)), .p (nz p), .p (nz q), .p (zZ (zh [49] p) = true), .p (zZ (zh [49] q) = true), .p (zZ (z8 (zh [49] p) (zh [49] q)) = true)], .str (z8 [49] (z8 (zh [49] p) (zh [49] q))))
 | _ => none
theorem Re (G : List (Nat × Obj)) (p : List UInt8) (q : List UInt8) (h1 : nz p) (h2 : nz q) (h3 : zZ (zh [49] p) = true) (h4 : zZ (zh [49] q) = true) (h5 : zZ (z8 (zh [49] p) (zh [49] q)) = true) :
 let q1 := (bA #[(49 : UInt8)]); let q2 := (zh q1 p); let q3 := (zh q1 q); let q4 := (z8 q2 q3); ZY [AV.xq 1 (fun (x : Nat) => aI iZ) 0, AV.str p, AV.str q] → zZ q1 = true ∧ zZ p = true ∧ zV p ≠ iZ ∧ zZ q1 = true ∧ zZ q = true ∧ zV q ≠ iZ ∧ zZ q2 = true ∧ zZ q3 = true ∧ zZ q1 = true ∧ zZ q4 = true ∧ z8 q1 q4 = z8 [(49 : UInt8)] (z8 (zh [(49 : UInt8)] p) (zh [(49 : UInt8)] q)) := by
 delta bA iZ aI
 dsimp only
 intro hb
 simp only [sS, dS]
 exact ⟨by decide, h1.1, h1.2, by decide, h2.1, h2.2, h3, h4, by decide, h5⟩
theorem QM {G : List (Nat × Obj)} (hG : zL G) (p : List UInt8) (q : List UInt8) (h1 : nz p) (h2 : nz q) (h3 : zZ (zh [49] p) = true) (h4 : zZ (zh [49] q) = true) (h5 : zZ (z8 (zh [49] p) (zh [49] q)) = true) : zu Tryz.prog G 48 [.xq 1 (fun _ => .i 0) 0, .str p, .str q] (.str (z8 [49] (z8 (zh [49] p) (zh [49] q)))) :=
 zW (T := p6 G) (an := .auto) mixed (xP hG) (Eq.mp (by kernel_rfl) (Re G p q h1 h2 h3 h4 h5))
theorem QR {G : List (Nat × Obj)} (hG : zL G) : zP Tryz.prog G 48 tl := by
 intro xs ps r h hp
 unfold tl at h
 split at h
 ·skip
  rename_i c_s p q
  cases h
  obtain ⟨q0, q1, q2, q3, q4, q5, -⟩ := Zs hp
  exact weaken (ys := [.xq 1 (fun _ => .i 0) 0, .str p, .str q]) ⟨⟨rfl, rfl, YJ q0⟩, zw _, zw _, trivial⟩ (QM hG p q q1 q2 q3 q4 q5)
 ·cases h
def tT : List AV → Option (List zN × AV)
 | [.xq 1 c_s 0, .str p, .str q] => some ([.b (Rx (c_s 0)), .p (zZ p = true), .p (zZ q = true), .p (zZ (z8 [49] p) = true), .p (zZ (z8 [49] q) = true), .p (nz (zH (z8 [49] p) (z8 [49] q)))], .str (zh [49] (zH (z8 [49] p) (z8 [49] q))))
 | _ => none
theorem RG (G : List (Nat × Obj)) (p : List UInt8) (q : List UInt8) (h1 : zZ p = true) (h2 : zZ q = true) (h3 : zZ (z8 [49] p) = true) (h4 : zZ (z8 [49] q) = true) (h5 : nz (zH (z8 [49] p) (z8 [49] q))) :
 let q1 := (bA #[(49 : UInt8)]); let q2 := (z8 q1 p); let q3 := (z8 q1 q); let q4 := (zH q2 q3); ZY [AV.xq 1 (fun (x : Nat) => aI iZ) 0, AV.str p, AV.str q] → zZ q1 = true ∧ zZ p = true ∧ zZ q1 = true ∧ zZ q = true ∧ zZ q2 = true ∧ zZ q3 = true ∧ zZ q1 = true ∧ zZ q4 = true ∧ zV q4 ≠ iZ ∧ zh q1 q4 = zh [(49 : UInt8)] (zH (z8 [(49 : UInt8)] p) (z8 [(49 : UInt8)] q)) := by
 delta bA iZ aI
 dsimp only
 intro hb
 simp only [sS, dS]
 exact ⟨by decide, h1, by decide, h2, h3, h4, by decide, h5⟩
theorem QF {G : List (Nat × Obj)} (hG : zL G) (p : List UInt8) (q : List UInt8) (h1 : zZ p = true) (h2 : zZ q = true) (h3 : zZ (z8 [49] p) = true) (h4 : zZ (z8 [49] q) = true) (h5 : nz (zH (z8 [49] p) (z8 [49] q))) : zu Tryz.prog G 49 [.xq 1 (fun _ => .i 0) 0, .str p, .str q] (.str (zh [49] (zH (z8 [49] p) (z8 [49] q)))) :=
 zW (T := p6 G) (an := .auto) mixed (xP hG) (Eq.mp (by kernel_rfl) (RG G p q h1 h2 h3 h4 h5))
theorem QS {G : List (Nat × Obj)} (hG : zL G) : zP Tryz.prog G 49 tT := by
 intro xs ps r h hp
 unfold tT at h
 split at h
 ·skip
  rename_i c_s p q
  cases h
  obtain ⟨q0, q1, q2, q3, q4, q5, -⟩ := Zs hp
  exact weaken (ys := [.xq 1 (fun _ => .i 0) 0, .str p, .str q]) ⟨⟨rfl, rfl, YJ q0⟩, zw _, zw _, trivial⟩ (QF hG p q q1 q2 q3 q4 q5)
 ·cases h
noncomputable def Pp (G : List (Nat × Obj)) : Tb := (((((((uY G).plus 51 Vt).plus 50 Xu).plus 39 ux).plus 60 UK).plus 44 Ua).plus 48 tl).plus 49 tT
theorem tk {G : List (Nat × Obj)} (hG : zL G) : zz Tryz.prog (Pp G) := zz.plus (zz.plus (zz.plus (zz.plus (zz.plus (zz.plus (zz.plus zO (zP.mono rV)) (VT hG)) (rK hG)) (Qi hG)) (pS hG)) (QR hG)) (QS hG)
def SL  : Z6 :=
 .two .auto (.two (.two .auto (.one (.unroll 3 .auto))) .auto)
noncomputable def PX (G : List (Nat × Obj)) : Tb := (Pp G).body Tryz.prog [(47, SL)]
theorem xr {G : List (Nat × Obj)} (hG : zL G) : zz Tryz.prog (PX G) := zz.body mixed (tk hG) _
theorem Pg {r : zK} (hd : 0 < zS r) : yM [49] r = zX (k1 r : Int) (zS r) := by
 have e : ([49] : zK) = zX ((1 : Nat) : Int) 1 := Z2
 unfold yM
 rw [e, Z8 (by omega) hd, Nat.one_mul, show ((1 : Nat) : Int) * (k1 r : Int) = (k1 r : Int) from Int.one_mul _]
theorem wq {r : zK} (h : zZ r = true) (hp : 0 < zV r) : tH ⟨[49], r⟩ := by
 obtain ⟨h1, h2, h3, h4⟩ := yV h
 obtain ⟨l1, l2, l3⟩ := Xn h
 obtain ⟨a1, a2, a3, a4⟩ := tC hp h4
 have hb : k1 r ≤ 99999999 := by
  have b : (zV r).toNat * zS r ≤ 99999999 * 99999999 := Nat.mul_le_mul (by omega) h3
  have c : k1 r * k1 r * 1 ≤ k1 r * k1 r * Ar.l1 r := Nat.mul_le_mul_left _ a2
  exact Nat.le_of_lt_succ (vu (a := k1 r) (b := 100000000) (by omega))
 have hk : zZ (zX (k1 r : Int) (zS r)) = true := WN h4 (by rw [Int.natAbs_natCast]; exact hb) h3
 exact ⟨(by decide : zZ [49] = true), (by decide : zV [49] ≠ 0), ⟨xt h, hp, by simp only; omega⟩, hk, by show zZ (yM [49] r) = true; rw [Pg h4]; exact hk⟩
theorem SP {n d : Nat} (hn : 0 < n) (hd : 0 < d) (h1 : n ≤ 99999999) (h2 : d ≤ 99999999) : zZ (zX (n : Int) d) = true ∧ 0 < zV (zX (n : Int) d) :=
 ⟨WN hd (by rw [Int.natAbs_natCast]; exact h1) h2, YE hn hd⟩
theorem sx {N : Nat} (h : 0 < N ∧ N ≤ 48) : 0 < N * N ∧ N * N ≤ 2304 := ⟨Nat.mul_pos h.1 h.1, Nat.mul_le_mul h.2 h.2⟩
theorem VH {p : zK} (h : xf p) : (zZ p = true ∧ 0 < zV p) ∧ (zZ (Ri p) = true ∧ 0 < zV (Ri p)) ∧ (zZ (xu p) = true ∧ 0 < zV (xu p)) ∧ zZ (zh VZ (Ri p)) = true := by
 obtain ⟨N, D, hN, hD, rfl⟩ := h
 have n2 := sx hN
 have d2 := sx hD
 rw [U1 hN.1 hD.1, tZ hD.1, XQ hD.1]
 exact ⟨SP hN.1 hD.1 (by omega) (by omega), SP n2.1 d2.1 (by omega) (by omega), SP (by omega) d2.1 (by omega) (by omega), (SP d2.1 n2.1 (by omega) (by omega)).1⟩
theorem Q1 {p q : zK} (hp : xf p) (hq : xf q) : (zZ (T4 p q) = true ∧ 0 < zV (T4 p q)) ∧ (zZ (Wm p q) = true ∧ 0 < zV (Wm p q)) ∧ (zZ (WK p q) = true ∧ 0 < zV (WK p q)) ∧
  (zZ (zH (xu p) (xu q)) = true ∧ 0 < zV (zH (xu p) (xu q))) ∧ (zZ (Wi p q) = true ∧ 0 < zV (Wi p q)) := by
 obtain ⟨N, D, hN, hD, rfl⟩ := hp
 obtain ⟨M, E, hM, hE, rfl⟩ := hq
 have n2 := sx hN
 have d2 := sx hD
 have m2 := sx hM
 have e2 := sx hE
 have h1 : 0 < D * D * (M * M) ∧ D * D * (M * M) ≤ 2304 * 2304 := ⟨Nat.mul_pos d2.1 m2.1, Nat.mul_le_mul d2.2 m2.2⟩
 have h2 : E * E * (N * N) ≤ 2304 * 2304 := Nat.mul_le_mul e2.2 n2.2
 have h3 : 0 < N * N * (M * M) ∧ N * N * (M * M) ≤ 2304 * 2304 := ⟨Nat.mul_pos n2.1 m2.1, Nat.mul_le_mul n2.2 m2.2⟩
 have h4 : N * M * (N * M) = N * N * (M * M) := by grind
 have h5 : D * E * (D * E) = D * D * (E * E) := by grind
 have h6 : 0 < D * D * (E * E) ∧ D * D * (E * E) ≤ 2304 * 2304 := ⟨Nat.mul_pos d2.1 e2.1, Nat.mul_le_mul d2.2 e2.2⟩
 have h7 : 0 < (D * D + N * N) * (E * E + M * M) ∧ (D * D + N * N) * (E * E + M * M) ≤ 4608 * 4608 := ⟨Nat.mul_pos (by omega) (by omega), Nat.mul_le_mul (by omega) (by omega)⟩
 rw [Vn hN.1 hD.1 hM.1 hE.1, qO hN.1 hD.1 hM.1 hE.1, R0 hN.1 hD.1 hM.1 hE.1, Rh hD.1 hE.1, XQ hD.1, XQ hE.1, Z8 d2.1 e2.1, ← Int.natCast_mul, h4, h5]
 exact ⟨SP (by omega) h3.1 (by omega) (by omega), SP h3.1 (by omega) (by omega) (by omega), SP (by omega) h3.1 (by omega) (by omega), SP h7.1 h6.1 (by omega) (by omega), SP h6.1 h7.1 (by omega) (by omega)⟩
def Up : List AV → Option (List zN × AV)
 | [.str p] => some ([.p (xf p)], .tup 2 (zY [.xl false 2 1 (fun _ => zY [.str (yM [49] (xu p)), .str (Lib.itoa (l1 (xu p) : Int))]), .i 0]))
 | _ => none
theorem R4 (G : List (Nat × Obj)) (p : List UInt8) (hp : xf p) :
 let q1 := (bA #[(49 : UInt8)]); let q3 := (Pt.mk (AV.bytes (AV.str q1)) (AV.bytes (AV.str (z8 [(49 : UInt8)] (zH p p))))); let q2 := (Pt.n q3); let q4 := (Pt.d q3); let q5 := (yM q2 q4); ZY [AV.str p] → zZ p = true ∧ iZ < zV p ∧ zZ q1 = true ∧ iZ < zV q1 ∧ zZ p = true ∧ zZ p = true ∧ zZ q1 = true ∧ zZ q1 = true ∧ zZ (zH p p) = true ∧ (zZ q2 = true ∧ zV q2 ≠ iZ ∧ ((Zq q4 = iZ ∧ (zZ q4 = true ∨ zT q4 = false)) ∧ iZ < zV q4 ∧ lN (zR q4) + lN (z6 q4) ≤ 17) ∧
 zZ (zX (cI (k1 q4)) (zS q4)) = true ∧ zZ q5 = true) ∧ j2 ∧ (True ∧ yy (AV.xl false 2 1 fun (x i : Nat) => Option.getD [AV.str q5, AV.str (Lib.itoa (cI (l1 q4)))][i]? AV.junk) (AV.xl false 2 1 fun (x i : Nat) => Option.getD [AV.str (yM [(49 : UInt8)] (xu p)), AV.str (Lib.itoa (cI (l1 (xu p))))][i]? AV.junk)) ∧ kI ∧ iZ = iZ := by
 delta bA cI kI j2 lN iZ
 dsimp only
 intro hb
 simp only [sS, dS, and_self]
 obtain ⟨⟨a1, a2⟩, ⟨a3, a4⟩, ⟨a5, a6⟩, a7⟩ := VH hp
 exact ⟨a1, a2, by decide, by decide, a1, a1, by decide, by decide, a3, wq a5 a6, rfl, zw _⟩
theorem QG {G : List (Nat × Obj)} (hG : zL G) (p : List UInt8) (hp : xf p) : zu Tryz.prog G 24 [.str p] (.tup 2 (zY [.xl false 2 1 (fun _ => zY [.str (yM [49] (xu p)), .str (Lib.itoa (l1 (xu p) : Int))]), .i 0])) :=
 zW (T := PX G) (an := .auto) mixed (xr hG) (Eq.mp (by kernel_rfl) (R4 G p hp))
theorem Qk {G : List (Nat × Obj)} (hG : zL G) : zP Tryz.prog G 24 Up := by
 intro xs ps r h hp
 unfold Up at h
 split at h
 ·skip
  rename_i p
  cases h
  obtain ⟨q0, -⟩ := Zs hp
  exact weaken (ys := [.str p]) ⟨zw _, trivial⟩ (QG hG p q0)
 ·cases h
def Uo : List AV → Option (List zN × AV)
 | [.str p, .str q] => some ([.p (xf p), .p (xf q)], .tup 2 (zY [.xl false 2 1 (fun _ => zY [.str (yM [49] (Wm p q)), .str (Lib.itoa (l1 (Wm p q) : Int))]), .i 0]))
 | _ => none
theorem Ry (G : List (Nat × Obj)) (p : List UInt8) (q : List UInt8) (hp : xf p) (hq : xf q) :
 let q1 := (z8 (zh [(49 : UInt8)] (zH p p)) (zh [(49 : UInt8)] (zH q q))); let q3 := (Pt.mk (AV.bytes (AV.str (bA #[(49 : UInt8)]))) (AV.bytes (AV.str (zh [(49 : UInt8)] q1)))); let q2 := (Pt.n q3); let q4 := (Pt.d q3); let q5 := (yM q2 q4); ZY [AV.str p, AV.str q] → zZ p = true ∧ iZ < zV p ∧ zZ q = true ∧ iZ < zV q ∧ zZ p = true ∧ zZ p = true ∧ zZ q = true ∧ zZ q = true ∧ (zZ (zH p p) = true ∧ zV (zH p p) ≠ iZ) ∧ (zZ (zH q q) = true ∧ zV (zH q q) ≠ iZ) ∧ zZ (zh [(49 : UInt8)]
 (zH p p)) = true ∧ zZ (zh [(49 : UInt8)] (zH q q)) = true ∧ (zZ q1 = true ∧ zV q1 ≠ iZ) ∧ (zZ q2 = true ∧ zV q2 ≠ iZ ∧ ((Zq q4 = iZ ∧ (zZ q4 = true ∨ zT q4 = false)) ∧ iZ < zV q4 ∧ lN (zR q4) + lN (z6 q4) ≤ 17) ∧ zZ (zX (cI (k1 q4)) (zS q4)) = true ∧ zZ q5 = true) ∧ j2 ∧ (True ∧ yy (AV.xl false 2 1 fun (x i : Nat) => Option.getD [AV.str q5, AV.str (Lib.itoa (cI (l1 q4)))][i]? AV.junk) (AV.xl false 2 1 fun (x i : Nat) => Option.getD [AV.str (yM [(49 : UInt8)] (Wm p
 q)), AV.str (Lib.itoa (cI (l1 (Wm p q))))][i]? AV.junk)) ∧ kI ∧ iZ = iZ := by
 delta bA cI kI j2 lN iZ
 dsimp only
 intro hb
 simp only [sS, dS, and_self]
 obtain ⟨⟨a1, a2⟩, ⟨a3, a4⟩, ⟨a5, a6⟩, a7⟩ := VH hp
 obtain ⟨⟨b1, b2⟩, ⟨b3, b4⟩, ⟨b5, b6⟩, b7⟩ := VH hq
 obtain ⟨⟨c1, c2⟩, ⟨c3, c4⟩, ⟨c5, c6⟩, ⟨c7, c8⟩, ⟨c9, c10⟩⟩ := Q1 hp hq
 exact ⟨a1, a2, b1, b2, a1, a1, b1, b1, ⟨a3, (Int.ne_of_lt a4).symm⟩, ⟨b3, (Int.ne_of_lt b4).symm⟩, a7, b7, ⟨c1, (Int.ne_of_lt c2).symm⟩, wq c3 c4, rfl, zw _⟩
theorem QV {G : List (Nat × Obj)} (hG : zL G) (p : List UInt8) (q : List UInt8) (hp : xf p) (hq : xf q) : zu Tryz.prog G 13 [.str p, .str q] (.tup 2 (zY [.xl false 2 1 (fun _ => zY [.str (yM [49] (Wm p q)), .str (Lib.itoa (l1 (Wm p q) : Int))]), .i 0])) :=
 zW (T := PX G) (an := .auto) mixed (xr hG) (Eq.mp (by kernel_rfl) (Ry G p q hp hq))
theorem pL {G : List (Nat × Obj)} (hG : zL G) : zP Tryz.prog G 13 Uo := by
 intro xs ps r h hp
 unfold Uo at h
 split at h
 ·skip
  rename_i p q
  cases h
  obtain ⟨q0, q1, -⟩ := Zs hp
  exact weaken (ys := [.str p, .str q]) ⟨zw _, zw _, trivial⟩ (QV hG p q q0 q1)
 ·cases h
def UR : List AV → Option (List zN × AV)
 | [.str p, .str q] => some ([.p (xf p), .p (xf q)], .tup 2 (zY [.xl false 2 1 (fun _ => zY [.str (yM [49] (WK p q)), .str (Lib.itoa (l1 (WK p q) : Int))]), .i 0]))
 | _ => none
theorem RY (G : List (Nat × Obj)) (p : List UInt8) (q : List UInt8) (hp : xf p) (hq : xf q) :
 let q1 := (z8 (zh [(49 : UInt8)] (zH p p)) (zh [(49 : UInt8)] (zH q q))); let q3 := (Pt.mk (AV.bytes (AV.str (bA #[(49 : UInt8)]))) (AV.bytes (AV.str (z8 [(49 : UInt8)] q1)))); let q2 := (Pt.n q3); let q4 := (Pt.d q3); let q5 := (yM q2 q4); ZY [AV.str p, AV.str q] → zZ p = true ∧ iZ < zV p ∧ zZ q = true ∧ iZ < zV q ∧ zZ p = true ∧ zZ p = true ∧ zZ q = true ∧ zZ q = true ∧ (zZ (zH p p) = true ∧ zV (zH p p) ≠ iZ) ∧ (zZ (zH q q) = true ∧ zV (zH q q) ≠ iZ) ∧ zZ (zh [(49 : UInt8)]
 (zH p p)) = true ∧ zZ (zh [(49 : UInt8)] (zH q q)) = true ∧ zZ q1 = true ∧ (zZ q2 = true ∧ zV q2 ≠ iZ ∧ ((Zq q4 = iZ ∧ (zZ q4 = true ∨ zT q4 = false)) ∧ iZ < zV q4 ∧ lN (zR q4) + lN (z6 q4) ≤ 17) ∧ zZ (zX (cI (k1 q4)) (zS q4)) = true ∧ zZ q5 = true) ∧ j2 ∧ (True ∧ yy (AV.xl false 2 1 fun (x i : Nat) => Option.getD [AV.str q5, AV.str (Lib.itoa (cI (l1 q4)))][i]? AV.junk) (AV.xl false 2 1 fun (x i : Nat) => Option.getD [AV.str (yM [(49 : UInt8)] (WK p q)), AV.str (Lib.itoa (cI (l1
 (WK p q))))][i]? AV.junk)) ∧ kI ∧ iZ = iZ := by
 delta bA cI kI j2 lN iZ
 dsimp only
 intro hb
 simp only [sS, dS, and_self]
 obtain ⟨⟨a1, a2⟩, ⟨a3, a4⟩, ⟨a5, a6⟩, a7⟩ := VH hp
 obtain ⟨⟨b1, b2⟩, ⟨b3, b4⟩, ⟨b5, b6⟩, b7⟩ := VH hq
 obtain ⟨⟨c1, c2⟩, ⟨c3, c4⟩, ⟨c5, c6⟩, ⟨c7, c8⟩, ⟨c9, c10⟩⟩ := Q1 hp hq
 exact ⟨a1, a2, b1, b2, a1, a1, b1, b1, ⟨a3, (Int.ne_of_lt a4).symm⟩, ⟨b3, (Int.ne_of_lt b4).symm⟩, a7, b7, c1, wq c5 c6, rfl, zw _⟩
theorem QC {G : List (Nat × Obj)} (hG : zL G) (p : List UInt8) (q : List UInt8) (hp : xf p) (hq : xf q) : zu Tryz.prog G 14 [.str p, .str q] (.tup 2 (zY [.xl false 2 1 (fun _ => zY [.str (yM [49] (WK p q)), .str (Lib.itoa (l1 (WK p q) : Int))]), .i 0])) :=
 zW (T := PX G) (an := .auto) mixed (xr hG) (Eq.mp (by kernel_rfl) (RY G p q hp hq))
theorem pR {G : List (Nat × Obj)} (hG : zL G) : zP Tryz.prog G 14 UR := by
 intro xs ps r h hp
 unfold UR at h
 split at h
 ·skip
  rename_i p q
  cases h
  obtain ⟨q0, q1, -⟩ := Zs hp
  exact weaken (ys := [.str p, .str q]) ⟨zw _, zw _, trivial⟩ (QC hG p q q0 q1)
 ·cases h
def tx : List AV → Option (List zN × AV)
 | [.str p, .str q] => some ([.p (xf p), .p (xf q)], .tup 2 (zY [.xl false 2 1 (fun _ => zY [.str (yM [49] (Wi p q)), .str (Lib.itoa (l1 (Wi p q) : Int))]), .i 0]))
 | _ => none
theorem Ru (G : List (Nat × Obj)) (p : List UInt8) (q : List UInt8) (hp : xf p) (hq : xf q) :
 let q1 := (zH (z8 [(49 : UInt8)] (zH p p)) (z8 [(49 : UInt8)] (zH q q))); let q3 := (Pt.mk (AV.bytes (AV.str (bA #[(49 : UInt8)]))) (AV.bytes (AV.str (zh [(49 : UInt8)] q1)))); let q2 := (Pt.n q3); let q4 := (Pt.d q3); let q5 := (yM q2 q4); ZY [AV.str p, AV.str q] → zZ p = true ∧ iZ < zV p ∧ zZ q = true ∧ iZ < zV q ∧ zZ p = true ∧ zZ p = true ∧ zZ q = true ∧ zZ q = true ∧ zZ (zH p p) = true ∧ zZ (zH q q) = true ∧ zZ (z8 [(49 : UInt8)] (zH p p)) = true ∧ zZ (z8 [(49 : UInt8)] (zH q q)) =
 true ∧ (zZ q1 = true ∧ zV q1 ≠ iZ) ∧ (zZ q2 = true ∧ zV q2 ≠ iZ ∧ ((Zq q4 = iZ ∧ (zZ q4 = true ∨ zT q4 = false)) ∧ iZ < zV q4 ∧ lN (zR q4) + lN (z6 q4) ≤ 17) ∧ zZ (zX (cI (k1 q4)) (zS q4)) = true ∧ zZ q5 = true) ∧ j2 ∧ (True ∧ yy (AV.xl false 2 1 fun (x i : Nat) => Option.getD [AV.str q5, AV.str (Lib.itoa (cI (l1 q4)))][i]? AV.junk) (AV.xl false 2 1 fun (x i : Nat) => Option.getD [AV.str (yM [(49 : UInt8)] (Wi p q)), AV.str (Lib.itoa (cI (l1 (Wi p q))))][i]? AV.junk)) ∧
 kI ∧ iZ = iZ := by
 delta bA cI kI j2 lN iZ
 dsimp only
 intro hb
 simp only [sS, dS, and_self]
 obtain ⟨⟨a1, a2⟩, ⟨a3, a4⟩, ⟨a5, a6⟩, a7⟩ := VH hp
 obtain ⟨⟨b1, b2⟩, ⟨b3, b4⟩, ⟨b5, b6⟩, b7⟩ := VH hq
 obtain ⟨⟨c1, c2⟩, ⟨c3, c4⟩, ⟨c5, c6⟩, ⟨c7, c8⟩, ⟨c9, c10⟩⟩ := Q1 hp hq
 exact ⟨a1, a2, b1, b2, a1, a1, b1, b1, a3, b3, a5, b5, ⟨c7, (Int.ne_of_lt c8).symm⟩, wq c9 c10, rfl, zw _⟩
theorem pf {G : List (Nat × Obj)} (hG : zL G) (p : List UInt8) (q : List UInt8) (hp : xf p) (hq : xf q) : zu Tryz.prog G 15 [.str p, .str q] (.tup 2 (zY [.xl false 2 1 (fun _ => zY [.str (yM [49] (Wi p q)), .str (Lib.itoa (l1 (Wi p q) : Int))]), .i 0])) :=
 zW (T := PX G) (an := .auto) mixed (xr hG) (Eq.mp (by kernel_rfl) (Ru G p q hp hq))
theorem Qx {G : List (Nat × Obj)} (hG : zL G) : zP Tryz.prog G 15 tx := by
 intro xs ps r h hp
 unfold tx at h
 split at h
 ·skip
  rename_i p q
  cases h
  obtain ⟨q0, q1, -⟩ := Zs hp
  exact weaken (ys := [.str p, .str q]) ⟨zw _, zw _, trivial⟩ (pf hG p q q0 q1)
 ·cases h
def VM : List AV → Option (List zN × AV)
 | [.str p, .str q] => some ([.p (xf p), .p (xf q)], .tup 2 (zY [.str (zh q p), .i 0]))
 | _ => none
theorem sG (G : List (Nat × Obj)) (p : List UInt8) (q : List UInt8) (hp : xf p) (hq : xf q) :
 ZY [AV.str p, AV.str q] → zZ p = true ∧ iZ < zV p ∧ zZ q = true ∧ iZ < zV q ∧ zZ q = true ∧ zZ p = true ∧ zV p ≠ iZ ∧ j2 ∧ (True ∧ zh q p = zh q p) ∧ kI ∧ iZ = iZ := by
 delta kI j2 iZ
 intro hb
 simp only [sS, dS]
 obtain ⟨⟨a1, a2⟩, _⟩ := VH hp
 obtain ⟨⟨b1, b2⟩, _⟩ := VH hq
 exact ⟨a1, a2, b1, b2, b1, a1, (Int.ne_of_lt a2).symm, rfl⟩
theorem RQ {G : List (Nat × Obj)} (hG : zL G) (p : List UInt8) (q : List UInt8) (hp : xf p) (hq : xf q) : zu Tryz.prog G 17 [.str p, .str q] (.tup 2 (zY [.str (zh q p), .i 0])) :=
 zW (T := ((uY G).plus 51 Vt).plus 52 wc) (an := .auto) mixed (zz.plus (zz.plus zO (zP.mono rV)) (UH hG)) (Eq.mp (by kernel_rfl) (sG G p q hp hq))
theorem ra {G : List (Nat × Obj)} (hG : zL G) : zP Tryz.prog G 17 VM := by
 intro xs ps r h hp
 unfold VM at h
 split at h
 ·skip
  rename_i p q
  cases h
  obtain ⟨q0, q1, -⟩ := Zs hp
  exact weaken (ys := [.str p, .str q]) ⟨zw _, zw _, trivial⟩ (RQ hG p q q0 q1)
 ·cases h
end Go.Te

namespace Go.Te
open Go Go.Sx Go.Proofs Go.Ar
set_option maxRecDepth 100000
set_option maxHeartbeats 4000000
def R6  : Z6 :=
 .two .auto (.two .auto (.two (.two .auto (.one (.unroll 2 .auto))) .auto))
def VW : List AV → Option (List zN × AV)
 | [.xl f_a 2 1 x_a, .xl f_b 2 1 x_b] => some ([.b (ZR (x_a 0 0) && ZR (x_a 0 1)), .b (ZR (x_b 0 0) && ZR (x_b 0 1))], .b ((⟨AV.bytes (x_a 0 0), AV.bytes (x_a 0 1)⟩ : Pt).n == (⟨AV.bytes (x_b 0 0), AV.bytes (x_b 0 1)⟩ : Pt).n && (⟨AV.bytes (x_a 0 0), AV.bytes (x_a 0 1)⟩ : Pt).d == (⟨AV.bytes (x_b 0 0), AV.bytes (x_b 0 1)⟩ : Pt).d))
 | _ => none
theorem Ra (a : Pt) (b : Pt) :
 ZY [AV.xl false 2 1 fun (x i : Nat) => Option.getD [AV.str (Pt.n a), AV.str (Pt.d a)][i]? AV.junk, AV.xl false 2 1 fun (x i : Nat) => Option.getD [AV.str (Pt.n b), AV.str (Pt.d b)][i]? AV.junk] → zv (!(Pt.n a == Pt.n b && (Pt.d a == Pt.d b && true))) (false = (Pt.n a == Pt.n b && Pt.d a == Pt.d b)) (true = (Pt.n a == Pt.n b && Pt.d a == Pt.d b)) := by
 intro hb
 generalize (a.n == b.n) = x
 generalize (a.d == b.d) = y
 cases x <;> cases y <;> rfl
theorem QK (a : Pt) (b : Pt) : zu Tryz.prog [] 16 [.xl false 2 1 (fun _ => zY [.str a.n, .str a.d]), .xl false 2 1 (fun _ => zY [.str b.n, .str b.d])] (.b (a.n == b.n && a.d == b.d)) :=
 zW (T := T0) (an := R6) mixed zO (Eq.mp (by kernel_rfl) (Ra a b))
theorem rk : zP Tryz.prog [] 16 VW := by
 intro xs ps r h hp
 unfold VW at h
 split at h
 ·skip
  rename_i f_a x_a f_b x_b
  cases h
  obtain ⟨q0, q1, -⟩ := Zs hp
  exact weaken (ys := [.xl false 2 1 (fun _ => zY [.str (⟨AV.bytes (x_a 0 0), AV.bytes (x_a 0 1)⟩ : Pt).n, .str (⟨AV.bytes (x_a 0 0), AV.bytes (x_a 0 1)⟩ : Pt).d]), .xl false 2 1 (fun _ => zY [.str (⟨AV.bytes (x_b 0 0), AV.bytes (x_b 0 1)⟩ : Pt).n, .str (⟨AV.bytes (x_b 0 0), AV.bytes (x_b 0 1)⟩ : Pt).d])]) ⟨xD q0, xD q1, trivial⟩ (QK (⟨AV.bytes (x_a 0 0), AV.bytes (x_a 0 1)⟩ : Pt) (⟨AV.bytes (x_b 0 0), AV.bytes (x_b 0 1)⟩ : Pt))
 ·cases h
theorem Q3 (c n : List UInt8) : W3 Tryz.prog T0 37 .auto [.str c, .str n] (.xl false 2 1 fun _ => zY [.str c, .str n]) := by
 unfold W3
 intro hb
 cbv
 refine ⟨fun _ => rfl, fun i j hi hj => ?_⟩
 obtain rfl : i = 0 := by omega
 match j, hj with
 | 0, _ => exact rfl
 | 1, _ => exact rfl
def VN : List AV → Option (List zN × AV)
 | [.str c, .str n] => some ([], .xl false 2 1 fun _ => zY [.str c, .str n])
 | _ => none
theorem SC : zP Tryz.prog [] 37 VN := by
 intro xs ps r h hp
 unfold VN at h
 split at h
 ·rename_i c n
  cases h
  exact zW mixed zO (Q3 c n)
 ·cases h
theorem uF : xf [49] := ⟨1, 1, by decide, by decide, Z2⟩
theorem PO : xf [51, 47, 52] := ⟨3, 4, by decide, by decide, by decide +kernel⟩
noncomputable def om (G : List (Nat × Obj)) : Tb := ((((((uY G).plus 24 Up).plus 13 Uo).plus 14 UR).plus 15 tx).plus 17 VM).plus 16 VW |>.plus 37 VN
theorem so {G : List (Nat × Obj)} (hG : zL G) : zz Tryz.prog (om G) := zz.plus (zz.plus (zz.plus (zz.plus (zz.plus (zz.plus (zz.plus zO (Qk hG)) (pL hG)) (pR hG)) (Qx hG)) (ra hG)) (zP.mono rk)) (zP.mono SC)
def Vb : List AV → Option (List zN × AV)
 | [] => some ([], .b true)
 | _ => none
theorem rq (G : List (Nat × Obj)) :
 let q1 := (ByteArray.data (ByteArray.mk #[(51 : UInt8), (47 : UInt8), (52 : UInt8)])); let q3 := (ByteArray.data (ByteArray.mk #[(49 : UInt8)])); let q2 := (∃ (N : Nat), ∃ (D : Nat), (0 < N ∧ N ≤ 48) ∧ (0 < D ∧ D ≤ 48) ∧ Array.toList q3 = zX (cI N) D); let q5 := (AV.bytes (AV.str (Lib.itoa (↑1 : Int)))); let q4 := (Pt.mk (AV.bytes (AV.str (yM [(49 : UInt8)] (xu (Array.toList q1))))) q5); let q8 := (Array.toList q3); let q7 := (AV.bytes (AV.str q8)); let q6 := (Pt.mk (AV.bytes (AV.str (bA #[(53 : UInt8), (47 : UInt8), (52 : UInt8)]))) q7); let
 q9 := (Pt.mk (AV.bytes (AV.str (yM [(49 : UInt8)] (Wm q8 q8)))) (AV.bytes (AV.str (Lib.itoa (↑2 : Int))))); let q11 := (AV.bytes (AV.str (bA #[(49 : UInt8), (47 : UInt8), (50 : UInt8)]))); let q10 := (Pt.mk q11 (AV.bytes (AV.str (bA #[(50 : UInt8)])))); let q12 := (Pt.mk (AV.bytes (AV.str (yM [(49 : UInt8)] (WK q8 q8)))) (AV.bytes (AV.str (Lib.itoa (↑3 : Int))))); let q13 := (Pt.mk q7 (AV.bytes (AV.str (bA #[(51 : UInt8)])))); let q14 := (Pt.mk (AV.bytes (AV.str
 (yM [(49 : UInt8)] (Wi q8 q8)))) q5); let q15 := (Pt.mk q11 q7); ZY [] → (∃ (N : Nat), ∃ (D : Nat), (0 < N ∧ N ≤ 48) ∧ (0 < D ∧ D ≤ 48) ∧ Array.toList q1 = zX (cI N) D) ∧ q2 ∧ q2 ∧ q2 ∧ q2 ∧ q2 ∧ q2 ∧ q2 ∧ q2 ∧ (bif bif bif bif bif (if iZ > if iZ > if iZ > if iZ > iZ then iZ else iZ then iZ else if iZ > iZ then iZ else iZ then iZ else if iZ > if iZ > iZ then iZ else iZ then iZ else if iZ > iZ then iZ else iZ then iZ
 else if iZ > if iZ > if iZ > iZ then iZ else iZ then iZ else if iZ > iZ then iZ else iZ then iZ else if iZ > if iZ > iZ then iZ else iZ then iZ else if iZ > iZ then iZ else iZ) == iZ then Pt.n q4 == Pt.n q6 && Pt.d q4 == Pt.d q6 else false then Pt.n q9 == Pt.n q10 && Pt.d q9 == Pt.d q10 else false then Pt.n q12 == Pt.n q13 && Pt.d q12 == Pt.d q13 else false then zh q8 q8 == Array.toList q3 else false then Pt.n q14 == Pt.n q15 && Pt.d
 q14 == Pt.d q15 else false) = true := by
 delta bA cI iZ
 dsimp only
 intro hb
 simp only [sS, dS]
 exact ⟨PO, uF, uF, uF, uF, uF, uF, uF, uF, by decide +kernel⟩
theorem Rl {G : List (Nat × Obj)} (hG : zL G)  : zu Tryz.prog G 19 [] (.b true) :=
 zW (T := om G) (an := .auto) mixed (so hG) (Eq.mp (by kernel_rfl) (rq G ))
theorem qk {G : List (Nat × Obj)} (hG : zL G) : zP Tryz.prog G 19 Vb := by
 intro xs ps r h hp
 unfold Vb at h
 split at h
 ·skip
  cases h
  exact weaken (ys := []) trivial (Rl hG )
 ·cases h
end Go.Te

namespace Go.Te
open Go Go.Sx Go.Proofs Go.Ar
set_option maxRecDepth 100000
set_option maxHeartbeats 4000000
def PY (a : Int) : Prop := 0 ≤ a ∧ a ≤ 255
end Go.Te

namespace Go.Te
open Go Go.Sx Go.Proofs Go.Ar
set_option maxRecDepth 100000
set_option maxHeartbeats 4000000
noncomputable def oF : Tb := (T0.plus 271 V5).body Tryz.prog [(225, .auto)]
theorem T6 : zz Tryz.prog oF := zz.body mixed (zz.plus zO sB) _
theorem qz (s : List UInt8) (h : zT s = false) :
 ZY [AV.str s, AV.str [(47 : UInt8)]] → leB iZ (Lib.indexByte s (47 : UInt8)) = false := by
 delta iZ
 intro hb
 refine Bool.eq_false_iff.2 fun e => ?_
 obtain ⟨z, _, hlt, _, hc⟩ := (VD 47 s).1 ((Zy _ _).1 e)
 have : zT s = true := List.any_eq_true.2 ⟨s.getD z 0, uO hlt, by rw [hc]; rfl⟩
 rw [h] at this
 cases this
def Vq : List AV → Option (List zN × AV)
 | [.str s, .str p] => some ([.b (p == [47]), .p (zT s = false)], .b false)
 | _ => none
theorem Rs : zP Tryz.prog [] 167 Vq := by
 intro xs ps r h hp
 unfold Vq at h
 split at h
 ·rename_i s p
  cases h
  have q : (p == [47]) = true := hp _ List.mem_cons_self
  have q1 : zT s = false := hp _ (List.mem_cons_of_mem _ List.mem_cons_self)
  obtain rfl := eq_of_beq q
  exact zW mixed T6 (Eq.mp (by kernel_rfl) (qz s q1) : W3 Tryz.prog oF 167 .auto [.str s, .str [47]] (.b false))
 ·cases h
def UT (t : Pt) : Prop := zZ t.n = true ∧ zV t.n ≠ 0 ∧ ∃ l : Nat, t.d = Lib.itoa (l : Int) ∧ 0 < l ∧ l < 10000000000000000 ∧ Yj l = (1, l)
theorem sC {l : Nat} (h0 : 0 < l) (h : l < 10000000000000000) : qD (Lib.itoa (l : Int)) ∧ zE (Lib.itoa (l : Int)) = false := by
 obtain ⟨h1, h2, h3⟩ := tW (l := l) (by omega)
 obtain ⟨e1, e2, e3, _⟩ := xW (l : Int)
 have hn : Wa (l : Int) ≤ 16 := Yg (by decide) (by rw [Int.natAbs_natCast]; exact Nat.lt_of_lt_of_le h (by decide))
 have hl : (zR (Lib.itoa (l : Int))).length ≤ 16 := by
  rw [(Z3 e3).1, YZ, if_neg (by omega)]
  exact hn
 have hr : qD (Lib.itoa (l : Int)) := ⟨h1, by rw [e1]; omega, by omega⟩
 exact ⟨hr, tI hr⟩
noncomputable def oH (G : List (Nat × Obj)) : Tb := (((((uY G).plus 79 Xj).plus 80 YG).plus 132 wR).plus 83 wQ).plus 167 Vq
theorem sk {G : List (Nat × Obj)} (hG : zL G) : zz Tryz.prog (oH G) := zz.plus (zz.plus (zz.plus (zz.plus (zz.plus zO (zP.mono VX)) (zP.mono XX)) (tF hG)) (zP.mono TX)) (zP.mono Rs)
def Wj : List AV → Option (List zN × AV)
 | [.agg 2 p_t] => some ([.b (ZR (p_t 0) && ZR (p_t 1)), .p (UT (⟨AV.bytes (p_t 0), AV.bytes (p_t 1)⟩ : Pt))], .i 0)
 | _ => none
theorem Tj (G : List (Nat × Obj)) (t : Pt) (ht : UT t) :
 let q1 := (Zq (Pt.n t) = iZ ∧ (zZ (Pt.n t) = true ∨ zT (Pt.n t) = false)); let q3 := (zZ (Pt.d t) = true ∨ zT (Pt.d t) = false); let q2 := (Zq (Pt.d t) = iZ ∧ q3); let q4 := (ByteArray.data (ByteArray.mk #[(48 : UInt8)])); let q5 := (!zq false (z7 (60 : Int) (xz (Pt.n t))) || zq false (z7 (60 : Int) (xz (Pt.n t)))); let q6 := (ByteArray.data (ByteArray.mk #[(49 : UInt8)])); let q7 := (kI ∧ iZ = iZ); let q9 := (bif false then true else Pt.d t == Array.toList q4); let q8 := (!zq false q9 || zq false q9); let q10 :=
 (kI ∧ (8 : Int) = iZ); let q12 := (bif iZ != iZ then true else !zX (cI (k1 (Pt.d t))) (zS (Pt.d t)) == Array.toList q6); let q11 := (!zq false q12 || zq false q12); ZY [AV.agg 2 (yo.enc t)] → q1 ∧ q2 ∧ zv (Pt.n t == Array.toList q4) (kI ∧ (12 : Int) = iZ) (q1 ∧ bF q5 (bF q5 ((zq false (z7 (60 : Int) (xz (Pt.n t))) = true → Zq (Pt.d t) = iZ ∧ q3) ∧ bF q5 (bF (!!z7 (60 : Int) (xz (Pt.n t)) || zq false (z7 (60 : Int) (xz (Pt.n t)))) (zv (bif z7 (60 : Int) (xz (Pt.n t)) then
 true else z7 (40 : Int) (xz (Pt.d t))) (kI ∧ (4 : Int) = iZ) (zv (Pt.d t == Array.toList q6) q7 (zE (Pt.d t) = false ∧ bF q8 (bF q8 (bF (!zq false q9 || bA #[(47 : UInt8)] == [(47 : UInt8)]) ((zq false q9 = true → zT (Pt.d t) = false) ∧ bF ((!!bif false then true else Pt.d t == Array.toList q4) || zq false q9) (zv (bif bif false then true else Pt.d t == Array.toList q4 then true else false) q10 ((q2 ∧ iZ < zV (Pt.d t) ∧ lN (zR (Pt.d t)) + lN (z6 (Pt.d t)) ≤ 17)
 ∧ bF q11 (bF q11 (bF q11 (bF ((!!bif iZ != iZ then true else !zX (cI (k1 (Pt.d t))) (zS (Pt.d t)) == Array.toList q6) || zq false q12) (zv (bif bif iZ != iZ then true else !zX (cI (k1 (Pt.d t))) (zS (Pt.d t)) == Array.toList q6 then true else !Lib.itoa (cI (l1 (Pt.d t))) == Pt.d t) q10 q7)))))))))))))))) := by
 delta bF bA cI kI lN iZ
 dsimp only
 intro hb
 simp only [sS, dS]
 obtain ⟨c1, c2, l, e, l0, lb, ln⟩ := ht
 obtain ⟨tn, td⟩ := t
 simp only at *
 subst e
 obtain ⟨rt, hm⟩ := sC l0 lb
 obtain ⟨e1, e2, e3, _⟩ := xW (l : Int)
 obtain ⟨k1, k2⟩ := SN l
 rw [ln] at k1 k2
 obtain ⟨x1, x2, x3⟩ := Xn c1
 obtain ⟨_, i1, i2⟩ := tW (l := l) (by omega)
 have Lx := WU (a := tn) (k := 20) (by omega) (by omega) 60 (by omega)
 have L40 := WU (a := Lib.itoa (l : Int)) (k := 20) (by omega) (by omega) 40 (by omega)
 have n0 : (Lib.itoa (l : Int) == [48]) = false := sQ (by rw [e1]; omega)
 have hX : zX ((1 : Nat) : Int) 1 = [49] := Z2.symm
 rw [sQ c2, Lx, L40, n0, k1, k2, e2, hX]
 refine ⟨xt c1, rt.1, xt c1, fun _ => rt.1, ?_⟩
 show zv (Lib.itoa (l : Int) == [49]) _ _
 refine zr.2 ⟨fun _ => trivial, fun _ => ⟨hm, fun _ => e3, rt, ?_⟩⟩
 refine zr.2 ⟨fun c => ?_, fun _ => trivial⟩
 simp at c
theorem Sy {G : List (Nat × Obj)} (hG : zL G) (t : Pt) (ht : UT t) : zu Tryz.prog G 120 [we t] (.i 0) :=
 zW (T := oH G) (an := .auto) mixed (sk hG) (Eq.mp (by kernel_rfl) (Tj G t ht))
theorem sI {G : List (Nat × Obj)} (hG : zL G) : zP Tryz.prog G 120 Wj := by
 intro xs ps r h hp
 unfold Wj at h
 split at h
 ·skip
  rename_i p_t
  cases h
  obtain ⟨q0, q1, -⟩ := Zs hp
  exact weaken (ys := [we (⟨AV.bytes (p_t 0), AV.bytes (p_t 1)⟩ : Pt)]) ⟨yz (x := .agg 2 p_t) (α := Pt) q0, trivial⟩ (Sy hG (⟨AV.bytes (p_t 0), AV.bytes (p_t 1)⟩ : Pt) q1)
 ·cases h
def Q7  : Z6 :=
 .two .auto (.two .auto (.two (.two .auto (.one (.unroll 2 .auto))) .auto))
def rj : List AV → Option (List zN × AV)
 | [.xl f_t 2 1 x_t] => some ([.b (ZR (x_t 0 0) && ZR (x_t 0 1)), .p (UT (⟨AV.bytes (x_t 0 0), AV.bytes (x_t 0 1)⟩ : Pt))], .i 0)
 | _ => none
theorem Q5 (G : List (Nat × Obj)) (t : Pt) (ht : UT t) :
 let q3 := (fun (i : Nat) => if 0 ≤ i ∧ i < 0 + TypeInfo.size (Tables.types (Program.toTables Tryz.prog))[51] then (fun (i : Nat) => (fun (x : Nat) => zY [AV.str (Pt.n t), AV.str (Pt.d t)]) (Int.toNat iZ) (0 + i)) (i - 0) else yH (Value.agg #[Value.string (ByteArray.mk #[]), Value.string (ByteArray.mk #[])]) i); let q2 := (Pt.mk (AV.bytes (q3 0)) (AV.bytes (q3 1))); let q1 := (Pt.n q2); ZY [AV.xl false 2 1 fun (x i : Nat) => Option.getD [AV.str (Pt.n t), AV.str (Pt.d t)][i]? AV.junk] → (zZ q1 = true ∧ zV q1 ≠ iZ ∧ ∃ (l : Nat), Pt.d q2 = Lib.itoa (cI l) ∧ 0 < l ∧ l
 < 10000000000000000 ∧ Yj l = (1, l)) ∧ kI ∧ iZ = iZ := by
 delta cI kI iZ
 dsimp only
 intro hb
 simp only [sS, dS]
 exact ht
theorem pB {G : List (Nat × Obj)} (hG : zL G) (t : Pt) (ht : UT t) : zu Tryz.prog G 74 [.xl false 2 1 (fun _ => zY [.str t.n, .str t.d])] (.i 0) :=
 zW (T := (uY G).plus 120 Wj) (an := Q7) mixed (zz.plus zO (sI hG)) (Eq.mp (by kernel_rfl) (Q5 G t ht))
theorem PQ {G : List (Nat × Obj)} (hG : zL G) : zP Tryz.prog G 74 rj := by
 intro xs ps r h hp
 unfold rj at h
 split at h
 ·skip
  rename_i f_t x_t
  cases h
  obtain ⟨q0, q1, -⟩ := Zs hp
  exact weaken (ys := [.xl false 2 1 (fun _ => zY [.str (⟨AV.bytes (x_t 0 0), AV.bytes (x_t 0 1)⟩ : Pt).n, .str (⟨AV.bytes (x_t 0 0), AV.bytes (x_t 0 1)⟩ : Pt).d])]) ⟨xD q0, trivial⟩ (pB hG (⟨AV.bytes (x_t 0 0), AV.bytes (x_t 0 1)⟩ : Pt) q1)
 ·cases h
noncomputable def pV (G : List (Nat × Obj)) : Tb := (((((uY G).plus 74 rj).plus 18 wC).plus 39 ux).plus 52 wc).plus 50 Xu |>.plus 45 wO
theorem WJ {G : List (Nat × Obj)} (hG : zL G) : zz Tryz.prog (pV G) := zz.plus (zz.plus (zz.plus (zz.plus (zz.plus (zz.plus zO (PQ hG)) (tQ hG)) (rK hG)) (UH hG)) (VT hG)) (Tu hG)
def QL  : Z6 :=
 .two .auto (.two .auto (.two .auto (.two (.two .auto (.one (.unroll 2 .auto))) .auto)))
def rH : List AV → Option (List zN × AV)
 | [.xl f_s 2 1 x_s, .xl f_t 2 1 x_t] => some ([.b (ZR (x_s 0 0) && ZR (x_s 0 1)), .b (ZR (x_t 0 0) && ZR (x_t 0 1)), .p (UT (⟨AV.bytes (x_s 0 0), AV.bytes (x_s 0 1)⟩ : Pt)), .p (UT (⟨AV.bytes (x_t 0 0), AV.bytes (x_t 0 1)⟩ : Pt)), .p (zZ (⟨AV.bytes (x_s 0 0), AV.bytes (x_s 0 1)⟩ : Pt).d = true), .p (zZ (⟨AV.bytes (x_t 0 0), AV.bytes (x_t 0 1)⟩ : Pt).d = true), .p (tH ⟨zH (⟨AV.bytes (x_s 0 0), AV.bytes (x_s 0 1)⟩ : Pt).n (⟨AV.bytes (x_t 0 0), AV.bytes (x_t 0 1)⟩ : Pt).n, zH (⟨AV.bytes (x_s 0 0), AV.bytes (x_s 0 1)⟩ : Pt).d (⟨AV.bytes (x_t 0 0), AV.bytes (x_t 0 1)⟩ : Pt).d⟩)], .tup 2 (zY [.xl false 2 1 (fun _ => zY [.str (yM (zH (⟨AV.bytes (x_s 0 0), AV.bytes (x_s 0 1)⟩ : Pt).n (⟨AV.bytes (x_t 0 0), AV.bytes (x_t 0 1)⟩ : Pt).n) (zH (⟨AV.bytes (x_s 0 0), AV.bytes (x_s 0 1)⟩ : Pt).d (⟨AV.bytes (x_t 0 0), AV.bytes (x_t 0 1)⟩ : Pt).d)), .str (Lib.itoa (l1 (zH (⟨AV.bytes (x_s 0 0), AV.bytes (x_s 0 1)⟩ : Pt).d (⟨AV.bytes (x_t 0 0), AV.bytes (x_t 0 1)⟩ : Pt).d) : Int))]), .i 0]))
 | _ => none
theorem pr (G : List (Nat × Obj)) (s : Pt) (t : Pt) (hs : UT s) (ht : UT t) (hd1 : zZ s.d = true) (hd2 : zZ t.d = true) (hm : tH ⟨zH s.n t.n, zH s.d t.d⟩) :
 let q2 := (Pt.mk (AV.bytes (AV.str (Pt.n s))) (AV.bytes (AV.str (Pt.d s)))); let q1 := (Pt.n q2); let q4 := (Pt.mk (AV.bytes (AV.str (Pt.n t))) (AV.bytes (AV.str (Pt.d t)))); let q3 := (Pt.n q4); let q6 := (Pt.mk (AV.bytes (AV.str (zH (Pt.n s) (Pt.n t)))) (AV.bytes (AV.str (zH (Pt.d s) (Pt.d t))))); let q5 := (Pt.n q6); let q7 := (Pt.d q6); let q8 := (yM q5 q7); ZY [AV.xl false 2 1 fun (x i : Nat) => Option.getD [AV.str (Pt.n s), AV.str (Pt.d s)][i]? AV.junk, AV.xl false 2 1 fun (x i : Nat) => Option.getD [AV.str (Pt.n t), AV.str (Pt.d t)][i]? AV.junk] → (zZ q1 = true ∧ zV q1 ≠ (0 :
 Int) ∧ ∃ (l : Nat), Pt.d q2 = Lib.itoa (cI l) ∧ 0 < l ∧ l < 10000000000000000 ∧ Yj l = (1, l)) ∧ (zq true (iZ == iZ) = true → zZ q3 = true ∧ zV q3 ≠ iZ ∧ ∃ (l : Nat), Pt.d q4 = Lib.itoa (cI l) ∧ 0 < l ∧ l < 10000000000000000 ∧ Yj l = (1, l)) ∧ zZ (Pt.n s) = true ∧ zZ (Pt.n t) = true ∧ zZ (Pt.d s) = true ∧ zZ (Pt.d t) = true ∧ (zZ q5 = true ∧ zV q5 ≠ iZ ∧ ((Zq q7 = iZ ∧ (zZ q7 = true ∨ zT q7 = false)) ∧ iZ < zV q7 ∧ lN (zR q7) + lN (z6 q7) ≤ 17) ∧ zZ (zX (cI (k1 q7)) (zS q7)) = true ∧
 zZ q8 = true) ∧ j2 ∧ (True ∧ yy (AV.xl false 2 1 fun (x i : Nat) => Option.getD [AV.str q8, AV.str (Lib.itoa (cI (l1 q7)))][i]? AV.junk) (AV.xl false 2 1 fun (x i : Nat) => Option.getD [AV.str (yM (zH (Pt.n s) (Pt.n t)) (zH (Pt.d s) (Pt.d t))), AV.str (Lib.itoa (cI (l1 (zH (Pt.d s) (Pt.d t)))))][i]? AV.junk)) ∧ kI ∧ iZ = iZ := by
 delta cI kI j2 lN iZ
 dsimp only
 intro hb
 simp only [sS, dS]
 exact ⟨hs, fun _ => ht, hs.1, ht.1, hd1, hd2, hm, rfl, zw _⟩
theorem P1 {G : List (Nat × Obj)} (hG : zL G) (s : Pt) (t : Pt) (hs : UT s) (ht : UT t) (hd1 : zZ s.d = true) (hd2 : zZ t.d = true) (hm : tH ⟨zH s.n t.n, zH s.d t.d⟩) : zu Tryz.prog G 36 [.xl false 2 1 (fun _ => zY [.str s.n, .str s.d]), .xl false 2 1 (fun _ => zY [.str t.n, .str t.d])] (.tup 2 (zY [.xl false 2 1 (fun _ => zY [.str (yM (zH s.n t.n) (zH s.d t.d)), .str (Lib.itoa (l1 (zH s.d t.d) : Int))]), .i 0])) :=
 zW (T := (pV G).body Tryz.prog [(77, .auto)]) (an := QL) mixed (zz.body mixed (WJ hG) _) (Eq.mp (by kernel_rfl) (pr G s t hs ht hd1 hd2 hm))
theorem Ps {G : List (Nat × Obj)} (hG : zL G) : zP Tryz.prog G 36 rH := by
 intro xs ps r h hp
 unfold rH at h
 split at h
 ·skip
  rename_i f_s x_s f_t x_t
  cases h
  obtain ⟨q0, q1, q2, q3, q4, q5, q6, -⟩ := Zs hp
  exact weaken (ys := [.xl false 2 1 (fun _ => zY [.str (⟨AV.bytes (x_s 0 0), AV.bytes (x_s 0 1)⟩ : Pt).n, .str (⟨AV.bytes (x_s 0 0), AV.bytes (x_s 0 1)⟩ : Pt).d]), .xl false 2 1 (fun _ => zY [.str (⟨AV.bytes (x_t 0 0), AV.bytes (x_t 0 1)⟩ : Pt).n, .str (⟨AV.bytes (x_t 0 0), AV.bytes (x_t 0 1)⟩ : Pt).d])]) ⟨xD q0, xD q1, trivial⟩ (P1 hG (⟨AV.bytes (x_s 0 0), AV.bytes (x_s 0 1)⟩ : Pt) (⟨AV.bytes (x_t 0 0), AV.bytes (x_t 0 1)⟩ : Pt) q2 q3 q4 q5 q6)
 ·cases h
def U3 : List AV → Option (List zN × AV)
 | [.xl f_t 2 1 x_t] => some ([.b (ZR (x_t 0 0) && ZR (x_t 0 1)), .p (UT (⟨AV.bytes (x_t 0 0), AV.bytes (x_t 0 1)⟩ : Pt)), .p (zZ (⟨AV.bytes (x_t 0 0), AV.bytes (x_t 0 1)⟩ : Pt).d = true), .p (nz (zH (⟨AV.bytes (x_t 0 0), AV.bytes (x_t 0 1)⟩ : Pt).n (⟨AV.bytes (x_t 0 0), AV.bytes (x_t 0 1)⟩ : Pt).d)), .p (tH ⟨zh [49] (zH (⟨AV.bytes (x_t 0 0), AV.bytes (x_t 0 1)⟩ : Pt).n (⟨AV.bytes (x_t 0 0), AV.bytes (x_t 0 1)⟩ : Pt).d), (⟨AV.bytes (x_t 0 0), AV.bytes (x_t 0 1)⟩ : Pt).d⟩)], .tup 2 (zY [.xl false 2 1 (fun _ => zY [.str (yM (zh [49] (zH (⟨AV.bytes (x_t 0 0), AV.bytes (x_t 0 1)⟩ : Pt).n (⟨AV.bytes (x_t 0 0), AV.bytes (x_t 0 1)⟩ : Pt).d)) (⟨AV.bytes (x_t 0 0), AV.bytes (x_t 0 1)⟩ : Pt).d), .str (Lib.itoa (l1 (⟨AV.bytes (x_t 0 0), AV.bytes (x_t 0 1)⟩ : Pt).d : Int))]), .i 0]))
 | _ => none
theorem qI (G : List (Nat × Obj)) (t : Pt) (ht : UT t) (h1 : zZ t.d = true) (h2 : nz (zH t.n t.d)) (h3 : tH ⟨zh [49] (zH t.n t.d), t.d⟩) :
 let q2 := (Pt.mk (AV.bytes (AV.str (Pt.n t))) (AV.bytes (AV.str (Pt.d t)))); let q1 := (Pt.n q2); let q3 := (bA #[(49 : UInt8)]); let q5 := (Pt.mk (AV.bytes (AV.str (zh q3 (zH (Pt.n t) (Pt.d t))))) (AV.bytes (AV.str (Pt.d t)))); let q4 := (Pt.n q5); let q6 := (Pt.d q5); let q7 := (yM q4 q6); ZY [AV.xl false 2 1 fun (x i : Nat) => Option.getD [AV.str (Pt.n t), AV.str (Pt.d t)][i]? AV.junk] → (zZ q1 = true ∧ zV q1 ≠ iZ ∧ ∃ (l : Nat), Pt.d q2 = Lib.itoa (cI l) ∧ 0 < l ∧ l < 10000000000000000 ∧ Yj l = (1, l)) ∧ zZ (Pt.n t) = true ∧
 zZ (Pt.d t) = true ∧ zZ q3 = true ∧ zZ (zH (Pt.n t) (Pt.d t)) = true ∧ zV (zH (Pt.n t) (Pt.d t)) ≠ iZ ∧ (zZ q4 = true ∧ zV q4 ≠ iZ ∧ ((Zq q6 = iZ ∧ (zZ q6 = true ∨ zT q6 = false)) ∧ iZ < zV q6 ∧ lN (zR q6) + lN (z6 q6) ≤ 17) ∧ zZ (zX (cI (k1 q6)) (zS q6)) = true ∧ zZ q7 = true) ∧ j2 ∧ (True ∧ yy (AV.xl false 2 1 fun (x i : Nat) => Option.getD [AV.str q7, AV.str (Lib.itoa (cI (l1 q6)))][i]? AV.junk) (AV.xl false 2 1 fun (x i : Nat) => Option.getD [AV.str (yM (zh [(49 :
 UInt8)] (zH (Pt.n t) (Pt.d t))) (Pt.d t)), AV.str (Lib.itoa (cI (l1 (Pt.d t))))][i]? AV.junk)) ∧ kI ∧ iZ = iZ := by
 delta bA cI kI j2 lN iZ
 dsimp only
 intro hb
 simp only [sS, dS]
 exact ⟨ht, ht.1, h1, by decide, h2.1, h2.2, h3, rfl, zw _⟩
theorem pM {G : List (Nat × Obj)} (hG : zL G) (t : Pt) (ht : UT t) (h1 : zZ t.d = true) (h2 : nz (zH t.n t.d)) (h3 : tH ⟨zh [49] (zH t.n t.d), t.d⟩) : zu Tryz.prog G 34 [.xl false 2 1 (fun _ => zY [.str t.n, .str t.d])] (.tup 2 (zY [.xl false 2 1 (fun _ => zY [.str (yM (zh [49] (zH t.n t.d)) t.d), .str (Lib.itoa (l1 t.d : Int))]), .i 0])) :=
 zW (T := pV G) (an := .auto) mixed (WJ hG) (Eq.mp (by kernel_rfl) (qI G t ht h1 h2 h3))
theorem pY {G : List (Nat × Obj)} (hG : zL G) : zP Tryz.prog G 34 U3 := by
 intro xs ps r h hp
 unfold U3 at h
 split at h
 ·skip
  rename_i f_t x_t
  cases h
  obtain ⟨q0, q1, q2, q3, q4, -⟩ := Zs hp
  exact weaken (ys := [.xl false 2 1 (fun _ => zY [.str (⟨AV.bytes (x_t 0 0), AV.bytes (x_t 0 1)⟩ : Pt).n, .str (⟨AV.bytes (x_t 0 0), AV.bytes (x_t 0 1)⟩ : Pt).d])]) ⟨xD q0, trivial⟩ (pM hG (⟨AV.bytes (x_t 0 0), AV.bytes (x_t 0 1)⟩ : Pt) q1 q2 q3 q4)
 ·cases h
end Go.Te

namespace Go.Te
open Go Go.Sx Go.Proofs Go.Ar
set_option maxRecDepth 100000
set_option maxHeartbeats 4000000
def pc (σ : Int) : Prop := σ = 1 ∨ σ = -1
theorem tf {σ : Int} (h : pc σ) {n d : Nat} (hn : 0 < n ∧ n ≤ 99999999) (hd : 0 < d ∧ d ≤ 99999999) : zZ (zX (σ * n) d) = true ∧ zV (zX (σ * n) d) ≠ 0 := by
 have ha : (σ * (n : Int)).natAbs = n := by rcases h with rfl | rfl <;> omega
 refine ⟨WN hd.1 (by omega) hd.2, fun e => ?_⟩
 have hv := Zr (σ * (n : Int)) hd.1
 have hp := Zp (σ * (n : Int)) hd.1
 rw [e, Int.zero_mul] at hv
 exact Int.mul_ne_zero (by omega) (by omega) hv.symm
structure TG (t : Pt) (σ : Int) (n d l : Nat) : Prop where
 en : t.n = zX (σ * (n : Int)) d
 ed : t.d = Lib.itoa (l : Int)
 sg : pc σ
 n0 : 0 < n ∧ n ≤ 99999999
 d0 : 0 < d ∧ d ≤ 99999999
 l0 : 0 < l ∧ l ≤ 99999999
 nr : Yj l = (1, l)
theorem R2 {l : Nat} (h : 0 < l ∧ l ≤ 99999999) : zZ (Lib.itoa (l : Int)) = true := by
 rw [← Z7]
 exact (SP h.1 (by omega) h.2 (by omega)).1
theorem TG.gd {t : Pt} {σ : Int} {n d l : Nat} (h : TG t σ n d l) : UT t ∧ zZ t.d = true := by
 obtain ⟨a, b⟩ := tf h.sg h.n0 h.d0
 rw [← h.en] at a b
 exact ⟨⟨a, b, l, h.ed, h.l0.1, by have := h.l0.2; omega, h.nr⟩, by rw [h.ed]; exact R2 h.l0⟩
theorem SB {σ : Int} (hs : pc σ) {n d m k l : Nat} (hn : 0 < n ∧ n ≤ 99999999) (hd : 0 < d ∧ d ≤ 99999999) (hm : 0 < m ∧ m < 10000000000000000) (e : Yj m = (k, l)) (hk : k ≤ 99999999) {n' d' : Nat} (hn' : 0 < n' ∧ n' ≤ 99999999) (hd' : 0 < d' ∧ d' ≤ 99999999) (hx : n * k * d' = n' * d) (hl : l ≤ 99999999) {c r : zK} (hc : c = zX (σ * n) d) (hr : r = Lib.itoa (m : Int)) :
  tH ⟨c, r⟩ ∧ TG ⟨yM c r, Lib.itoa (Ar.l1 r : Int)⟩ σ n' d' l := by
 subst hc hr
 obtain ⟨a, b⟩ := tf hs hn hd
 obtain ⟨a', b'⟩ := tf hs hn' hd'
 obtain ⟨k1e, l1e⟩ := SN m
 obtain ⟨r1, _⟩ := sC hm.1 hm.2
 obtain ⟨_, e2, _⟩ := xW (m : Int)
 obtain ⟨s1, s2, s3, s4⟩ := wd hm.1
 rw [e] at k1e l1e s1 s2 s3 s4
 simp only at k1e l1e s1 s2 s3 s4
 have ec : yM (zX (σ * n) d) (Lib.itoa (m : Int)) = zX (σ * n') d' := by
  unfold yM
  rw [k1e, e2, Z8 hd.1 (by omega), Nat.mul_one]
  refine (YR hd.1 hd'.1).2 ?_
  have : (n : Int) * k * d' = n' * d := by exact_mod_cast hx
  have h1 : σ * (n : Int) * k * d' = σ * ((n : Int) * k * d') := by grind
  rw [h1, this]; grind
 refine ⟨⟨a, b, r1, ?_, ?_⟩, ?_⟩
 ·simp only
  rw [k1e, e2]
  exact (SP s2 (by omega) hk (by omega)).1
 ·simp only
  rw [ec]; exact a'
 ·rw [l1e]
  exact ⟨ec, rfl, hs, hn', hd', ⟨s3, hl⟩, s4⟩
theorem se {t : Pt} {σ : Int} {n d l x y : Nat} (h : TG t σ n d l) (hx : 0 < x ∧ x ≤ 99999999) (hy : 0 < y ∧ y ≤ 99999999) (e : n * l * y = x * d) :
  nz (zH t.n t.d) ∧ tH ⟨zh [49] (zH t.n t.d), t.d⟩ ∧ TG ⟨yM (zh [49] (zH t.n t.d)) t.d, Lib.itoa (Ar.l1 t.d : Int)⟩ σ y x l := by
 have e1 : zH t.n t.d = zX (σ * x) y := by
  rw [h.en, h.ed, ← Z7, Z8 h.d0.1 (by omega), Nat.mul_one]
  refine (YR h.d0.1 hy.1).2 ?_
  have : (n : Int) * l * y = x * d := by exact_mod_cast e
  have h1 : σ * (n : Int) * l * y = σ * ((n : Int) * l * y) := by grind
  rw [h1, this]; grind
 have e2 : zh [49] (zH t.n t.d) = zX (σ * y) x := by
  rw [e1, show ([49] : zK) = zX ((1 : Nat) : Int) 1 from Z2]
  rcases h.sg with rfl | rfl
  ·rw [show (1 : Int) * (x : Int) = (x : Int) from Int.one_mul _, YQ (by omega) hy.1 hx.1, Nat.one_mul]
   rfl
  ·rw [show (-1 : Int) * (x : Int) = -(x : Int) by omega, s8 (by omega) hy.1 hx.1, Nat.one_mul]
   rfl
 obtain ⟨a, b⟩ := tf h.sg hx hy
 refine ⟨by rw [e1]; exact ⟨a, b⟩, ?_⟩
 exact SB h.sg (m := l) (k := 1) hy hx ⟨h.l0.1, by have := h.l0.2; omega⟩ h.nr (by omega) hy hx (by rw [Nat.mul_one]) h.l0.2 e2 h.ed
theorem oC (B l x : Nat) : B * l * x = B * (x * l) := by grind
theorem oe {σ : Int} (h : pc σ) (x B l : Nat) : σ * (x : Int) * (σ * (B : Int)) * (l : Int) = (1 : Int) * ((1 : Nat) : Int) * ((B * (x * l) : Nat) : Int) := by
 push_cast
 rcases h with rfl | rfl <;> grind
def tR (a : Int) : Int := if a = 0 then 1 else a
noncomputable def oK (G : List (Nat × Obj)) : Tb := ((((((uY G).plus 38 t8).plus 39 ux).plus 34 U3).plus 36 rH).plus 16 VW).plus 37 VN |>.plus 19 Vb
theorem T2 {G : List (Nat × Obj)} (hG : zL G) : zz Tryz.prog (oK G) := zz.plus (zz.plus (zz.plus (zz.plus (zz.plus (zz.plus (zz.plus zO (qA hG)) (rK hG)) (pY hG)) (Ps hG)) (zP.mono rk)) (zP.mono SC)) (qk hG)
def qm (a : Int) : Z6 := .two .auto (.join Unit (fun σ _ => [(0, .v (.int .i8 (tR a))), (1, σ.tm 1), (2, σ.tm 2)]) (fun _ _ => []) 0 (fun _ _ => True) .auto .auto)
theorem rB (G : List (Nat × Obj)) (a : Int) (b : Int) (n : Int) (ha : -128 ≤ a ∧ a ≤ 127) (hc : PY b) (hd : PY n) :
 let q2 := (Pt.mk (AV.bytes (AV.str (zX (tR a) (Int.toNat (b + iO))))) (AV.bytes (AV.str (zX (n + iO) 1)))); let q1 := (Pt.n q2); let q3 := (Pt.d q2); let q4 := (yM q1 q3); let q8 := (AV.str q4); let q9 := (AV.str (Lib.itoa (cI (l1 q3)))); let q7 := (Pt.mk (AV.bytes q8) (AV.bytes q9)); let q6 := (Pt.n q7); let q5 := (zZ q6 = true ∧ zV q6 ≠ iZ ∧ ∃ (l : Nat), Pt.d q7 = Lib.itoa (cI l) ∧ 0 < l ∧ l < 10000000000000000 ∧ Yj l = (1, l)); let q10 := (Pt.d q7); let q11 := (zH q6 q10); let q14 := (zh [(49 : UInt8)] q11); let q13 := (Pt.mk q14 q10); let q12 :=
 (Pt.n q13); let q15 := (Pt.d q13); let q18 := (Pt.mk (AV.bytes (AV.str (yM q14 q10))) (AV.bytes (AV.str (Lib.itoa (cI (l1 q10)))))); let q17 := (Pt.n q18); let q16 := (zZ q17 = true ∧ zV q17 ≠ iZ ∧ ∃ (l : Nat), Pt.d q18 = Lib.itoa (cI l) ∧ 0 < l ∧ l < 10000000000000000 ∧ Yj l = (1, l)); let q19 := (Pt.d q18); let q22 := (zH q6 q17); let q23 := (zH q10 q19); let q21 := (Pt.mk q22 q23); let q20 := (Pt.n q21); let q24 := (Pt.d q21); let q25 := (zH q17 q19); let q28 := (zh [(49 : UInt8)] q25); let q27 := (Pt.mk q28 q19); let q26 := (Pt.n q27); let q29 := (Pt.d q27); let
 q32 := (Pt.mk (AV.bytes (AV.str (yM q22 q23))) (AV.bytes (AV.str (Lib.itoa (cI (l1 q23)))))); let q34 := (AV.bytes (AV.str (bA #[(49 : UInt8)]))); let q33 := (Pt.mk q34 q34); let q31 := (bif bif iZ == iZ then iZ == iZ else false then Pt.n q32 == Pt.n q33 && Pt.d q32 == Pt.d q33 else false); let q30 := (!zq true q31 || zq true q31); let q35 := (AV.str (yM q28 q19)); let q36 := (AV.str (Lib.itoa (cI (l1 q19)))); let q37 := (Pt.mk (AV.bytes q35) (AV.bytes q36)); ZY [AV.v (Value.int IntKind.i8 a), AV.v (Value.int
 IntKind.u8 b), AV.v (Value.int IntKind.u8 n)] → zv (a == iZ) (∃ (z : Unit), (True ∧ (IntKind.i8 = IntKind.i8 ∧ iO = tR a) ∧ (IntKind.u8 = IntKind.u8 ∧ b = b) ∧ IntKind.u8 = IntKind.u8 ∧ n = n) ∧ True) (∃ (z : Unit), (True ∧ (IntKind.i8 = IntKind.i8 ∧ a = tR a) ∧ (IntKind.u8 = IntKind.u8 ∧ b = b) ∧ IntKind.u8 = IntKind.u8 ∧ n = n) ∧ True) ∧ ∀ (z : Unit), True → bF (dK (tR a)) (bF (dK b) (bF (dK (b + iO)) (((-10000000000000000 : Int) ≤ tR a ∧ tR a ≤ (10000000000000000 : Int)) ∧ (iZ < b + iO ∧ b + (1
 : Int) ≤ (10000000000000000 : Int)) ∧ bF (dK n) (bF (dK (n + iO)) (((-10000000000000000 : Int) ≤ n + iO ∧ n + iO ≤ (10000000000000000 : Int)) ∧ (iZ < iO ∧ iO ≤ (10000000000000000 : Int)) ∧ (zZ q1 = true ∧ zV q1 ≠ iZ ∧ ((Zq q3 = iZ ∧ (zZ q3 = true ∨ zT q3 = false)) ∧ iZ < zV q3 ∧ lN (zR q3) + lN (z6 q3) ≤ 17) ∧ zZ (zX (cI (k1 q3)) (zS q3)) = true ∧ zZ q4 = true) ∧ q5 ∧ zZ q10 = true ∧ (zZ q11 = true ∧ zV q11 ≠ iZ) ∧ (zZ q12 = true ∧
 zV q12 ≠ iZ ∧ ((Zq q15 = iZ ∧ (zZ q15 = true ∨ zT q15 = false)) ∧ iZ < zV q15 ∧ lN (zR q15) + lN (z6 q15) ≤ 17) ∧ zZ (zX (cI (k1 q15)) (zS q15)) = true ∧ zZ (yM q12 q15) = true) ∧ q5 ∧ q16 ∧ zZ q10 = true ∧ zZ q19 = true ∧ (zZ q20 = true ∧ zV q20 ≠ iZ ∧ ((Zq q24 = iZ ∧ (zZ q24 = true ∨ zT q24 = false)) ∧ iZ < zV q24 ∧ lN (zR q24) + lN (z6 q24) ≤ 17) ∧ zZ (zX (cI (k1 q24)) (zS q24)) = true ∧ zZ (yM q20 q24) = true) ∧ q16 ∧ zZ q19 = true ∧ (zZ q25 =
 true ∧ zV q25 ≠ iZ) ∧ (zZ q26 = true ∧ zV q26 ≠ iZ ∧ ((Zq q29 = iZ ∧ (zZ q29 = true ∨ zT q29 = false)) ∧ iZ < zV q29 ∧ lN (zR q29) + lN (z6 q29) ≤ 17) ∧ zZ (zX (cI (k1 q29)) (zS q29)) = true ∧ zZ (yM q26 q29) = true) ∧ bF q30 (bF q30 (bF (!zq true q31 || ZR q35 && ZR q36) (bF (!zq true q31 || ZR q8 && ZR q9) (bF ((!bif bif iZ == iZ then iZ == iZ else false then Pt.n q32 == Pt.n q33 && Pt.d q32 == Pt.d q33 else false) || zq true q31) (bF ((!bif bif
 bif iZ == iZ then iZ == iZ else false then Pt.n q32 == Pt.n q33 && Pt.d q32 == Pt.d q33 else false then Pt.n q37 == Pt.n q7 && Pt.d q37 == Pt.d q7 else false) || zq true (bif bif bif iZ == iZ then iZ == iZ else false then Pt.n q32 == Pt.n q33 && Pt.d q32 == Pt.d q33 else false then Pt.n q37 == Pt.n q7 && Pt.d q37 == Pt.d q7 else false)) ((bif bif bif bif iZ == iZ then iZ == iZ else false then Pt.n q32 == Pt.n q33 && Pt.d q32 == Pt.d q33 else false then Pt.n q37 == Pt.n q7 && Pt.d q37 == Pt.d q7 else false then
 true else false) = true))))))))))) := by
 delta bF dK bA cI lN iZ iO
 dsimp only
 intro hb
 have is : ∀ s : zK, ZR (AV.str s) = true := fun _ => rfl
 have bs : ∀ s : zK, (AV.str s).bytes = s := fun _ => rfl
 simp only [sS, dS, is, bs, Bool.and_self]
 refine ⟨⟨fun h => ⟨(), by unfold tR; rw [if_pos h]⟩, fun h => ⟨(), by unfold tR; rw [if_neg h]⟩⟩, fun _ _ => ?_⟩
 unfold PY at hc hd
 obtain ⟨σ, α, hσ, hα, eA⟩ : ∃ (σ : Int) (α : Nat), pc σ ∧ (0 < α ∧ α ≤ 128) ∧ tR a = σ * α := by
  unfold tR
  by_cases h0 : a = 0
  ·rw [if_pos h0]; exact ⟨1, 1, .inl rfl, by decide, rfl⟩
  ·rw [if_neg h0]
   by_cases h1 : 0 < a
   ·exact ⟨1, a.toNat, .inl rfl, by omega, by omega⟩
   ·exact ⟨-1, (-a).toNat, .inr rfl, by omega, by omega⟩
 obtain ⟨B, hB⟩ : ∃ B : Nat, b + 1 = B := ⟨(b + 1).toNat, by omega⟩
 obtain ⟨M, hM⟩ : ∃ M : Nat, n + 1 = M := ⟨(n + 1).toNat, by omega⟩
 have hA : -128 ≤ tR a ∧ tR a ≤ 128 := by rcases hσ with rfl | rfl <;> omega
 have hr : zX (M : Int) 1 = Lib.itoa (M : Int) := Z7
 obtain ⟨⟨k, l⟩, e⟩ : ∃ z : Nat × Nat, Yj M = z := ⟨_, rfl⟩
 obtain ⟨v1, v2, v3, v4⟩ := wd (m := M) (by omega)
 rw [e] at v1 v2 v3 v4
 simp only at v1 v2 v3 v4
 have g1 : k * 1 * l ≤ k * k * l := Nat.mul_le_mul_right _ (Nat.mul_le_mul_left _ v2)
 rw [Nat.mul_one] at g1
 have g2 : k * 1 ≤ k * l := Nat.mul_le_mul_left _ v3
 have g3 : 1 * l ≤ k * l := Nat.mul_le_mul_right _ v2
 have g4 : α * k ≤ 128 * 256 := Nat.mul_le_mul hα.2 (by omega)
 have g5 : α * k * l ≤ 128 * 256 * 256 := Nat.mul_le_mul g4 (by omega)
 have p1 : 0 < α * k := Nat.mul_pos hα.1 v2
 have p2 : 0 < α * k * l := Nat.mul_pos p1 v3
 rw [hB, hM, Int.toNat_natCast, hr]
 obtain ⟨m1, S1⟩ := SB hσ (c := zX (tR a) B) (r := Lib.itoa (M : Int)) (n := α) (d := B) (m := M) (n' := α * k) (d' := B) ⟨hα.1, by omega⟩ ⟨by omega, by omega⟩ ⟨by omega, by omega⟩ e (by omega) ⟨p1, by omega⟩ ⟨by omega, by omega⟩ rfl (by omega) (by rw [eA]) rfl
 unfold tH at m1
 simp only at m1
 generalize yM (zX (tR a) B) (Lib.itoa (M : Int)) = sn at *
 generalize Lib.itoa (Ar.l1 (Lib.itoa (M : Int)) : Int) = sd at *
 obtain ⟨i1, i2, S2⟩ := se S1 (x := α * k * l) (y := B) ⟨p2, by omega⟩ ⟨by omega, by omega⟩ rfl
 unfold tH at i2
 simp only at i1 i2 S2
 generalize yM (zh [49] (zH sn sd)) sd = tn at *
 generalize Lib.itoa (Ar.l1 sd : Int) = td at *
 obtain ⟨i3, i4, S4⟩ := se S2 (x := B) (y := α * k) ⟨by omega, by omega⟩ ⟨p1, by omega⟩ (oC _ _ _)
 simp only at i3 i4 S4
 have q1 : sn = zX (σ * ((α * k : Nat) : Int)) B := S1.en
 have q2 : tn = zX (σ * (B : Int)) (α * k * l) := S2.en
 have q3 : sd = Lib.itoa (l : Int) := S1.ed
 have q4 : td = Lib.itoa (l : Int) := S2.ed
 have e1 : zH sn tn = zX ((1 : Int) * ((1 : Nat) : Int)) l := by
  rw [q1, q2, Z8 S1.d0.1 S2.d0.1]
  exact (YR (Nat.mul_pos S1.d0.1 S2.d0.1) v3).2 (oe hσ _ _ _)
 have e2 : zH sd td = Lib.itoa ((l * l : Nat) : Int) := by rw [q3, q4, S6, Int.natCast_mul]
 have hll : l * l ≤ 256 * 256 := Nat.mul_le_mul (by omega) (by omega)
 obtain ⟨m2, S3⟩ := SB (.inl rfl) (n := 1) (d := l) (m := l * l) (k := l) (l := 1) (n' := 1) (d' := 1) (by omega) ⟨v3, by omega⟩ ⟨Nat.mul_pos v3 v3, by omega⟩ (pX v3 (by omega)) (by omega) (by omega) (by omega) (by omega) (by omega) e1 e2
 have f1 := S3.en
 have f2 := S3.ed
 have f3 := S4.en.trans S1.en.symm
 have f4 := S4.ed.trans S1.ed.symm
 simp only at f1 f2 f3 f4
 have key : ∀ A B C D E F : zK, A = [49] → B = [49] → C = E → D = F → ((0 : Int) == 0 && (0 : Int) == 0 && (A == [49] && B == [49]) && (C == E && D == F) && true) = true := fun A B C D E F h1 h2 h3 h4 => by rw [h1, h2, h3, h4]; simp
 have z1 : zX ((1 : Int) * ((1 : Nat) : Int)) 1 = [49] := by rw [Int.one_mul]; exact Z2.symm
 exact ⟨by simp only [YT]; omega, by simp only [YT]; omega, by simp only [YT]; omega, ⟨by omega, by omega⟩, ⟨by omega, by omega⟩, by simp only [YT]; omega, by simp only [YT]; omega, ⟨by omega, by omega⟩, ⟨by omega, by omega⟩, m1, S1.gd.1, S1.gd.2, i1, i2, S1.gd.1, S2.gd.1, S1.gd.2, S2.gd.2, m2, S2.gd.1, S2.gd.2, i3, i4, key _ _ _ _ _ _ (f1.trans z1) (f2.trans (by decide +kernel)) f3 f4⟩
theorem pg {G : List (Nat × Obj)} (hG : zL G) (a : Int) (b : Int) (n : Int) (ha : -128 ≤ a ∧ a ≤ 127) (hc : PY b) (hd : PY n) : zu Tryz.prog G 8 [.v (.int .i8 a), .v (.int .u8 b), .v (.int .u8 n)] (.b true) :=
 zW (T := oK G) (an := qm a) mixed (T2 hG) (Eq.mp (by kernel_rfl) (rB G a b n ha hc hd))
end Go.Te

namespace Go.Te
open Go Go.Sx Go.Proofs Go.Ar Go.RowKit
set_option maxRecDepth 100000
def Ts : List (List UInt8) := [[50], [51], [53], [55], [49, 49], [49, 51], [49, 55], [49, 57], [50, 51], [50, 57], [51, 49], [51, 55], [52, 49], [52, 51], [52, 55], [53, 51], [53, 57], [54, 49], [54, 55], [55, 49], [55, 51], [55, 57], [56, 51], [56, 57], [57, 55]]
theorem tL : (Ts.map fun z => Value.string ⟨z.toArray⟩) = zQ.toList := by kernel_rfl
theorem W5 {H : Type} {enc : TypeId × Value → H} {P : Program} {w : World} {base : Nat} {sp : Nat → Bool} {held : Bool} {fuel : Nat} {t e : TypeId} {n : Nat} {cs : List Value} {zs : List (List UInt8)} {p : List MemPlace}
  (ht : P.underlying t = some (.array n e)) (he : P.underlying e = some .string) (hce : P.cellsOf e = 1) (hct : P.cellsOf t = n)
  (h : DataW.trod enc P w base sp held fuel t cs = some (.agg (zs.map fun z => .lit (.string z)), p)) : cs = zs.map fun z => Value.string ⟨z.toArray⟩ := by
 cases fuel with
 | zero => simp [DataW.trod] at h
 | succ fuel =>
  simp only [DataW.trod, ht, hce, hct, Nat.mul_one] at h
  split at h
  ·rename_i hl
   obtain ⟨xs, hm, hx⟩ := Option.map_eq_some_iff.1 h
   have hxs : xs.map (·.1) = zs.map fun z => (DataW.lit (.string z) : DataW H) := by
    have := congrArg Prod.fst hx
    simpa using this
   have hxl : xs.length = n := by simpa using Lib.mapM_length hm
   have hzl : zs.length = n := by
    have := congrArg List.length hxs
    simp at this
    omega
   apply List.ext_getElem?
   intro i
   by_cases hi : i < n
   ·obtain ⟨b, hb, hf⟩ := Lib.mapM_at hm i i (by simp [hi])
    obtain ⟨z, hc, rfl, _⟩ := DataW.trod_string he hf
    have h1 : cs[i]? = some (.string z) := by
     have := congrArg (·[0]?) hc
     simpa [List.getElem?_take, List.getElem?_drop] using this
    have h2 : (xs.map (·.1))[i]? = some (DataW.lit (.string z.data.toList) : DataW H) := by simp [hb]
    rw [hxs] at h2
    simp only [List.getElem?_map, Option.map_eq_some_iff, DataW.lit.injEq, Lit.string.injEq] at h2
    obtain ⟨z', hz', rfl⟩ := h2
    simp [h1, hz']
   ·rw [List.getElem?_eq_none (by omega), List.getElem?_eq_none (by simp; omega)]
  ·cases h
section
variable {H : Type} {enc : TypeId × Value → H} {W : World} {spare : Nat → Bool} {held : Bool}
abbrev oD (W : World) : Nat → Prop := fun b => b < W.heap.size
theorem TY {n : Int} {d : DataW H} {ps : List MemPlace} (h : DataW.Trod enc Tryz.prog W 0 spare held 5 (.int .u8 n) d ps) : 0 ≤ n ∧ n ≤ 255 := by
 obtain ⟨m, h⟩ := h
 obtain ⟨k, h1, _, h3⟩ := DataW.trod_int Tryz.underlying5 h
 have e : [Value.int .u8 n] = [.int .u8 k] := h1
 cases e
 simp only [Lit.wf, Bool.and_eq_true, decide_eq_true_eq] at h3
 have h4 : (0 : Int) ≤ n ∧ n ≤ 255 := h3
 exact h4
theorem Rq {n : Int} {d : DataW H} {ps : List MemPlace} (h : DataW.Trod enc Tryz.prog W 0 spare held 48 (.int .i8 n) d ps) : -128 ≤ n ∧ n ≤ 127 := by
 obtain ⟨m, h⟩ := h
 obtain ⟨k, h1, _, h3⟩ := DataW.trod_int Tryz.underlying48 h
 have e : [Value.int .i8 n] = [.int .i8 k] := h1
 cases e
 simp only [Lit.wf, Bool.and_eq_true, decide_eq_true_eq] at h3
 have h4 : (-128 : Int) ≤ n ∧ n ≤ 127 := h3
 exact h4
end
end Go.Te
