/- slope: what is computed of two pitches. -/
import Derived.Test.YtinnclmkhedgeaaGreatDoorTfH
import Derived.Test.YtinnclmkhedgeaaGreatDoorArY
import Derived.Test.YtinnclmkhedgeaaGreatDoorSxS
import Derived.Test.YtinnclmkhedgeaaGreatDoorTfS
import Derived.ChangeArms
import Derived.Lib.LaidTab
set_option linter.unusedSimpArgs false
set_option linter.unusedVariables false
namespace Go.Te
open Go Go.Sx Go.Proofs Go.Ar
set_option maxRecDepth 100000
set_option maxHeartbeats 4000000
def xx (p : zL) : Prop := ∃ N D : Nat, (0 < N ∧ N ≤ 48) ∧ (0 < D ∧ D ≤ 48) ∧ p = zt (N : Int) D
noncomputable def PC : Tb := (T0.plus 79 wF).plus 80 xV
theorem TA : zz Tryz.prog PC := zz.plus (zz.plus zN UI) wS
def vD : List AV → Option (List zO × AV)
 | [.str p] => some ([.p (zZ p = true), .p (0 < zU p)], .i 0)
 | _ => none
theorem ri (p : List UInt8) (hn : zZ p = true) (hp : 0 < zU p) :
 let q2 := (ByteArray.data (ByteArray.mk #[(48 : UInt8)])); let q1 := (p == Array.toList q2); Zw [AV.str p] → (Zj p = iZ ∧ (zZ p = true ∨ zr p = false)) ∧ bF (!zq false q1 || zq false q1) (bF (!zq false q1 || bA #[(45 : UInt8)] == [(45 : UInt8)]) ((zq false q1 = true → zE p = false) ∧ bF (!!p == Array.toList q2 || zq false q1) (zw (bif p == Array.toList q2 then true else false) (kI ∧ (2 : Int) = iZ) (kI ∧ iZ = iZ)))) := by
 delta bF bA kI iZ
 dsimp only
 intro hb
 simp only [sS, dS]
 have h0 := qx (q := p) (by omega)
 have hm : zE p = false := by
  have := (Xv (a := p)).1
  cases hm : zE p with
  | false => rfl
  | true => rw [hm, cond_true] at this; omega
 rw [h0]
 exact ⟨ws hn, fun _ => hm, trivial⟩
theorem QM (p : List UInt8) (hn : zZ p = true) (hp : 0 < zU p) : zV Tryz.prog [] 51 [.str p] (.i 0) :=
 zW (T := PC) (an := .auto) mixed TA (Eq.mp (by kernel_rfl) (ri p hn hp))
theorem S6 : zn Tryz.prog [] 51 vD := by
 intro xs ps r h hp
 unfold vD at h
 split at h
 ·skip
  rename_i p
  cases h
  obtain ⟨q0, q1, -⟩ := Zr hp
  exact weaken (ys := [.str p]) ⟨zX _, trivial⟩ (QM p q0 q1)
 ·cases h
def rS : AV → Bool
 | .v (.int .i64 0) => true
 | _ => false
theorem YJ {x : AV} (h : rS x = true) : Z5 x (.i 0) := by
 unfold rS at h
 split at h
 ·exact zX _
 ·cases h
def VM : List AV → Option (List zO × AV)
 | [.xq 1 c_s 0, .str a, .str b] => some ([.b (rS (c_s 0)), .p (zZ a = true), .p (zZ b = true)], .str (za a b))
 | _ => none
theorem Sw (G : List (Nat × Obj)) (a : List UInt8) (b : List UInt8) (ha : zZ a = true) (hc : zZ b = true) :
 Zw [AV.xq 1 (fun (x : Nat) => aI iZ) 0, AV.str a, AV.str b] → zZ a = true ∧ zZ b = true ∧ za a b = za a b := by
 delta iZ aI
 intro hb
 simp only [sS, dS]
 exact ⟨ha, hc⟩
theorem rN {G : List (Nat × Obj)} (hG : zJ G) (a : List UInt8) (b : List UInt8) (ha : zZ a = true) (hc : zZ b = true) : zV Tryz.prog G 46 [.xq 1 (fun _ => .i 0) 0, .str a, .str b] (.str (za a b)) :=
 zW (T := ((U7 G).plus 41 UX).body Tryz.prog [(92, .auto)]) (an := .auto) mixed (zz.body mixed (zz.plus zN (QR hG)) _) (Eq.mp (by kernel_rfl) (Sw G a b ha hc))
theorem Rp {G : List (Nat × Obj)} (hG : zJ G) : zn Tryz.prog G 46 VM := by
 intro xs ps r h hp
 unfold VM at h
 split at h
 ·skip
  rename_i c_s a b
  cases h
  obtain ⟨q0, q1, q2, -⟩ := Zr hp
  exact weaken (ys := [.xq 1 (fun _ => .i 0) 0, .str a, .str b]) ⟨⟨rfl, rfl, YJ q0⟩, zX _, zX _, trivial⟩ (rN hG a b q1 q2)
 ·cases h
def wQ : List AV → Option (List zO × AV)
 | [.xq 1 c_s 0, .str a, .str b] => some ([.b (rS (c_s 0)), .p (zZ a = true), .p (zZ b = true)], .str (z7 a b))
 | _ => none
theorem sd (G : List (Nat × Obj)) (a : List UInt8) (b : List UInt8) (ha : zZ a = true) (hc : zZ b = true) :
 Zw [AV.xq 1 (fun (x : Nat) => aI iZ) 0, AV.str a, AV.str b] → zZ a = true ∧ zZ b = true ∧ z7 a b = z7 a b := by
 delta iZ aI
 intro hb
 simp only [sS, dS]
 exact ⟨ha, hc⟩
theorem Ri {G : List (Nat × Obj)} (hG : zJ G) (a : List UInt8) (b : List UInt8) (ha : zZ a = true) (hc : zZ b = true) : zV Tryz.prog G 50 [.xq 1 (fun _ => .i 0) 0, .str a, .str b] (.str (z7 a b)) :=
 zW (T := ((U7 G).plus 18 XD).body Tryz.prog [(92, .auto)]) (an := .auto) mixed (zz.body mixed (zz.plus zN (vB hG)) _) (Eq.mp (by kernel_rfl) (sd G a b ha hc))
theorem tk {G : List (Nat × Obj)} (hG : zJ G) : zn Tryz.prog G 50 wQ := by
 intro xs ps r h hp
 unfold wQ at h
 split at h
 ·skip
  rename_i c_s a b
  cases h
  obtain ⟨q0, q1, q2, -⟩ := Zr hp
  exact weaken (ys := [.xq 1 (fun _ => .i 0) 0, .str a, .str b]) ⟨⟨rfl, rfl, YJ q0⟩, zX _, zX _, trivial⟩ (Ri hG a b q1 q2)
 ·cases h
def vG : List AV → Option (List zO × AV)
 | [.xq 1 c_s 0, .str a, .str b] => some ([.b (rS (c_s 0)), .p (zZ a = true), .p (zZ b = true), .p (zU b ≠ 0)], .str (zh a b))
 | _ => none
theorem SC (G : List (Nat × Obj)) (a : List UInt8) (b : List UInt8) (ha : zZ a = true) (hc : zZ b = true) (hp : zU b ≠ 0) :
 Zw [AV.xq 1 (fun (x : Nat) => aI iZ) 0, AV.str a, AV.str b] → zZ a = true ∧ zZ b = true ∧ zU b ≠ iZ ∧ zh a b = zh a b := by
 delta iZ aI
 intro hb
 simp only [sS, dS]
 exact ⟨ha, hc, hp⟩
theorem qu {G : List (Nat × Obj)} (hG : zJ G) (a : List UInt8) (b : List UInt8) (ha : zZ a = true) (hc : zZ b = true) (hp : zU b ≠ 0) : zV Tryz.prog G 45 [.xq 1 (fun _ => .i 0) 0, .str a, .str b] (.str (zh a b)) :=
 zW (T := ((U7 G).plus 52 VI).body Tryz.prog [(92, .auto)]) (an := .auto) mixed (zz.body mixed (zz.plus zN (sn hG)) _) (Eq.mp (by kernel_rfl) (SC G a b ha hc hp))
theorem R2 {G : List (Nat × Obj)} (hG : zJ G) : zn Tryz.prog G 45 vG := by
 intro xs ps r h hp
 unfold vG at h
 split at h
 ·skip
  rename_i c_s a b
  cases h
  obtain ⟨q0, q1, q2, q3, -⟩ := Zr hp
  exact weaken (ys := [.xq 1 (fun _ => .i 0) 0, .str a, .str b]) ⟨⟨rfl, rfl, YJ q0⟩, zX _, zX _, trivial⟩ (qu hG a b q1 q2 q3)
 ·cases h
noncomputable def Pv (G : List (Nat × Obj)) : Tb := (((U7 G).plus 46 VM).plus 50 wQ).plus 45 vG
theorem xP {G : List (Nat × Obj)} (hG : zJ G) : zz Tryz.prog (Pv G) := zz.plus (zz.plus (zz.plus zN (Rp hG)) (tk hG)) (R2 hG)
def nz (a : zL) : Prop := zZ a = true ∧ zU a ≠ 0
def UY : List AV → Option (List zO × AV)
 | [.xq 1 c_s 0, .str p, .str q] => some ([.b (rS (c_s 0)), .p (zZ p = true)], .str (za [49] p))
 | _ => none
theorem rD (G : List (Nat × Obj)) (p : List UInt8) (q : List UInt8) (h1 : zZ p = true) :
 let q1 := (bA #[(49 : UInt8)]); Zw [AV.xq 1 (fun (x : Nat) => aI iZ) 0, AV.str p, AV.str q] → zZ q1 = true ∧ zZ p = true ∧ za q1 p = za [(49 : UInt8)] p := by
 delta bA iZ aI
 dsimp only
 intro hb
 simp only [sS, dS]
 exact ⟨by decide, h1⟩
theorem Qd {G : List (Nat × Obj)} (hG : zJ G) (p : List UInt8) (q : List UInt8) (h1 : zZ p = true) : zV Tryz.prog G 60 [.xq 1 (fun _ => .i 0) 0, .str p, .str q] (.str (za [49] p)) :=
 zW (T := Pv G) (an := .auto) mixed (xP hG) (Eq.mp (by kernel_rfl) (rD G p q h1))
theorem QV {G : List (Nat × Obj)} (hG : zJ G) : zn Tryz.prog G 60 UY := by
 intro xs ps r h hp
 unfold UY at h
 split at h
 ·skip
  rename_i c_s p q
  cases h
  obtain ⟨q0, q1, -⟩ := Zr hp
  exact weaken (ys := [.xq 1 (fun _ => .i 0) 0, .str p, .str q]) ⟨⟨rfl, rfl, YJ q0⟩, zX _, zX _, trivial⟩ (Qd hG p q q1)
 ·cases h
def tW : List AV → Option (List zO × AV)
 | [.xq 1 c_s 0, .str p, .str q] => some ([.b (rS (c_s 0)), .p (nz p), .p (nz q), .p (zZ (zh [49] p) = true), .p (zZ (zh [49] q) = true), .p (nz (za (zh [49] p) (zh [49] q)))], .str (zh [49] (za (zh [49] p) (zh [49] q))))
 | _ => none
theorem RY (G : List (Nat × Obj)) (p : List UInt8) (q : List UInt8) (h1 : nz p) (h2 : nz q) (h3 : zZ (zh [49] p) = true) (h4 : zZ (zh [49] q) = true) (h5 : nz (za (zh [49] p) (zh [49] q))) :
 let q1 := (bA #[(49 : UInt8)]); let q2 := (zh q1 p); let q3 := (zh q1 q); let q4 := (za q2 q3); Zw [AV.xq 1 (fun (x : Nat) => aI iZ) 0, AV.str p, AV.str q] → zZ q1 = true ∧ zZ p = true ∧ zU p ≠ iZ ∧ zZ q1 = true ∧ zZ q = true ∧ zU q ≠ iZ ∧ zZ q2 = true ∧ zZ q3 = true ∧ zZ q1 = true ∧ zZ q4 = true ∧ zU q4 ≠ iZ ∧ zh q1 q4 = zh [(49 : UInt8)] (za (zh [(49 : UInt8)] p) (zh [(49 : UInt8)] q)) := by
 delta bA iZ aI
 dsimp only
 intro hb
 simp only [sS, dS]
 exact ⟨by decide, h1.1, h1.2, by decide, h2.1, h2.2, h3, h4, by decide, h5⟩
theorem QL {G : List (Nat × Obj)} (hG : zJ G) (p : List UInt8) (q : List UInt8) (h1 : nz p) (h2 : nz q) (h3 : zZ (zh [49] p) = true) (h4 : zZ (zh [49] q) = true) (h5 : nz (za (zh [49] p) (zh [49] q))) : zV Tryz.prog G 44 [.xq 1 (fun _ => .i 0) 0, .str p, .str q] (.str (zh [49] (za (zh [49] p) (zh [49] q)))) :=
 zW (T := Pv G) (an := .auto) mixed (xP hG) (Eq.mp (by kernel_rfl) (RY G p q h1 h2 h3 h4 h5))
theorem pZ {G : List (Nat × Obj)} (hG : zJ G) : zn Tryz.prog G 44 tW := by
 intro xs ps r h hp
 unfold tW at h
 split at h
 ·skip
  rename_i c_s p q
  cases h
  obtain ⟨q0, q1, q2, q3, q4, q5, -⟩ := Zr hp
  exact weaken (ys := [.xq 1 (fun _ => .i 0) 0, .str p, .str q]) ⟨⟨rfl, rfl, YJ q0⟩, zX _, zX _, trivial⟩ (QL hG p q q1 q2 q3 q4 q5)
 ·cases h
def tU : List AV → Option (List zO × AV)
 | [.xq 1 c_s 0, .str p, .str q] => some ([.b (rS (c_s 0)), .p (nz p), .p (nz q), .p (zZ (zh [49] p) = true), .p (zZ (zh [49] q) = true), .p (zZ (za (zh [49] p) (zh [49] q)) = true)], .str (za [49] (za (zh [49] p) (zh [49] q))))
 | _ => none
theorem RX (G : List (Nat × Obj)) (p : List UInt8) (q : List UInt8) (h1 : nz p) (h2 : nz q) (h3 : zZ (zh [49] p) = true) (h4 : zZ (zh [49] q) = true) (h5 : zZ (za (zh [49] p) (zh [49] q)) = true) :
 let q1 := (bA #[(49 : UInt8)]); let q2 := (zh q1 p); let q3 := (zh q1 q); let q4 := (za q2 q3); Zw [AV.xq 1 (fun (x : Nat) => aI iZ) 0, AV.str p, AV.str q] → zZ q1 = true ∧ zZ p = true ∧ zU p ≠ iZ ∧ zZ q1 = true ∧ zZ q = true ∧ zU q ≠ iZ ∧ zZ q2 = true ∧ zZ q3 = true ∧ zZ q1 = true ∧ zZ q4 = true ∧ za q1 q4 = za [(49 : UInt8)] (za (zh [(49 : UInt8)] p) (zh [(49 : UInt8)] q)) := by
 delta bA iZ aI
 dsimp only
 intro hb
 simp only [sS, dS]
 exact ⟨by decide, h1.1, h1.2, by decide, h2.1, h2.2, h3, h4, by decide, h5⟩
theorem qL {G : List (Nat × Obj)} (hG : zJ G) (p : List UInt8) (q : List UInt8) (h1 : nz p) (h2 : nz q) (h3 : zZ (zh [49] p) = true) (h4 : zZ (zh [49] q) = true) (h5 : zZ (za (zh [49] p) (zh [49] q)) = true) : zV Tryz.prog G 48 [.xq 1 (fun _ => .i 0) 0, .str p, .str q] (.str (za [49] (za (zh [49] p) (zh [49] q)))) :=
 zW (T := Pv G) (an := .auto) mixed (xP hG) (Eq.mp (by kernel_rfl) (RX G p q h1 h2 h3 h4 h5))
theorem Qw {G : List (Nat × Obj)} (hG : zJ G) : zn Tryz.prog G 48 tU := by
 intro xs ps r h hp
 unfold tU at h
 split at h
 ·skip
  rename_i c_s p q
  cases h
  obtain ⟨q0, q1, q2, q3, q4, q5, -⟩ := Zr hp
  exact weaken (ys := [.xq 1 (fun _ => .i 0) 0, .str p, .str q]) ⟨⟨rfl, rfl, YJ q0⟩, zX _, zX _, trivial⟩ (qL hG p q q1 q2 q3 q4 q5)
 ·cases h
def tu : List AV → Option (List zO × AV)
 | [.xq 1 c_s 0, .str p, .str q] => some ([.b (rS (c_s 0)), .p (zZ p = true), .p (zZ q = true), .p (zZ (za [49] p) = true), .p (zZ (za [49] q) = true), .p (nz (z7 (za [49] p) (za [49] q)))], .str (zh [49] (z7 (za [49] p) (za [49] q))))
 | _ => none
theorem rL (G : List (Nat × Obj)) (p : List UInt8) (q : List UInt8) (h1 : zZ p = true) (h2 : zZ q = true) (h3 : zZ (za [49] p) = true) (h4 : zZ (za [49] q) = true) (h5 : nz (z7 (za [49] p) (za [49] q))) :
 let q1 := (bA #[(49 : UInt8)]); let q2 := (za q1 p); let q3 := (za q1 q); let q4 := (z7 q2 q3); Zw [AV.xq 1 (fun (x : Nat) => aI iZ) 0, AV.str p, AV.str q] → zZ q1 = true ∧ zZ p = true ∧ zZ q1 = true ∧ zZ q = true ∧ zZ q2 = true ∧ zZ q3 = true ∧ zZ q1 = true ∧ zZ q4 = true ∧ zU q4 ≠ iZ ∧ zh q1 q4 = zh [(49 : UInt8)] (z7 (za [(49 : UInt8)] p) (za [(49 : UInt8)] q)) := by
 delta bA iZ aI
 dsimp only
 intro hb
 simp only [sS, dS]
 exact ⟨by decide, h1, by decide, h2, h3, h4, by decide, h5⟩
theorem pY {G : List (Nat × Obj)} (hG : zJ G) (p : List UInt8) (q : List UInt8) (h1 : zZ p = true) (h2 : zZ q = true) (h3 : zZ (za [49] p) = true) (h4 : zZ (za [49] q) = true) (h5 : nz (z7 (za [49] p) (za [49] q))) : zV Tryz.prog G 49 [.xq 1 (fun _ => .i 0) 0, .str p, .str q] (.str (zh [49] (z7 (za [49] p) (za [49] q)))) :=
 zW (T := Pv G) (an := .auto) mixed (xP hG) (Eq.mp (by kernel_rfl) (rL G p q h1 h2 h3 h4 h5))
theorem QD {G : List (Nat × Obj)} (hG : zJ G) : zn Tryz.prog G 49 tu := by
 intro xs ps r h hp
 unfold tu at h
 split at h
 ·skip
  rename_i c_s p q
  cases h
  obtain ⟨q0, q1, q2, q3, q4, q5, -⟩ := Zr hp
  exact weaken (ys := [.xq 1 (fun _ => .i 0) 0, .str p, .str q]) ⟨⟨rfl, rfl, YJ q0⟩, zX _, zX _, trivial⟩ (pY hG p q q1 q2 q3 q4 q5)
 ·cases h
noncomputable def p9 (G : List (Nat × Obj)) : Tb := (((((((U7 G).plus 51 vD).plus 50 wQ).plus 39 SR).plus 60 UY).plus 44 tW).plus 48 tU).plus 49 tu
theorem Ut {G : List (Nat × Obj)} (hG : zJ G) : zz Tryz.prog (p9 G) := zz.plus (zz.plus (zz.plus (zz.plus (zz.plus (zz.plus (zz.plus zN (zn.mono S6)) (tk hG)) (PV hG)) (QV hG)) (pZ hG)) (Qw hG)) (QD hG)
def Sm  : Z4 :=
 .two .auto (.two (.two .auto (.one (.unroll 3 .auto))) .auto)
noncomputable def pF (G : List (Nat × Obj)) : Tb := (p9 G).body Tryz.prog [(47, Sm)]
theorem xj {G : List (Nat × Obj)} (hG : zJ G) : zz Tryz.prog (pF G) := zz.body mixed (Ut hG) _
theorem pB {r : zL} (hd : 0 < zS r) : Yf [49] r = zt (k1 r : Int) (zS r) := by
 have e : ([49] : zL) = zt ((1 : Nat) : Int) 1 := yP
 unfold Yf
 rw [e, Yq (by omega) hd, Nat.one_mul, show ((1 : Nat) : Int) * (k1 r : Int) = (k1 r : Int) from Int.one_mul _]
theorem wU {r : zL} (h : zZ r = true) (hp : 0 < zU r) : Pr ⟨[49], r⟩ := by
 obtain ⟨h1, h2, h3, h4⟩ := Z9 h
 obtain ⟨l1, l2, l3⟩ := WV h
 obtain ⟨a1, a2, a3, a4⟩ := tB hp h4
 have hb : k1 r ≤ 99999999 := by
  have b : (zU r).toNat * zS r ≤ 99999999 * 99999999 := Nat.mul_le_mul (by omega) h3
  have c : k1 r * k1 r * 1 ≤ k1 r * k1 r * Ar.l1 r := Nat.mul_le_mul_left _ a2
  exact Nat.le_of_lt_succ (vi (a := k1 r) (b := 100000000) (by omega))
 have hk : zZ (zt (k1 r : Int) (zS r)) = true := UZ h4 (by rw [Int.natAbs_natCast]; exact hb) h3
 exact ⟨(by decide : zZ [49] = true), (by decide : zU [49] ≠ 0), ⟨ws h, hp, by simp only; omega⟩, hk, by show zZ (Yf [49] r) = true; rw [pB h4]; exact hk⟩
theorem sP {n d : Nat} (hn : 0 < n) (hd : 0 < d) (h1 : n ≤ 99999999) (h2 : d ≤ 99999999) : zZ (zt (n : Int) d) = true ∧ 0 < zU (zt (n : Int) d) :=
 ⟨UZ hd (by rw [Int.natAbs_natCast]; exact h1) h2, xe hn hd⟩
theorem TH {N : Nat} (h : 0 < N ∧ N ≤ 48) : 0 < N * N ∧ N * N ≤ 2304 := ⟨Nat.mul_pos h.1 h.1, Nat.mul_le_mul h.2 h.2⟩
theorem Wa {p : zL} (h : xx p) : (zZ p = true ∧ 0 < zU p) ∧ (zZ (sw p) = true ∧ 0 < zU (sw p)) ∧ (zZ (xX p) = true ∧ 0 < zU (xX p)) ∧ zZ (zh V3 (sw p)) = true := by
 obtain ⟨N, D, hN, hD, rfl⟩ := h
 have n2 := TH hN
 have d2 := TH hD
 rw [tt hN.1 hD.1, U2 hD.1, XW hD.1]
 exact ⟨sP hN.1 hD.1 (by omega) (by omega), sP n2.1 d2.1 (by omega) (by omega), sP (by omega) d2.1 (by omega) (by omega), (sP d2.1 n2.1 (by omega) (by omega)).1⟩
theorem qD {p q : zL} (hp : xx p) (hq : xx q) : (zZ (Vm p q) = true ∧ 0 < zU (Vm p q)) ∧ (zZ (Yd p q) = true ∧ 0 < zU (Yd p q)) ∧ (zZ (YD p q) = true ∧ 0 < zU (YD p q)) ∧
  (zZ (z7 (xX p) (xX q)) = true ∧ 0 < zU (z7 (xX p) (xX q))) ∧ (zZ (Yc p q) = true ∧ 0 < zU (Yc p q)) := by
 obtain ⟨N, D, hN, hD, rfl⟩ := hp
 obtain ⟨M, E, hM, hE, rfl⟩ := hq
 have n2 := TH hN
 have d2 := TH hD
 have m2 := TH hM
 have e2 := TH hE
 have h1 : 0 < D * D * (M * M) ∧ D * D * (M * M) ≤ 2304 * 2304 := ⟨Nat.mul_pos d2.1 m2.1, Nat.mul_le_mul d2.2 m2.2⟩
 have h2 : E * E * (N * N) ≤ 2304 * 2304 := Nat.mul_le_mul e2.2 n2.2
 have h3 : 0 < N * N * (M * M) ∧ N * N * (M * M) ≤ 2304 * 2304 := ⟨Nat.mul_pos n2.1 m2.1, Nat.mul_le_mul n2.2 m2.2⟩
 have h4 : N * M * (N * M) = N * N * (M * M) := by grind
 have h5 : D * E * (D * E) = D * D * (E * E) := by grind
 have h6 : 0 < D * D * (E * E) ∧ D * D * (E * E) ≤ 2304 * 2304 := ⟨Nat.mul_pos d2.1 e2.1, Nat.mul_le_mul d2.2 e2.2⟩
 have h7 : 0 < (D * D + N * N) * (E * E + M * M) ∧ (D * D + N * N) * (E * E + M * M) ≤ 4608 * 4608 := ⟨Nat.mul_pos (by omega) (by omega), Nat.mul_le_mul (by omega) (by omega)⟩
 rw [Vi hN.1 hD.1 hM.1 hE.1, qX hN.1 hD.1 hM.1 hE.1, RP hN.1 hD.1 hM.1 hE.1, qW hD.1 hE.1, XW hD.1, XW hE.1, Yq d2.1 e2.1, ← Int.natCast_mul, h4, h5]
 exact ⟨sP (by omega) h3.1 (by omega) (by omega), sP h3.1 (by omega) (by omega) (by omega), sP (by omega) h3.1 (by omega) (by omega), sP h7.1 h6.1 (by omega) (by omega), sP h6.1 h7.1 (by omega) (by omega)⟩
def tX : List AV → Option (List zO × AV)
 | [.str p] => some ([.p (xx p)], .tup 2 (zY [.xl false 2 1 (fun _ => zY [.str (Yf [49] (xX p)), .str (Lib.itoa (l1 (xX p) : Int))]), .i 0]))
 | _ => none
theorem RD (G : List (Nat × Obj)) (p : List UInt8) (hp : xx p) :
 let q1 := (bA #[(49 : UInt8)]); let q3 := (Pt.mk (AV.bytes (AV.str q1)) (AV.bytes (AV.str (za [(49 : UInt8)] (z7 p p))))); let q2 := (Pt.n q3); let q4 := (Pt.d q3); let q5 := (Yf q2 q4); Zw [AV.str p] → zZ p = true ∧ iZ < zU p ∧ zZ q1 = true ∧ iZ < zU q1 ∧ zZ p = true ∧ zZ p = true ∧ zZ q1 = true ∧ zZ q1 = true ∧ zZ (z7 p p) = true ∧ (zZ q2 = true ∧ zU q2 ≠ iZ ∧ ((Zj q4 = iZ ∧ (zZ q4 = true ∨ zr q4 = false)) ∧ iZ < zU q4 ∧ lN (zR q4) + lN (Zx q4) ≤ 17) ∧
 zZ (zt (cI (k1 q4)) (zS q4)) = true ∧ zZ q5 = true) ∧ j2 ∧ (True ∧ Z5 (AV.xl false 2 1 fun (x i : Nat) => Option.getD [AV.str q5, AV.str (Lib.itoa (cI (l1 q4)))][i]? AV.junk) (AV.xl false 2 1 fun (x i : Nat) => Option.getD [AV.str (Yf [(49 : UInt8)] (xX p)), AV.str (Lib.itoa (cI (l1 (xX p))))][i]? AV.junk)) ∧ kI ∧ iZ = iZ := by
 delta bA cI kI j2 lN iZ
 dsimp only
 intro hb
 simp only [sS, dS, and_self]
 obtain ⟨⟨a1, a2⟩, ⟨a3, a4⟩, ⟨a5, a6⟩, a7⟩ := Wa hp
 exact ⟨a1, a2, by decide, by decide, a1, a1, by decide, by decide, a3, wU a5 a6, rfl, zX _⟩
theorem qh {G : List (Nat × Obj)} (hG : zJ G) (p : List UInt8) (hp : xx p) : zV Tryz.prog G 24 [.str p] (.tup 2 (zY [.xl false 2 1 (fun _ => zY [.str (Yf [49] (xX p)), .str (Lib.itoa (l1 (xX p) : Int))]), .i 0])) :=
 zW (T := pF G) (an := .auto) mixed (xj hG) (Eq.mp (by kernel_rfl) (RD G p hp))
theorem Q8 {G : List (Nat × Obj)} (hG : zJ G) : zn Tryz.prog G 24 tX := by
 intro xs ps r h hp
 unfold tX at h
 split at h
 ·skip
  rename_i p
  cases h
  obtain ⟨q0, -⟩ := Zr hp
  exact weaken (ys := [.str p]) ⟨zX _, trivial⟩ (qh hG p q0)
 ·cases h
def Uw : List AV → Option (List zO × AV)
 | [.str p, .str q] => some ([.p (xx p), .p (xx q)], .tup 2 (zY [.xl false 2 1 (fun _ => zY [.str (Yf [49] (Yd p q)), .str (Lib.itoa (l1 (Yd p q) : Int))]), .i 0]))
 | _ => none
theorem Ru (G : List (Nat × Obj)) (p : List UInt8) (q : List UInt8) (hp : xx p) (hq : xx q) :
 let q1 := (za (zh [(49 : UInt8)] (z7 p p)) (zh [(49 : UInt8)] (z7 q q))); let q3 := (Pt.mk (AV.bytes (AV.str (bA #[(49 : UInt8)]))) (AV.bytes (AV.str (zh [(49 : UInt8)] q1)))); let q2 := (Pt.n q3); let q4 := (Pt.d q3); let q5 := (Yf q2 q4); Zw [AV.str p, AV.str q] → zZ p = true ∧ iZ < zU p ∧ zZ q = true ∧ iZ < zU q ∧ zZ p = true ∧ zZ p = true ∧ zZ q = true ∧ zZ q = true ∧ (zZ (z7 p p) = true ∧ zU (z7 p p) ≠ iZ) ∧ (zZ (z7 q q) = true ∧ zU (z7 q q) ≠ iZ) ∧ zZ (zh [(49 : UInt8)]
 (z7 p p)) = true ∧ zZ (zh [(49 : UInt8)] (z7 q q)) = true ∧ (zZ q1 = true ∧ zU q1 ≠ iZ) ∧ (zZ q2 = true ∧ zU q2 ≠ iZ ∧ ((Zj q4 = iZ ∧ (zZ q4 = true ∨ zr q4 = false)) ∧ iZ < zU q4 ∧ lN (zR q4) + lN (Zx q4) ≤ 17) ∧ zZ (zt (cI (k1 q4)) (zS q4)) = true ∧ zZ q5 = true) ∧ j2 ∧ (True ∧ Z5 (AV.xl false 2 1 fun (x i : Nat) => Option.getD [AV.str q5, AV.str (Lib.itoa (cI (l1 q4)))][i]? AV.junk) (AV.xl false 2 1 fun (x i : Nat) => Option.getD [AV.str (Yf [(49 : UInt8)] (Yd p
 q)), AV.str (Lib.itoa (cI (l1 (Yd p q))))][i]? AV.junk)) ∧ kI ∧ iZ = iZ := by
 delta bA cI kI j2 lN iZ
 dsimp only
 intro hb
 simp only [sS, dS, and_self]
 obtain ⟨⟨a1, a2⟩, ⟨a3, a4⟩, ⟨a5, a6⟩, a7⟩ := Wa hp
 obtain ⟨⟨b1, b2⟩, ⟨b3, b4⟩, ⟨b5, b6⟩, b7⟩ := Wa hq
 obtain ⟨⟨c1, c2⟩, ⟨c3, c4⟩, ⟨c5, c6⟩, ⟨c7, c8⟩, ⟨c9, c10⟩⟩ := qD hp hq
 exact ⟨a1, a2, b1, b2, a1, a1, b1, b1, ⟨a3, (Int.ne_of_lt a4).symm⟩, ⟨b3, (Int.ne_of_lt b4).symm⟩, a7, b7, ⟨c1, (Int.ne_of_lt c2).symm⟩, wU c3 c4, rfl, zX _⟩
theorem Qo {G : List (Nat × Obj)} (hG : zJ G) (p : List UInt8) (q : List UInt8) (hp : xx p) (hq : xx q) : zV Tryz.prog G 13 [.str p, .str q] (.tup 2 (zY [.xl false 2 1 (fun _ => zY [.str (Yf [49] (Yd p q)), .str (Lib.itoa (l1 (Yd p q) : Int))]), .i 0])) :=
 zW (T := pF G) (an := .auto) mixed (xj hG) (Eq.mp (by kernel_rfl) (Ru G p q hp hq))
theorem QN {G : List (Nat × Obj)} (hG : zJ G) : zn Tryz.prog G 13 Uw := by
 intro xs ps r h hp
 unfold Uw at h
 split at h
 ·skip
  rename_i p q
  cases h
  obtain ⟨q0, q1, -⟩ := Zr hp
  exact weaken (ys := [.str p, .str q]) ⟨zX _, zX _, trivial⟩ (Qo hG p q q0 q1)
 ·cases h
def UM : List AV → Option (List zO × AV)
 | [.str p, .str q] => some ([.p (xx p), .p (xx q)], .tup 2 (zY [.xl false 2 1 (fun _ => zY [.str (Yf [49] (YD p q)), .str (Lib.itoa (l1 (YD p q) : Int))]), .i 0]))
 | _ => none
theorem rO (G : List (Nat × Obj)) (p : List UInt8) (q : List UInt8) (hp : xx p) (hq : xx q) :
 let q1 := (za (zh [(49 : UInt8)] (z7 p p)) (zh [(49 : UInt8)] (z7 q q))); let q3 := (Pt.mk (AV.bytes (AV.str (bA #[(49 : UInt8)]))) (AV.bytes (AV.str (za [(49 : UInt8)] q1)))); let q2 := (Pt.n q3); let q4 := (Pt.d q3); let q5 := (Yf q2 q4); Zw [AV.str p, AV.str q] → zZ p = true ∧ iZ < zU p ∧ zZ q = true ∧ iZ < zU q ∧ zZ p = true ∧ zZ p = true ∧ zZ q = true ∧ zZ q = true ∧ (zZ (z7 p p) = true ∧ zU (z7 p p) ≠ iZ) ∧ (zZ (z7 q q) = true ∧ zU (z7 q q) ≠ iZ) ∧ zZ (zh [(49 : UInt8)]
 (z7 p p)) = true ∧ zZ (zh [(49 : UInt8)] (z7 q q)) = true ∧ zZ q1 = true ∧ (zZ q2 = true ∧ zU q2 ≠ iZ ∧ ((Zj q4 = iZ ∧ (zZ q4 = true ∨ zr q4 = false)) ∧ iZ < zU q4 ∧ lN (zR q4) + lN (Zx q4) ≤ 17) ∧ zZ (zt (cI (k1 q4)) (zS q4)) = true ∧ zZ q5 = true) ∧ j2 ∧ (True ∧ Z5 (AV.xl false 2 1 fun (x i : Nat) => Option.getD [AV.str q5, AV.str (Lib.itoa (cI (l1 q4)))][i]? AV.junk) (AV.xl false 2 1 fun (x i : Nat) => Option.getD [AV.str (Yf [(49 : UInt8)] (YD p q)), AV.str (Lib.itoa (cI (l1
 (YD p q))))][i]? AV.junk)) ∧ kI ∧ iZ = iZ := by
 delta bA cI kI j2 lN iZ
 dsimp only
 intro hb
 simp only [sS, dS, and_self]
 obtain ⟨⟨a1, a2⟩, ⟨a3, a4⟩, ⟨a5, a6⟩, a7⟩ := Wa hp
 obtain ⟨⟨b1, b2⟩, ⟨b3, b4⟩, ⟨b5, b6⟩, b7⟩ := Wa hq
 obtain ⟨⟨c1, c2⟩, ⟨c3, c4⟩, ⟨c5, c6⟩, ⟨c7, c8⟩, ⟨c9, c10⟩⟩ := qD hp hq
 exact ⟨a1, a2, b1, b2, a1, a1, b1, b1, ⟨a3, (Int.ne_of_lt a4).symm⟩, ⟨b3, (Int.ne_of_lt b4).symm⟩, a7, b7, c1, wU c5 c6, rfl, zX _⟩
theorem Q6 {G : List (Nat × Obj)} (hG : zJ G) (p : List UInt8) (q : List UInt8) (hp : xx p) (hq : xx q) : zV Tryz.prog G 14 [.str p, .str q] (.tup 2 (zY [.xl false 2 1 (fun _ => zY [.str (Yf [49] (YD p q)), .str (Lib.itoa (l1 (YD p q) : Int))]), .i 0])) :=
 zW (T := pF G) (an := .auto) mixed (xj hG) (Eq.mp (by kernel_rfl) (rO G p q hp hq))
theorem QW {G : List (Nat × Obj)} (hG : zJ G) : zn Tryz.prog G 14 UM := by
 intro xs ps r h hp
 unfold UM at h
 split at h
 ·skip
  rename_i p q
  cases h
  obtain ⟨q0, q1, -⟩ := Zr hp
  exact weaken (ys := [.str p, .str q]) ⟨zX _, zX _, trivial⟩ (Q6 hG p q q0 q1)
 ·cases h
def Uv : List AV → Option (List zO × AV)
 | [.str p, .str q] => some ([.p (xx p), .p (xx q)], .tup 2 (zY [.xl false 2 1 (fun _ => zY [.str (Yf [49] (Yc p q)), .str (Lib.itoa (l1 (Yc p q) : Int))]), .i 0]))
 | _ => none
theorem rK (G : List (Nat × Obj)) (p : List UInt8) (q : List UInt8) (hp : xx p) (hq : xx q) :
 let q1 := (z7 (za [(49 : UInt8)] (z7 p p)) (za [(49 : UInt8)] (z7 q q))); let q3 := (Pt.mk (AV.bytes (AV.str (bA #[(49 : UInt8)]))) (AV.bytes (AV.str (zh [(49 : UInt8)] q1)))); let q2 := (Pt.n q3); let q4 := (Pt.d q3); let q5 := (Yf q2 q4); Zw [AV.str p, AV.str q] → zZ p = true ∧ iZ < zU p ∧ zZ q = true ∧ iZ < zU q ∧ zZ p = true ∧ zZ p = true ∧ zZ q = true ∧ zZ q = true ∧ zZ (z7 p p) = true ∧ zZ (z7 q q) = true ∧ zZ (za [(49 : UInt8)] (z7 p p)) = true ∧ zZ (za [(49 : UInt8)] (z7 q q)) =
 true ∧ (zZ q1 = true ∧ zU q1 ≠ iZ) ∧ (zZ q2 = true ∧ zU q2 ≠ iZ ∧ ((Zj q4 = iZ ∧ (zZ q4 = true ∨ zr q4 = false)) ∧ iZ < zU q4 ∧ lN (zR q4) + lN (Zx q4) ≤ 17) ∧ zZ (zt (cI (k1 q4)) (zS q4)) = true ∧ zZ q5 = true) ∧ j2 ∧ (True ∧ Z5 (AV.xl false 2 1 fun (x i : Nat) => Option.getD [AV.str q5, AV.str (Lib.itoa (cI (l1 q4)))][i]? AV.junk) (AV.xl false 2 1 fun (x i : Nat) => Option.getD [AV.str (Yf [(49 : UInt8)] (Yc p q)), AV.str (Lib.itoa (cI (l1 (Yc p q))))][i]? AV.junk)) ∧
 kI ∧ iZ = iZ := by
 delta bA cI kI j2 lN iZ
 dsimp only
 intro hb
 simp only [sS, dS, and_self]
 obtain ⟨⟨a1, a2⟩, ⟨a3, a4⟩, ⟨a5, a6⟩, a7⟩ := Wa hp
 obtain ⟨⟨b1, b2⟩, ⟨b3, b4⟩, ⟨b5, b6⟩, b7⟩ := Wa hq
 obtain ⟨⟨c1, c2⟩, ⟨c3, c4⟩, ⟨c5, c6⟩, ⟨c7, c8⟩, ⟨c9, c10⟩⟩ := qD hp hq
 exact ⟨a1, a2, b1, b2, a1, a1, b1, b1, a3, b3, a5, b5, ⟨c7, (Int.ne_of_lt c8).symm⟩, wU c9 c10, rfl, zX _⟩
theorem qI {G : List (Nat × Obj)} (hG : zJ G) (p : List UInt8) (q : List UInt8) (hp : xx p) (hq : xx q) : zV Tryz.prog G 15 [.str p, .str q] (.tup 2 (zY [.xl false 2 1 (fun _ => zY [.str (Yf [49] (Yc p q)), .str (Lib.itoa (l1 (Yc p q) : Int))]), .i 0])) :=
 zW (T := pF G) (an := .auto) mixed (xj hG) (Eq.mp (by kernel_rfl) (rK G p q hp hq))
theorem qc {G : List (Nat × Obj)} (hG : zJ G) : zn Tryz.prog G 15 Uv := by
 intro xs ps r h hp
 unfold Uv at h
 split at h
 ·skip
  rename_i p q
  cases h
  obtain ⟨q0, q1, -⟩ := Zr hp
  exact weaken (ys := [.str p, .str q]) ⟨zX _, zX _, trivial⟩ (qI hG p q q0 q1)
 ·cases h
def Vu : List AV → Option (List zO × AV)
 | [.str p, .str q] => some ([.p (xx p), .p (xx q)], .tup 2 (zY [.str (zh q p), .i 0]))
 | _ => none
theorem s7 (G : List (Nat × Obj)) (p : List UInt8) (q : List UInt8) (hp : xx p) (hq : xx q) :
 Zw [AV.str p, AV.str q] → zZ p = true ∧ iZ < zU p ∧ zZ q = true ∧ iZ < zU q ∧ zZ q = true ∧ zZ p = true ∧ zU p ≠ iZ ∧ j2 ∧ (True ∧ zh q p = zh q p) ∧ kI ∧ iZ = iZ := by
 delta kI j2 iZ
 intro hb
 simp only [sS, dS]
 obtain ⟨⟨a1, a2⟩, _⟩ := Wa hp
 obtain ⟨⟨b1, b2⟩, _⟩ := Wa hq
 exact ⟨a1, a2, b1, b2, b1, a1, (Int.ne_of_lt a2).symm, rfl⟩
theorem rU {G : List (Nat × Obj)} (hG : zJ G) (p : List UInt8) (q : List UInt8) (hp : xx p) (hq : xx q) : zV Tryz.prog G 17 [.str p, .str q] (.tup 2 (zY [.str (zh q p), .i 0])) :=
 zW (T := ((U7 G).plus 51 vD).plus 52 VI) (an := .auto) mixed (zz.plus (zz.plus zN (zn.mono S6)) (sn hG)) (Eq.mp (by kernel_rfl) (s7 G p q hp hq))
theorem RQ {G : List (Nat × Obj)} (hG : zJ G) : zn Tryz.prog G 17 Vu := by
 intro xs ps r h hp
 unfold Vu at h
 split at h
 ·skip
  rename_i p q
  cases h
  obtain ⟨q0, q1, -⟩ := Zr hp
  exact weaken (ys := [.str p, .str q]) ⟨zX _, zX _, trivial⟩ (rU hG p q q0 q1)
 ·cases h
end Go.Te

namespace Go.Te
open Go Go.Sx Go.Proofs Go.Ar
set_option maxRecDepth 100000
set_option maxHeartbeats 4000000
def RH  : Z4 :=
 .two .auto (.two .auto (.two (.two .auto (.one (.unroll 2 .auto))) .auto))
def tp : List AV → Option (List zO × AV)
 | [.xl f_a 2 1 x_a, .xl f_b 2 1 x_b] => some ([.b (yJ (x_a 0 0) && yJ (x_a 0 1)), .b (yJ (x_b 0 0) && yJ (x_b 0 1))], .b ((⟨AV.bytes (x_a 0 0), AV.bytes (x_a 0 1)⟩ : Pt).n == (⟨AV.bytes (x_b 0 0), AV.bytes (x_b 0 1)⟩ : Pt).n && (⟨AV.bytes (x_a 0 0), AV.bytes (x_a 0 1)⟩ : Pt).d == (⟨AV.bytes (x_b 0 0), AV.bytes (x_b 0 1)⟩ : Pt).d))
 | _ => none
theorem RS (a : Pt) (b : Pt) :
 Zw [AV.xl false 2 1 fun (x i : Nat) => Option.getD [AV.str (Pt.n a), AV.str (Pt.d a)][i]? AV.junk, AV.xl false 2 1 fun (x i : Nat) => Option.getD [AV.str (Pt.n b), AV.str (Pt.d b)][i]? AV.junk] → zw (!(Pt.n a == Pt.n b && (Pt.d a == Pt.d b && true))) (false = (Pt.n a == Pt.n b && Pt.d a == Pt.d b)) (true = (Pt.n a == Pt.n b && Pt.d a == Pt.d b)) := by
 intro hb
 generalize (a.n == b.n) = x
 generalize (a.d == b.d) = y
 cases x <;> cases y <;> rfl
theorem Qz (a : Pt) (b : Pt) : zV Tryz.prog [] 16 [.xl false 2 1 (fun _ => zY [.str a.n, .str a.d]), .xl false 2 1 (fun _ => zY [.str b.n, .str b.d])] (.b (a.n == b.n && a.d == b.d)) :=
 zW (T := T0) (an := RH) mixed zN (Eq.mp (by kernel_rfl) (RS a b))
theorem QI : zn Tryz.prog [] 16 tp := by
 intro xs ps r h hp
 unfold tp at h
 split at h
 ·skip
  rename_i f_a x_a f_b x_b
  cases h
  obtain ⟨q0, q1, -⟩ := Zr hp
  exact weaken (ys := [.xl false 2 1 (fun _ => zY [.str (⟨AV.bytes (x_a 0 0), AV.bytes (x_a 0 1)⟩ : Pt).n, .str (⟨AV.bytes (x_a 0 0), AV.bytes (x_a 0 1)⟩ : Pt).d]), .xl false 2 1 (fun _ => zY [.str (⟨AV.bytes (x_b 0 0), AV.bytes (x_b 0 1)⟩ : Pt).n, .str (⟨AV.bytes (x_b 0 0), AV.bytes (x_b 0 1)⟩ : Pt).d])]) ⟨tz q0, tz q1, trivial⟩ (Qz (⟨AV.bytes (x_a 0 0), AV.bytes (x_a 0 1)⟩ : Pt) (⟨AV.bytes (x_b 0 0), AV.bytes (x_b 0 1)⟩ : Pt))
 ·cases h
theorem qH (c n : List UInt8) : Vw Tryz.prog T0 37 .auto [.str c, .str n] (.xl false 2 1 fun _ => zY [.str c, .str n]) := by
 unfold Vw
 intro hb
 cbv
 refine ⟨fun _ => rfl, fun i j hi hj => ?_⟩
 obtain rfl : i = 0 := by omega
 match j, hj with
 | 0, _ => exact rfl
 | 1, _ => exact rfl
def Uu : List AV → Option (List zO × AV)
 | [.str c, .str n] => some ([], .xl false 2 1 fun _ => zY [.str c, .str n])
 | _ => none
theorem qN : zn Tryz.prog [] 37 Uu := by
 intro xs ps r h hp
 unfold Uu at h
 split at h
 ·rename_i c n
  cases h
  exact zW mixed zN (qH c n)
 ·cases h
theorem ua : xx [49] := ⟨1, 1, by decide, by decide, yP⟩
theorem pO : xx [51, 47, 52] := ⟨3, 4, by decide, by decide, by decide +kernel⟩
noncomputable def PL (G : List (Nat × Obj)) : Tb := ((((((U7 G).plus 24 tX).plus 13 Uw).plus 14 UM).plus 15 Uv).plus 17 Vu).plus 16 tp |>.plus 37 Uu
theorem vz {G : List (Nat × Obj)} (hG : zJ G) : zz Tryz.prog (PL G) := zz.plus (zz.plus (zz.plus (zz.plus (zz.plus (zz.plus (zz.plus zN (Q8 hG)) (QN hG)) (QW hG)) (qc hG)) (RQ hG)) (zn.mono QI)) (zn.mono qN)
def VN : List AV → Option (List zO × AV)
 | [] => some ([], .b true)
 | _ => none
theorem Sg (G : List (Nat × Obj)) :
 let q1 := (ByteArray.data (ByteArray.mk #[(51 : UInt8), (47 : UInt8), (52 : UInt8)])); let q3 := (ByteArray.data (ByteArray.mk #[(49 : UInt8)])); let q2 := (∃ (N : Nat), ∃ (D : Nat), (0 < N ∧ N ≤ 48) ∧ (0 < D ∧ D ≤ 48) ∧ Array.toList q3 = zt (cI N) D); let q5 := (AV.bytes (AV.str (Lib.itoa (↑1 : Int)))); let q4 := (Pt.mk (AV.bytes (AV.str (Yf [(49 : UInt8)] (xX (Array.toList q1))))) q5); let q8 := (Array.toList q3); let q7 := (AV.bytes (AV.str q8)); let q6 := (Pt.mk (AV.bytes (AV.str (bA #[(53 : UInt8), (47 : UInt8), (52 : UInt8)]))) q7); let
 q9 := (Pt.mk (AV.bytes (AV.str (Yf [(49 : UInt8)] (Yd q8 q8)))) (AV.bytes (AV.str (Lib.itoa (↑2 : Int))))); let q11 := (AV.bytes (AV.str (bA #[(49 : UInt8), (47 : UInt8), (50 : UInt8)]))); let q10 := (Pt.mk q11 (AV.bytes (AV.str (bA #[(50 : UInt8)])))); let q12 := (Pt.mk (AV.bytes (AV.str (Yf [(49 : UInt8)] (YD q8 q8)))) (AV.bytes (AV.str (Lib.itoa (↑3 : Int))))); let q13 := (Pt.mk q7 (AV.bytes (AV.str (bA #[(51 : UInt8)])))); let q14 := (Pt.mk (AV.bytes (AV.str
 (Yf [(49 : UInt8)] (Yc q8 q8)))) q5); let q15 := (Pt.mk q11 q7); Zw [] → (∃ (N : Nat), ∃ (D : Nat), (0 < N ∧ N ≤ 48) ∧ (0 < D ∧ D ≤ 48) ∧ Array.toList q1 = zt (cI N) D) ∧ q2 ∧ q2 ∧ q2 ∧ q2 ∧ q2 ∧ q2 ∧ q2 ∧ q2 ∧ (bif bif bif bif bif (if iZ > if iZ > if iZ > if iZ > iZ then iZ else iZ then iZ else if iZ > iZ then iZ else iZ then iZ else if iZ > if iZ > iZ then iZ else iZ then iZ else if iZ > iZ then iZ else iZ then iZ
 else if iZ > if iZ > if iZ > iZ then iZ else iZ then iZ else if iZ > iZ then iZ else iZ then iZ else if iZ > if iZ > iZ then iZ else iZ then iZ else if iZ > iZ then iZ else iZ) == iZ then Pt.n q4 == Pt.n q6 && Pt.d q4 == Pt.d q6 else false then Pt.n q9 == Pt.n q10 && Pt.d q9 == Pt.d q10 else false then Pt.n q12 == Pt.n q13 && Pt.d q12 == Pt.d q13 else false then zh q8 q8 == Array.toList q3 else false then Pt.n q14 == Pt.n q15 && Pt.d
 q14 == Pt.d q15 else false) = true := by
 delta bA cI iZ
 dsimp only
 intro hb
 simp only [sS, dS]
 exact ⟨pO, ua, ua, ua, ua, ua, ua, ua, ua, by decide +kernel⟩
theorem rB {G : List (Nat × Obj)} (hG : zJ G)  : zV Tryz.prog G 19 [] (.b true) :=
 zW (T := PL G) (an := .auto) mixed (vz hG) (Eq.mp (by kernel_rfl) (Sg G ))
theorem qV {G : List (Nat × Obj)} (hG : zJ G) : zn Tryz.prog G 19 VN := by
 intro xs ps r h hp
 unfold VN at h
 split at h
 ·skip
  cases h
  exact weaken (ys := []) trivial (rB hG )
 ·cases h
end Go.Te

namespace Go.Te
open Go Go.Sx Go.Proofs Go.Ar
set_option maxRecDepth 100000
set_option maxHeartbeats 4000000
def pP (a b : Int) : zL := zt (a.tmod 48 + 1) (b.tmod 48 + 1).toNat
def v7 (a : Int) : Prop := 0 ≤ a ∧ a ≤ 255
theorem qZ {a : Int} (h : v7 a) : 1 ≤ a.tmod 48 + 1 ∧ a.tmod 48 + 1 ≤ 48 := by
 unfold v7 at h
 rw [Int.tmod_eq_emod_of_nonneg h.1]; omega
theorem US {a b : Int} (ha : v7 a) (hb : v7 b) : xx (pP a b) := by
 have h1 := qZ ha
 have h2 := qZ hb
 refine ⟨(a.tmod 48 + 1).toNat, (b.tmod 48 + 1).toNat, by omega, by omega, ?_⟩
 unfold pP
 congr 1
 omega
def VK : List AV → Option (List zO × AV)
 | [.v (.int .u8 a), .v (.int .u8 b)] => some ([.p (v7 a), .p (v7 b)], .tup 3 (zY [.str (pP a b), .str (sw (pP a b)), .b true]))
 | _ => none
theorem SF (G : List (Nat × Obj)) (a : Int) (b : Int) (ha : v7 a) (hc : v7 b) :
 let q2 := (Int.toNat (Int.tmod b (48 : Int) + iO)); let q1 := (zt (Int.tmod a (48 : Int) + iO) q2); Zw [AV.v (Value.int IntKind.u8 a), AV.v (Value.int IntKind.u8 b)] → bF (dK a) (bF (dK (Int.tmod a (48 : Int) + iO)) (bF (dK b) (bF (dK (Int.tmod b (48 : Int) + iO)) (((-10000000000000000 : Int) ≤ Int.tmod a (48 : Int) + iO ∧ Int.tmod a (48 : Int) + iO ≤ (10000000000000000 : Int)) ∧ (iZ < Int.tmod b (48 : Int) + iO ∧ Int.tmod b (48 : Int) + iO ≤
 (10000000000000000 : Int)) ∧ zZ q1 = true ∧ zZ q1 = true ∧ 3 = lN [AV.junk, AV.junk, AV.junk] ∧ ((True ∧ zt (Int.tmod a (48 : Int) + iO) q2 = pP a b) ∧ z7 q1 q1 = sw (pP a b)) ∧ (bif iZ == iZ then iZ == iZ else false) = true)))) := by
 delta bF dK lN iZ iO
 dsimp only
 intro hb
 simp only [sS, dS]
 have h1 := qZ ha
 have h2 := qZ hc
 have h3 : zZ (zt (a.tmod 48 + 1) (b.tmod 48 + 1).toNat) = true := (Wa (US ha hc)).1.1
 unfold v7 at ha hc
 exact ⟨by simp only [Ys]; omega, by simp only [Ys]; omega, by simp only [Ys]; omega, by simp only [Ys]; omega, ⟨by omega, by omega⟩, ⟨by omega, by omega⟩, h3, h3, rfl, ⟨rfl, rfl⟩, by decide⟩
theorem rp {G : List (Nat × Obj)} (hG : zJ G) (a : Int) (b : Int) (ha : v7 a) (hc : v7 b) : zV Tryz.prog G 12 [.v (.int .u8 a), .v (.int .u8 b)] (.tup 3 (zY [.str (pP a b), .str (sw (pP a b)), .b true])) :=
 zW (T := ((U7 G).plus 38 tF).plus 18 XD) (an := .auto) mixed (zz.plus (zz.plus zN (qQ hG)) (vB hG)) (Eq.mp (by kernel_rfl) (SF G a b ha hc))
theorem Rw {G : List (Nat × Obj)} (hG : zJ G) : zn Tryz.prog G 12 VK := by
 intro xs ps r h hp
 unfold VK at h
 split at h
 ·skip
  rename_i a b
  cases h
  obtain ⟨q0, q1, -⟩ := Zr hp
  exact weaken (ys := [.v (.int .u8 a), .v (.int .u8 b)]) ⟨zX _, zX _, trivial⟩ (rp hG a b q0 q1)
 ·cases h
theorem sf {p q : zL} (hp : xx p) (hq : xx q) : zZ (zh q p) = true ∧ zZ (zh p q) = true ∧ z7 (zh q p) (zh p q) = [49] := by
 obtain ⟨N, D, hN, hD, rfl⟩ := hp
 obtain ⟨M, E, hM, hE, rfl⟩ := hq
 have m : ∀ {x y : Nat}, (0 < x ∧ x ≤ 48) → (0 < y ∧ y ≤ 48) → 0 < x * y ∧ x * y ≤ 2304 := fun h1 h2 => ⟨Nat.mul_pos h1.1 h2.1, Nat.mul_le_mul h1.2 h2.2⟩
 have a1 := m hM hD
 have a2 := m hE hN
 have a3 := m hN hE
 have a4 := m hD hM
 rw [Yv hE.1 hD.1 hN.1, Yv hD.1 hE.1 hM.1, ← Int.natCast_mul, ← Int.natCast_mul]
 refine ⟨(sP a1.1 a2.1 (by omega) (by omega)).1, (sP a3.1 a4.1 (by omega) (by omega)).1, ?_⟩
 rw [Yq a2.1 a4.1]
 refine Eq.trans ((XP (Nat.mul_pos a2.1 a4.1) Nat.one_pos).2 ?_) yP.symm
 push_cast
 grind
theorem wb (x y : zL) : ((0 : Int) != 0 || (0 : Int) != 0 || !(x == x && y == y) || (1 : Int) != 1) = false := by simp
noncomputable def Pd (G : List (Nat × Obj)) : Tb := (((PL G).plus 19 VN).plus 12 VK).plus 18 XD
theorem Tf {G : List (Nat × Obj)} (hG : zJ G) : zz Tryz.prog (Pd G) := zz.plus (zz.plus (zz.plus (vz hG) (qV hG)) (Rw hG)) (vB hG)
def Qa  : Z4 :=
 .two .auto (.two .auto (.two .auto (.two .auto (.two (.two .auto (.one (.unroll 4 .auto))) .auto))))
theorem Qx (G : List (Nat × Obj)) (a : Int) (b : Int) (c : Int) (d : Int) (ha : v7 a) (hc : v7 b) (hd : v7 c) (he : v7 d) :
 let q1 := (∃ (N : Nat), ∃ (D : Nat), (0 < N ∧ N ≤ 48) ∧ (0 < D ∧ D ≤ 48) ∧ pP a b = zt (cI N) D); let q2 := (∃ (N : Nat), ∃ (D : Nat), (0 < N ∧ N ≤ 48) ∧ (0 < D ∧ D ≤ 48) ∧ pP c d = zt (cI N) D); let q6 := (Pt.mk (AV.bytes (AV.str (Yf [(49 : UInt8)] (Yd (pP a b) (pP c d))))) (AV.bytes (AV.str (Lib.itoa (cI (l1 (Yd (pP a b) (pP c d)))))))); let q7 := (Pt.mk (AV.bytes (AV.str (Yf [(49 : UInt8)] (Yd (pP c d) (pP a b))))) (AV.bytes (AV.str (Lib.itoa (cI (l1 (Yd (pP c d) (pP a b)))))))); let q5 := (Pt.n q6 == Pt.n q7 && Pt.d q6 == Pt.d q7); let q4 := (bif bif (0 :
 Int) != iZ then true else iZ != iZ then true else !q5); let q3 := (!zq false q4 || zq false q4); let q11 := (Pt.mk (AV.bytes (AV.str (Yf [(49 : UInt8)] (YD (pP a b) (pP c d))))) (AV.bytes (AV.str (Lib.itoa (cI (l1 (YD (pP a b) (pP c d)))))))); let q12 := (Pt.mk (AV.bytes (AV.str (Yf [(49 : UInt8)] (YD (pP c d) (pP a b))))) (AV.bytes (AV.str (Lib.itoa (cI (l1 (YD (pP c d) (pP a b)))))))); let q10 := (Pt.n q11 == Pt.n q12 && Pt.d q11 == Pt.d q12); let q9 := (bif bif iZ != iZ then true else iZ != iZ then true else !q10); let q8
 := (!zq false q9 || zq false q9); let q16 := (Pt.mk (AV.bytes (AV.str (Yf [(49 : UInt8)] (Yc (pP a b) (pP c d))))) (AV.bytes (AV.str (Lib.itoa (cI (l1 (Yc (pP a b) (pP c d)))))))); let q17 := (Pt.mk (AV.bytes (AV.str (Yf [(49 : UInt8)] (Yc (pP c d) (pP a b))))) (AV.bytes (AV.str (Lib.itoa (cI (l1 (Yc (pP c d) (pP a b)))))))); let q15 := (Pt.n q16 == Pt.n q17 && Pt.d q16 == Pt.d q17); let q14 := (bif bif iZ != iZ then true else iZ != iZ then true else !q15); let q13 := (!zq false q14 || zq false q14); let q18 := (if iZ > if iZ >
 iZ then iZ else iZ then iZ else if iZ > iZ then iZ else iZ); let q19 := (ByteArray.data (ByteArray.mk #[(49 : UInt8)])); Zw [AV.v (Value.int IntKind.u8 a), AV.v (Value.int IntKind.u8 b), AV.v (Value.int IntKind.u8 c), AV.v (Value.int IntKind.u8 d)] → (iZ ≤ a ∧ a ≤ (255 : Int)) ∧ (iZ ≤ b ∧ b ≤ (255 : Int)) ∧ (iZ ≤ c ∧ c ≤ (255 : Int)) ∧ (iZ ≤ d ∧ d ≤ (255 : Int)) ∧ q1 ∧ q2 ∧ q2 ∧ q1 ∧ bF q3 (bF q3 (bF ((!!bif bif iZ != iZ then true else iZ != iZ then true else !q5) ||
 zq false q4) (zw (bif bif bif iZ != iZ then true else iZ != iZ then true else !q5 then true else (↑1 : Int) != iO) (false = true) (q1 ∧ q2 ∧ q2 ∧ q1 ∧ bF q8 (bF q8 (bF ((!!bif bif iZ != iZ then true else iZ != iZ then true else !q10) || zq false q9) (zw (bif bif bif iZ != iZ then true else iZ != iZ then true else !q10 then true else (↑1 : Int) != iO) (false = true) (q1 ∧ q2 ∧ q2 ∧ q1 ∧ bF q13 (bF q13 (bF ((!!bif bif iZ != iZ then true else iZ
 != iZ then true else !q15) || zq false q14) (zw (bif bif bif iZ != iZ then true else iZ != iZ then true else !q15 then true else (↑1 : Int) != iO) (false = true) (q1 ∧ q2 ∧ q2 ∧ q1 ∧ zZ (zh (pP c d) (pP a b)) = true ∧ zZ (zh (pP a b) (pP c d)) = true ∧ bF ((!bif q18 == iZ then z7 (zh (pP c d) (pP a b)) (zh (pP a b) (pP c d)) == Array.toList q19 else false) || zq true (bif q18 == iZ then z7 (zh (pP c d) (pP a b)) (zh (pP a b) (pP c d)) == Array.toList q19 else false)) ((bif bif q18 == iZ then z7
 (zh (pP c d) (pP a b)) (zh (pP a b) (pP c d)) == Array.toList q19 else false then true else false) = true))))))))))))) := by
 delta bF cI iZ iO
 dsimp only
 intro hb
 simp only [sS, dS]
 have h1 := US ha hc
 have h2 := US hd he
 generalize pP a b = P at *
 generalize pP c d = Q at *
 obtain ⟨k1, k2, k3⟩ := sf h1 h2
 rw [sZ Q P, Ti Q P, TQ Q P, k3]
 refine ⟨ha, hc, hd, he, h1, h2, h2, h1, ?_⟩
 rw [wb]
 refine ⟨h1, h2, h2, h1, ?_⟩
 rw [wb]
 refine ⟨h1, h2, h2, h1, ?_⟩
 rw [wb]
 exact ⟨h1, h2, h2, h1, k1, k2, by decide⟩
theorem Pu {G : List (Nat × Obj)} (hG : zJ G) (a : Int) (b : Int) (c : Int) (d : Int) (ha : v7 a) (hc : v7 b) (hd : v7 c) (he : v7 d) : zV Tryz.prog G 3 [.v (.int .u8 a), .v (.int .u8 b), .v (.int .u8 c), .v (.int .u8 d)] (.b true) :=
 zW (T := Pd G) (an := Qa) mixed (Tf hG) (Eq.mp (by kernel_rfl) (Qx G a b c d ha hc hd he))
end Go.Te

namespace Go.Te
open Go Go.Sx Go.Proofs Go.Ar Go.RowKit
set_option maxRecDepth 100000
def tg : List (List UInt8) := [[50], [51], [53], [55], [49, 49], [49, 51], [49, 55], [49, 57], [50, 51], [50, 57], [51, 49], [51, 55], [52, 49], [52, 51], [52, 55], [53, 51], [53, 57], [54, 49], [54, 55], [55, 49], [55, 51], [55, 57], [56, 51], [56, 57], [57, 55]]
theorem UO : (tg.map fun z => Value.string ⟨z.toArray⟩) = zQ.toList := by kernel_rfl
theorem We {H : Type} {enc : TypeId × Value → H} {P : Program} {w : World} {base : Nat} {sp : Nat → Bool} {held : Bool} {fuel : Nat} {t e : TypeId} {n : Nat} {cs : List Value} {zs : List (List UInt8)} {p : List MemPlace}
  (ht : P.underlying t = some (.array n e)) (he : P.underlying e = some .string) (hce : P.cellsOf e = 1) (hct : P.cellsOf t = n)
  (h : DataW.trod enc P w base sp held fuel t cs = some (.agg (zs.map fun z => .lit (.string z)), p)) : cs = zs.map fun z => Value.string ⟨z.toArray⟩ := by
 cases fuel with
 | zero => simp [DataW.trod] at h
 | succ fuel =>
  simp only [DataW.trod, ht, hce, hct, Nat.mul_one] at h
  split at h
  ·rename_i hl
   obtain ⟨xs, hm, hx⟩ := Option.map_eq_some_iff.1 h
   have hxs : xs.map (·.1) = zs.map fun z => (DataW.lit (.string z) : DataW H) := by
    have := congrArg Prod.fst hx
    simpa using this
   have hxl : xs.length = n := by simpa using Lib.mapM_length hm
   have hzl : zs.length = n := by
    have := congrArg List.length hxs
    simp at this
    omega
   apply List.ext_getElem?
   intro i
   by_cases hi : i < n
   ·obtain ⟨b, hb, hf⟩ := Lib.mapM_at hm i i (by simp [hi])
    obtain ⟨z, hc, rfl, _⟩ := DataW.trod_string he hf
    have h1 : cs[i]? = some (.string z) := by
     have := congrArg (·[0]?) hc
     simpa [List.getElem?_take, List.getElem?_drop] using this
    have h2 : (xs.map (·.1))[i]? = some (DataW.lit (.string z.data.toList) : DataW H) := by simp [hb]
    rw [hxs] at h2
    simp only [List.getElem?_map, Option.map_eq_some_iff, DataW.lit.injEq, Lit.string.injEq] at h2
    obtain ⟨z', hz', rfl⟩ := h2
    simp [h1, hz']
   ·rw [List.getElem?_eq_none (by omega), List.getElem?_eq_none (by simp; omega)]
  ·cases h
section
variable {H : Type} {enc : TypeId × Value → H} {W : World} {spare : Nat → Bool} {held : Bool}
abbrev P1 (W : World) : Nat → Prop := fun b => b < W.heap.size
theorem wT {n : Int} {d : DataW H} {ps : List MemPlace} (h : DataW.Trod enc Tryz.prog W 0 spare held 5 (.int .u8 n) d ps) : 0 ≤ n ∧ n ≤ 255 := by
 obtain ⟨m, h⟩ := h
 obtain ⟨k, h1, _, h3⟩ := DataW.trod_int Tryz.underlying5 h
 have e : [Value.int .u8 n] = [.int .u8 k] := h1
 cases e
 simp only [Lit.wf, Bool.and_eq_true, decide_eq_true_eq] at h3
 have h4 : (0 : Int) ≤ n ∧ n ≤ 255 := h3
 exact h4
end
end Go.Te
