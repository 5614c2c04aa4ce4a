/- slope: what is computed of two pitches. -/
import Derived.Test.YtinnclmkhedgeaaGreatDoorTfH
import Derived.Test.YtinnclmkhedgeaaGreatDoorArY
import Derived.Test.YtinnclmkhedgeaaGreatDoorSxS
import Derived.Test.YtinnclmkhedgeaaGreatDoorTfS
import Derived.ChangeArms
import Derived.Lib.LaidTab
set_option linter.unusedSimpArgs false
set_option linter.unusedVariables false
namespace Go.Te
open Go Go.Sx Go.Proofs Go.Ar
set_option maxRecDepth 100000
set_option maxHeartbeats 4000000
def xa (p : zK) : Prop := ∃ N D : Nat, (0 < N ∧ N ≤ 48) ∧ (0 < D ∧ D ≤ 48) ∧ p = zY (N : Int) D
noncomputable def nO : Tb := (T0.plus 79 wo).plus 80 YB
theorem Sc : zz Tryz.prog nO := zz.plus (zz.plus zq VB) X9
def uY : List AV → Option (List zO × AV)
 | [.str p] => some ([.p (zZ p = true), .p (0 < zv p)], .i 0)
 | _ => none
theorem QU (p : List UInt8) (hn : zZ p = true) (hp : 0 < zv p) :
 let q2 := (ByteArray.data (ByteArray.mk #[(48 : UInt8)])); let q1 := (p == Array.toList q2); zb [AV.str p] → (Zr p = iZ ∧ (zZ p = true ∨ zT p = false)) ∧ bF (!zQ false q1 || zQ false q1) (bF (!zQ false q1 || bA #[(45 : UInt8)] == [(45 : UInt8)]) ((zQ false q1 = true → zE p = false) ∧ bF (!!p == Array.toList q2 || zQ false q1) (zV (bif p == Array.toList q2 then true else false) (kI ∧ (2 : Int) = iZ) (kI ∧ iZ = iZ)))) := by
 delta bF bA kI iZ
 dsimp only
 intro hb
 simp only [sS, dS]
 have h0 := si (q := p) (by omega)
 have hm : zE p = false := by
  have := (Xc (a := p)).1
  cases hm : zE p with
  | false => rfl
  | true => rw [hm, cond_true] at this; omega
 rw [h0]
 exact ⟨x9 hn, fun _ => hm, trivial⟩
theorem p6 (p : List UInt8) (hn : zZ p = true) (hp : 0 < zv p) : zu Tryz.prog [] 51 [.str p] (.i 0) :=
 zW (T := nO) (an := .auto) mixed Sc (Eq.mp (by kernel_rfl) (QU p hn hp))
theorem RL : zP Tryz.prog [] 51 uY := by
 intro xs ps r h hp
 unfold uY at h
 split at h
 ·skip
  rename_i p
  cases h
  obtain ⟨q0, q1, -⟩ := Zv hp
  exact weaken (ys := [.str p]) ⟨zw _, trivial⟩ (p6 p q0 q1)
 ·cases h
def qh : AV → Bool
 | .v (.int .i64 0) => true
 | _ => false
theorem Yc {x : AV} (h : qh x = true) : yu x (.i 0) := by
 unfold qh at h
 split at h
 ·exact zw _
 ·cases h
def uN : List AV → Option (List zO × AV)
 | [.xq 1 c_s 0, .str a, .str b] => some ([.b (qh (c_s 0)), .p (zZ a = true), .p (zZ b = true)], .str (z7 a b))
 | _ => none
theorem rC (G : List (Nat × Obj)) (a : List UInt8) (b : List UInt8) (ha : zZ a = true) (hc : zZ b = true) :
 zb [AV.xq 1 (fun (x : Nat) => aI iZ) 0, AV.str a, AV.str b] → zZ a = true ∧ zZ b = true ∧ z7 a b = z7 a b := by
 delta iZ aI
 intro hb
 simp only [sS, dS]
 exact ⟨ha, hc⟩
theorem QJ {G : List (Nat × Obj)} (hG : zN G) (a : List UInt8) (b : List UInt8) (ha : zZ a = true) (hc : zZ b = true) : zu Tryz.prog G 46 [.xq 1 (fun _ => .i 0) 0, .str a, .str b] (.str (z7 a b)) :=
 zW (T := ((wB G).plus 41 uD).body Tryz.prog [(92, .auto)]) (an := .auto) mixed (zz.body mixed (zz.plus zq (RR hG)) _) (Eq.mp (by kernel_rfl) (rC G a b ha hc))
theorem QQ {G : List (Nat × Obj)} (hG : zN G) : zP Tryz.prog G 46 uN := by
 intro xs ps r h hp
 unfold uN at h
 split at h
 ·skip
  rename_i c_s a b
  cases h
  obtain ⟨q0, q1, q2, -⟩ := Zv hp
  exact weaken (ys := [.xq 1 (fun _ => .i 0) 0, .str a, .str b]) ⟨⟨rfl, rfl, Yc q0⟩, zw _, zw _, trivial⟩ (QJ hG a b q1 q2)
 ·cases h
def wy : List AV → Option (List zO × AV)
 | [.xq 1 c_s 0, .str a, .str b] => some ([.b (qh (c_s 0)), .p (zZ a = true), .p (zZ b = true)], .str (zM a b))
 | _ => none
theorem re (G : List (Nat × Obj)) (a : List UInt8) (b : List UInt8) (ha : zZ a = true) (hc : zZ b = true) :
 zb [AV.xq 1 (fun (x : Nat) => aI iZ) 0, AV.str a, AV.str b] → zZ a = true ∧ zZ b = true ∧ zM a b = zM a b := by
 delta iZ aI
 intro hb
 simp only [sS, dS]
 exact ⟨ha, hc⟩
theorem pV {G : List (Nat × Obj)} (hG : zN G) (a : List UInt8) (b : List UInt8) (ha : zZ a = true) (hc : zZ b = true) : zu Tryz.prog G 50 [.xq 1 (fun _ => .i 0) 0, .str a, .str b] (.str (zM a b)) :=
 zW (T := ((wB G).plus 18 wu).body Tryz.prog [(92, .auto)]) (an := .auto) mixed (zz.body mixed (zz.plus zq (Vf hG)) _) (Eq.mp (by kernel_rfl) (re G a b ha hc))
theorem ue {G : List (Nat × Obj)} (hG : zN G) : zP Tryz.prog G 50 wy := by
 intro xs ps r h hp
 unfold wy at h
 split at h
 ·skip
  rename_i c_s a b
  cases h
  obtain ⟨q0, q1, q2, -⟩ := Zv hp
  exact weaken (ys := [.xq 1 (fun _ => .i 0) 0, .str a, .str b]) ⟨⟨rfl, rfl, Yc q0⟩, zw _, zw _, trivial⟩ (pV hG a b q1 q2)
 ·cases h
def WY : List AV → Option (List zO × AV)
 | [.xq 1 c_s 0, .str a, .str b] => some ([.b (qh (c_s 0)), .p (zZ a = true), .p (zZ b = true), .p (zv b ≠ 0)], .str (zI a b))
 | _ => none
theorem Rp (G : List (Nat × Obj)) (a : List UInt8) (b : List UInt8) (ha : zZ a = true) (hc : zZ b = true) (hp : zv b ≠ 0) :
 zb [AV.xq 1 (fun (x : Nat) => aI iZ) 0, AV.str a, AV.str b] → zZ a = true ∧ zZ b = true ∧ zv b ≠ iZ ∧ zI a b = zI a b := by
 delta iZ aI
 intro hb
 simp only [sS, dS]
 exact ⟨ha, hc, hp⟩
theorem qd {G : List (Nat × Obj)} (hG : zN G) (a : List UInt8) (b : List UInt8) (ha : zZ a = true) (hc : zZ b = true) (hp : zv b ≠ 0) : zu Tryz.prog G 45 [.xq 1 (fun _ => .i 0) 0, .str a, .str b] (.str (zI a b)) :=
 zW (T := ((wB G).plus 52 WU).body Tryz.prog [(92, .auto)]) (an := .auto) mixed (zz.body mixed (zz.plus zq (tV hG)) _) (Eq.mp (by kernel_rfl) (Rp G a b ha hc hp))
theorem sN {G : List (Nat × Obj)} (hG : zN G) : zP Tryz.prog G 45 WY := by
 intro xs ps r h hp
 unfold WY at h
 split at h
 ·skip
  rename_i c_s a b
  cases h
  obtain ⟨q0, q1, q2, q3, -⟩ := Zv hp
  exact weaken (ys := [.xq 1 (fun _ => .i 0) 0, .str a, .str b]) ⟨⟨rfl, rfl, Yc q0⟩, zw _, zw _, trivial⟩ (qd hG a b q1 q2 q3)
 ·cases h
noncomputable def oh (G : List (Nat × Obj)) : Tb := (((wB G).plus 46 uN).plus 50 wy).plus 45 WY
theorem xg {G : List (Nat × Obj)} (hG : zN G) : zz Tryz.prog (oh G) := zz.plus (zz.plus (zz.plus zq (QQ hG)) (ue hG)) (sN hG)
def nz (a : zK) : Prop := zZ a = true ∧ zv a ≠ 0
def TZ : List AV → Option (List zO × AV)
 | [.xq 1 c_s 0, .str p, .str q] => some ([.b (qh (c_s 0)), .p (zZ p = true)], .str (z7 [49] p))
 | _ => none
theorem pU (G : List (Nat × Obj)) (p : List UInt8) (q : List UInt8) (h1 : zZ p = true) :
 let q1 := (bA #[(49 : UInt8)]); zb [AV.xq 1 (fun (x : Nat) => aI iZ) 0, AV.str p, AV.str q] → zZ q1 = true ∧ zZ p = true ∧ z7 q1 p = z7 [(49 : UInt8)] p := by
 delta bA iZ aI
 dsimp only
 intro hb
 simp only [sS, dS]
 exact ⟨by decide, h1⟩
theorem Pi {G : List (Nat × Obj)} (hG : zN G) (p : List UInt8) (q : List UInt8) (h1 : zZ p = true) : zu Tryz.prog G 60 [.xq 1 (fun _ => .i 0) 0, .str p, .str q] (.str (z7 [49] p)) :=
 zW (T := oh G) (an := .auto) mixed (xg hG) (Eq.mp (by kernel_rfl) (pU G p q h1))
theorem oQ {G : List (Nat × Obj)} (hG : zN G) : zP Tryz.prog G 60 TZ := by
 intro xs ps r h hp
 unfold TZ at h
 split at h
 ·skip
  rename_i c_s p q
  cases h
  obtain ⟨q0, q1, -⟩ := Zv hp
  exact weaken (ys := [.xq 1 (fun _ => .i 0) 0, .str p, .str q]) ⟨⟨rfl, rfl, Yc q0⟩, zw _, zw _, trivial⟩ (Pi hG p q q1)
 ·cases h
def tQ : List AV → Option (List zO × AV)
 | [.xq 1 c_s 0, .str p, .str q] => some ([.b (qh (c_s 0)), .p (nz p), .p (nz q), .p (zZ (zI [49] p) = true), .p (zZ (zI [49] q) = true), .p (nz (z7 (zI [49] p) (zI [49] q)))], .str (zI [49] (z7 (zI [49] p) (zI [49] q))))
 | _ => none
theorem QX (G : List (Nat × Obj)) (p : List UInt8) (q : List UInt8) (h1 : nz p) (h2 : nz q) (h3 : zZ (zI [49] p) = true) (h4 : zZ (zI [49] q) = true) (h5 : nz (z7 (zI [49] p) (zI [49] q))) :
 let q1 := (bA #[(49 : UInt8)]); let q2 := (zI q1 p); let q3 := (zI q1 q); let q4 := (z7 q2 q3); zb [AV.xq 1 (fun (x : Nat) => aI iZ) 0, AV.str p, AV.str q] → zZ q1 = true ∧ zZ p = true ∧ zv p ≠ iZ ∧ zZ q1 = true ∧ zZ q = true ∧ zv q ≠ iZ ∧ zZ q2 = true ∧ zZ q3 = true ∧ zZ q1 = true ∧ zZ q4 = true ∧ zv q4 ≠ iZ ∧ zI q1 q4 = zI [(49 : UInt8)] (z7 (zI [(49 : UInt8)] p) (zI [(49 : UInt8)] q)) := by
 delta bA iZ aI
 dsimp only
 intro hb
 simp only [sS, dS]
 exact ⟨by decide, h1.1, h1.2, by decide, h2.1, h2.2, h3, h4, by decide, h5⟩
theorem oV {G : List (Nat × Obj)} (hG : zN G) (p : List UInt8) (q : List UInt8) (h1 : nz p) (h2 : nz q) (h3 : zZ (zI [49] p) = true) (h4 : zZ (zI [49] q) = true) (h5 : nz (z7 (zI [49] p) (zI [49] q))) : zu Tryz.prog G 44 [.xq 1 (fun _ => .i 0) 0, .str p, .str q] (.str (zI [49] (z7 (zI [49] p) (zI [49] q)))) :=
 zW (T := oh G) (an := .auto) mixed (xg hG) (Eq.mp (by kernel_rfl) (QX G p q h1 h2 h3 h4 h5))
theorem PD {G : List (Nat × Obj)} (hG : zN G) : zP Tryz.prog G 44 tQ := by
 intro xs ps r h hp
 unfold tQ at h
 split at h
 ·skip
  rename_i c_s p q
  cases h
  obtain ⟨q0, q1, q2, q3, q4, q5, -⟩ := Zv hp
  exact weaken (ys := [.xq 1 (fun _ => .i 0) 0, .str p, .str q]) ⟨⟨rfl, rfl, Yc q0⟩, zw _, zw _, trivial⟩ (oV hG p q q1 q2 q3 q4 q5)
 ·cases h
def TT : List AV → Option (List zO × AV)
 | [.xq 1 c_s 0, .str p, .str q] => some ([.b (qh (c_s 0)), .p (nz p), .p (nz q), .p (zZ (zI [49] p) = true), .p (zZ (zI [49] q) = true), .p (zZ (z7 (zI [49] p) (zI [49] q)) = true)], .str (z7 [49] (z7 (zI [49] p) (zI [49] q))))
 | _ => none
theorem QS (G : List (Nat × Obj)) (p : List UInt8) (q : List UInt8) (h1 : nz p) (h2 : nz q) (h3 : zZ (zI [49] p) = true) (h4 : zZ (zI [49] q) = true) (h5 : zZ (z7 (zI [49] p) (zI [49] q)) = true) :
 let q1 := (bA #[(49 : UInt8)]); let q2 := (zI q1 p); let q3 := (zI q1 q); let q4 := (z7 q2 q3); zb [AV.xq 1 (fun (x : Nat) => aI iZ) 0, AV.str p, AV.str q] → zZ q1 = true ∧ zZ p = true ∧ zv p ≠ iZ ∧ zZ q1 = true ∧ zZ q = true ∧ zv q ≠ iZ ∧ zZ q2 = true ∧ zZ q3 = true ∧ zZ q1 = true ∧ zZ q4 = true ∧ z7 q1 q4 = z7 [(49 : UInt8)] (z7 (zI [(49 : UInt8)] p) (zI [(49 : UInt8)] q)) := by
 delta bA iZ aI
 dsimp only
 intro hb
 simp only [sS, dS]
 exact ⟨by decide, h1.1, h1.2, by decide, h2.1, h2.2, h3, h4, by decide, h5⟩
theorem PL {G : List (Nat × Obj)} (hG : zN G) (p : List UInt8) (q : List UInt8) (h1 : nz p) (h2 : nz q) (h3 : zZ (zI [49] p) = true) (h4 : zZ (zI [49] q) = true) (h5 : zZ (z7 (zI [49] p) (zI [49] q)) = true) : zu Tryz.prog G 48 [.xq 1 (fun _ => .i 0) 0, .str p, .str q] (.str (z7 [49] (z7 (zI [49] p) (zI [49] q)))) :=
 zW (T := oh G) (an := .auto) mixed (xg hG) (Eq.mp (by kernel_rfl) (QS G p q h1 h2 h3 h4 h5))
theorem pN {G : List (Nat × Obj)} (hG : zN G) : zP Tryz.prog G 48 TT := by
 intro xs ps r h hp
 unfold TT at h
 split at h
 ·skip
  rename_i c_s p q
  cases h
  obtain ⟨q0, q1, q2, q3, q4, q5, -⟩ := Zv hp
  exact weaken (ys := [.xq 1 (fun _ => .i 0) 0, .str p, .str q]) ⟨⟨rfl, rfl, Yc q0⟩, zw _, zw _, trivial⟩ (PL hG p q q1 q2 q3 q4 q5)
 ·cases h
def TY : List AV → Option (List zO × AV)
 | [.xq 1 c_s 0, .str p, .str q] => some ([.b (qh (c_s 0)), .p (zZ p = true), .p (zZ q = true), .p (zZ (z7 [49] p) = true), .p (zZ (z7 [49] q) = true), .p (nz (zM (z7 [49] p) (z7 [49] q)))], .str (zI [49] (zM (z7 [49] p) (z7 [49] q))))
 | _ => none
theorem Qf (G : List (Nat × Obj)) (p : List UInt8) (q : List UInt8) (h1 : zZ p = true) (h2 : zZ q = true) (h3 : zZ (z7 [49] p) = true) (h4 : zZ (z7 [49] q) = true) (h5 : nz (zM (z7 [49] p) (z7 [49] q))) :
 let q1 := (bA #[(49 : UInt8)]); let q2 := (z7 q1 p); let q3 := (z7 q1 q); let q4 := (zM q2 q3); zb [AV.xq 1 (fun (x : Nat) => aI iZ) 0, AV.str p, AV.str q] → zZ q1 = true ∧ zZ p = true ∧ zZ q1 = true ∧ zZ q = true ∧ zZ q2 = true ∧ zZ q3 = true ∧ zZ q1 = true ∧ zZ q4 = true ∧ zv q4 ≠ iZ ∧ zI q1 q4 = zI [(49 : UInt8)] (zM (z7 [(49 : UInt8)] p) (z7 [(49 : UInt8)] q)) := by
 delta bA iZ aI
 dsimp only
 intro hb
 simp only [sS, dS]
 exact ⟨by decide, h1, by decide, h2, h3, h4, by decide, h5⟩
theorem oo {G : List (Nat × Obj)} (hG : zN G) (p : List UInt8) (q : List UInt8) (h1 : zZ p = true) (h2 : zZ q = true) (h3 : zZ (z7 [49] p) = true) (h4 : zZ (z7 [49] q) = true) (h5 : nz (zM (z7 [49] p) (z7 [49] q))) : zu Tryz.prog G 49 [.xq 1 (fun _ => .i 0) 0, .str p, .str q] (.str (zI [49] (zM (z7 [49] p) (z7 [49] q)))) :=
 zW (T := oh G) (an := .auto) mixed (xg hG) (Eq.mp (by kernel_rfl) (Qf G p q h1 h2 h3 h4 h5))
theorem P1 {G : List (Nat × Obj)} (hG : zN G) : zP Tryz.prog G 49 TY := by
 intro xs ps r h hp
 unfold TY at h
 split at h
 ·skip
  rename_i c_s p q
  cases h
  obtain ⟨q0, q1, q2, q3, q4, q5, -⟩ := Zv hp
  exact weaken (ys := [.xq 1 (fun _ => .i 0) 0, .str p, .str q]) ⟨⟨rfl, rfl, Yc q0⟩, zw _, zw _, trivial⟩ (oo hG p q q1 q2 q3 q4 q5)
 ·cases h
noncomputable def oa (G : List (Nat × Obj)) : Tb := (((((((wB G).plus 51 uY).plus 50 wy).plus 39 UI).plus 60 TZ).plus 44 tQ).plus 48 TT).plus 49 TY
theorem te {G : List (Nat × Obj)} (hG : zN G) : zz Tryz.prog (oa G) := zz.plus (zz.plus (zz.plus (zz.plus (zz.plus (zz.plus (zz.plus zq (zP.mono RL)) (ue hG)) (Rx hG)) (oQ hG)) (PD hG)) (pN hG)) (P1 hG)
def qS  : yw :=
 .two .auto (.two (.two .auto (.one (.unroll 3 .auto))) .auto)
noncomputable def Oh (G : List (Nat × Obj)) : Tb := (oa G).body Tryz.prog [(47, qS)]
theorem x7 {G : List (Nat × Obj)} (hG : zN G) : zz Tryz.prog (Oh G) := zz.body mixed (te hG) _
theorem RI {r : zK} (hd : 0 < zU r) : ZG [49] r = zY (k1 r : Int) (zU r) := by
 have e : ([49] : zK) = zY ((1 : Nat) : Int) 1 := Zh
 unfold ZG
 rw [e, ZD (by omega) hd, Nat.one_mul, show ((1 : Nat) : Int) * (k1 r : Int) = (k1 r : Int) from Int.one_mul _]
theorem WX {r : zK} (h : zZ r = true) (hp : 0 < zv r) : Uz ⟨[49], r⟩ := by
 obtain ⟨h1, h2, h3, h4⟩ := Z8 h
 obtain ⟨l1, l2, l3⟩ := X7 h
 obtain ⟨a1, a2, a3, a4⟩ := Wy hp h4
 have hb : k1 r ≤ 99999999 := by
  have b : (zv r).toNat * zU r ≤ 99999999 * 99999999 := Nat.mul_le_mul (by omega) h3
  have c : k1 r * k1 r * 1 ≤ k1 r * k1 r * Ar.l1 r := Nat.mul_le_mul_left _ a2
  exact Nat.le_of_lt_succ (v7 (a := k1 r) (b := 100000000) (by omega))
 have hk : zZ (zY (k1 r : Int) (zU r)) = true := We h4 (by rw [Int.natAbs_natCast]; exact hb) h3
 exact ⟨(by decide : zZ [49] = true), (by decide : zv [49] ≠ 0), ⟨x9 h, hp, by simp only; omega⟩, hk, by show zZ (ZG [49] r) = true; rw [RI h4]; exact hk⟩
theorem UX {n d : Nat} (hn : 0 < n) (hd : 0 < d) (h1 : n ≤ 99999999) (h2 : d ≤ 99999999) : zZ (zY (n : Int) d) = true ∧ 0 < zv (zY (n : Int) d) :=
 ⟨We hd (by rw [Int.natAbs_natCast]; exact h1) h2, yK hn hd⟩
theorem XI {N : Nat} (h : 0 < N ∧ N ≤ 48) : 0 < N * N ∧ N * N ≤ 2304 := ⟨Nat.mul_pos h.1 h.1, Nat.mul_le_mul h.2 h.2⟩
theorem X5 {p : zK} (h : xa p) : (zZ p = true ∧ 0 < zv p) ∧ (zZ (SA p) = true ∧ 0 < zv (SA p)) ∧ (zZ (yc p) = true ∧ 0 < zv (yc p)) ∧ zZ (zI uZ (SA p)) = true := by
 obtain ⟨N, D, hN, hD, rfl⟩ := h
 have n2 := XI hN
 have d2 := XI hD
 rw [TQ hN.1 hD.1, tt hD.1, Y2 hD.1]
 exact ⟨UX hN.1 hD.1 (by omega) (by omega), UX n2.1 d2.1 (by omega) (by omega), UX (by omega) d2.1 (by omega) (by omega), (UX d2.1 n2.1 (by omega) (by omega)).1⟩
theorem P6 {p q : zK} (hp : xa p) (hq : xa q) : (zZ (Su p q) = true ∧ 0 < zv (Su p q)) ∧ (zZ (Xp p q) = true ∧ 0 < zv (Xp p q)) ∧ (zZ (Xs p q) = true ∧ 0 < zv (Xs p q)) ∧
  (zZ (zM (yc p) (yc q)) = true ∧ 0 < zv (zM (yc p) (yc q))) ∧ (zZ (Xq p q) = true ∧ 0 < zv (Xq p q)) := by
 obtain ⟨N, D, hN, hD, rfl⟩ := hp
 obtain ⟨M, E, hM, hE, rfl⟩ := hq
 have n2 := XI hN
 have d2 := XI hD
 have m2 := XI hM
 have e2 := XI hE
 have h1 : 0 < D * D * (M * M) ∧ D * D * (M * M) ≤ 2304 * 2304 := ⟨Nat.mul_pos d2.1 m2.1, Nat.mul_le_mul d2.2 m2.2⟩
 have h2 : E * E * (N * N) ≤ 2304 * 2304 := Nat.mul_le_mul e2.2 n2.2
 have h3 : 0 < N * N * (M * M) ∧ N * N * (M * M) ≤ 2304 * 2304 := ⟨Nat.mul_pos n2.1 m2.1, Nat.mul_le_mul n2.2 m2.2⟩
 have h4 : N * M * (N * M) = N * N * (M * M) := by grind
 have h5 : D * E * (D * E) = D * D * (E * E) := by grind
 have h6 : 0 < D * D * (E * E) ∧ D * D * (E * E) ≤ 2304 * 2304 := ⟨Nat.mul_pos d2.1 e2.1, Nat.mul_le_mul d2.2 e2.2⟩
 have h7 : 0 < (D * D + N * N) * (E * E + M * M) ∧ (D * D + N * N) * (E * E + M * M) ≤ 4608 * 4608 := ⟨Nat.mul_pos (by omega) (by omega), Nat.mul_le_mul (by omega) (by omega)⟩
 rw [uB hN.1 hD.1 hM.1 hE.1, TA hN.1 hD.1 hM.1 hE.1, T7 hN.1 hD.1 hM.1 hE.1, sQ hD.1 hE.1, Y2 hD.1, Y2 hE.1, ZD d2.1 e2.1, ← Int.natCast_mul, h4, h5]
 exact ⟨UX (by omega) h3.1 (by omega) (by omega), UX h3.1 (by omega) (by omega) (by omega), UX (by omega) h3.1 (by omega) (by omega), UX h7.1 h6.1 (by omega) (by omega), UX h6.1 h7.1 (by omega) (by omega)⟩
def V6 : List AV → Option (List zO × AV)
 | [.str p] => some ([.p (xa p)], .tup 2 (zX [.xl false 2 1 (fun _ => zX [.str (ZG [49] (yc p)), .str (Lib.itoa (l1 (yc p) : Int))]), .i 0]))
 | _ => none
theorem Qz (G : List (Nat × Obj)) (p : List UInt8) (hp : xa p) :
 let q1 := (bA #[(49 : UInt8)]); let q3 := (Pt.mk (AV.bytes (AV.str q1)) (AV.bytes (AV.str (z7 [(49 : UInt8)] (zM p p))))); let q2 := (Pt.n q3); let q4 := (Pt.d q3); let q5 := (ZG q2 q4); zb [AV.str p] → zZ p = true ∧ iZ < zv p ∧ zZ q1 = true ∧ iZ < zv q1 ∧ zZ p = true ∧ zZ p = true ∧ zZ q1 = true ∧ zZ q1 = true ∧ zZ (zM p p) = true ∧ (zZ q2 = true ∧ zv q2 ≠ iZ ∧ ((Zr q4 = iZ ∧ (zZ q4 = true ∨ zT q4 = false)) ∧ iZ < zv q4 ∧ lN (zp q4) + lN (za q4) ≤ 17) ∧
 zZ (zY (cI (k1 q4)) (zU q4)) = true ∧ zZ q5 = true) ∧ j2 ∧ (True ∧ yu (AV.xl false 2 1 fun (x i : Nat) => Option.getD [AV.str q5, AV.str (Lib.itoa (cI (l1 q4)))][i]? AV.junk) (AV.xl false 2 1 fun (x i : Nat) => Option.getD [AV.str (ZG [(49 : UInt8)] (yc p)), AV.str (Lib.itoa (cI (l1 (yc p))))][i]? AV.junk)) ∧ kI ∧ iZ = iZ := by
 delta bA cI kI j2 lN iZ
 dsimp only
 intro hb
 simp only [sS, dS, and_self]
 obtain ⟨⟨a1, a2⟩, ⟨a3, a4⟩, ⟨a5, a6⟩, a7⟩ := X5 hp
 exact ⟨a1, a2, by decide, by decide, a1, a1, by decide, by decide, a3, WX a5 a6, rfl, zw _⟩
theorem Ph {G : List (Nat × Obj)} (hG : zN G) (p : List UInt8) (hp : xa p) : zu Tryz.prog G 24 [.str p] (.tup 2 (zX [.xl false 2 1 (fun _ => zX [.str (ZG [49] (yc p)), .str (Lib.itoa (l1 (yc p) : Int))]), .i 0])) :=
 zW (T := Oh G) (an := .auto) mixed (x7 hG) (Eq.mp (by kernel_rfl) (Qz G p hp))
theorem rF {G : List (Nat × Obj)} (hG : zN G) : zP Tryz.prog G 24 V6 := by
 intro xs ps r h hp
 unfold V6 at h
 split at h
 ·skip
  rename_i p
  cases h
  obtain ⟨q0, -⟩ := Zv hp
  exact weaken (ys := [.str p]) ⟨zw _, trivial⟩ (Ph hG p q0)
 ·cases h
def u4 : List AV → Option (List zO × AV)
 | [.str p, .str q] => some ([.p (xa p), .p (xa q)], .tup 2 (zX [.xl false 2 1 (fun _ => zX [.str (ZG [49] (Xp p q)), .str (Lib.itoa (l1 (Xp p q) : Int))]), .i 0]))
 | _ => none
theorem QO (G : List (Nat × Obj)) (p : List UInt8) (q : List UInt8) (hp : xa p) (hq : xa q) :
 let q1 := (z7 (zI [(49 : UInt8)] (zM p p)) (zI [(49 : UInt8)] (zM q q))); let q3 := (Pt.mk (AV.bytes (AV.str (bA #[(49 : UInt8)]))) (AV.bytes (AV.str (zI [(49 : UInt8)] q1)))); let q2 := (Pt.n q3); let q4 := (Pt.d q3); let q5 := (ZG q2 q4); zb [AV.str p, AV.str q] → zZ p = true ∧ iZ < zv p ∧ zZ q = true ∧ iZ < zv q ∧ zZ p = true ∧ zZ p = true ∧ zZ q = true ∧ zZ q = true ∧ (zZ (zM p p) = true ∧ zv (zM p p) ≠ iZ) ∧ (zZ (zM q q) = true ∧ zv (zM q q) ≠ iZ) ∧ zZ (zI [(49 : UInt8)]
 (zM p p)) = true ∧ zZ (zI [(49 : UInt8)] (zM q q)) = true ∧ (zZ q1 = true ∧ zv q1 ≠ iZ) ∧ (zZ q2 = true ∧ zv q2 ≠ iZ ∧ ((Zr q4 = iZ ∧ (zZ q4 = true ∨ zT q4 = false)) ∧ iZ < zv q4 ∧ lN (zp q4) + lN (za q4) ≤ 17) ∧ zZ (zY (cI (k1 q4)) (zU q4)) = true ∧ zZ q5 = true) ∧ j2 ∧ (True ∧ yu (AV.xl false 2 1 fun (x i : Nat) => Option.getD [AV.str q5, AV.str (Lib.itoa (cI (l1 q4)))][i]? AV.junk) (AV.xl false 2 1 fun (x i : Nat) => Option.getD [AV.str (ZG [(49 : UInt8)] (Xp p
 q)), AV.str (Lib.itoa (cI (l1 (Xp p q))))][i]? AV.junk)) ∧ kI ∧ iZ = iZ := by
 delta bA cI kI j2 lN iZ
 dsimp only
 intro hb
 simp only [sS, dS, and_self]
 obtain ⟨⟨a1, a2⟩, ⟨a3, a4⟩, ⟨a5, a6⟩, a7⟩ := X5 hp
 obtain ⟨⟨b1, b2⟩, ⟨b3, b4⟩, ⟨b5, b6⟩, b7⟩ := X5 hq
 obtain ⟨⟨c1, c2⟩, ⟨c3, c4⟩, ⟨c5, c6⟩, ⟨c7, c8⟩, ⟨c9, c10⟩⟩ := P6 hp hq
 exact ⟨a1, a2, b1, b2, a1, a1, b1, b1, ⟨a3, (Int.ne_of_lt a4).symm⟩, ⟨b3, (Int.ne_of_lt b4).symm⟩, a7, b7, ⟨c1, (Int.ne_of_lt c2).symm⟩, WX c3 c4, rfl, zw _⟩
theorem P8 {G : List (Nat × Obj)} (hG : zN G) (p : List UInt8) (q : List UInt8) (hp : xa p) (hq : xa q) : zu Tryz.prog G 13 [.str p, .str q] (.tup 2 (zX [.xl false 2 1 (fun _ => zX [.str (ZG [49] (Xp p q)), .str (Lib.itoa (l1 (Xp p q) : Int))]), .i 0])) :=
 zW (T := Oh G) (an := .auto) mixed (x7 hG) (Eq.mp (by kernel_rfl) (QO G p q hp hq))
theorem R0 {G : List (Nat × Obj)} (hG : zN G) : zP Tryz.prog G 13 u4 := by
 intro xs ps r h hp
 unfold u4 at h
 split at h
 ·skip
  rename_i p q
  cases h
  obtain ⟨q0, q1, -⟩ := Zv hp
  exact weaken (ys := [.str p, .str q]) ⟨zw _, zw _, trivial⟩ (P8 hG p q q0 q1)
 ·cases h
def uj : List AV → Option (List zO × AV)
 | [.str p, .str q] => some ([.p (xa p), .p (xa q)], .tup 2 (zX [.xl false 2 1 (fun _ => zX [.str (ZG [49] (Xs p q)), .str (Lib.itoa (l1 (Xs p q) : Int))]), .i 0]))
 | _ => none
theorem qa (G : List (Nat × Obj)) (p : List UInt8) (q : List UInt8) (hp : xa p) (hq : xa q) :
 let q1 := (z7 (zI [(49 : UInt8)] (zM p p)) (zI [(49 : UInt8)] (zM q q))); let q3 := (Pt.mk (AV.bytes (AV.str (bA #[(49 : UInt8)]))) (AV.bytes (AV.str (z7 [(49 : UInt8)] q1)))); let q2 := (Pt.n q3); let q4 := (Pt.d q3); let q5 := (ZG q2 q4); zb [AV.str p, AV.str q] → zZ p = true ∧ iZ < zv p ∧ zZ q = true ∧ iZ < zv q ∧ zZ p = true ∧ zZ p = true ∧ zZ q = true ∧ zZ q = true ∧ (zZ (zM p p) = true ∧ zv (zM p p) ≠ iZ) ∧ (zZ (zM q q) = true ∧ zv (zM q q) ≠ iZ) ∧ zZ (zI [(49 : UInt8)]
 (zM p p)) = true ∧ zZ (zI [(49 : UInt8)] (zM q q)) = true ∧ zZ q1 = true ∧ (zZ q2 = true ∧ zv q2 ≠ iZ ∧ ((Zr q4 = iZ ∧ (zZ q4 = true ∨ zT q4 = false)) ∧ iZ < zv q4 ∧ lN (zp q4) + lN (za q4) ≤ 17) ∧ zZ (zY (cI (k1 q4)) (zU q4)) = true ∧ zZ q5 = true) ∧ j2 ∧ (True ∧ yu (AV.xl false 2 1 fun (x i : Nat) => Option.getD [AV.str q5, AV.str (Lib.itoa (cI (l1 q4)))][i]? AV.junk) (AV.xl false 2 1 fun (x i : Nat) => Option.getD [AV.str (ZG [(49 : UInt8)] (Xs p q)), AV.str (Lib.itoa (cI (l1
 (Xs p q))))][i]? AV.junk)) ∧ kI ∧ iZ = iZ := by
 delta bA cI kI j2 lN iZ
 dsimp only
 intro hb
 simp only [sS, dS, and_self]
 obtain ⟨⟨a1, a2⟩, ⟨a3, a4⟩, ⟨a5, a6⟩, a7⟩ := X5 hp
 obtain ⟨⟨b1, b2⟩, ⟨b3, b4⟩, ⟨b5, b6⟩, b7⟩ := X5 hq
 obtain ⟨⟨c1, c2⟩, ⟨c3, c4⟩, ⟨c5, c6⟩, ⟨c7, c8⟩, ⟨c9, c10⟩⟩ := P6 hp hq
 exact ⟨a1, a2, b1, b2, a1, a1, b1, b1, ⟨a3, (Int.ne_of_lt a4).symm⟩, ⟨b3, (Int.ne_of_lt b4).symm⟩, a7, b7, c1, WX c5 c6, rfl, zw _⟩
theorem P7 {G : List (Nat × Obj)} (hG : zN G) (p : List UInt8) (q : List UInt8) (hp : xa p) (hq : xa q) : zu Tryz.prog G 14 [.str p, .str q] (.tup 2 (zX [.xl false 2 1 (fun _ => zX [.str (ZG [49] (Xs p q)), .str (Lib.itoa (l1 (Xs p q) : Int))]), .i 0])) :=
 zW (T := Oh G) (an := .auto) mixed (x7 hG) (Eq.mp (by kernel_rfl) (qa G p q hp hq))
theorem rV {G : List (Nat × Obj)} (hG : zN G) : zP Tryz.prog G 14 uj := by
 intro xs ps r h hp
 unfold uj at h
 split at h
 ·skip
  rename_i p q
  cases h
  obtain ⟨q0, q1, -⟩ := Zv hp
  exact weaken (ys := [.str p, .str q]) ⟨zw _, zw _, trivial⟩ (P7 hG p q q0 q1)
 ·cases h
def u6 : List AV → Option (List zO × AV)
 | [.str p, .str q] => some ([.p (xa p), .p (xa q)], .tup 2 (zX [.xl false 2 1 (fun _ => zX [.str (ZG [49] (Xq p q)), .str (Lib.itoa (l1 (Xq p q) : Int))]), .i 0]))
 | _ => none
theorem qo (G : List (Nat × Obj)) (p : List UInt8) (q : List UInt8) (hp : xa p) (hq : xa q) :
 let q1 := (zM (z7 [(49 : UInt8)] (zM p p)) (z7 [(49 : UInt8)] (zM q q))); let q3 := (Pt.mk (AV.bytes (AV.str (bA #[(49 : UInt8)]))) (AV.bytes (AV.str (zI [(49 : UInt8)] q1)))); let q2 := (Pt.n q3); let q4 := (Pt.d q3); let q5 := (ZG q2 q4); zb [AV.str p, AV.str q] → zZ p = true ∧ iZ < zv p ∧ zZ q = true ∧ iZ < zv q ∧ zZ p = true ∧ zZ p = true ∧ zZ q = true ∧ zZ q = true ∧ zZ (zM p p) = true ∧ zZ (zM q q) = true ∧ zZ (z7 [(49 : UInt8)] (zM p p)) = true ∧ zZ (z7 [(49 : UInt8)] (zM q q)) =
 true ∧ (zZ q1 = true ∧ zv q1 ≠ iZ) ∧ (zZ q2 = true ∧ zv q2 ≠ iZ ∧ ((Zr q4 = iZ ∧ (zZ q4 = true ∨ zT q4 = false)) ∧ iZ < zv q4 ∧ lN (zp q4) + lN (za q4) ≤ 17) ∧ zZ (zY (cI (k1 q4)) (zU q4)) = true ∧ zZ q5 = true) ∧ j2 ∧ (True ∧ yu (AV.xl false 2 1 fun (x i : Nat) => Option.getD [AV.str q5, AV.str (Lib.itoa (cI (l1 q4)))][i]? AV.junk) (AV.xl false 2 1 fun (x i : Nat) => Option.getD [AV.str (ZG [(49 : UInt8)] (Xq p q)), AV.str (Lib.itoa (cI (l1 (Xq p q))))][i]? AV.junk)) ∧
 kI ∧ iZ = iZ := by
 delta bA cI kI j2 lN iZ
 dsimp only
 intro hb
 simp only [sS, dS, and_self]
 obtain ⟨⟨a1, a2⟩, ⟨a3, a4⟩, ⟨a5, a6⟩, a7⟩ := X5 hp
 obtain ⟨⟨b1, b2⟩, ⟨b3, b4⟩, ⟨b5, b6⟩, b7⟩ := X5 hq
 obtain ⟨⟨c1, c2⟩, ⟨c3, c4⟩, ⟨c5, c6⟩, ⟨c7, c8⟩, ⟨c9, c10⟩⟩ := P6 hp hq
 exact ⟨a1, a2, b1, b2, a1, a1, b1, b1, a3, b3, a5, b5, ⟨c7, (Int.ne_of_lt c8).symm⟩, WX c9 c10, rfl, zw _⟩
theorem oP {G : List (Nat × Obj)} (hG : zN G) (p : List UInt8) (q : List UInt8) (hp : xa p) (hq : xa q) : zu Tryz.prog G 15 [.str p, .str q] (.tup 2 (zX [.xl false 2 1 (fun _ => zX [.str (ZG [49] (Xq p q)), .str (Lib.itoa (l1 (Xq p q) : Int))]), .i 0])) :=
 zW (T := Oh G) (an := .auto) mixed (x7 hG) (Eq.mp (by kernel_rfl) (qo G p q hp hq))
theorem RQ {G : List (Nat × Obj)} (hG : zN G) : zP Tryz.prog G 15 u6 := by
 intro xs ps r h hp
 unfold u6 at h
 split at h
 ·skip
  rename_i p q
  cases h
  obtain ⟨q0, q1, -⟩ := Zv hp
  exact weaken (ys := [.str p, .str q]) ⟨zw _, zw _, trivial⟩ (oP hG p q q0 q1)
 ·cases h
def V0 : List AV → Option (List zO × AV)
 | [.str p, .str q] => some ([.p (xa p), .p (xa q)], .tup 2 (zX [.str (zI q p), .i 0]))
 | _ => none
theorem rS (G : List (Nat × Obj)) (p : List UInt8) (q : List UInt8) (hp : xa p) (hq : xa q) :
 zb [AV.str p, AV.str q] → zZ p = true ∧ iZ < zv p ∧ zZ q = true ∧ iZ < zv q ∧ zZ q = true ∧ zZ p = true ∧ zv p ≠ iZ ∧ j2 ∧ (True ∧ zI q p = zI q p) ∧ kI ∧ iZ = iZ := by
 delta kI j2 iZ
 intro hb
 simp only [sS, dS]
 obtain ⟨⟨a1, a2⟩, _⟩ := X5 hp
 obtain ⟨⟨b1, b2⟩, _⟩ := X5 hq
 exact ⟨a1, a2, b1, b2, b1, a1, (Int.ne_of_lt a2).symm, rfl⟩
theorem QF {G : List (Nat × Obj)} (hG : zN G) (p : List UInt8) (q : List UInt8) (hp : xa p) (hq : xa q) : zu Tryz.prog G 17 [.str p, .str q] (.tup 2 (zX [.str (zI q p), .i 0])) :=
 zW (T := ((wB G).plus 51 uY).plus 52 WU) (an := .auto) mixed (zz.plus (zz.plus zq (zP.mono RL)) (tV hG)) (Eq.mp (by kernel_rfl) (rS G p q hp hq))
theorem qJ {G : List (Nat × Obj)} (hG : zN G) : zP Tryz.prog G 17 V0 := by
 intro xs ps r h hp
 unfold V0 at h
 split at h
 ·skip
  rename_i p q
  cases h
  obtain ⟨q0, q1, -⟩ := Zv hp
  exact weaken (ys := [.str p, .str q]) ⟨zw _, zw _, trivial⟩ (QF hG p q q0 q1)
 ·cases h
end Go.Te

namespace Go.Te
open Go Go.Sx Go.Proofs Go.Ar
set_option maxRecDepth 100000
set_option maxHeartbeats 4000000
def QL  : yw :=
 .two .auto (.two .auto (.two (.two .auto (.one (.unroll 2 .auto))) .auto))
def WG : List AV → Option (List zO × AV)
 | [.xl f_a 2 1 x_a, .xl f_b 2 1 x_b] => some ([.b (ZT (x_a 0 0) && ZT (x_a 0 1)), .b (ZT (x_b 0 0) && ZT (x_b 0 1))], .b ((⟨AV.bytes (x_a 0 0), AV.bytes (x_a 0 1)⟩ : Pt).n == (⟨AV.bytes (x_b 0 0), AV.bytes (x_b 0 1)⟩ : Pt).n && (⟨AV.bytes (x_a 0 0), AV.bytes (x_a 0 1)⟩ : Pt).d == (⟨AV.bytes (x_b 0 0), AV.bytes (x_b 0 1)⟩ : Pt).d))
 | _ => none
theorem Q1 (a : Pt) (b : Pt) :
 zb [AV.xl false 2 1 fun (x i : Nat) => Option.getD [AV.str (Pt.n a), AV.str (Pt.d a)][i]? AV.junk, AV.xl false 2 1 fun (x i : Nat) => Option.getD [AV.str (Pt.n b), AV.str (Pt.d b)][i]? AV.junk] → zV (!(Pt.n a == Pt.n b && (Pt.d a == Pt.d b && true))) (false = (Pt.n a == Pt.n b && Pt.d a == Pt.d b)) (true = (Pt.n a == Pt.n b && Pt.d a == Pt.d b)) := by
 intro hb
 generalize (a.n == b.n) = x
 generalize (a.d == b.d) = y
 cases x <;> cases y <;> rfl
theorem P9 (a : Pt) (b : Pt) : zu Tryz.prog [] 16 [.xl false 2 1 (fun _ => zX [.str a.n, .str a.d]), .xl false 2 1 (fun _ => zX [.str b.n, .str b.d])] (.b (a.n == b.n && a.d == b.d)) :=
 zW (T := T0) (an := QL) mixed zq (Eq.mp (by kernel_rfl) (Q1 a b))
theorem TO : zP Tryz.prog [] 16 WG := by
 intro xs ps r h hp
 unfold WG at h
 split at h
 ·skip
  rename_i f_a x_a f_b x_b
  cases h
  obtain ⟨q0, q1, -⟩ := Zv hp
  exact weaken (ys := [.xl false 2 1 (fun _ => zX [.str (⟨AV.bytes (x_a 0 0), AV.bytes (x_a 0 1)⟩ : Pt).n, .str (⟨AV.bytes (x_a 0 0), AV.bytes (x_a 0 1)⟩ : Pt).d]), .xl false 2 1 (fun _ => zX [.str (⟨AV.bytes (x_b 0 0), AV.bytes (x_b 0 1)⟩ : Pt).n, .str (⟨AV.bytes (x_b 0 0), AV.bytes (x_b 0 1)⟩ : Pt).d])]) ⟨Y0 q0, Y0 q1, trivial⟩ (P9 (⟨AV.bytes (x_a 0 0), AV.bytes (x_a 0 1)⟩ : Pt) (⟨AV.bytes (x_b 0 0), AV.bytes (x_b 0 1)⟩ : Pt))
 ·cases h
theorem pJ (c n : List UInt8) : vG Tryz.prog T0 37 .auto [.str c, .str n] (.xl false 2 1 fun _ => zX [.str c, .str n]) := by
 unfold vG
 intro hb
 cbv
 refine ⟨fun _ => rfl, fun i j hi hj => ?_⟩
 obtain rfl : i = 0 := by omega
 match j, hj with
 | 0, _ => exact rfl
 | 1, _ => exact rfl
def WP : List AV → Option (List zO × AV)
 | [.str c, .str n] => some ([], .xl false 2 1 fun _ => zX [.str c, .str n])
 | _ => none
theorem tA : zP Tryz.prog [] 37 WP := by
 intro xs ps r h hp
 unfold WP at h
 split at h
 ·rename_i c n
  cases h
  exact zW mixed zq (pJ c n)
 ·cases h
theorem UC : xa [49] := ⟨1, 1, by decide, by decide, Zh⟩
theorem oJ : xa [51, 47, 52] := ⟨3, 4, by decide, by decide, by decide +kernel⟩
noncomputable def nw (G : List (Nat × Obj)) : Tb := ((((((wB G).plus 24 V6).plus 13 u4).plus 14 uj).plus 15 u6).plus 17 V0).plus 16 WG |>.plus 37 WP
theorem sD {G : List (Nat × Obj)} (hG : zN G) : zz Tryz.prog (nw G) := zz.plus (zz.plus (zz.plus (zz.plus (zz.plus (zz.plus (zz.plus zq (rF hG)) (R0 hG)) (rV hG)) (RQ hG)) (qJ hG)) (zP.mono TO)) (zP.mono tA)
def xe : List AV → Option (List zO × AV)
 | [] => some ([], .b true)
 | _ => none
theorem ra (G : List (Nat × Obj)) :
 let q1 := (ByteArray.data (ByteArray.mk #[(51 : UInt8), (47 : UInt8), (52 : UInt8)])); let q3 := (ByteArray.data (ByteArray.mk #[(49 : UInt8)])); let q2 := (∃ (N : Nat), ∃ (D : Nat), (0 < N ∧ N ≤ 48) ∧ (0 < D ∧ D ≤ 48) ∧ Array.toList q3 = zY (cI N) D); let q5 := (AV.bytes (AV.str (Lib.itoa (↑1 : Int)))); let q4 := (Pt.mk (AV.bytes (AV.str (ZG [(49 : UInt8)] (yc (Array.toList q1))))) q5); let q8 := (Array.toList q3); let q7 := (AV.bytes (AV.str q8)); let q6 := (Pt.mk (AV.bytes (AV.str (bA #[(53 : UInt8), (47 : UInt8), (52 : UInt8)]))) q7); let
 q9 := (Pt.mk (AV.bytes (AV.str (ZG [(49 : UInt8)] (Xp q8 q8)))) (AV.bytes (AV.str (Lib.itoa (↑2 : Int))))); let q11 := (AV.bytes (AV.str (bA #[(49 : UInt8), (47 : UInt8), (50 : UInt8)]))); let q10 := (Pt.mk q11 (AV.bytes (AV.str (bA #[(50 : UInt8)])))); let q12 := (Pt.mk (AV.bytes (AV.str (ZG [(49 : UInt8)] (Xs q8 q8)))) (AV.bytes (AV.str (Lib.itoa (↑3 : Int))))); let q13 := (Pt.mk q7 (AV.bytes (AV.str (bA #[(51 : UInt8)])))); let q14 := (Pt.mk (AV.bytes (AV.str
 (ZG [(49 : UInt8)] (Xq q8 q8)))) q5); let q15 := (Pt.mk q11 q7); zb [] → (∃ (N : Nat), ∃ (D : Nat), (0 < N ∧ N ≤ 48) ∧ (0 < D ∧ D ≤ 48) ∧ Array.toList q1 = zY (cI N) D) ∧ q2 ∧ q2 ∧ q2 ∧ q2 ∧ q2 ∧ q2 ∧ q2 ∧ q2 ∧ (bif bif bif bif bif (if iZ > if iZ > if iZ > if iZ > iZ then iZ else iZ then iZ else if iZ > iZ then iZ else iZ then iZ else if iZ > if iZ > iZ then iZ else iZ then iZ else if iZ > iZ then iZ else iZ then iZ
 else if iZ > if iZ > if iZ > iZ then iZ else iZ then iZ else if iZ > iZ then iZ else iZ then iZ else if iZ > if iZ > iZ then iZ else iZ then iZ else if iZ > iZ then iZ else iZ) == iZ then Pt.n q4 == Pt.n q6 && Pt.d q4 == Pt.d q6 else false then Pt.n q9 == Pt.n q10 && Pt.d q9 == Pt.d q10 else false then Pt.n q12 == Pt.n q13 && Pt.d q12 == Pt.d q13 else false then zI q8 q8 == Array.toList q3 else false then Pt.n q14 == Pt.n q15 && Pt.d
 q14 == Pt.d q15 else false) = true := by
 delta bA cI iZ
 dsimp only
 intro hb
 simp only [sS, dS]
 exact ⟨oJ, UC, UC, UC, UC, UC, UC, UC, UC, by decide +kernel⟩
theorem QW {G : List (Nat × Obj)} (hG : zN G)  : zu Tryz.prog G 19 [] (.b true) :=
 zW (T := nw G) (an := .auto) mixed (sD hG) (Eq.mp (by kernel_rfl) (ra G ))
theorem Ww {G : List (Nat × Obj)} (hG : zN G) : zP Tryz.prog G 19 xe := by
 intro xs ps r h hp
 unfold xe at h
 split at h
 ·skip
  cases h
  exact weaken (ys := []) trivial (QW hG )
 ·cases h
end Go.Te

namespace Go.Te
open Go Go.Sx Go.Proofs Go.Ar
set_option maxRecDepth 100000
set_option maxHeartbeats 4000000
def pP (a b : Int) : zK := zY (a.tmod 48 + 1) (b.tmod 48 + 1).toNat
def YE (a : Int) : Prop := 0 ≤ a ∧ a ≤ 255
theorem UB {a : Int} (h : YE a) : 1 ≤ a.tmod 48 + 1 ∧ a.tmod 48 + 1 ≤ 48 := by
 unfold YE at h
 rw [Int.tmod_eq_emod_of_nonneg h.1]; omega
theorem vS {a b : Int} (ha : YE a) (hb : YE b) : xa (pP a b) := by
 have h1 := UB ha
 have h2 := UB hb
 refine ⟨(a.tmod 48 + 1).toNat, (b.tmod 48 + 1).toNat, by omega, by omega, ?_⟩
 unfold pP
 congr 1
 omega
def w8 : List AV → Option (List zO × AV)
 | [.v (.int .u8 a), .v (.int .u8 b)] => some ([.p (YE a), .p (YE b)], .tup 3 (zX [.str (pP a b), .str (SA (pP a b)), .b true]))
 | _ => none
theorem R3 (G : List (Nat × Obj)) (a : Int) (b : Int) (ha : YE a) (hc : YE b) :
 let q2 := (Int.toNat (Int.tmod b (48 : Int) + iO)); let q1 := (zY (Int.tmod a (48 : Int) + iO) q2); zb [AV.v (Value.int IntKind.u8 a), AV.v (Value.int IntKind.u8 b)] → bF (dK a) (bF (dK (Int.tmod a (48 : Int) + iO)) (bF (dK b) (bF (dK (Int.tmod b (48 : Int) + iO)) (((-10000000000000000 : Int) ≤ Int.tmod a (48 : Int) + iO ∧ Int.tmod a (48 : Int) + iO ≤ (10000000000000000 : Int)) ∧ (iZ < Int.tmod b (48 : Int) + iO ∧ Int.tmod b (48 : Int) + iO ≤
 (10000000000000000 : Int)) ∧ zZ q1 = true ∧ zZ q1 = true ∧ 3 = lN [AV.junk, AV.junk, AV.junk] ∧ ((True ∧ zY (Int.tmod a (48 : Int) + iO) q2 = pP a b) ∧ zM q1 q1 = SA (pP a b)) ∧ (bif iZ == iZ then iZ == iZ else false) = true)))) := by
 delta bF dK lN iZ iO
 dsimp only
 intro hb
 simp only [sS, dS]
 have h1 := UB ha
 have h2 := UB hc
 have h3 : zZ (zY (a.tmod 48 + 1) (b.tmod 48 + 1).toNat) = true := (X5 (vS ha hc)).1.1
 unfold YE at ha hc
 exact ⟨by simp only [yE]; omega, by simp only [yE]; omega, by simp only [yE]; omega, by simp only [yE]; omega, ⟨by omega, by omega⟩, ⟨by omega, by omega⟩, h3, h3, rfl, ⟨rfl, rfl⟩, by decide⟩
theorem Q2 {G : List (Nat × Obj)} (hG : zN G) (a : Int) (b : Int) (ha : YE a) (hc : YE b) : zu Tryz.prog G 12 [.v (.int .u8 a), .v (.int .u8 b)] (.tup 3 (zX [.str (pP a b), .str (SA (pP a b)), .b true])) :=
 zW (T := ((wB G).plus 38 Vt).plus 18 wu) (an := .auto) mixed (zz.plus (zz.plus zq (sL hG)) (Vf hG)) (Eq.mp (by kernel_rfl) (R3 G a b ha hc))
theorem T8 {G : List (Nat × Obj)} (hG : zN G) : zP Tryz.prog G 12 w8 := by
 intro xs ps r h hp
 unfold w8 at h
 split at h
 ·skip
  rename_i a b
  cases h
  obtain ⟨q0, q1, -⟩ := Zv hp
  exact weaken (ys := [.v (.int .u8 a), .v (.int .u8 b)]) ⟨zw _, zw _, trivial⟩ (Q2 hG a b q0 q1)
 ·cases h
end Go.Te

namespace Go.Te
open Go Go.Sx Go.Proofs Go.Ar
set_option maxRecDepth 100000
set_option maxHeartbeats 4000000
def ZA (a : Int) : Prop := 1 ≤ a ∧ a ≤ 48
theorem Xf {a b : Int} (ha : ZA a) (hb : ZA b) : xa (zY a b.toNat) := by
 unfold ZA at ha hb
 refine ⟨a.toNat, b.toNat, by omega, by omega, ?_⟩
 rw [show ((a.toNat : Nat) : Int) = a by omega]
def V1 : List AV → Option (List zO × AV)
 | [.v (.int .i64 a), .v (.int .i64 b)] => some ([.p (ZA a), .p (ZA b)], .i 0)
 | _ => none
theorem rE (a : Int) (b : Int) (ha : ZA a) (hc : ZA b) :
 let q2 := (zA (if b < a then b else a) iO); let q1 := (!zQ false q2 || zQ false q2); zb [aI a, aI b] → bF q1 (bF q1 (bF q1 (bF (!!zA (if b < a then b else a) iO || zQ false q2) (zV (bif zA (if b < a then b else a) iO then true else zA (48 : Int) (if b > a then b else a)) (kI ∧ (2 : Int) = iZ) (kI ∧ iZ = iZ))))) := by
 delta bF kI iZ iO aI
 dsimp only
 intro hb
 simp only [sS, dS]
 unfold ZA at ha hc
 refine zR.2 ⟨fun c => ?_, fun _ => trivial⟩
 rw [Bool.or_eq_true, zl, zl] at c
 split at c <;> split at c <;> omega
theorem QK (a : Int) (b : Int) (ha : ZA a) (hc : ZA b) : zu Tryz.prog [] 26 [.i a, .i b] (.i 0) :=
 zW (T := T0) (an := .auto) mixed zq (Eq.mp (by kernel_rfl) (rE a b ha hc))
theorem qH : zP Tryz.prog [] 26 V1 := by
 intro xs ps r h hp
 unfold V1 at h
 split at h
 ·skip
  rename_i a b
  cases h
  obtain ⟨q0, q1, -⟩ := Zv hp
  exact weaken (ys := [.i a, .i b]) ⟨zw _, zw _, trivial⟩ (QK a b q0 q1)
 ·cases h
def uV : List AV → Option (List zO × AV)
 | [.v (.int .i64 a), .v (.int .i64 b)] => some ([.p (ZA a), .p (ZA b)], .tup 2 (zX [.str (zY a b.toNat), .i 0]))
 | _ => none
theorem Q8 (G : List (Nat × Obj)) (a : Int) (b : Int) (ha : ZA a) (hc : ZA b) :
 zb [aI a, aI b] → (iO ≤ a ∧ a ≤ (48 : Int)) ∧ (iO ≤ b ∧ b ≤ (48 : Int)) ∧ ((-10000000000000000 : Int) ≤ a ∧ a ≤ (10000000000000000 : Int)) ∧ (iZ < b ∧ b ≤ (10000000000000000 : Int)) ∧ j2 ∧ (True ∧ zY a (Int.toNat b) = zY a (Int.toNat b)) ∧ kI ∧ iZ = iZ := by
 delta kI j2 iZ iO aI
 intro hb
 simp only [sS, dS]
 have ha' := ha
 have hc' := hc
 unfold ZA at ha' hc'
 exact ⟨ha, hc, ⟨by omega, by omega⟩, ⟨by omega, by omega⟩, rfl⟩
theorem pm {G : List (Nat × Obj)} (hG : zN G) (a : Int) (b : Int) (ha : ZA a) (hc : ZA b) : zu Tryz.prog G 20 [.i a, .i b] (.tup 2 (zX [.str (zY a b.toNat), .i 0])) :=
 zW (T := ((wB G).plus 26 V1).plus 38 Vt) (an := .auto) mixed (zz.plus (zz.plus zq (zP.mono qH)) (sL hG)) (Eq.mp (by kernel_rfl) (Q8 G a b ha hc))
theorem Rm {G : List (Nat × Obj)} (hG : zN G) : zP Tryz.prog G 20 uV := by
 intro xs ps r h hp
 unfold uV at h
 split at h
 ·skip
  rename_i a b
  cases h
  obtain ⟨q0, q1, -⟩ := Zv hp
  exact weaken (ys := [.i a, .i b]) ⟨zw _, zw _, trivial⟩ (pm hG a b q0 q1)
 ·cases h
def ux : List AV → Option (List zO × AV)
 | [.v (.int .i64 a), .v (.int .i64 b), .v (.int .i64 c), .v (.int .i64 d)] => some ([.p (ZA a), .p (ZA b), .p (ZA c), .p (ZA d)], .tup 2 (zX [.i (YK (zv (zY a b.toNat) * (zU (zY c d.toNat) : Int)) (zv (zY c d.toNat) * (zU (zY a b.toNat) : Int))), .i 0]))
 | _ => none
theorem rm (G : List (Nat × Obj)) (a : Int) (b : Int) (c : Int) (d : Int) (ha : ZA a) (hc : ZA b) (hd : ZA c) (he : ZA d) :
 let q1 := (zv (zY a (Int.toNat b)) * (cI (zU (zY c (Int.toNat d))))); let q2 := (zv (zY c (Int.toNat d)) * (cI (zU (zY a (Int.toNat b))))); zb [aI a, aI b, aI c, aI d] → (iO ≤ a ∧ a ≤ (48 : Int)) ∧ (iO ≤ b ∧ b ≤ (48 : Int)) ∧ (iO ≤ c ∧ c ≤ (48 : Int)) ∧ (iO ≤ d ∧ d ≤ (48 : Int)) ∧ zZ (zY a (Int.toNat b)) = true ∧ zZ (zY c (Int.toNat d)) = true ∧ j2 ∧ (True ∧ kI ∧ YK q1 q2 = YK q1 q2) ∧ IntKind.i64 =
 .i64 ∧ iZ = iZ := by
 delta cI kI j2 iZ iO aI
 dsimp only
 intro hb
 simp only [sS, dS]
 exact ⟨ha, hc, hd, he, (X5 (Xf ha hc)).1.1, (X5 (Xf hd he)).1.1, rfl⟩
theorem Qm {G : List (Nat × Obj)} (hG : zN G) (a : Int) (b : Int) (c : Int) (d : Int) (ha : ZA a) (hc : ZA b) (hd : ZA c) (he : ZA d) : zu Tryz.prog G 22 [.i a, .i b, .i c, .i d] (.tup 2 (zX [.i (YK (zv (zY a b.toNat) * (zU (zY c d.toNat) : Int)) (zv (zY c d.toNat) * (zU (zY a b.toNat) : Int))), .i 0])) :=
 zW (T := ((wB G).plus 20 uV).plus 28 V7) (an := .auto) mixed (zz.plus (zz.plus zq (Rm hG)) (zP.mono Rv)) (Eq.mp (by kernel_rfl) (rm G a b c d ha hc hd he))
theorem qG {G : List (Nat × Obj)} (hG : zN G) : zP Tryz.prog G 22 ux := by
 intro xs ps r h hp
 unfold ux at h
 split at h
 ·skip
  rename_i a b c d
  cases h
  obtain ⟨q0, q1, q2, q3, -⟩ := Zv hp
  exact weaken (ys := [.i a, .i b, .i c, .i d]) ⟨zw _, zw _, zw _, zw _, trivial⟩ (Qm hG a b c d q0 q1 q2 q3)
 ·cases h
noncomputable def nt (G : List (Nat × Obj)) : Tb := ((((wB G).plus 20 uV).plus 28 V7).plus 22 ux).plus 19 xe
theorem sa {G : List (Nat × Obj)} (hG : zN G) : zz Tryz.prog (nt G) := zz.plus (zz.plus (zz.plus (zz.plus zq (Rm hG)) (zP.mono Rv)) (qG hG)) (Ww hG)
theorem pY (G : List (Nat × Obj)) (a : Int) (b : Int) (c : Int) (d : Int) (ha : YE a) (hc : YE b) (hd : YE c) (he : YE d) :
 let q1 := (iO ≤ Int.tmod a (48 : Int) + iO ∧ Int.tmod a (48 : Int) + iO ≤ (48 : Int)); let q2 := (iO ≤ Int.tmod b (48 : Int) + iO ∧ Int.tmod b (48 : Int) + iO ≤ (48 : Int)); let q3 := (iO ≤ Int.tmod c (48 : Int) + iO ∧ Int.tmod c (48 : Int) + iO ≤ (48 : Int)); let q4 := (iO ≤ Int.tmod d (48 : Int) + iO ∧ Int.tmod d (48 : Int) + iO ≤ (48 : Int)); let q5 := (zY (Int.tmod a (48 : Int) + iO) (Int.toNat (Int.tmod b (48 : Int) + iO))); let q6 := (zY (Int.tmod c (48 : Int) + iO) (Int.toNat
 (Int.tmod d (48 : Int) + iO))); let q7 := (if iZ > if iZ > if iZ > iZ then iZ else iZ then iZ else if iZ > iZ then iZ else iZ then iZ else if iZ > if iZ > iZ then iZ else iZ then iZ else if iZ > iZ then iZ else iZ); let q8 := (zv q5 * (cI (zU q6))); let q9 := (zv q6 * (cI (zU q5))); zb [AV.v (Value.int IntKind.u8 a), AV.v (Value.int IntKind.u8 b), AV.v (Value.int IntKind.u8 c), AV.v (Value.int IntKind.u8 d)] → zV
 (dK a) (bF (dK (Int.tmod a (48 : Int) + iO)) (bF (dK b) (bF (dK (Int.tmod b (48 : Int) + iO)) (bF (dK c) (bF (dK (Int.tmod c (48 : Int) + iO)) (bF (dK d) (bF (dK (Int.tmod d (48 : Int) + iO)) (q1 ∧ q2 ∧ q3 ∧ q4 ∧ q1 ∧ q2 ∧ q3 ∧ q4 ∧ zZ q5 = true ∧ zZ q6 = true ∧ bF ((!bif q7 == iZ then YK q8 q9 == YK q8 q9 else false) || zQ true (bif q7 == iZ then YK q8 q9 == YK q8 q9 else false)) ((bif bif q7 ==
 iZ then YK q8 q9 == YK q8 q9 else false then true else false) = true))))))))) False := by
 delta bF dK cI iZ iO
 dsimp only
 intro hb
 simp only [sS, dS]
 have k1 : ZA (a.tmod 48 + 1) := UB ha
 have k2 : ZA (b.tmod 48 + 1) := UB hc
 have k3 : ZA (c.tmod 48 + 1) := UB hd
 have k4 : ZA (d.tmod 48 + 1) := UB he
 have n1 := (X5 (Xf k1 k2)).1.1
 have n2 := (X5 (Xf k3 k4)).1.1
 unfold YE at ha hc hd he
 generalize YK _ _ = z
 have j : ∀ x : Int, ZA (x.tmod 48 + 1) → yE .i64 (x.tmod 48 + 1) := fun x h => by unfold ZA at h; simp only [yE]; omega
 exact ⟨by simp only [yE]; omega, j _ k1, by simp only [yE]; omega, j _ k2, by simp only [yE]; omega, j _ k3, by simp only [yE]; omega, j _ k4, k1, k2, k3, k4, k1, k2, k3, k4, n1, n2, by simp⟩
theorem Pm {G : List (Nat × Obj)} (hG : zN G) (a : Int) (b : Int) (c : Int) (d : Int) (ha : YE a) (hc : YE b) (hd : YE c) (he : YE d) : zu Tryz.prog G 5 [.v (.int .u8 a), .v (.int .u8 b), .v (.int .u8 c), .v (.int .u8 d)] (.b true) :=
 zW (T := nt G) (an := .auto) mixed (sa hG) (Eq.mp (by kernel_rfl) (pY G a b c d ha hc hd he))
end Go.Te

namespace Go.Te
open Go Go.Sx Go.Proofs Go.Ar Go.RowKit
set_option maxRecDepth 100000
def X8 : List (List UInt8) := [[50], [51], [53], [55], [49, 49], [49, 51], [49, 55], [49, 57], [50, 51], [50, 57], [51, 49], [51, 55], [52, 49], [52, 51], [52, 55], [53, 51], [53, 57], [54, 49], [54, 55], [55, 49], [55, 51], [55, 57], [56, 51], [56, 57], [57, 55]]
theorem Ya : (X8.map fun z => Value.string ⟨z.toArray⟩) = zr.toList := by kernel_rfl
theorem yh {H : Type} {enc : TypeId × Value → H} {P : Program} {w : World} {base : Nat} {sp : Nat → Bool} {held : Bool} {fuel : Nat} {t e : TypeId} {n : Nat} {cs : List Value} {zs : List (List UInt8)} {p : List MemPlace}
  (ht : P.underlying t = some (.array n e)) (he : P.underlying e = some .string) (hce : P.cellsOf e = 1) (hct : P.cellsOf t = n)
  (h : DataW.trod enc P w base sp held fuel t cs = some (.agg (zs.map fun z => .lit (.string z)), p)) : cs = zs.map fun z => Value.string ⟨z.toArray⟩ := by
 cases fuel with
 | zero => simp [DataW.trod] at h
 | succ fuel =>
  simp only [DataW.trod, ht, hce, hct, Nat.mul_one] at h
  split at h
  ·rename_i hl
   obtain ⟨xs, hm, hx⟩ := Option.map_eq_some_iff.1 h
   have hxs : xs.map (·.1) = zs.map fun z => (DataW.lit (.string z) : DataW H) := by
    have := congrArg Prod.fst hx
    simpa using this
   have hxl : xs.length = n := by simpa using Lib.mapM_length hm
   have hzl : zs.length = n := by
    have := congrArg List.length hxs
    simp at this
    omega
   apply List.ext_getElem?
   intro i
   by_cases hi : i < n
   ·obtain ⟨b, hb, hf⟩ := Lib.mapM_at hm i i (by simp [hi])
    obtain ⟨z, hc, rfl, _⟩ := DataW.trod_string he hf
    have h1 : cs[i]? = some (.string z) := by
     have := congrArg (·[0]?) hc
     simpa [List.getElem?_take, List.getElem?_drop] using this
    have h2 : (xs.map (·.1))[i]? = some (DataW.lit (.string z.data.toList) : DataW H) := by simp [hb]
    rw [hxs] at h2
    simp only [List.getElem?_map, Option.map_eq_some_iff, DataW.lit.injEq, Lit.string.injEq] at h2
    obtain ⟨z', hz', rfl⟩ := h2
    simp [h1, hz']
   ·rw [List.getElem?_eq_none (by omega), List.getElem?_eq_none (by simp; omega)]
  ·cases h
section
variable {H : Type} {enc : TypeId × Value → H} {W : World} {spare : Nat → Bool} {held : Bool}
abbrev OD (W : World) : Nat → Prop := fun b => b < W.heap.size
theorem ZB {n : Int} {d : DataW H} {ps : List MemPlace} (h : DataW.Trod enc Tryz.prog W 0 spare held 5 (.int .u8 n) d ps) : 0 ≤ n ∧ n ≤ 255 := by
 obtain ⟨m, h⟩ := h
 obtain ⟨k, h1, _, h3⟩ := DataW.trod_int Tryz.underlying5 h
 have e : [Value.int .u8 n] = [.int .u8 k] := h1
 cases e
 simp only [Lit.wf, Bool.and_eq_true, decide_eq_true_eq] at h3
 have h4 : (0 : Int) ≤ n ∧ n ≤ 255 := h3
 exact h4
theorem Qx {n : Int} {d : DataW H} {ps : List MemPlace} (h : DataW.Trod enc Tryz.prog W 0 spare held 48 (.int .i8 n) d ps) : -128 ≤ n ∧ n ≤ 127 := by
 obtain ⟨m, h⟩ := h
 obtain ⟨k, h1, _, h3⟩ := DataW.trod_int Tryz.underlying48 h
 have e : [Value.int .i8 n] = [.int .i8 k] := h1
 cases e
 simp only [Lit.wf, Bool.and_eq_true, decide_eq_true_eq] at h3
 have h4 : (-128 : Int) ≤ n ∧ n ≤ 127 := h3
 exact h4
end
end Go.Te
