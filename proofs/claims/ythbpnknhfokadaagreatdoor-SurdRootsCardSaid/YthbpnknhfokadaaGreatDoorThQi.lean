/- surd: floor, sign. -/
import Derived.Test.YthbpnknhfokadaaGreatDoorThQg
set_option linter.unusedSimpArgs false
set_option linter.unusedVariables false
namespace Go.Te
open Go Go.Sx Go.Proofs Go.Ar
set_option maxRecDepth 100000
set_option maxHeartbeats 4000000
theorem Kb {x j k : Nat} (hx : x < 10 ^ j) (hj : j ≤ k) : x < 10 ^ k := Nat.lt_of_lt_of_le hx (Nat.pow_le_pow_right (Nat.succ_pos 9) hj)
theorem uL {a : Int} (h : a.natAbs < 10 ^ 300) : ZR (Lib.itoa a) = 0 := by
 rw [YS]
 exact xF h (by decide) (by decide)
theorem xg (f : Int → Int → Int) {a b : Int} (ha : a.natAbs < 10 ^ 300) (hb : b.natAbs < 10 ^ 300) (h : (f a b).natAbs < 10 ^ 300) : y8 f (Lib.itoa a) (Lib.itoa b) = Lib.itoa (f a b) := by
 rw [(wx (f := f) (uL ha) (uL hb)).2, (za a).2, (za b).2]
 exact (Zo (k := 300) (by decide) (by decide) h).1
theorem Pn {a d : Nat} (ha : a < 10 ^ 300) (hd : d < 10 ^ 300) (h0 : 0 < d) : Yv (Lib.itoa (a : Int)) (Lib.itoa (d : Int)) = Lib.itoa ((a / d : Nat) : Int) ∧ Vq (Lib.itoa (a : Int)) (Lib.itoa (d : Int)) = Lib.itoa ((a % d : Nat) : Int) := by
 have e : XU (Lib.itoa (a : Int)) (Lib.itoa (d : Int)) = 0 := by
  unfold XU zB
  rw [uL (by rw [Int.natAbs_natCast]; exact ha), uL (by rw [Int.natAbs_natCast]; exact hd), rt (by omega)]
  rfl
 obtain ⟨e1, e2⟩ := Qs e
 rw [e1, e2, (za _).2, (za _).2, Int.fdiv_eq_ediv_of_nonneg _ (by omega), Int.fmod_eq_emod_of_nonneg _ (by omega)]
 exact ⟨by rw [Int.natCast_ediv], by rw [Int.natCast_emod]⟩
theorem Ux {a b : Int} : (Lib.itoa a == Lib.itoa b) = decide (a = b) := by
 rw [Bool.eq_iff_iff, beq_iff_eq, decide_eq_true_iff]
 exact ⟨fun h => by rw [← (za a).2, h, (za b).2], fun h => by rw [h]⟩
theorem qc (n : Int) : (((Lib.itoa n).getD 0 0).toNat : Int) = 45 ↔ n < 0 := by
 constructor
 ·intro h
  refine Int.not_le.1 fun h0 => ?_
  obtain ⟨m, rfl⟩ : ∃ m : Nat, n = m := ⟨n.toNat, by omega⟩
  rw [Go.Ar.Z6] at h
  have hd := (Zs.1 (Yq m))
  match hq : Lib.decDigits m, hd with
  | c :: r, hd =>
   have h1 := YZ.1 (hd.2.1 c List.mem_cons_self)
   rw [hq] at h
   have h : (c.toNat : Int) = 45 := h
   have h2 : c = 45 := UInt8.toNat.inj (by show c.toNat = 45; omega)
   rw [h2] at h1
   exact absurd h1.1 (by decide)
 ·intro h
  have := Go.Ar.itoa_neg (n := n.natAbs) (by omega)
  rw [show -((n.natAbs : Nat) : Int) = n by omega] at this
  rw [this]; rfl
theorem Z2 {n : Int} {k : Nat} (hk : 0 < k) (h : n.natAbs < 10 ^ k) : (Lib.itoa n).length ≤ k + 1 ∧ 0 < (Lib.itoa n).length := by
 have h1 := Ya hk h
 have h2 := QY n
 rw [XX]
 split <;> omega
def wz (t : Tm) (p : Nat) : Nat := t.c.num.natAbs * t.c.num.natAbs * mQ t.q * 10 ^ (2 * p)
def WG (t : Tm) (p : Nat) : Int :=
 if 0 ≤ t.c.num then ((ZC (wz t p) / t.c.den : Nat) : Int)
 else -(if ZC (wz t p) * ZC (wz t p) = wz t p ∧ ZC (wz t p) % t.c.den = 0 then ((ZC (wz t p) / t.c.den : Nat) : Int) else ((ZC (wz t p) / t.c.den : Nat) : Int) + 1)
structure Qf (t : Tm) (p : Int) : Prop where
 ne : t.c ≠ 0
 bc : bq 60 t.c
 nat : ZZ RM t
 pl : 0 ≤ p ∧ p ≤ 20
 sq : wz t p.toNat < 10 ^ 77
noncomputable def gt (G : List (Nat × Obj)) : Tb := (((((((WA G).plus 85 SV).plus 78 vW).plus 116 SN).plus 117 Ml).plus 115 SL).plus 64 Ul).plus 118 sT
theorem Pd {G : List (Nat × Obj)} (hG : zN G) : zz Tryz.prog (gt G) := zz.plus (zz.plus (zz.plus (zz.plus (zz.plus (zz.plus (zz.plus zo (qq hG)) (U2 hG)) (zO.mono Ob)) (IN hG)) (Og hG)) (QV hG)) (nr hG)
def NC : List AV → Option (List zk × AV)
 | [x_t, .v (.int .i64 p)] => some ([.b (yp Tm x_t), .p (Qf (yR (α := Tm) x_t) p)], .str (Lib.itoa (WG (yR (α := Tm) x_t) p.toNat)))
 | _ => none
theorem iU (G : List (Nat × Obj)) (t : Tm) (p : Int) (h : Qf t p) :
 let q1 := (Lib.itoa (Rat.num (zD (zt (Tm.c t))))); let q2 := (y8 (fun (x1 x2 : Int) => x1 * x2) q1 q1); let q3 := (y8 (fun (x1 x2 : Int) => x1 * x2) q2 (zt (Tm.q t))); let q5 := (ByteArray.data (ByteArray.mk #[(49 : UInt8)])); let q4 := (Array.toList q5 ++ List.replicate (Int.toNat ((2 : Int) * p)) (48 : UInt8)); let q6 := (y8 (fun (x1 x2 : Int) => x1 * x2) q3 q4); let q7 := (Lib.itoa (cI (ZC (Int.toNat (zX q6))))); let q8 := (Lib.itoa (cI (Rat.den (zD (zt (Tm.c t)))))); let q9 := (ByteArray.data (ByteArray.mk #[(48 : UInt8)])); let q10 := (Yv q7 q8); let q11 := (y8
 (fun (x1 x2 : Int) => x1 + x2) q10 (Array.toList q5)); let q12 := (Array.toList q9); Zv [AV.agg 2 (zS.enc t), aI p] → Yk 300 (zt (Tm.c t)) ∧ lN q1 ≤ nM ∧ lN q1 ≤ nM ∧ lN q2 ≤ nM ∧ lN (zt (Tm.q t)) ≤ nM ∧ bF (dK ((2 : Int) * p)) ((iZ ≤ (2 : Int) * p ∧ (2 : Int) * p ≤ (40 : Int)) ∧ bF (DB.db (1 + lN (List.replicate (Int.toNat ((2 : Int) * p)) (48 : UInt8)) ≤ nX)) (lN q3 ≤ nM ∧ lN q4 ≤ nM ∧ Zx q6 = true ∧ iZ
 < zX q6 ∧ lN q6 ≤ 78 ∧ lN q7 ≤ nM ∧ lN q8 ≤ nM ∧ bF (DB.db (iZ ≤ iZ ∧ iZ < (lZ q1))) (zZ ((cI (UInt8.toNat (gD q1 0 (0 : UInt8)))) != (45 : Int)) (Yv q7 q8 = Lib.itoa (WG t (Int.toNat p))) (lN q7 ≤ nM ∧ lN q7 ≤ nM ∧ bF (!zr false !y8 (fun (x1 x2 : Int) => x1 * x2) q7 q7 == y8 (fun (x1 x2 : Int) => x1 * x2) q3 q4 || zr false !y8 (fun (x1 x2 : Int) => x1 * x2) q7 q7 == y8 (fun (x1 x2 : Int) => x1 * x2) q3 q4) (bF (!!!y8 (fun (x1 x2 : Int) =>
 x1 * x2) q7 q7 == y8 (fun (x1 x2 : Int) => x1 * x2) q3 q4 || zr false !y8 (fun (x1 x2 : Int) => x1 * x2) q7 q7 == y8 (fun (x1 x2 : Int) => x1 * x2) q3 q4) (zZ (bif !y8 (fun (x1 x2 : Int) => x1 * x2) q7 q7 == y8 (fun (x1 x2 : Int) => x1 * x2) q3 q4 then true else !Vq q7 q8 == Array.toList q9) (lN q10 ≤ nM ∧ 1 ≤ nM ∧ 1 ≤ nM ∧ lN q11 ≤ nM ∧ y8 (fun (x1 x2 : Int) => x1 - x2) q12 q11 = Lib.itoa (WG t (Int.toNat p))) (1 ≤ nM ∧ lN q10 ≤ nM ∧ y8 (fun (x1 x2 : Int) => x1 - x2) q12 q10 = Lib.itoa (WG t (Int.toNat
 p))))))))) := by
 delta bF dK nX nM cI lZ lN gD iZ aI
 dsimp only
 intro hb
 simp only [sS, Yw, yQ, zm, yY, ye, xb, YJ, Xk, xz, Xf, xr, vQ, dS]
 obtain ⟨b1, p1, d1, n1⟩ := wK h.nat (by decide)
 obtain ⟨e, m0, mR⟩ := h.nat.mQ
 have E2 : zt t.q = Lib.itoa ((mQ t.q : Nat) : Int) := (congrArg zt e).trans (wG _)
 have o1 : Yk 300 (zt t.c) := (ZL (by decide) (by decide)).2 (h.bc.mono (by decide))
 obtain ⟨p, rfl⟩ : ∃ q : Nat, p = q := ⟨p.toNat, by have := h.pl; omega⟩
 have hp := h.pl
 have hS := h.sq
 have hn0 : t.c.num ≠ 0 := fun e => h.ne (Rat.num_eq_zero.1 e)
 have hN := h.bc.num
 have hD := h.bc.den
 have hd0 := t.c.den_pos
 rw [Int.toNat_natCast] at hS
 rw [Int.toNat_natCast, E2]
 unfold WG
 have ek : (2 * (p : Int)).toNat = 2 * p := by omega
 rw [ek]
 obtain ⟨t1, t2⟩ := Ps (2 * p)
 have et : ([49] ++ List.replicate (2 * p) 48 : zI) = Lib.itoa ((10 ^ (2 * p) : Nat) : Int) := by rw [← t2, YD t1]; rfl
 have eS : wz t p = t.c.num.natAbs * t.c.num.natAbs * mQ t.q * 10 ^ (2 * p) := rfl
 have hT0 : 0 < 10 ^ (2 * p) := Nat.pow_pos (by omega)
 have hT1 : 10 ^ (2 * p) < 10 ^ 41 := Nat.pow_lt_pow_right (by omega) (by omega)
 have lrep : (List.replicate (2 * p) (48 : UInt8)).length = 2 * p := List.length_replicate
 generalize 10 ^ (2 * p) = T at *
 have hm9 : mQ t.q < 10 ^ 9 := Nat.lt_of_le_of_lt mR (by decide)
 generalize mQ t.q = m at *
 generalize t.c.num = n at *
 generalize t.c.den = d at *
 generalize wz t p = S at *
 have hNN : n.natAbs * n.natAbs < 10 ^ 120 := Yr (j := 60) (k := 60) hN hN
 have hNM : n.natAbs * n.natAbs * m < 10 ^ 129 := Yr (j := 120) (k := 9) hNN hm9
 have up : ∀ {x j : Nat}, x < 10 ^ j → j ≤ 300 → x < 10 ^ 300 := fun hx hj => Kb (k := 300) hx hj
 have nn : n * n = ((n.natAbs * n.natAbs : Nat) : Int) := Int.natAbs_mul_self.symm
 have E1 : y8 (fun x1 x2 => x1 * x2) (Lib.itoa n) (Lib.itoa n) = Lib.itoa ((n.natAbs * n.natAbs : Nat) : Int) := by
  rw [xg _ (up hN (by omega)) (up hN (by omega)) (by rw [nn, Int.natAbs_natCast]; exact up hNN (by omega)), nn]
 have E3 : y8 (fun x1 x2 => x1 * x2) (Lib.itoa ((n.natAbs * n.natAbs : Nat) : Int)) (Lib.itoa (m : Int)) = Lib.itoa ((n.natAbs * n.natAbs * m : Nat) : Int) := by
  rw [xg _ (by rw [Int.natAbs_natCast]; exact up hNN (by omega)) (by rw [Int.natAbs_natCast]; exact up hm9 (by omega)) (by rw [← Int.natCast_mul, Int.natAbs_natCast]; exact up hNM (by omega)), ← Int.natCast_mul]
 have E5 : y8 (fun x1 x2 => x1 * x2) (Lib.itoa ((n.natAbs * n.natAbs * m : Nat) : Int)) (Lib.itoa (T : Int)) = Lib.itoa (S : Int) := by
  rw [xg _ (by rw [Int.natAbs_natCast]; exact up hNM (by omega)) (by rw [Int.natAbs_natCast]; exact up hT1 (by omega)) (by rw [← Int.natCast_mul, ← eS, Int.natAbs_natCast]; exact up hS (by omega)), ← Int.natCast_mul, ← eS]
 have hS0 : 0 < S := by
  rw [eS]
  have := Nat.mul_pos (show 0 < n.natAbs by omega) (show 0 < n.natAbs by omega)
  exact Nat.mul_pos (Nat.mul_pos this m0) hT0
 have ltn := Z2 (n := n) (k := 60) (by decide) hN
 have lnn := Z2 (n := ((n.natAbs * n.natAbs : Nat) : Int)) (k := 120) (by decide) (by rw [Int.natAbs_natCast]; exact hNN)
 have lm := Z2 (n := (m : Int)) (k := 9) (by decide) (by rw [Int.natAbs_natCast]; exact hm9)
 have lnm := Z2 (n := ((n.natAbs * n.natAbs * m : Nat) : Int)) (k := 129) (by decide) (by rw [Int.natAbs_natCast]; exact hNM)
 have lT := Z2 (n := (T : Int)) (k := 41) (by decide) (by rw [Int.natAbs_natCast]; exact hT1)
 have lS := Z2 (n := (S : Int)) (k := 77) (by decide) (by rw [Int.natAbs_natCast]; exact hS)
 have hr : ZC S < 10 ^ 77 := Nat.lt_of_le_of_lt (p9 S) hS
 have hrr : ZC S * ZC S ≤ S := (xS S).1
 have lr := Z2 (n := (ZC S : Int)) (k := 77) (by decide) (by rw [Int.natAbs_natCast]; exact hr)
 have ld := Z2 (n := (d : Int)) (k := 60) (by decide) (by rw [Int.natAbs_natCast]; exact hD)
 obtain ⟨v1, v2⟩ := Pn (up hr (by omega)) (up hD (by omega)) hd0
 rw [et, E1, E3, E5, (za (S : Int)).2, Int.toNat_natCast, v1, v2, lrep]
 have hq : ZC S / d < 10 ^ 77 := Nat.lt_of_le_of_lt (Nat.div_le_self _ _) hr
 generalize ZC S / d = q at *
 generalize ZC S % d = rr at *
 generalize ZC S = r at *
 have E6 : y8 (fun x1 x2 => x1 * x2) (Lib.itoa (r : Int)) (Lib.itoa (r : Int)) = Lib.itoa ((r * r : Nat) : Int) := by
  rw [xg _ (by rw [Int.natAbs_natCast]; exact up hr (by omega)) (by rw [Int.natAbs_natCast]; exact up hr (by omega)) (by rw [← Int.natCast_mul, Int.natAbs_natCast]; exact up (Nat.lt_of_le_of_lt hrr hS) (by omega)), ← Int.natCast_mul]
 have one : ([49] : zI) = Lib.itoa 1 := by decide +kernel
 have zer : ([48] : zI) = Lib.itoa 0 := by decide +kernel
 have e300 : ∀ k : Nat, k < 10 ^ 78 → (k : Int).natAbs < 10 ^ 300 := fun k hk => by rw [Int.natAbs_natCast]; exact up hk (by omega)
 have big : (1 : Int).natAbs < 10 ^ 300 := up (j := 1) (show (1 : Int).natAbs < 10 ^ 1 by decide) (by omega)
 have h78 : ∀ k : Nat, k < 10 ^ 77 → k + 1 < 10 ^ 78 := fun k hk => by
  have : (10 : Nat) ^ 78 = 10 ^ 77 * 10 := rfl
  omega
 have E7 : y8 (fun x1 x2 => x1 + x2) (Lib.itoa ((q : Nat) : Int)) [49] = Lib.itoa ((q : Int) + 1) := by
  rw [one, xg (fun x1 x2 => x1 + x2) (e300 _ (Nat.lt_trans (Nat.lt_succ_self _) (h78 _ hq))) big (by
   show ((q : Int) + 1).natAbs < 10 ^ 300
   have := up (h78 _ hq) (by omega)
   omega)]
 have E8 : ∀ z : Nat, z < 10 ^ 78 → y8 (fun x1 x2 => x1 - x2) [48] (Lib.itoa (z : Int)) = Lib.itoa (-(z : Int)) := fun z hz => by
  rw [zer, xg (fun x1 x2 => x1 - x2) (up (j := 1) (show (0 : Int).natAbs < 10 ^ 1 by decide) (by omega)) (e300 _ hz) (by
   show (0 - (z : Int)).natAbs < 10 ^ 300
   have := up hz (by omega)
   omega)]
  show Lib.itoa (0 - (z : Int)) = _
  rw [Int.zero_sub]
 have lq := Z2 (n := ((q : Nat) : Int)) (k := 77) (by decide) (by rw [Int.natAbs_natCast]; exact hq)
 have lq1 := Z2 (n := ((q : Nat) : Int) + 1) (k := 78) (by decide) (by have := h78 _ hq; omega)
 have e45 := qc n
 rw [E6, E7]
 refine ⟨o1, by omega, by omega, by omega, by omega, by simp only [ZA]; omega, ⟨by omega, by omega⟩, by omega, by omega, by omega, (za _).1, by omega, by omega, by omega, by omega, ⟨by omega, by omega⟩, fun h5 => ?_, fun h5 => ⟨by omega, by omega, ?_⟩⟩
 ·have hn : 0 ≤ n := Int.not_lt.1 fun e => h5 (e45.2 e)
  rw [if_pos hn]
 ·have hn : ¬ 0 ≤ n := Int.not_le.2 (e45.1 h5)
  rw [if_neg hn, zer, Ux, Ux]
  refine zY.2 ⟨fun c => ?_, fun c => ?_⟩
  ·have c' : ¬(r * r = S ∧ rr = 0) := fun e => by
    rw [decide_eq_true (show ((r * r : Nat) : Int) = (S : Int) by rw [e.1]), decide_eq_true (show (rr : Int) = 0 by omega)] at c
    cases c
   have e9 := E8 (q + 1) (h78 _ hq)
   rw [if_neg c']
   rw [zer, Int.natCast_add] at e9
   exact ⟨by omega, by omega, by omega, by omega, e9⟩
  ·have c' : r * r = S ∧ rr = 0 := by
    simp only [Bool.or_eq_false_iff, Bool.not_eq_false', decide_eq_true_eq] at c
    exact ⟨by have := c.1; omega, by have := c.2; omega⟩
   have e9 := E8 q (Nat.lt_trans (Nat.lt_succ_self _) (h78 _ hq))
   rw [if_pos c']
   rw [zer] at e9
   exact ⟨by omega, by omega, e9⟩
theorem Ic {G : List (Nat × Obj)} (hG : zN G) (t : Tm) (p : Int) (h : Qf t p) : zU Tryz.prog G 80 [xR t, .i p] (.str (Lib.itoa (WG t p.toNat))) :=
 zW (T := gt G) (an := .auto) mixed (Pd hG) (Eq.mp (by kernel_rfl) (iU G t p h))
theorem Iv {G : List (Nat × Obj)} (hG : zN G) : zO Tryz.prog G 80 NC := by
 intro xs ps r h hp
 unfold NC at h
 split at h
 ·skip
  rename_i x_t p
  cases h
  obtain ⟨q0, q1, -⟩ := ZH hp
  exact weaken (ys := [xR (yR (α := Tm) x_t), .i p]) ⟨Zt q0, zT _, trivial⟩ (Ic hG (yR (α := Tm) x_t) p q1)
 ·cases h
def Zp : Array Value := #[.int .i64 4, .int .i64 16, .int .i64 64]
def WE (G : List (Nat × Obj)) : Prop := zN G ∧ ∃ t fr t2 fr2 G', G = (2, Obj.cells zM t fr) :: (0, Obj.cells Zp t2 fr2) :: G'
theorem WE.tab {G : List (Nat × Obj)} (h : WE G) : zN G := h.1
def Zk (s : List Tm) (p : Nat) : Int := (s.map fun t => WG t p).sum
noncomputable def gh (G : List (Nat × Obj)) : Tb := ((((WA G).plus 80 NC).plus 64 Ul).plus 59 sE)
theorem PQ {G : List (Nat × Obj)} (hG : zN G) : zz Tryz.prog (gh G) := zz.plus (zz.plus (zz.plus zo (Iv hG)) (QV hG)) (Mm hG)
theorem OU {s : List Tm} {z : Nat} (h : z < s.length) (p : Nat) : Zk (s.take (z + 1)) p = Zk (s.take z) p + WG (s.getD z zS.dflt) p := by
 unfold Zk
 rw [Uj h, List.map_append, List.sum_append]
 simp
def xy (s : List Tm) (p : Nat) : Int := if 0 < Zk s p then 1 else if Zk s p + s.length < 0 then -1 else 0
def YV (s : List Tm) : Int := if xy s 4 = 0 then xy s 16 else xy s 4
structure iJ (s : List Tm) : Prop where
 ne : 0 < s.length
 len : s.length ≤ 16
 a : ∀ t ∈ s, Qf t 4
 b : xy s 4 = 0 → ∀ t ∈ s, Qf t 16
 dec : YV s ≠ 0
theorem MP {t : Tm} {P : Int} (h : Qf t P) : (WG t P.toNat).natAbs < 10 ^ 79 := by
 have h1 : ZC (wz t P.toNat) < 10 ^ 77 := Nat.lt_of_le_of_lt (p9 _) h.sq
 have h2 : ZC (wz t P.toNat) / t.c.den < 10 ^ 77 := Nat.lt_of_le_of_lt (Nat.div_le_self _ _) h1
 have e : (10 : Nat) ^ 79 = 10 ^ 77 * 100 := rfl
 unfold WG
 generalize ZC (wz t P.toNat) / t.c.den = q at *
 split
 ·omega
 ·split <;> omega
theorem Ll {s : List Tm} {P : Int} (hl : s.length ≤ 16) (h : ∀ t ∈ s, Qf t P) (z : Nat) : (Zk (s.take z) P.toNat).natAbs < 10 ^ 82 := by
 have key : ∀ l : List Tm, (∀ t ∈ l, Qf t P) → (Zk l P.toNat).natAbs ≤ l.length * 10 ^ 79 := by
  intro l
  induction l with
  | nil => intro _; simp [Zk]
  | cons t l ih =>
   intro hl
   have h1 := MP (hl t List.mem_cons_self)
   have h2 := ih fun x hx => hl x (List.mem_cons_of_mem _ hx)
   have e : Zk (t :: l) P.toNat = WG t P.toNat + Zk l P.toNat := by unfold Zk; simp
   rw [e, List.length_cons, Nat.add_mul]
   have := Int.natAbs_add_le (WG t P.toNat) (Zk l P.toNat)
   omega
 have h1 := key (s.take z) fun t ht => h t (List.mem_of_mem_take ht)
 have h2 : (s.take z).length * 10 ^ 79 ≤ 16 * 10 ^ 79 := Nat.mul_le_mul_right _ (by rw [List.length_take]; omega)
 have e : (10 : Nat) ^ 82 = 1000 * 10 ^ 79 := rfl
 omega
theorem cmp0 {x : Int} (h : x.natAbs < 10 ^ 300) : y5 (Lib.itoa x) [48] = xL x 0 := by
 unfold y5 zB
 rw [uL h, (za x).2]
 rfl
theorem TV (x : Int) : (0 < xL x 0 ↔ 0 < x) ∧ zF (xL x 0) 0 = zF x 0 ∧ (xL x 0 == 0) = (x == 0) := by
 unfold xL
 cases h1 : zF x 0 with
 | true =>
  have := (zp _ _).1 h1
  exact ⟨⟨fun h => absurd h (show ¬ (0 : Int) < -1 by decide), fun h => by omega⟩, rfl, by rw [show (x == 0) = false from beq_eq_false_iff_ne.2 (by omega)]; rfl⟩
 | false =>
  have h1 : ¬ x < 0 := fun e => by rw [(zp _ _).2 e] at h1; cases h1
  cases h2 : x == 0 with
  | true => have := beq_iff_eq.1 h2; exact ⟨⟨fun h => absurd h (by decide), fun h => by omega⟩, rfl, rfl⟩
  | false => have := beq_eq_false_iff_ne.1 h2; exact ⟨⟨fun _ => by omega, fun _ => by decide⟩, rfl, rfl⟩
theorem TE {s : List Tm} {p : Nat} {P k V : Int} (hP : P.toNat = p) (hl : s.length ≤ 16) (hf : ∀ t ∈ s, Qf t P) (hk : 0 ≤ k ∧ k < 3) {NEXT : Prop} (h1 : 0 < Zk s p → 1 = V) (h2 : Zk s p ≤ 0 → Zk s p + s.length < 0 → -1 = V) (h3 : Zk s p ≤ 0 → 0 ≤ Zk s p + s.length → NEXT) :
  (∃ z : Nat, z ≤ s.length ∧ [48] = Lib.itoa (Zk (List.take z s) p) ∧ (0 : Int) = (z : Int)) ∧
   ∀ z : Nat, z ≤ s.length →
    ((z : Int) < (s.length : Int) → (0 ≤ (z : Int) ∧ (z : Int) < (s.length : Int)) ∧ Qf (s.getD z zS.dflt) P ∧ (Lib.itoa (Zk (List.take z s) p)).length ≤ 4294967280 ∧ (Lib.itoa (WG (s.getD z zS.dflt) p)).length ≤ 4294967280 ∧ ZA IntKind.i64 ((z : Int) + 1) ∧
      ∃ z' : Nat, (z' ≤ s.length ∧ s.length - z' < s.length - z) ∧ y8 (fun x1 x2 => x1 + x2) (Lib.itoa (Zk (List.take z s) p)) (Lib.itoa (WG (s.getD z zS.dflt) p)) = Lib.itoa (Zk (List.take z' s) p) ∧ (z : Int) + 1 = (z' : Int)) ∧
     ((s.length : Int) ≤ (z : Int) → (Lib.itoa (Zk (List.take z s) p)).length ≤ 4294967280 ∧ 1 ≤ 4294967280 ∧
       (0 < y5 (Lib.itoa (Zk (List.take z s) p)) [48] → 2 = [AV.junk, AV.junk].length ∧ 1 = V) ∧
        (y5 (Lib.itoa (Zk (List.take z s) p)) [48] ≤ 0 →
         (∃ z_1 : Nat, z_1 ≤ s.length ∧ Lib.itoa (Zk (List.take z s) p) = Lib.itoa (Zk s p + (z_1 : Int)) ∧ (0 : Int) = (z_1 : Int)) ∧
          ∀ z : Nat, z ≤ s.length →
           ((z : Int) < (s.length : Int) → (Lib.itoa (Zk s p + (z : Int))).length ≤ 4294967280 ∧ 1 ≤ 4294967280 ∧ ZA IntKind.i64 ((z : Int) + 1) ∧
             ∃ z' : Nat, (z' ≤ s.length ∧ s.length - z' < s.length - z) ∧ y8 (fun x1 x2 => x1 + x2) (Lib.itoa (Zk s p + (z : Int))) [49] = Lib.itoa (Zk s p + (z' : Int)) ∧ (z : Int) + 1 = (z' : Int)) ∧
            ((s.length : Int) ≤ (z : Int) → (Lib.itoa (Zk s p + (z : Int))).length ≤ 4294967280 ∧ 1 ≤ 4294967280 ∧
              ((!zF (y5 (Lib.itoa (Zk s p + (z : Int))) [48]) 0 && y5 (Lib.itoa (Zk s p + (z : Int))) [48] == 0) = true → ZA IntKind.i64 k) ∧
               zZ (!!zF (y5 (Lib.itoa (Zk s p + (z : Int))) [48]) 0 || (!y5 (Lib.itoa (Zk s p + (z : Int))) [48] == 0 || !zF (y5 (Lib.itoa (Zk s p + (z : Int))) [48]) 0 && y5 (Lib.itoa (Zk s p + (z : Int))) [48] == 0))
                (zZ (zF (y5 (Lib.itoa (Zk s p + (z : Int))) [48]) 0 || y5 (Lib.itoa (Zk s p + (z : Int))) [48] == 0 && k == 3) (2 = [AV.junk, AV.junk].length ∧ -1 = V) NEXT) False))) := by
 subst hP
 have big := Ll hl hf
 have full := big s.length
 rw [List.take_length] at full
 have up : ∀ x : Int, x.natAbs < 10 ^ 83 → x.natAbs < 10 ^ 300 := fun x hx => Kb (k := 300) hx (by decide)
 have e83 : (10 : Nat) ^ 83 = 10 ^ 82 * 10 := rfl
 have e82 : (10 : Nat) ^ 82 = 10 ^ 79 * 1000 := rfl
 have zer : ([48] : zI) = Lib.itoa 0 := by decide +kernel
 have one : ([49] : zI) = Lib.itoa 1 := by decide +kernel
 have sh : ∀ x : Int, x.natAbs < 10 ^ 83 → (Lib.itoa x).length ≤ 4294967280 := fun x hx => by have := (Z2 (k := 83) (by decide) hx).1; omega
 refine ⟨⟨0, Nat.zero_le _, zer.trans (by rfl), rfl⟩, fun z hz => ⟨fun hlt => ?_, fun hge => ?_⟩⟩
 ·have hzl : z < s.length := by omega
  have f := hf _ (yd hzl)
  have b1 := big z
  have b2 := MP f
  have b3 := big (z + 1)
  have e := OU hzl P.toNat
  refine ⟨⟨by omega, by omega⟩, f, sh _ (by omega), sh _ (by omega), by simp only [ZA]; omega, z + 1, ⟨by omega, by omega⟩, ?_, by omega⟩
  rw [xg _ (up _ (by omega)) (up _ (by omega)) (by rw [← e]; exact up _ (by omega)), e]
 ·obtain rfl : z = s.length := by omega
  rw [List.take_length, cmp0 (up _ (by omega))]
  obtain ⟨c1, c2, c3⟩ := TV (Zk s P.toNat)
  refine ⟨sh _ (by omega), by omega, fun h => ⟨rfl, h1 (c1.1 h)⟩, fun h => ⟨⟨0, Nat.zero_le _, by rw [show ((0 : Nat) : Int) = 0 from rfl, Int.add_zero], rfl⟩, fun y hy => ⟨fun ylt => ?_, fun yge => ?_⟩⟩⟩
  ·refine ⟨sh _ (by omega), by omega, by simp only [ZA]; omega, y + 1, ⟨by omega, by omega⟩, ?_, by omega⟩
   rw [one, xg _ (up _ (by omega)) (up 1 (by decide)) (up _ (by omega)), Int.natCast_add, ← Int.add_assoc]; rfl
  ·obtain rfl : y = s.length := by omega
   rw [cmp0 (up _ (by omega))]
   obtain ⟨d1, d2, d3⟩ := TV (Zk s P.toNat + (s.length : Int))
   have hs : Zk s P.toNat ≤ 0 := Int.not_lt.1 fun e => by have := c1.2 e; omega
   rw [d2, d3, show (k == 3) = false from beq_eq_false_iff_ne.2 (by omega), Bool.and_false, Bool.or_false]
   refine ⟨sh _ (by omega), by omega, fun _ => by simp only [ZA]; omega, zY.2 ⟨fun _ => zY.2 ⟨fun c => ⟨rfl, h2 hs ((zp _ _).1 c)⟩, fun c => h3 hs (Int.not_lt.1 fun e => by rw [(zp _ _).2 e] at c; cases c)⟩, fun c => ?_⟩⟩
   exfalso
   revert c
   cases zF (Zk s P.toNat + (s.length : Int)) 0 <;> cases Zk s P.toNat + (s.length : Int) == 0 <;> decide
def JQ (s : List Tm) : yq :=
 .two .auto (.two .auto (.two (.two .auto (.one (.unroll 4 ((.two .auto (.two .auto (.two (.one (.two .auto (.two .auto (.two (.two .auto (.one (.loop Nat (fun σ z => [(0, σ.tm 0), (4, σ.tm 4), (5, σ.tm 5), (16, σ.tm 16), (17, σ.tm 17), (21, σ.tm 21), (22, σ.tm 22), (6, .str (Lib.itoa (Zk (s.take z) (AV.int (σ.tm 5)).toNat))), (23, .i (z : Int))]) (fun σ z => []) 0 (fun σ z => z ≤ s.length) (fun σ z => s.length - z) .auto))) (.two .auto (.two (.two .auto (.one (.loop Nat (fun σ z => [(0, σ.tm 0), (4, σ.tm 4), (16, σ.tm 16), (17, σ.tm 17), (44, σ.tm 44), (6, .str (Lib.itoa (Zk s (AV.int (σ.tm 5)).toNat + (z : Int)))), (45, .i (z : Int))]) (fun σ z => []) 0 (fun σ z => z ≤ s.length) (fun σ z => s.length - z) .auto))) .auto)))))) .auto))))))) .auto))
theorem JZ (t1 t2 : TypeId) (fr fr2 : Nat × Nat) (G : List (Nat × Obj)) (s : List Tm) (h : iJ s) :
 let q1 := (True ∧ kI ∧ iZ = YV s); let q2 := (AV.xl false 2 (lN s) fun i j => zS.enc (gD s i zS.dflt) j); let q3 := (kI ∧ iZ = iZ); let q4 := (kI ∧ Sx.intOf (Array.getD Zp 0 undef) = Sx.intOf (Array.getD Zp 0 undef)); let q5 := (3 = 3 ∧ ((kI ∧ Sx.intOf (Array.getD Zp (nat_lit 0) undef) = Sx.intOf (Array.getD Zp (nat_lit 0) undef)) ∧ kI ∧ Sx.intOf (Array.getD Zp (nat_lit 1) undef) = Sx.intOf (Array.getD Zp (nat_lit 1) undef)) ∧ kI
 ∧ Sx.intOf (Array.getD Zp (nat_lit 2) undef) = Sx.intOf (Array.getD Zp (nat_lit 2) undef)); let q6 := (kI ∧ (lZ s) = (lZ s)); let q7 := (ByteArray.data (ByteArray.mk #[(48 : UInt8)])); let q8 := (Int.toNat (AV.int (aI (Sx.intOf (Array.getD Zp 0 undef))))); let q10 := (Value.agg #[Value.string (ByteArray.mk #[]), Value.string (ByteArray.mk #[])]); let q15 := (Array.toList q7); let q16 := (j2 ∧ (True ∧ kI ∧ iO = YV s) ∧ kI ∧ iZ = (0
 : Int)); let q18 := (bA #[(49 : UInt8)]); let q25 := (j2 ∧ (True ∧ kI ∧ (-1 : Int) = YV s) ∧ kI ∧ iZ = iZ); let q26 := (kI ∧ iZ + iO = iZ + iO); let q27 := (kI ∧ Sx.intOf (Array.getD Zp 1 undef) = Sx.intOf (Array.getD Zp 1 undef)); let q28 := (Int.toNat (AV.int (aI (Sx.intOf (Array.getD Zp 1 undef))))); let q41 := (kI ∧ iZ + iO + iO = iZ +
 iO + iO); let q42 := (kI ∧ Sx.intOf (Array.getD Zp 2 undef) = Sx.intOf (Array.getD Zp 2 undef)); let q43 := (Int.toNat (AV.int (aI (Sx.intOf (Array.getD Zp 2 undef))))); Zv [AV.xl false 2 (lN s) fun i j => zS.enc (gD s i zS.dflt) j] → zZ ((lZ s) == iZ) (j2 ∧ q1 ∧ kI ∧ iZ = iZ) ((∃ (z : Nat), (z ≤ lN s ∧ zb q2 q2 ∧ q3 ∧ q4 ∧ q5 ∧ q3 ∧ zb q2 q2 ∧ q6 ∧ Array.toList q7 = Lib.itoa (Zk (List.take z s) q8) ∧
 kI ∧ iZ = (cI z)) ∧ True) ∧ ∀ (z : Nat), let q9 := (AV.agg 2 fun (i : Nat) => if 0 ≤ 0 + i ∧ 0 + i < 2 then zS.enc (gD s (Int.toNat (cI z)) zS.dflt) (0 + (0 + i - 0)) else Z3 q10 (0 + i)); let q11 := (yR q9); let q13 := (Zk (List.take z s) q8); let q12 := (Lib.itoa q13); let q14 := (Lib.itoa (WG q11 4)); z ≤ lN s → zZ (zF (cI z) (lZ s)) (bF (DB.db (iZ ≤ (cI z) ∧ (cI z) < (lZ s))) (bF (yp Tm q9) (Qf q11 (Sx.intOf (Array.getD Zp 0 undef)) ∧ lN q12 ≤
 nM ∧ lN q14 ≤ nM ∧ bF (dK ((cI z) + iO)) (∃ (z' : Nat), ((z' ≤ lN s ∧ lN s - z' < lN s - z) ∧ zb q2 q2 ∧ q3 ∧ q4 ∧ q5 ∧ q3 ∧ zb q2 q2 ∧ q6 ∧ y8 (fun (x1 x2 : Int) => x1 + x2) q12 q14 = Lib.itoa (Zk (List.take z' s) q8) ∧ kI ∧ (cI z) + iO = (cI z')) ∧ True)))) (lN q12 ≤ nM ∧ 1 ≤ nM ∧ zZ (zF iZ (y5 q12 q15)) q16 ((∃ (z_1 : Nat), (z_1 ≤ lN s ∧ zb q2 q2 ∧ q3 ∧ q5 ∧ q3 ∧ q6 ∧ Lib.itoa q13 = Lib.itoa (Zk s q8 + (↑z_1
 : Int)) ∧ kI ∧ iZ = (cI z_1)) ∧ True) ∧ ∀ (z : Nat), let q17 := (Lib.itoa (Zk s q8 + (cI z))); let q21 := (y5 q17 q15); let q20 := (zF q21 iZ); let q19 := (!zr false q20 || zr false q20); let q24 := (y5 q17 q15 == iZ); let q23 := (zr false q20 && zr true q24); let q22 := (!q23 || zr false q20 && zr true q24); z ≤ lN s → zZ (zF (cI z) (lZ s)) (lN q17 ≤ nM ∧ 1 ≤ nM ∧ bF (dK ((cI z) + iO)) (∃ (z' : Nat), ((z' ≤ lN s ∧ lN s - z'
 < lN s - z) ∧ zb q2 q2 ∧ q3 ∧ q5 ∧ q3 ∧ q6 ∧ y8 (fun (x1 x2 : Int) => x1 + x2) q17 q18 = Lib.itoa (Zk s q8 + (cI z')) ∧ kI ∧ (cI z) + iO = (cI z')) ∧ True)) (lN q17 ≤ nM ∧ 1 ≤ nM ∧ bF q19 (bF q19 (bF q22 (bF (!q23 || dK (iZ + iO)) (bF q22 (bF q19 (bF (!zr false q20 || (!y5 q17 q15 == iZ || zr false q20 && zr true q24)) (bF (!!zF q21 iZ || zr false q20) (zZ (bif zF q21 iZ then true else bif y5 q17 q15 == iZ then
 iZ + iO == (3 : Int) else false) q25 ((∃ (z : Nat), (z ≤ lN s ∧ zb q2 q2 ∧ q26 ∧ q27 ∧ q5 ∧ q26 ∧ zb q2 q2 ∧ q6 ∧ Array.toList q7 = Lib.itoa (Zk (List.take z s) q28) ∧ kI ∧ iZ = (cI z)) ∧ True) ∧ ∀ (z : Nat), let q29 := (AV.agg 2 fun (i : Nat) => if 0 ≤ 0 + i ∧ 0 + i < 2 then zS.enc (gD s (Int.toNat (cI z)) zS.dflt) (0 + (0 + i - 0)) else Z3 q10 (0 + i)); let q30 := (yR q29); let q32 := (Zk (List.take z s) q28); let q31 := (Lib.itoa q32); let q33 := (Lib.itoa (WG q30 16)); z ≤ lN s → zZ (zF (cI z)
 (lZ s)) (bF (DB.db (iZ ≤ (cI z) ∧ (cI z) < (lZ s))) (bF (yp Tm q29) (Qf q30 (Sx.intOf (Array.getD Zp 1 undef)) ∧ lN q31 ≤ nM ∧ lN q33 ≤ nM ∧ bF (dK ((cI z) + iO)) (∃ (z' : Nat), ((z' ≤ lN s ∧ lN s - z' < lN s - z) ∧ zb q2 q2 ∧ q26 ∧ q27 ∧ q5 ∧ q26 ∧ zb q2 q2 ∧ q6 ∧ y8 (fun (x1 x2 : Int) => x1 + x2) q31 q33 = Lib.itoa (Zk (List.take z' s) q28) ∧ kI ∧ (cI z) + iO = (cI z')) ∧ True))))
 (lN q31 ≤ nM ∧ 1 ≤ nM ∧ zZ (zF iZ (y5 q31 q15)) q16 ((∃ (z_1 : Nat), (z_1 ≤ lN s ∧ zb q2 q2 ∧ q26 ∧ q5 ∧ q26 ∧ q6 ∧ Lib.itoa q32 = Lib.itoa (Zk s q28 + (cI z_1)) ∧ kI ∧ iZ = (cI z_1)) ∧ True) ∧ ∀ (z : Nat), let q34 := (Lib.itoa (Zk s q28 + (cI z))); let q37 := (y5 q34 q15); let q36 := (zF q37 iZ); let q35 := (!zr false q36 || zr false q36); let q40 := (y5 q34 q15 == iZ); let q39 := (zr false q36 && zr true q40); let q38 := (!q39 || zr false q36 && zr true q40); z ≤ List.length
 s → zZ (zF (cI z) (lZ s)) (lN q34 ≤ nM ∧ 1 ≤ nM ∧ bF (dK ((cI z) + iO)) (∃ (z' : Nat), ((z' ≤ lN s ∧ lN s - z' < lN s - z) ∧ zb q2 q2 ∧ q26 ∧ q5 ∧ q26 ∧ q6 ∧ y8 (fun (x1 x2 : Int) => x1 + x2) q34 q18 = Lib.itoa (Zk s q28 + (cI z')) ∧ kI ∧ (cI z) + iO = (cI z')) ∧ True)) (lN q34 ≤ nM ∧ 1 ≤ nM ∧ bF q35 (bF q35 (bF q38 (bF (!q39 || dK (iZ + iO + iO)) (bF q38 (zZ
 q35 (bF (!zr false q36 || (!y5 q34 q15 == iZ || zr false q36 && zr true q40)) (bF (!!zF q37 iZ || zr false q36) (zZ (bif zF q37 iZ then true else bif y5 q34 q15 == iZ then iZ + iO + iO == (3 : Int) else false) q25 ((∃ (z : Nat), (z ≤ lN s ∧ zb q2 q2 ∧ q41 ∧ q42 ∧ q5 ∧ q41 ∧ zb q2 q2 ∧ q6 ∧ Array.toList q7 = Lib.itoa (Zk (List.take z s) q43) ∧ kI ∧ iZ = (cI z)) ∧ True) ∧ ∀ (z : Nat), let q44 := (AV.agg 2 fun (i : Nat) => if 0 ≤ 0 + i ∧ 0 + i < 2 then zS.enc (gD s (Int.toNat
 (cI z)) zS.dflt) (0 + (0 + i - 0)) else Z3 q10 (0 + i)); let q45 := (yR q44); let q47 := (Zk (List.take z s) q43); let q46 := (Lib.itoa q47); let q48 := (Lib.itoa (WG q45 64)); z ≤ lN s → zZ (zF (cI z) (lZ s)) (bF (DB.db (iZ ≤ (cI z) ∧ (cI z) < (lZ s))) (bF (yp Tm q44) (Qf q45 (Sx.intOf (Array.getD Zp 2 undef)) ∧ lN q46 ≤ nM ∧ lN q48 ≤ nM ∧ bF (dK ((cI z) + iO)) (∃ (z' : Nat), ((z' ≤ lN s ∧ lN s - z' < lN s -
 z) ∧ zb q2 q2 ∧ q41 ∧ q42 ∧ q5 ∧ q41 ∧ zb q2 q2 ∧ q6 ∧ y8 (fun (x1 x2 : Int) => x1 + x2) q46 q48 = Lib.itoa (Zk (List.take z' s) q43) ∧ kI ∧ (cI z) + iO = (cI z')) ∧ True)))) (lN q46 ≤ nM ∧ 1 ≤ nM ∧ zZ (zF iZ (y5 q46 q15)) q16 ((∃ (z_1 : Nat), (z_1 ≤ lN s ∧ zb q2 q2 ∧ q41 ∧ q5 ∧ q41 ∧ q6 ∧ Lib.itoa q47 = Lib.itoa (Zk s q43 + (cI z_1)) ∧ kI ∧ iZ = (cI z_1)) ∧ True) ∧ ∀ (z : Nat), let q49 := (Lib.itoa (Zk s q43 + (cI z))); let q52 := (y5 q49 q15); let q51
 := (zF q52 iZ); let q50 := (!zr false q51 || zr false q51); let q55 := (y5 q49 q15 == iZ); let q54 := (zr false q51 && zr true q55); let q53 := (!q54 || zr false q51 && zr true q55); z ≤ lN s → zZ (zF (cI z) (lZ s)) (lN q49 ≤ nM ∧ 1 ≤ nM ∧ bF (dK ((cI z) + iO)) (∃ (z' : Nat), ((z' ≤ lN s ∧ lN s - z' < lN s - z) ∧ zb q2 q2 ∧ q41 ∧ q5 ∧ q41 ∧ q6 ∧ y8 (fun (x1 x2 : Int) => x1 + x2) q49 q18 = Lib.itoa (Zk s q43 + (cI z')) ∧ kI ∧
 (cI z) + iO = (cI z')) ∧ True)) (lN q49 ≤ nM ∧ 1 ≤ nM ∧ bF q50 (bF q50 (bF q53 (bF (!q54 || dK (iZ + iO + iO + iO)) (bF q53 (bF q50 (bF (!zr false q51 || (!y5 q49 q15 == iZ || zr false q51 && zr true q55)) (bF (!!zF q52 iZ || zr false q51) (zZ (bif zF q52 iZ then true else bif y5 q49 q15 == iZ then iZ + iO + iO + iO == (3 : Int) else false) q25 (j2 ∧ q1 ∧ IntKind.i64 =
 .i64 ∧ (4 : Int) = iZ)))))))))))))))) False))))))))))))))))))))) := by
 delta bF dK bA nM cI kI j2 lZ lN gD iZ iO aI
 dsimp only
 intro hb
 simp only [↓yx, ↓ZI, row_one]
 have c0 : Sx.intOf (Zp.getD 0 undef) = 4 := rfl
 have c1 : Sx.intOf (Zp.getD 1 undef) = 16 := rfl
 have c2 : Sx.intOf (Zp.getD 2 undef) = 64 := rfl
 have n0 : Int.toNat 4 = 4 := rfl
 have n1 : Int.toNat 16 = 16 := rfl
 simp only [sS, Yw, yQ, zm, yY, ye, xb, YJ, Xk, xz, Xf, xr, vQ, dS, c0, c1, c2, n0, n1]
 have hne := h.ne
 have hd := h.dec
 refine ⟨fun h0 => by omega, fun _ => TE (p := 4) rfl h.len h.a (by decide) (fun h0 => ?_) (fun h0 h1 => ?_) fun h0 h1 => ?_⟩
 ·unfold YV xy
  rw [if_pos h0]; rfl
 ·have e : xy s 4 = -1 := by unfold xy; rw [if_neg (by omega), if_pos h1]
  unfold YV
  rw [e]; rfl
 have e4 : xy s 4 = 0 := by unfold xy; rw [if_neg (by omega), if_neg (by omega)]
 have e16 : YV s = xy s 16 := by unfold YV; rw [if_pos e4]
 rw [e16] at hd ⊢
 refine TE (p := 16) rfl h.len (h.b e4) (by decide) (fun h0 => ?_) (fun h0 h1 => ?_) fun h0 h1 => ?_
 ·unfold xy
  rw [if_pos h0]
 ·unfold xy
  rw [if_neg (by omega), if_pos h1]
 ·exact absurd (by unfold xy; rw [if_neg (by omega), if_neg (by omega)]) hd
def nZ : List AV → Option (List zk × AV)
 | [x] => some ([.b (zC Tm x), .p (iJ (Ze (α := Tm) x))], .tup 2 (zw [.i (YV (Ze (α := Tm) x)), .i 0]))
 | _ => none
theorem If {G : List (Nat × Obj)} (hG : WE G) : zO Tryz.prog G 41 nZ := by
 intro xs ps r h hp
 unfold nZ at h
 split at h
 ·rename_i x
  cases h
  obtain ⟨q0, -⟩ := ZH hp
  have q1 : iJ (Ze (α := Tm) x) := hp _ (List.mem_cons_of_mem _ List.mem_cons_self)
  have hs := PQ hG.tab
  obtain ⟨_, t, fr, t2, fr2, G', rfl⟩ := hG
  exact weaken (ys := [_]) ⟨zg q0, trivial⟩ (zW mixed hs (Eq.mp (by kernel_rfl) (JZ t t2 fr fr2 G' (Ze (α := Tm) x) q1) : vK Tryz.prog (gh ((2, Obj.cells zM t fr) :: (0, Obj.cells Zp t2 fr2) :: G')) 41 (JQ (Ze (α := Tm) x)) [ZD (Ze (α := Tm) x)] (.tup 2 (zw [.i (YV (Ze (α := Tm) x)), .i 0]))))
 ·cases h
structure Jp (s t : List Tm) : Prop where
 fs : Xn s
 ft : Xn t
 made : wk (s ++ Zl (-1) t)
 sg : iJ (Zb (s ++ Zl (-1) t))
theorem jL (G : List (Nat × Obj)) (s t : List Tm) (h : Jp s t) :
 let q1 := (AV.xl false 2 (lN s) fun i j => zS.enc (gD s i zS.dflt) j); let q2 := (AV.xl false 2 (lN t) fun i j => zS.enc (gD t i zS.dflt) j); let q3 := (Ze q2); let q4 := (Ze q1 ++ Zl (-1 : Rat) q3); let q6 := (Zb q4); let q5 := (AV.xl false 2 (lN q6) fun i j => zS.enc (gD q6 i zS.dflt) j); let q7 := (Ze q5); Zv [AV.xl false 2 (lN s) fun i j => zS.enc (gD s i zS.dflt) j, AV.xl false 2 (lN t) fun i j => zS.enc (gD t i zS.dflt) j] → bF (zC Tm q1) (bF (zC Tm q2) (Xn (Ze q1) ∧ Xn q3 ∧
 wk q4 ∧ bF (zC Tm q5) (iJ q7 ∧ j2 ∧ (True ∧ kI ∧ YV q7 = YV (Zb (s ++ Zl (-1 : Rat) t))) ∧ kI ∧ iZ = iZ))) := by
 delta bF kI j2 lN gD iZ
 dsimp only
 intro hb
 simp only [↓yx, ↓ZI, row_one]
 simp only [sS, Yw, yQ, zm, yY, ye, xb, YJ, Xk, xz, Xf, xr, vQ, dS]
 exact ⟨h.fs, h.ft, h.made, h.sg, rfl⟩
theorem OI {G : List (Nat × Obj)} (hG : WE G) (s t : List Tm) (h : Jp s t) : zU Tryz.prog G 23 [ZD s, ZD t] (.tup 2 (zw [.i (YV (Zb (s ++ Zl (-1) t))), .i 0])) :=
 zW (T := ((WA G).plus 13 qx).plus 41 nZ) (an := .auto) mixed (zz.plus (zz.plus zo (Jo hG.tab)) (If hG)) (Eq.mp (by kernel_rfl) (jL G s t h))
end Go.Te

namespace Go.Te
open Go Go.Sx Go.Proofs Go.Ar
set_option maxRecDepth 100000
set_option maxHeartbeats 4000000
theorem Om {t : Tm} (h : ZZ RM t) : OC (zt t.q) := by
 obtain ⟨b1, p1, d1, n1⟩ := wK h (by decide)
 refine ⟨(ZL (by decide) (by decide)).2 (b1.mono (by decide)), by rw [zm]; exact p1, ?_⟩
 rw [zm]
 have a1 : xa t.q.num ≤ 8 := Ya (by decide) b1.num
 have a2 : Lib.nDigits t.q.den ≤ 8 := (z7 (by decide)).2 b1.den
 omega
theorem pE {c : Rat} {L D k : Nat} (hL : 0 < L) (h : ∃ z : Int, c * (L : Rat) = (z : Rat) ∧ z.natAbs ≤ D) (h1 : D < 10 ^ k) (h2 : L < 10 ^ k) : bq k c := by
 obtain ⟨z, hz, hd⟩ := h
 have hd0 : (L : Rat) ≠ 0 := fun e => by have := Rat.natCast_eq_zero_iff.1 e; omega
 have e : c = mkRat z L := by rw [Rat.mkRat_eq_div, ← hz]; grind
 rw [e]
 exact vh hL (by omega) h2
theorem JG {l : List Tm} {L B : Nat} (hl : l.length ≤ 16) (hn : ∀ t ∈ l, ZZ RM t) (hc : ∀ t ∈ l, bq 60 t.c) (hL : 0 < L) (hp : pg L B l) (h1 : B * RM < 10 ^ 60) (h2 : L * RM < 10 ^ 60) : wk l := by
 have hi : inT RM l := fun t ht => Xj (hn t ht)
 have hR : RM < 18446744073709551616 := by decide
 exact ⟨by omega, hc, fun t ht _ => Om (hn t ht), hi, R4 hR hi hL hp h1 h2, Nat.le_trans (YH hR hi).2.1 hl⟩
def sV (L D : Nat) (l : List Tm) : Prop := ∀ t ∈ l, ∃ z : Int, t.c * (L : Rat) = (z : Rat) ∧ z.natAbs ≤ D
theorem LG {l : List Tm} {R L D : Nat} (hl : l.length ≤ 16) (hR : R ≤ RM) (hn : ∀ t ∈ l, ZZ R t) (hL : 0 < L) (hc : sV L D l) (h1 : 16 * (D * R) * RM < 10 ^ 60) (h2 : L * RM < 10 ^ 60) (hD : D < 10 ^ 60) : wk l := by
 have hn' : ∀ t ∈ l, ZZ RM t := fun t ht => by obtain ⟨r, e, h0, h1⟩ := hn t ht; exact ⟨r, e, h0, Nat.le_trans h1 hR⟩
 have hl1 : L ≤ L * RM := Nat.le_mul_of_pos_right _ (by decide)
 exact JG hl hn' (fun t ht => pE hL (hc t ht) hD (by omega)) hL ((Q9 hn hc).mono (Nat.mul_le_mul_right _ hl)) h1 h2
theorem Vt {l : List Tm} (h : wk l) : Xn (Zb l) := by
 refine ⟨(YH (by decide) h.root).1, h.out, fun x hx => ?_⟩
 have h1 := (YF (Yo l)).mem_iff.1 hx
 have h2 := h.cls l.length
 rw [List.take_length] at h2
 exact h2 x (List.mem_filter.1 h1).1
def qS (L R : List Tm) : List AV → Option (List zk × AV)
 | [x] => some ([.b (zC Tm x && decide (Ze (α := Tm) x = L))], .tup 2 (zw [ZD R, .i 0]))
 | _ => none
theorem jO {G : List (Nat × Obj)} {f : FuncId} {L R : List Tm} (h : zU Tryz.prog G f [ZD L] (.tup 2 (zw [ZD R, .i 0]))) : zO Tryz.prog G f (qS L R) := by
 intro xs ps r e hp
 unfold qS at e
 split at e
 ·rename_i x
  cases e
  have q0 : (zC Tm x && decide (Ze (α := Tm) x = L)) = true := hp _ List.mem_cons_self
  rw [Bool.and_eq_true, decide_eq_true_iff] at q0
  exact weaken (ys := [_]) ⟨q0.2 ▸ zg q0.1, trivial⟩ h
 ·cases e
def SA (L M R : List Tm) : List AV → Option (List zk × AV)
 | [x, y] => some ([.b (zC Tm x && decide (Ze (α := Tm) x = L)), .b (zC Tm y && decide (Ze (α := Tm) y = M))], .tup 2 (zw [ZD R, .i 0]))
 | _ => none
theorem mM {G : List (Nat × Obj)} {f : FuncId} {L M R : List Tm} (h : zU Tryz.prog G f [ZD L, ZD M] (.tup 2 (zw [ZD R, .i 0]))) : zO Tryz.prog G f (SA L M R) := by
 intro xs ps r e hp
 unfold SA at e
 split at e
 ·rename_i x y
  cases e
  have q0 : (zC Tm x && decide (Ze (α := Tm) x = L)) = true := hp _ List.mem_cons_self
  have q1 : (zC Tm y && decide (Ze (α := Tm) y = M)) = true := hp _ (List.mem_cons_of_mem _ List.mem_cons_self)
  rw [Bool.and_eq_true, decide_eq_true_iff] at q0 q1
  exact weaken (ys := [_, _]) ⟨q0.2 ▸ zg q0.1, q1.2 ▸ zg q1.1, trivial⟩ h
 ·cases e
theorem IS {t : Tm} (h : (t.q.den = 1 ∧ 0 < t.q.num) ∧ t.q.num.natAbs ≤ RM) : ZZ RM t := by
 exact ⟨t.q.num.natAbs, Rat.ext (by rw [Rat.num_natCast]; omega) (by rw [Rat.den_natCast]; exact h.1.1), by omega, h.2⟩
def nm (l : List Tm) : Bool := l.all fun t => (t.q.den == 1 && decide (0 < t.q.num)) && Nat.ble t.q.num.natAbs 1000 && decide ((t.c * 62).den = 1) && Nat.ble (t.c * 62).num.natAbs 1000
theorem xn {l : List Tm} (hl : l.length ≤ 16) (h : nm l = true) : wk l := by
 unfold nm at h
 rw [List.all_eq_true] at h
 have key : ∀ t ∈ l, ZZ RM t ∧ ∃ z : Int, t.c * ((62 : Nat) : Rat) = (z : Rat) ∧ z.natAbs ≤ 1000 := fun t ht => by
  have := h t ht
  simp only [Bool.and_eq_true, beq_iff_eq, decide_eq_true_eq] at this
  obtain ⟨⟨⟨h1, h2⟩, h3⟩, h4⟩ := this
  have h2 := Nat.le_of_ble_eq_true h2
  have h4 := Nat.le_of_ble_eq_true h4
  refine ⟨IS ⟨h1, Nat.le_trans h2 (by decide)⟩, (t.c * 62).num, ?_, h4⟩
  exact Rat.ext rfl h3
 exact LG (L := 62) (D := 1000) hl (Nat.le_refl _) (fun t ht => (key t ht).1) (by decide) (fun t ht => (key t ht).2) (by decide) (by decide) (by decide)
theorem Hb : Zb [⟨1, 8⟩] = [⟨2, 2⟩] := by decide +kernel
theorem gJ : Zb [⟨1, 2⟩] = [⟨1, 2⟩] := by decide +kernel
theorem GX : Zb ([⟨1, 2⟩] ++ [⟨2, 2⟩]) = [⟨3, 2⟩] := by decide +kernel
theorem Gw : Zb (yV [⟨1, 2⟩] [⟨2, 2⟩]) = [⟨4, 1⟩] := by decide +kernel
abbrev Mk : List Tm := [⟨1, 2⟩, ⟨1, 3⟩]
abbrev ND : List Tm := [⟨1, 10⟩]
abbrev jr : List Tm := [⟨-1 / 62, 1⟩, ⟨1, 10⟩]
theorem Hq : Zb Mk = Mk ∧ Zb ND = ND ∧ Zb jr = jr := by decide +kernel
abbrev dY : List Tm := [⟨1, 2⟩, ⟨1, 3⟩, ⟨-1, 10⟩]
abbrev dZ : List Tm := [⟨1 / 62, 1⟩, ⟨1, 2⟩, ⟨1, 3⟩, ⟨-1, 10⟩]
theorem Hs : Zb (Mk ++ Zl (-1) ND) = dY ∧ Zb (Mk ++ Zl (-1) jr) = dZ := by decide +kernel
theorem wF {t : Tm} {p : Nat} (S r : Nat) (v : Int) (hS : wz t p = S) (h1 : r * r ≤ S) (h2 : S < (r + 1) * (r + 1)) (hv : (if 0 ≤ t.c.num then ((r / t.c.den : Nat) : Int) else -(if r * r = S ∧ r % t.c.den = 0 then ((r / t.c.den : Nat) : Int) else ((r / t.c.den : Nat) : Int) + 1)) = v) : WG t p = v := by
 unfold WG
 rw [hS, ← T6 h1 h2]
 exact hv
theorem Gx : WG ⟨1 / 62, 1⟩ 4 = 161 ∧ WG ⟨1, 2⟩ 4 = 14142 ∧ WG ⟨1, 3⟩ 4 = 17320 ∧ WG ⟨-1, 10⟩ 4 = -31623 :=
 ⟨wF 100000000 10000 _ (by decide +kernel) (by decide) (by decide) (by decide +kernel), wF 200000000 14142 _ (by decide +kernel) (by decide) (by decide) (by decide +kernel),
  wF 300000000 17320 _ (by decide +kernel) (by decide) (by decide) (by decide +kernel), wF 1000000000 31622 _ (by decide +kernel) (by decide) (by decide) (by decide +kernel)⟩
theorem HE : WG ⟨1 / 62, 1⟩ 16 = 161290322580645 ∧ WG ⟨1, 2⟩ 16 = 14142135623730950 ∧ WG ⟨1, 3⟩ 16 = 17320508075688772 ∧ WG ⟨-1, 10⟩ 16 = -31622776601683794 :=
 ⟨wF 100000000000000000000000000000000 10000000000000000 _ (by decide +kernel) (by decide) (by decide) (by decide +kernel), wF 200000000000000000000000000000000 14142135623730950 _ (by decide +kernel) (by decide) (by decide) (by decide +kernel),
  wF 300000000000000000000000000000000 17320508075688772 _ (by decide +kernel) (by decide) (by decide) (by decide +kernel), wF 1000000000000000000000000000000000 31622776601683793 _ (by decide +kernel) (by decide) (by decide) (by decide +kernel)⟩
theorem HV : YV dY = -1 ∧ xy dZ 4 = 0 ∧ YV dZ = 1 := by
 obtain ⟨a1, a2, a3, a4⟩ := Gx
 obtain ⟨b1, b2, b3, b4⟩ := HE
 have y4 : xy dY 4 = -1 := by
  unfold xy Zk
  simp only [List.map_cons, List.map_nil, List.sum_cons, List.sum_nil, a2, a3, a4]
  decide
 have z4 : xy dZ 4 = 0 := by
  unfold xy Zk
  simp only [List.map_cons, List.map_nil, List.sum_cons, List.sum_nil, a1, a2, a3, a4]
  decide
 have z16 : xy dZ 16 = 1 := by
  unfold xy Zk
  simp only [List.map_cons, List.map_nil, List.sum_cons, List.sum_nil, b1, b2, b3, b4]
  decide
 unfold YV
 rw [y4, z4, z16]
 decide
theorem gz : ∀ t ∈ dZ, ∀ p ∈ [(4 : Int), 16], wz t p.toNat < 10 ^ 77 := by decide +kernel
theorem gV {s : List Tm} (h0 : 0 < s.length) (hl : s.length ≤ 16) (h : nm s = true) (hf : ∀ t ∈ s, ∀ p ∈ [(4 : Int), 16], wz t p.toNat < 10 ^ 77) (hne : ∀ t ∈ s, t.c ≠ 0) (hd : YV s ≠ 0) : iJ s := by
 have hm := xn hl h
 have key : ∀ t ∈ s, ∀ p ∈ [(4 : Int), 16], Qf t p := fun t ht p hp => by
  refine ⟨hne t ht, hm.cs t ht, ?_, ?_, hf t ht p hp⟩
  ·unfold nm at h
   have := (List.all_eq_true.1 h) t ht
   simp only [Bool.and_eq_true, beq_iff_eq, decide_eq_true_eq] at this
   exact IS ⟨this.1.1.1, Nat.le_trans (Nat.le_of_ble_eq_true this.1.1.2) (by decide)⟩
  ·revert p hp; decide
 exact ⟨h0, hl, fun t ht => key t ht 4 (by simp), fun _ t ht => key t ht 16 (by simp), hd⟩
theorem ij {s : List Tm} (hl : s.length ≤ 16) (h : nm s = true) (he : Zb s = s) : Xn s := he ▸ Vt (xn hl h)
theorem Hl {G : List (Nat × Obj)} (hG : zN G) : zU Tryz.prog G 20 [ZD [(⟨1, 8⟩ : Tm)]] (.tup 2 (zw [ZD [(⟨2, 2⟩ : Tm)], .i 0])) := Hb ▸ Kg hG [⟨1, 8⟩] (xn (by decide) (by decide +kernel))
theorem H2 {G : List (Nat × Obj)} (hG : zN G) : zU Tryz.prog G 12 [ZD [(⟨1, 2⟩ : Tm)], ZD [(⟨2, 2⟩ : Tm)]] (.tup 2 (zw [ZD [(⟨3, 2⟩ : Tm)], .i 0])) :=
 GX ▸ JC hG [⟨1, 2⟩] [⟨2, 2⟩] (ij (by decide) (by decide +kernel) gJ) (Hb ▸ Vt (xn (by decide) (by decide +kernel))) (xn (by decide) (by decide +kernel))
theorem HM {G : List (Nat × Obj)} (hG : zN G) : zU Tryz.prog G 16 [ZD [(⟨1, 2⟩ : Tm)], ZD [(⟨2, 2⟩ : Tm)]] (.tup 2 (zw [ZD [(⟨4, 1⟩ : Tm)], .i 0])) :=
 Gw ▸ Ko hG [⟨1, 2⟩] [⟨2, 2⟩] (ij (by decide) (by decide +kernel) gJ) (Hb ▸ Vt (xn (by decide) (by decide +kernel))) (xn (by decide) (by decide +kernel))
theorem HK {G : List (Nat × Obj)} (hG : WE G) : zU Tryz.prog G 23 [ZD Mk, ZD ND] (.tup 2 (zw [.i (-1), .i 0])) := by
 have h := OI hG Mk ND ⟨ij (by decide) (by decide +kernel) Hq.1, ij (by decide) (by decide +kernel) Hq.2.1, xn (by decide) (by decide +kernel), by
  rw [Hs.1]
  exact gV (by decide) (by decide) (by decide +kernel) (fun t ht => gz t (List.mem_cons_of_mem _ ht)) (by decide +kernel) (by rw [HV.1]; decide)⟩
 rw [Hs.1, HV.1] at h
 exact h
theorem Ha {G : List (Nat × Obj)} (hG : WE G) : zU Tryz.prog G 23 [ZD Mk, ZD jr] (.tup 2 (zw [.i 1, .i 0])) := by
 have h := OI hG Mk jr ⟨ij (by decide) (by decide +kernel) Hq.1, ij (by decide) (by decide +kernel) Hq.2.2, xn (by decide) (by decide +kernel), by
  rw [Hs.2]
  exact gV (by decide) (by decide) (by decide +kernel) gz (by decide +kernel) (by rw [HV.2.2]; decide)⟩
 rw [Hs.2, HV.2.2] at h
 exact h
def Qh : List AV → Option (List zk × AV)
 | [x, y] => some ([.b (zC Tm x && decide (Ze (α := Tm) x = Mk)), .b (zC Tm y && (decide (Ze (α := Tm) y = ND) || decide (Ze (α := Tm) y = jr)))], .tup 2 (zw [.i (if Ze (α := Tm) y = ND then -1 else 1), .i 0]))
 | _ => none
theorem jS {G : List (Nat × Obj)} (hG : WE G) : zO Tryz.prog G 23 Qh := by
 intro xs ps r e hp
 unfold Qh at e
 split at e
 ·rename_i x y
  cases e
  have q0 : (zC Tm x && decide (Ze (α := Tm) x = Mk)) = true := hp _ List.mem_cons_self
  have q1 : (zC Tm y && (decide (Ze (α := Tm) y = ND) || decide (Ze (α := Tm) y = jr))) = true := hp _ (List.mem_cons_of_mem _ List.mem_cons_self)
  rw [Bool.and_eq_true, decide_eq_true_iff] at q0
  rw [Bool.and_eq_true, Bool.or_eq_true, decide_eq_true_iff, decide_eq_true_iff] at q1
  have hx := zg (α := Tm) q0.1
  have hy := zg (α := Tm) q1.1
  rw [q0.2] at hx
  by_cases hY : Ze (α := Tm) y = ND
  ·rw [if_pos hY]
   rw [hY] at hy
   exact weaken (ys := [_, _]) ⟨hx, hy, trivial⟩ (HK hG)
  ·rw [if_neg hY]
   rw [q1.2.resolve_left hY] at hy
   exact weaken (ys := [_, _]) ⟨hx, hy, trivial⟩ (Ha hG)
 ·cases e
def M6  : yq :=
 .two .auto (.two .auto (.two (.two .auto (.one (.unroll 3 .auto))) .auto))
noncomputable def H9 (G : List (Nat × Obj)) : Tb := (((((WA G).plus 20 (qS [⟨1, 8⟩] [⟨2, 2⟩])).plus 12 (SA [⟨1, 2⟩] [⟨2, 2⟩] [⟨3, 2⟩])).plus 16 (SA [⟨1, 2⟩] [⟨2, 2⟩] [⟨4, 1⟩])).plus 23 Qh).body Tryz.prog [(39, M6), (21, .auto)]
theorem oK {G : List (Nat × Obj)} (hG : WE G) : zz Tryz.prog (H9 G) := zz.body mixed (zz.plus (zz.plus (zz.plus (zz.plus zo (jO (Hl hG.tab))) (mM (H2 hG.tab))) (mM (HM hG.tab))) (jS hG)) _
theorem jc (G : List (Nat × Obj)) :
 Zv [] → (bif bif bif iZ == iZ then iZ == iZ else false then (if Ze (AV.xl true 2 1 (Sx.rowAt [zw [AV.str (bA #[(49 : UInt8)]), AV.str (bA #[(49 : UInt8), (48 : UInt8)])]])) = ND then (-1 : Int) else iO) == (-1 : Int) else false then (if Ze (AV.xl true 2 2 (Sx.rowAt [zw [AV.str (bA #[(45 : UInt8), (49 : UInt8), (47 : UInt8), (54 : UInt8), (50 : UInt8)]), AV.str (bA #[(49 : UInt8)])],
 zw [AV.str (bA #[(49 : UInt8)]), AV.str (bA #[(49 : UInt8), (48 : UInt8)])]])) = ND then (-1 : Int) else iO) == iO else false) = true := by
 delta bA iZ iO
 intro hb
 decide +kernel
def Q7 : List AV → Option (List zk × AV)
 | [] => some ([], .b true)
 | _ => none
theorem Kh {G : List (Nat × Obj)} (hG : WE G) : zO Tryz.prog G 15 Q7 := by
 intro xs ps r e hp
 unfold Q7 at e
 split at e
 ·cases e
  exact zW mixed (oK hG) (Eq.mp (by kernel_rfl) (jc G) : vK Tryz.prog (H9 G) 15 .auto [] (.b true))
 ·cases e
end Go.Te
