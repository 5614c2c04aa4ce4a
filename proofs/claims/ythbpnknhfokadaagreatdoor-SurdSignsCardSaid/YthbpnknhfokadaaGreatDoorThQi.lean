/- surd: floor, sign. -/
import Derived.Test.YthbpnknhfokadaaGreatDoorThQg
set_option linter.unusedSimpArgs false
set_option linter.unusedVariables false
namespace Go.Te
open Go Go.Sx Go.Proofs Go.Ar
set_option maxRecDepth 100000
set_option maxHeartbeats 4000000
theorem jU {x j k : Nat} (hx : x < 10 ^ j) (hj : j ≤ k) : x < 10 ^ k := Nat.lt_of_lt_of_le hx (Nat.pow_le_pow_right (Nat.succ_pos 9) hj)
theorem UK {a : Int} (h : a.natAbs < 10 ^ 300) : ZQ (Lib.itoa a) = 0 := by
 rw [YU]
 exact xh h (by decide) (by decide)
theorem xQ (f : Int → Int → Int) {a b : Int} (ha : a.natAbs < 10 ^ 300) (hb : b.natAbs < 10 ^ 300) (h : (f a b).natAbs < 10 ^ 300) : y5 f (Lib.itoa a) (Lib.itoa b) = Lib.itoa (f a b) := by
 rw [(wQ (f := f) (UK ha) (UK hb)).2, (zC a).2, (zC b).2]
 exact (ZP (k := 300) (by decide) (by decide) h).1
theorem oM {a d : Nat} (ha : a < 10 ^ 300) (hd : d < 10 ^ 300) (h0 : 0 < d) : Yw (Lib.itoa (a : Int)) (Lib.itoa (d : Int)) = Lib.itoa ((a / d : Nat) : Int) ∧ VD (Lib.itoa (a : Int)) (Lib.itoa (d : Int)) = Lib.itoa ((a % d : Nat) : Int) := by
 have e : Xy (Lib.itoa (a : Int)) (Lib.itoa (d : Int)) = 0 := by
  unfold Xy zD
  rw [UK (by rw [Int.natAbs_natCast]; exact ha), UK (by rw [Int.natAbs_natCast]; exact hd), Rx (by omega)]
  rfl
 obtain ⟨e1, e2⟩ := qB e
 rw [e1, e2, (zC _).2, (zC _).2, Int.fdiv_eq_ediv_of_nonneg _ (by omega), Int.fmod_eq_emod_of_nonneg _ (by omega)]
 exact ⟨by rw [Int.natCast_ediv], by rw [Int.natCast_emod]⟩
theorem ua {a b : Int} : (Lib.itoa a == Lib.itoa b) = decide (a = b) := by
 rw [Bool.eq_iff_iff, beq_iff_eq, decide_eq_true_iff]
 exact ⟨fun h => by rw [← (zC a).2, h, (zC b).2], fun h => by rw [h]⟩
theorem qG (n : Int) : (((Lib.itoa n).getD 0 0).toNat : Int) = 45 ↔ n < 0 := by
 constructor
 ·intro h
  refine Int.not_le.1 fun h0 => ?_
  obtain ⟨m, rfl⟩ : ∃ m : Nat, n = m := ⟨n.toNat, by omega⟩
  rw [Go.Ar.Z8] at h
  have hd := (Zr.1 (Yu m))
  match hq : Lib.decDigits m, hd with
  | c :: r, hd =>
   have h1 := y9.1 (hd.2.1 c List.mem_cons_self)
   rw [hq] at h
   have h : (c.toNat : Int) = 45 := h
   have h2 : c = 45 := UInt8.toNat.inj (by show c.toNat = 45; omega)
   rw [h2] at h1
   exact absurd h1.1 (by decide)
 ·intro h
  have := Go.Ar.itoa_neg (n := n.natAbs) (by omega)
  rw [show -((n.natAbs : Nat) : Int) = n by omega] at this
  rw [this]; rfl
theorem Za {n : Int} {k : Nat} (hk : 0 < k) (h : n.natAbs < 10 ^ k) : (Lib.itoa n).length ≤ k + 1 ∧ 0 < (Lib.itoa n).length := by
 have h1 := xK hk h
 have h2 := px n
 rw [x7]
 split <;> omega
def X4 (t : Tm) (p : Nat) : Nat := t.c.num.natAbs * t.c.num.natAbs * mQ t.q * 10 ^ (2 * p)
def wi (t : Tm) (p : Nat) : Int :=
 if 0 ≤ t.c.num then ((ZJ (X4 t p) / t.c.den : Nat) : Int)
 else -(if ZJ (X4 t p) * ZJ (X4 t p) = X4 t p ∧ ZJ (X4 t p) % t.c.den = 0 then ((ZJ (X4 t p) / t.c.den : Nat) : Int) else ((ZJ (X4 t p) / t.c.den : Nat) : Int) + 1)
structure qT (t : Tm) (p : Int) : Prop where
 ne : t.c ≠ 0
 bc : bq 60 t.c
 nat : Zw RM t
 pl : 0 ≤ p ∧ p ≤ 64
 sq : X4 t p.toNat < 10 ^ 215
noncomputable def Gp (G : List (Nat × Obj)) : Tb := (((((((W2 G).plus 85 sP).plus 78 vq).plus 116 sN).plus 117 nl).plus 115 sF).plus 64 Ut).plus 118 sA
theorem oK {G : List (Nat × Obj)} (hG : zo G) : zz Tryz.prog (Gp G) := zz.plus (zz.plus (zz.plus (zz.plus (zz.plus (zz.plus (zz.plus zQ (QQ hG)) (UX hG)) (zp.mono mV)) (IP hG)) (MA hG)) (Qt hG)) (nS hG)
def MV : List AV → Option (List zn × AV)
 | [x_t, .v (.int .i64 p)] => some ([.b (yt Tm x_t), .p (qT (Z4 (α := Tm) x_t) p)], .str (Lib.itoa (wi (Z4 (α := Tm) x_t) p.toNat)))
 | _ => none
theorem Iu (G : List (Nat × Obj)) (t : Tm) (p : Int) (h : qT t p) :
 let q1 := (Lib.itoa (Rat.num (zF (zt (Tm.c t))))); let q2 := (y5 (fun (x1 x2 : Int) => x1 * x2) q1 q1); let q3 := (y5 (fun (x1 x2 : Int) => x1 * x2) q2 (zt (Tm.q t))); let q5 := (ByteArray.data (ByteArray.mk #[(49 : UInt8)])); let q4 := (Array.toList q5 ++ List.replicate (Int.toNat ((2 : Int) * p)) (48 : UInt8)); let q6 := (y5 (fun (x1 x2 : Int) => x1 * x2) q3 q4); let q7 := (Lib.itoa (cI (ZJ (Int.toNat (zY q6))))); let q8 := (Lib.itoa (cI (Rat.den (zF (zt (Tm.c t)))))); let q9 := (ByteArray.data (ByteArray.mk #[(48 : UInt8)])); let q10 := (Yw q7 q8); let q11 := (y5
 (fun (x1 x2 : Int) => x1 + x2) q10 (Array.toList q5)); let q12 := (Array.toList q9); Zt [AV.agg 2 (zr.enc t), aI p] → Ym 300 (zt (Tm.c t)) ∧ lN q1 ≤ nM ∧ lN q1 ≤ nM ∧ lN q2 ≤ nM ∧ lN (zt (Tm.q t)) ≤ nM ∧ bF (dK ((2 : Int) * p)) ((iZ ≤ (2 : Int) * p ∧ (2 : Int) * p ≤ (1000000 : Int)) ∧ bF (DB.db (1 + lN (List.replicate (Int.toNat ((2 : Int) * p)) (48 : UInt8)) ≤ nX)) (lN q3 ≤ nM ∧ lN q4 ≤ nM ∧ Zy q6 = true ∧ (0 :
 Int) < zY q6 ∧ lN q6 ≤ 216 ∧ lN q7 ≤ nM ∧ lN q8 ≤ nM ∧ bF (DB.db (iZ ≤ iZ ∧ iZ < (lZ q1))) (zZ ((cI (UInt8.toNat (gD q1 0 (0 : UInt8)))) != (45 : Int)) (Yw q7 q8 = Lib.itoa (wi t (Int.toNat p))) (lN q7 ≤ nM ∧ lN q7 ≤ nM ∧ bF (!zS false !y5 (fun (x1 x2 : Int) => x1 * x2) q7 q7 == y5 (fun (x1 x2 : Int) => x1 * x2) q3 q4 || zS false !y5 (fun (x1 x2 : Int) => x1 * x2) q7 q7 == y5 (fun (x1 x2 : Int) => x1 * x2) q3 q4) (bF (!!!y5 (fun (x1 x2 :
 Int) => x1 * x2) q7 q7 == y5 (fun (x1 x2 : Int) => x1 * x2) q3 q4 || zS false !y5 (fun (x1 x2 : Int) => x1 * x2) q7 q7 == y5 (fun (x1 x2 : Int) => x1 * x2) q3 q4) (zZ (bif !y5 (fun (x1 x2 : Int) => x1 * x2) q7 q7 == y5 (fun (x1 x2 : Int) => x1 * x2) q3 q4 then true else !VD q7 q8 == Array.toList q9) (lN q10 ≤ nM ∧ 1 ≤ nM ∧ 1 ≤ nM ∧ lN q11 ≤ nM ∧ y5 (fun (x1 x2 : Int) => x1 - x2) q12 q11 = Lib.itoa (wi t (Int.toNat p))) (1 ≤ nM ∧ lN q10 ≤ nM ∧ y5 (fun (x1 x2 : Int) => x1 - x2) q12 q10 = Lib.itoa (wi t
 (Int.toNat p))))))))) := by
 delta bF dK nX nM cI lZ lN gD iZ aI
 dsimp only
 intro hb
 simp only [sS, YK, yi, zk, yo, Yx, XQ, YC, wn, xJ, wE, XU, Uu, dS]
 obtain ⟨b1, p1, d1, n1⟩ := wN h.nat (by decide)
 obtain ⟨e, m0, mR⟩ := h.nat.mQ
 have E2 : zt t.q = Lib.itoa ((mQ t.q : Nat) : Int) := (congrArg zt e).trans (WZ _)
 have o1 : Ym 300 (zt t.c) := (ZI (by decide) (by decide)).2 (h.bc.mono (by decide))
 obtain ⟨p, rfl⟩ : ∃ q : Nat, p = q := ⟨p.toNat, by have := h.pl; omega⟩
 have hp := h.pl
 have hS := h.sq
 have hn0 : t.c.num ≠ 0 := fun e => h.ne (Rat.num_eq_zero.1 e)
 have hN := h.bc.num
 have hD := h.bc.den
 have hd0 := t.c.den_pos
 rw [Int.toNat_natCast] at hS
 rw [Int.toNat_natCast, E2]
 unfold wi
 have ek : (2 * (p : Int)).toNat = 2 * p := by omega
 rw [ek]
 obtain ⟨t1, t2⟩ := Pi (2 * p)
 have et : ([49] ++ List.replicate (2 * p) 48 : zj) = Lib.itoa ((10 ^ (2 * p) : Nat) : Int) := by rw [← t2, YG t1]; rfl
 have eS : X4 t p = t.c.num.natAbs * t.c.num.natAbs * mQ t.q * 10 ^ (2 * p) := rfl
 have hT0 : 0 < 10 ^ (2 * p) := Nat.pow_pos (by omega)
 have hT1 : 10 ^ (2 * p) < 10 ^ 129 := Nat.pow_lt_pow_right (by omega) (by omega)
 have lrep : (List.replicate (2 * p) (48 : UInt8)).length = 2 * p := List.length_replicate
 generalize 10 ^ (2 * p) = T at *
 have hm9 : mQ t.q < 10 ^ 9 := Nat.lt_of_le_of_lt mR (by decide)
 generalize mQ t.q = m at *
 generalize t.c.num = n at *
 generalize t.c.den = d at *
 generalize X4 t p = S at *
 have hNN : n.natAbs * n.natAbs < 10 ^ 120 := Ys (j := 60) (k := 60) hN hN
 have hNM : n.natAbs * n.natAbs * m < 10 ^ 129 := Ys (j := 120) (k := 9) hNN hm9
 have up : ∀ {x j : Nat}, x < 10 ^ j → j ≤ 300 → x < 10 ^ 300 := fun hx hj => jU (k := 300) hx hj
 have nn : n * n = ((n.natAbs * n.natAbs : Nat) : Int) := Int.natAbs_mul_self.symm
 have E1 : y5 (fun x1 x2 => x1 * x2) (Lib.itoa n) (Lib.itoa n) = Lib.itoa ((n.natAbs * n.natAbs : Nat) : Int) := by
  rw [xQ _ (up hN (by omega)) (up hN (by omega)) (by rw [nn, Int.natAbs_natCast]; exact up hNN (by omega)), nn]
 have E3 : y5 (fun x1 x2 => x1 * x2) (Lib.itoa ((n.natAbs * n.natAbs : Nat) : Int)) (Lib.itoa (m : Int)) = Lib.itoa ((n.natAbs * n.natAbs * m : Nat) : Int) := by
  rw [xQ _ (by rw [Int.natAbs_natCast]; exact up hNN (by omega)) (by rw [Int.natAbs_natCast]; exact up hm9 (by omega)) (by rw [← Int.natCast_mul, Int.natAbs_natCast]; exact up hNM (by omega)), ← Int.natCast_mul]
 have E5 : y5 (fun x1 x2 => x1 * x2) (Lib.itoa ((n.natAbs * n.natAbs * m : Nat) : Int)) (Lib.itoa (T : Int)) = Lib.itoa (S : Int) := by
  rw [xQ _ (by rw [Int.natAbs_natCast]; exact up hNM (by omega)) (by rw [Int.natAbs_natCast]; exact up hT1 (by omega)) (by rw [← Int.natCast_mul, ← eS, Int.natAbs_natCast]; exact up hS (by omega)), ← Int.natCast_mul, ← eS]
 have hS0 : 0 < S := by
  rw [eS]
  have := Nat.mul_pos (show 0 < n.natAbs by omega) (show 0 < n.natAbs by omega)
  exact Nat.mul_pos (Nat.mul_pos this m0) hT0
 have ltn := Za (n := n) (k := 60) (by decide) hN
 have lnn := Za (n := ((n.natAbs * n.natAbs : Nat) : Int)) (k := 120) (by decide) (by rw [Int.natAbs_natCast]; exact hNN)
 have lm := Za (n := (m : Int)) (k := 9) (by decide) (by rw [Int.natAbs_natCast]; exact hm9)
 have lnm := Za (n := ((n.natAbs * n.natAbs * m : Nat) : Int)) (k := 129) (by decide) (by rw [Int.natAbs_natCast]; exact hNM)
 have lT := Za (n := (T : Int)) (k := 129) (by decide) (by rw [Int.natAbs_natCast]; exact hT1)
 have lS := Za (n := (S : Int)) (k := 215) (by decide) (by rw [Int.natAbs_natCast]; exact hS)
 have hr : ZJ S < 10 ^ 215 := Nat.lt_of_le_of_lt (P0 S) hS
 have hrr : ZJ S * ZJ S ≤ S := (yH S).1
 have lr := Za (n := (ZJ S : Int)) (k := 215) (by decide) (by rw [Int.natAbs_natCast]; exact hr)
 have ld := Za (n := (d : Int)) (k := 60) (by decide) (by rw [Int.natAbs_natCast]; exact hD)
 obtain ⟨v1, v2⟩ := oM (up hr (by omega)) (up hD (by omega)) hd0
 rw [et, E1, E3, E5, (zC (S : Int)).2, Int.toNat_natCast, v1, v2, lrep]
 have hq : ZJ S / d < 10 ^ 215 := Nat.lt_of_le_of_lt (Nat.div_le_self _ _) hr
 generalize ZJ S / d = q at *
 generalize ZJ S % d = rr at *
 generalize ZJ S = r at *
 have E6 : y5 (fun x1 x2 => x1 * x2) (Lib.itoa (r : Int)) (Lib.itoa (r : Int)) = Lib.itoa ((r * r : Nat) : Int) := by
  rw [xQ _ (by rw [Int.natAbs_natCast]; exact up hr (by omega)) (by rw [Int.natAbs_natCast]; exact up hr (by omega)) (by rw [← Int.natCast_mul, Int.natAbs_natCast]; exact up (Nat.lt_of_le_of_lt hrr hS) (by omega)), ← Int.natCast_mul]
 have one : ([49] : zj) = Lib.itoa 1 := by decide +kernel
 have zer : ([48] : zj) = Lib.itoa 0 := by decide +kernel
 have e300 : ∀ k : Nat, k < 10 ^ 216 → (k : Int).natAbs < 10 ^ 300 := fun k hk => by rw [Int.natAbs_natCast]; exact up hk (by omega)
 have big : (1 : Int).natAbs < 10 ^ 300 := up (j := 1) (show (1 : Int).natAbs < 10 ^ 1 by decide) (by omega)
 have h78 : ∀ k : Nat, k < 10 ^ 215 → k + 1 < 10 ^ 216 := fun k hk => by
  have : (10 : Nat) ^ 216 = 10 ^ 215 * 10 := rfl
  omega
 have E7 : y5 (fun x1 x2 => x1 + x2) (Lib.itoa ((q : Nat) : Int)) [49] = Lib.itoa ((q : Int) + 1) := by
  rw [one, xQ (fun x1 x2 => x1 + x2) (e300 _ (Nat.lt_trans (Nat.lt_succ_self _) (h78 _ hq))) big (by
   show ((q : Int) + 1).natAbs < 10 ^ 300
   have := up (h78 _ hq) (by omega)
   omega)]
 have E8 : ∀ z : Nat, z < 10 ^ 216 → y5 (fun x1 x2 => x1 - x2) [48] (Lib.itoa (z : Int)) = Lib.itoa (-(z : Int)) := fun z hz => by
  rw [zer, xQ (fun x1 x2 => x1 - x2) (up (j := 1) (show (0 : Int).natAbs < 10 ^ 1 by decide) (by omega)) (e300 _ hz) (by
   show (0 - (z : Int)).natAbs < 10 ^ 300
   have := up hz (by omega)
   omega)]
  show Lib.itoa (0 - (z : Int)) = _
  rw [Int.zero_sub]
 have lq := Za (n := ((q : Nat) : Int)) (k := 215) (by decide) (by rw [Int.natAbs_natCast]; exact hq)
 have lq1 := Za (n := ((q : Nat) : Int) + 1) (k := 216) (by decide) (by have := h78 _ hq; omega)
 have e45 := qG n
 rw [E6, E7]
 refine ⟨o1, by omega, by omega, by omega, by omega, by simp only [yR]; omega, ⟨by omega, by omega⟩, by omega, by omega, by omega, (zC _).1, by omega, by omega, by omega, by omega, ⟨by omega, by omega⟩, fun h5 => ?_, fun h5 => ⟨by omega, by omega, ?_⟩⟩
 ·have hn : 0 ≤ n := Int.not_lt.1 fun e => h5 (e45.2 e)
  rw [if_pos hn]
 ·have hn : ¬ 0 ≤ n := Int.not_le.2 (e45.1 h5)
  rw [if_neg hn, zer, ua, ua]
  refine zX.2 ⟨fun c => ?_, fun c => ?_⟩
  ·have c' : ¬(r * r = S ∧ rr = 0) := fun e => by
    rw [decide_eq_true (show ((r * r : Nat) : Int) = (S : Int) by rw [e.1]), decide_eq_true (show (rr : Int) = 0 by omega)] at c
    cases c
   have e9 := E8 (q + 1) (h78 _ hq)
   rw [if_neg c']
   rw [zer, Int.natCast_add] at e9
   exact ⟨by omega, by omega, by omega, by omega, e9⟩
  ·have c' : r * r = S ∧ rr = 0 := by
    simp only [Bool.or_eq_false_iff, Bool.not_eq_false', decide_eq_true_eq] at c
    exact ⟨by have := c.1; omega, by have := c.2; omega⟩
   have e9 := E8 q (Nat.lt_trans (Nat.lt_succ_self _) (h78 _ hq))
   rw [if_pos c']
   rw [zer] at e9
   exact ⟨by omega, by omega, e9⟩
theorem HH {G : List (Nat × Obj)} (hG : zo G) (t : Tm) (p : Int) (h : qT t p) : zU Tryz.prog G 80 [Yc t, .i p] (.str (Lib.itoa (wi t p.toNat))) :=
 zW (T := Gp G) (an := .auto) mixed (oK hG) (Eq.mp (by kernel_rfl) (Iu G t p h))
theorem IF {G : List (Nat × Obj)} (hG : zo G) : zp Tryz.prog G 80 MV := by
 intro xs ps r h hp
 unfold MV at h
 split at h
 ·skip
  rename_i x_t p
  cases h
  obtain ⟨q0, q1, -⟩ := ZF hp
  exact weaken (ys := [Yc (Z4 (α := Tm) x_t), .i p]) ⟨ZT q0, zT _, trivial⟩ (HH hG (Z4 (α := Tm) x_t) p q1)
 ·cases h
def Zj : Array Value := #[.int .i64 4, .int .i64 16, .int .i64 64]
def VV (G : List (Nat × Obj)) : Prop := zo G ∧ ∃ t fr t2 fr2 G', G = (2, Obj.cells zm t fr) :: (0, Obj.cells Zj t2 fr2) :: G'
theorem VV.tab {G : List (Nat × Obj)} (h : VV G) : zo G := h.1
def Zu (s : List Tm) (p : Nat) : Int := (s.map fun t => wi t p).sum
noncomputable def GZ (G : List (Nat × Obj)) : Tb := ((((W2 G).plus 80 MV).plus 64 Ut).plus 59 rn)
theorem OH {G : List (Nat × Obj)} (hG : zo G) : zz Tryz.prog (GZ G) := zz.plus (zz.plus (zz.plus zQ (IF hG)) (Qt hG)) (Mj hG)
theorem oO {s : List Tm} {z : Nat} (h : z < s.length) (p : Nat) : Zu (s.take (z + 1)) p = Zu (s.take z) p + wi (s.getD z zr.dflt) p := by
 unfold Zu
 rw [UW h, List.map_append, List.sum_append]
 simp
def Yv (s : List Tm) (p : Nat) : Int := if 0 < Zu s p then 1 else if Zu s p + s.length < 0 then -1 else 0
def za (s : List Tm) : Int := if Yv s 4 = 0 then (if Yv s 16 = 0 then Yv s 64 else Yv s 16) else Yv s 4
structure Hl (s : List Tm) : Prop where
 ne : 0 < s.length
 len : s.length ≤ 16
 a : ∀ t ∈ s, qT t 4
 b : Yv s 4 = 0 → ∀ t ∈ s, qT t 16
 c : Yv s 4 = 0 → Yv s 16 = 0 → ∀ t ∈ s, qT t 64
 dec : za s ≠ 0
theorem nh {t : Tm} {P : Int} (h : qT t P) : (wi t P.toNat).natAbs < 10 ^ 217 := by
 have h1 : ZJ (X4 t P.toNat) < 10 ^ 215 := Nat.lt_of_le_of_lt (P0 _) h.sq
 have h2 : ZJ (X4 t P.toNat) / t.c.den < 10 ^ 215 := Nat.lt_of_le_of_lt (Nat.div_le_self _ _) h1
 have e : (10 : Nat) ^ 217 = 10 ^ 215 * 100 := rfl
 unfold wi
 generalize ZJ (X4 t P.toNat) / t.c.den = q at *
 split
 ·omega
 ·split <;> omega
theorem kX {s : List Tm} {P : Int} (hl : s.length ≤ 16) (h : ∀ t ∈ s, qT t P) (z : Nat) : (Zu (s.take z) P.toNat).natAbs < 10 ^ 220 := by
 have key : ∀ l : List Tm, (∀ t ∈ l, qT t P) → (Zu l P.toNat).natAbs ≤ l.length * 10 ^ 217 := by
  intro l
  induction l with
  | nil => intro _; simp [Zu]
  | cons t l ih =>
   intro hl
   have h1 := nh (hl t List.mem_cons_self)
   have h2 := ih fun x hx => hl x (List.mem_cons_of_mem _ hx)
   have e : Zu (t :: l) P.toNat = wi t P.toNat + Zu l P.toNat := by unfold Zu; simp
   rw [e, List.length_cons, Nat.add_mul]
   have := Int.natAbs_add_le (wi t P.toNat) (Zu l P.toNat)
   omega
 have h1 := key (s.take z) fun t ht => h t (List.mem_of_mem_take ht)
 have h2 : (s.take z).length * 10 ^ 217 ≤ 16 * 10 ^ 217 := Nat.mul_le_mul_right _ (by rw [List.length_take]; omega)
 have e : (10 : Nat) ^ 220 = 1000 * 10 ^ 217 := rfl
 omega
theorem cmp0 {x : Int} (h : x.natAbs < 10 ^ 300) : yc (Lib.itoa x) [48] = xS x 0 := by
 unfold yc zD
 rw [UK h, (zC x).2]
 rfl
theorem Tu (x : Int) : (0 < xS x 0 ↔ 0 < x) ∧ zg (xS x 0) 0 = zg x 0 ∧ (xS x 0 == 0) = (x == 0) := by
 unfold xS
 cases h1 : zg x 0 with
 | true =>
  have := (zq _ _).1 h1
  exact ⟨⟨fun h => absurd h (show ¬ (0 : Int) < -1 by decide), fun h => by omega⟩, rfl, by rw [show (x == 0) = false from beq_eq_false_iff_ne.2 (by omega)]; rfl⟩
 | false =>
  have h1 : ¬ x < 0 := fun e => by rw [(zq _ _).2 e] at h1; cases h1
  cases h2 : x == 0 with
  | true => have := beq_iff_eq.1 h2; exact ⟨⟨fun h => absurd h (by decide), fun h => by omega⟩, rfl, rfl⟩
  | false => have := beq_eq_false_iff_ne.1 h2; exact ⟨⟨fun _ => by omega, fun _ => by decide⟩, rfl, rfl⟩
theorem VO {s : List Tm} {p : Nat} {P k V : Int} (hP : P.toNat = p) (hl : s.length ≤ 16) (hf : ∀ t ∈ s, qT t P) (hk : 0 ≤ k ∧ k ≤ 3) (h3k : k = 3 → Zu s p + s.length ≠ 0) {NEXT : Prop} (h1 : 0 < Zu s p → 1 = V) (h2 : Zu s p ≤ 0 → Zu s p + s.length < 0 → -1 = V) (h3 : Zu s p ≤ 0 → 0 ≤ Zu s p + s.length → NEXT) :
  (∃ z : Nat, z ≤ s.length ∧ [48] = Lib.itoa (Zu (List.take z s) p) ∧ (0 : Int) = (z : Int)) ∧
   ∀ z : Nat, z ≤ s.length →
    ((z : Int) < (s.length : Int) → (0 ≤ (z : Int) ∧ (z : Int) < (s.length : Int)) ∧ qT (s.getD z zr.dflt) P ∧ (Lib.itoa (Zu (List.take z s) p)).length ≤ 4294967280 ∧ (Lib.itoa (wi (s.getD z zr.dflt) p)).length ≤ 4294967280 ∧ yR IntKind.i64 ((z : Int) + 1) ∧
      ∃ z' : Nat, (z' ≤ s.length ∧ s.length - z' < s.length - z) ∧ y5 (fun x1 x2 => x1 + x2) (Lib.itoa (Zu (List.take z s) p)) (Lib.itoa (wi (s.getD z zr.dflt) p)) = Lib.itoa (Zu (List.take z' s) p) ∧ (z : Int) + 1 = (z' : Int)) ∧
     ((s.length : Int) ≤ (z : Int) → (Lib.itoa (Zu (List.take z s) p)).length ≤ 4294967280 ∧ 1 ≤ 4294967280 ∧
       (0 < yc (Lib.itoa (Zu (List.take z s) p)) [48] → 2 = [AV.junk, AV.junk].length ∧ 1 = V) ∧
        (yc (Lib.itoa (Zu (List.take z s) p)) [48] ≤ 0 →
         (∃ z_1 : Nat, z_1 ≤ s.length ∧ Lib.itoa (Zu (List.take z s) p) = Lib.itoa (Zu s p + (z_1 : Int)) ∧ (0 : Int) = (z_1 : Int)) ∧
          ∀ z : Nat, z ≤ s.length →
           ((z : Int) < (s.length : Int) → (Lib.itoa (Zu s p + (z : Int))).length ≤ 4294967280 ∧ 1 ≤ 4294967280 ∧ yR IntKind.i64 ((z : Int) + 1) ∧
             ∃ z' : Nat, (z' ≤ s.length ∧ s.length - z' < s.length - z) ∧ y5 (fun x1 x2 => x1 + x2) (Lib.itoa (Zu s p + (z : Int))) [49] = Lib.itoa (Zu s p + (z' : Int)) ∧ (z : Int) + 1 = (z' : Int)) ∧
            ((s.length : Int) ≤ (z : Int) → (Lib.itoa (Zu s p + (z : Int))).length ≤ 4294967280 ∧ 1 ≤ 4294967280 ∧
              ((!zg (yc (Lib.itoa (Zu s p + (z : Int))) [48]) 0 && yc (Lib.itoa (Zu s p + (z : Int))) [48] == 0) = true → yR IntKind.i64 k) ∧
               zZ (!!zg (yc (Lib.itoa (Zu s p + (z : Int))) [48]) 0 || (!yc (Lib.itoa (Zu s p + (z : Int))) [48] == 0 || !zg (yc (Lib.itoa (Zu s p + (z : Int))) [48]) 0 && yc (Lib.itoa (Zu s p + (z : Int))) [48] == 0))
                (zZ (zg (yc (Lib.itoa (Zu s p + (z : Int))) [48]) 0 || yc (Lib.itoa (Zu s p + (z : Int))) [48] == 0 && k == 3) (2 = [AV.junk, AV.junk].length ∧ -1 = V) NEXT) False))) := by
 subst hP
 have big := kX hl hf
 have full := big s.length
 rw [List.take_length] at full
 have up : ∀ x : Int, x.natAbs < 10 ^ 221 → x.natAbs < 10 ^ 300 := fun x hx => jU (k := 300) hx (by decide)
 have e83 : (10 : Nat) ^ 221 = 10 ^ 220 * 10 := rfl
 have e82 : (10 : Nat) ^ 220 = 10 ^ 217 * 1000 := rfl
 have zer : ([48] : zj) = Lib.itoa 0 := by decide +kernel
 have one : ([49] : zj) = Lib.itoa 1 := by decide +kernel
 have sh : ∀ x : Int, x.natAbs < 10 ^ 221 → (Lib.itoa x).length ≤ 4294967280 := fun x hx => by have := (Za (k := 221) (by decide) hx).1; omega
 refine ⟨⟨0, Nat.zero_le _, zer.trans (by rfl), rfl⟩, fun z hz => ⟨fun hlt => ?_, fun hge => ?_⟩⟩
 ·have hzl : z < s.length := by omega
  have f := hf _ (yG hzl)
  have b1 := big z
  have b2 := nh f
  have b3 := big (z + 1)
  have e := oO hzl P.toNat
  refine ⟨⟨by omega, by omega⟩, f, sh _ (by omega), sh _ (by omega), by simp only [yR]; omega, z + 1, ⟨by omega, by omega⟩, ?_, by omega⟩
  rw [xQ _ (up _ (by omega)) (up _ (by omega)) (by rw [← e]; exact up _ (by omega)), e]
 ·obtain rfl : z = s.length := by omega
  rw [List.take_length, cmp0 (up _ (by omega))]
  obtain ⟨c1, c2, c3⟩ := Tu (Zu s P.toNat)
  refine ⟨sh _ (by omega), by omega, fun h => ⟨rfl, h1 (c1.1 h)⟩, fun h => ⟨⟨0, Nat.zero_le _, by rw [show ((0 : Nat) : Int) = 0 from rfl, Int.add_zero], rfl⟩, fun y hy => ⟨fun ylt => ?_, fun yge => ?_⟩⟩⟩
  ·refine ⟨sh _ (by omega), by omega, by simp only [yR]; omega, y + 1, ⟨by omega, by omega⟩, ?_, by omega⟩
   rw [one, xQ _ (up _ (by omega)) (up 1 (by decide)) (up _ (by omega)), Int.natCast_add, ← Int.add_assoc]; rfl
  ·obtain rfl : y = s.length := by omega
   rw [cmp0 (up _ (by omega))]
   obtain ⟨d1, d2, d3⟩ := Tu (Zu s P.toNat + (s.length : Int))
   have hs : Zu s P.toNat ≤ 0 := Int.not_lt.1 fun e => by have := c1.2 e; omega
   have d4 : (Zu s P.toNat + (s.length : Int) == 0 && k == 3) = false := by
    rw [Bool.and_eq_false_iff, beq_eq_false_iff_ne, beq_eq_false_iff_ne]
    by_cases e : k = 3
    ·exact .inl (h3k e)
    ·exact .inr e
   rw [d2, d3, d4, Bool.or_false]
   refine ⟨sh _ (by omega), by omega, fun _ => by simp only [yR]; omega, zX.2 ⟨fun _ => zX.2 ⟨fun c => ⟨rfl, h2 hs ((zq _ _).1 c)⟩, fun c => h3 hs (Int.not_lt.1 fun e => by rw [(zq _ _).2 e] at c; cases c)⟩, fun c => ?_⟩⟩
   exfalso
   revert c
   cases zg (Zu s P.toNat + (s.length : Int)) 0 <;> cases Zu s P.toNat + (s.length : Int) == 0 <;> decide
structure ot (s : List Tm) : Prop where
 h : s = [] ∨ Hl s
def Jl (s : List Tm) : yS :=
 .two .auto (.two .auto (.two (.two .auto (.one (.unroll 4 ((.two .auto (.two .auto (.two (.one (.two .auto (.two .auto (.two (.two .auto (.one (.loop Nat (fun σ z => [(0, σ.tm 0), (4, σ.tm 4), (5, σ.tm 5), (16, σ.tm 16), (17, σ.tm 17), (21, σ.tm 21), (22, σ.tm 22), (6, .str (Lib.itoa (Zu (s.take z) (AV.int (σ.tm 5)).toNat))), (23, .i (z : Int))]) (fun σ z => []) 0 (fun σ z => z ≤ s.length) (fun σ z => s.length - z) .auto))) (.two .auto (.two (.two .auto (.one (.loop Nat (fun σ z => [(0, σ.tm 0), (4, σ.tm 4), (16, σ.tm 16), (17, σ.tm 17), (44, σ.tm 44), (6, .str (Lib.itoa (Zu s (AV.int (σ.tm 5)).toNat + (z : Int)))), (45, .i (z : Int))]) (fun σ z => []) 0 (fun σ z => z ≤ s.length) (fun σ z => s.length - z) .auto))) .auto)))))) .auto))))))) .auto))
theorem jH (t1 t2 : TypeId) (fr fr2 : Nat × Nat) (G : List (Nat × Obj)) (s : List Tm) (h : ot s) :
 let q1 := (True ∧ kI ∧ iZ = za s); let q2 := (AV.xl false 2 (lN s) fun i j => zr.enc (gD s i zr.dflt) j); let q3 := (kI ∧ iZ = iZ); let q4 := (kI ∧ Sx.intOf (Array.getD Zj 0 undef) = Sx.intOf (Array.getD Zj 0 undef)); let q5 := (3 = 3 ∧ ((kI ∧ Sx.intOf (Array.getD Zj (nat_lit 0) undef) = Sx.intOf (Array.getD Zj (nat_lit 0) undef)) ∧ kI ∧ Sx.intOf (Array.getD Zj (nat_lit 1) undef) = Sx.intOf (Array.getD Zj (nat_lit 1) undef)) ∧ kI
 ∧ Sx.intOf (Array.getD Zj (nat_lit 2) undef) = Sx.intOf (Array.getD Zj (nat_lit 2) undef)); let q6 := (kI ∧ (lZ s) = (lZ s)); let q7 := (ByteArray.data (ByteArray.mk #[(48 : UInt8)])); let q8 := (Int.toNat (AV.int (aI (Sx.intOf (Array.getD Zj 0 undef))))); let q10 := (Value.agg #[Value.string (ByteArray.mk #[]), Value.string (ByteArray.mk #[])]); let q15 := (Array.toList q7); let q16 := (j2 ∧ (True ∧ kI ∧ iO = za s) ∧ kI ∧ iZ = (0
 : Int)); let q18 := (bA #[(49 : UInt8)]); let q25 := (j2 ∧ (True ∧ kI ∧ (-1 : Int) = za s) ∧ kI ∧ iZ = iZ); let q26 := (kI ∧ iZ + iO = iZ + iO); let q27 := (kI ∧ Sx.intOf (Array.getD Zj 1 undef) = Sx.intOf (Array.getD Zj 1 undef)); let q28 := (Int.toNat (AV.int (aI (Sx.intOf (Array.getD Zj 1 undef))))); let q41 := (kI ∧ iZ + iO + iO = iZ +
 iO + iO); let q42 := (kI ∧ Sx.intOf (Array.getD Zj 2 undef) = Sx.intOf (Array.getD Zj 2 undef)); let q43 := (Int.toNat (AV.int (aI (Sx.intOf (Array.getD Zj 2 undef))))); Zt [AV.xl false 2 (lN s) fun i j => zr.enc (gD s i zr.dflt) j] → zZ ((lZ s) == iZ) (j2 ∧ q1 ∧ kI ∧ iZ = iZ) ((∃ (z : Nat), (z ≤ lN s ∧ zE q2 q2 ∧ q3 ∧ q4 ∧ q5 ∧ q3 ∧ zE q2 q2 ∧ q6 ∧ Array.toList q7 = Lib.itoa (Zu (List.take z s) q8) ∧
 kI ∧ iZ = (cI z)) ∧ True) ∧ ∀ (z : Nat), let q9 := (AV.agg 2 fun (i : Nat) => if 0 ≤ 0 + i ∧ 0 + i < 2 then zr.enc (gD s (Int.toNat (cI z)) zr.dflt) (0 + (0 + i - 0)) else Z0 q10 (0 + i)); let q11 := (Z4 q9); let q13 := (Zu (List.take z s) q8); let q12 := (Lib.itoa q13); let q14 := (Lib.itoa (wi q11 4)); z ≤ lN s → zZ (zg (cI z) (lZ s)) (bF (DB.db (iZ ≤ (cI z) ∧ (cI z) < (lZ s))) (bF (yt Tm q9) (qT q11 (Sx.intOf (Array.getD Zj 0 undef)) ∧ lN q12 ≤
 nM ∧ lN q14 ≤ nM ∧ bF (dK ((cI z) + iO)) (∃ (z' : Nat), ((z' ≤ lN s ∧ lN s - z' < lN s - z) ∧ zE q2 q2 ∧ q3 ∧ q4 ∧ q5 ∧ q3 ∧ zE q2 q2 ∧ q6 ∧ y5 (fun (x1 x2 : Int) => x1 + x2) q12 q14 = Lib.itoa (Zu (List.take z' s) q8) ∧ kI ∧ (cI z) + iO = (cI z')) ∧ True)))) (lN q12 ≤ nM ∧ 1 ≤ nM ∧ zZ (zg iZ (yc q12 q15)) q16 ((∃ (z_1 : Nat), (z_1 ≤ lN s ∧ zE q2 q2 ∧ q3 ∧ q5 ∧ q3 ∧ q6 ∧ Lib.itoa q13 = Lib.itoa (Zu s q8 + (↑z_1
 : Int)) ∧ kI ∧ iZ = (cI z_1)) ∧ True) ∧ ∀ (z : Nat), let q17 := (Lib.itoa (Zu s q8 + (cI z))); let q21 := (yc q17 q15); let q20 := (zg q21 iZ); let q19 := (!zS false q20 || zS false q20); let q24 := (yc q17 q15 == iZ); let q23 := (zS false q20 && zS true q24); let q22 := (!q23 || zS false q20 && zS true q24); z ≤ lN s → zZ (zg (cI z) (lZ s)) (lN q17 ≤ nM ∧ 1 ≤ nM ∧ bF (dK ((cI z) + iO)) (∃ (z' : Nat), ((z' ≤ lN s ∧ lN s - z'
 < lN s - z) ∧ zE q2 q2 ∧ q3 ∧ q5 ∧ q3 ∧ q6 ∧ y5 (fun (x1 x2 : Int) => x1 + x2) q17 q18 = Lib.itoa (Zu s q8 + (cI z')) ∧ kI ∧ (cI z) + iO = (cI z')) ∧ True)) (lN q17 ≤ nM ∧ 1 ≤ nM ∧ bF q19 (bF q19 (bF q22 (bF (!q23 || dK (iZ + iO)) (bF q22 (bF q19 (bF (!zS false q20 || (!yc q17 q15 == iZ || zS false q20 && zS true q24)) (bF (!!zg q21 iZ || zS false q20) (zZ (bif zg q21 iZ then true else bif yc q17 q15 == iZ then
 iZ + iO == (3 : Int) else false) q25 ((∃ (z : Nat), (z ≤ lN s ∧ zE q2 q2 ∧ q26 ∧ q27 ∧ q5 ∧ q26 ∧ zE q2 q2 ∧ q6 ∧ Array.toList q7 = Lib.itoa (Zu (List.take z s) q28) ∧ kI ∧ iZ = (cI z)) ∧ True) ∧ ∀ (z : Nat), let q29 := (AV.agg 2 fun (i : Nat) => if 0 ≤ 0 + i ∧ 0 + i < 2 then zr.enc (gD s (Int.toNat (cI z)) zr.dflt) (0 + (0 + i - 0)) else Z0 q10 (0 + i)); let q30 := (Z4 q29); let q32 := (Zu (List.take z s) q28); let q31 := (Lib.itoa q32); let q33 := (Lib.itoa (wi q30 16)); z ≤ lN s → zZ (zg (cI z)
 (lZ s)) (bF (DB.db (iZ ≤ (cI z) ∧ (cI z) < (lZ s))) (bF (yt Tm q29) (qT q30 (Sx.intOf (Array.getD Zj 1 undef)) ∧ lN q31 ≤ nM ∧ lN q33 ≤ nM ∧ bF (dK ((cI z) + iO)) (∃ (z' : Nat), ((z' ≤ lN s ∧ lN s - z' < lN s - z) ∧ zE q2 q2 ∧ q26 ∧ q27 ∧ q5 ∧ q26 ∧ zE q2 q2 ∧ q6 ∧ y5 (fun (x1 x2 : Int) => x1 + x2) q31 q33 = Lib.itoa (Zu (List.take z' s) q28) ∧ kI ∧ (cI z) + iO = (cI z')) ∧ True))))
 (lN q31 ≤ nM ∧ 1 ≤ nM ∧ zZ (zg iZ (yc q31 q15)) q16 ((∃ (z_1 : Nat), (z_1 ≤ lN s ∧ zE q2 q2 ∧ q26 ∧ q5 ∧ q26 ∧ q6 ∧ Lib.itoa q32 = Lib.itoa (Zu s q28 + (cI z_1)) ∧ kI ∧ iZ = (cI z_1)) ∧ True) ∧ ∀ (z : Nat), let q34 := (Lib.itoa (Zu s q28 + (cI z))); let q37 := (yc q34 q15); let q36 := (zg q37 iZ); let q35 := (!zS false q36 || zS false q36); let q40 := (yc q34 q15 == iZ); let q39 := (zS false q36 && zS true q40); let q38 := (!q39 || zS false q36 && zS true q40); z ≤ List.length
 s → zZ (zg (cI z) (lZ s)) (lN q34 ≤ nM ∧ 1 ≤ nM ∧ bF (dK ((cI z) + iO)) (∃ (z' : Nat), ((z' ≤ lN s ∧ lN s - z' < lN s - z) ∧ zE q2 q2 ∧ q26 ∧ q5 ∧ q26 ∧ q6 ∧ y5 (fun (x1 x2 : Int) => x1 + x2) q34 q18 = Lib.itoa (Zu s q28 + (cI z')) ∧ kI ∧ (cI z) + iO = (cI z')) ∧ True)) (lN q34 ≤ nM ∧ 1 ≤ nM ∧ bF q35 (bF q35 (bF q38 (bF (!q39 || dK (iZ + iO + iO)) (bF q38 (zZ
 q35 (bF (!zS false q36 || (!yc q34 q15 == iZ || zS false q36 && zS true q40)) (bF (!!zg q37 iZ || zS false q36) (zZ (bif zg q37 iZ then true else bif yc q34 q15 == iZ then iZ + iO + iO == (3 : Int) else false) q25 ((∃ (z : Nat), (z ≤ lN s ∧ zE q2 q2 ∧ q41 ∧ q42 ∧ q5 ∧ q41 ∧ zE q2 q2 ∧ q6 ∧ Array.toList q7 = Lib.itoa (Zu (List.take z s) q43) ∧ kI ∧ iZ = (cI z)) ∧ True) ∧ ∀ (z : Nat), let q44 := (AV.agg 2 fun (i : Nat) => if 0 ≤ 0 + i ∧ 0 + i < 2 then zr.enc (gD s (Int.toNat
 (cI z)) zr.dflt) (0 + (0 + i - 0)) else Z0 q10 (0 + i)); let q45 := (Z4 q44); let q47 := (Zu (List.take z s) q43); let q46 := (Lib.itoa q47); let q48 := (Lib.itoa (wi q45 64)); z ≤ lN s → zZ (zg (cI z) (lZ s)) (bF (DB.db (iZ ≤ (cI z) ∧ (cI z) < (lZ s))) (bF (yt Tm q44) (qT q45 (Sx.intOf (Array.getD Zj 2 undef)) ∧ lN q46 ≤ nM ∧ lN q48 ≤ nM ∧ bF (dK ((cI z) + iO)) (∃ (z' : Nat), ((z' ≤ lN s ∧ lN s - z' < lN s -
 z) ∧ zE q2 q2 ∧ q41 ∧ q42 ∧ q5 ∧ q41 ∧ zE q2 q2 ∧ q6 ∧ y5 (fun (x1 x2 : Int) => x1 + x2) q46 q48 = Lib.itoa (Zu (List.take z' s) q43) ∧ kI ∧ (cI z) + iO = (cI z')) ∧ True)))) (lN q46 ≤ nM ∧ 1 ≤ nM ∧ zZ (zg iZ (yc q46 q15)) q16 ((∃ (z_1 : Nat), (z_1 ≤ lN s ∧ zE q2 q2 ∧ q41 ∧ q5 ∧ q41 ∧ q6 ∧ Lib.itoa q47 = Lib.itoa (Zu s q43 + (cI z_1)) ∧ kI ∧ iZ = (cI z_1)) ∧ True) ∧ ∀ (z : Nat), let q49 := (Lib.itoa (Zu s q43 + (cI z))); let q52 := (yc q49 q15); let q51
 := (zg q52 iZ); let q50 := (!zS false q51 || zS false q51); let q55 := (yc q49 q15 == iZ); let q54 := (zS false q51 && zS true q55); let q53 := (!q54 || zS false q51 && zS true q55); z ≤ lN s → zZ (zg (cI z) (lZ s)) (lN q49 ≤ nM ∧ 1 ≤ nM ∧ bF (dK ((cI z) + iO)) (∃ (z' : Nat), ((z' ≤ lN s ∧ lN s - z' < lN s - z) ∧ zE q2 q2 ∧ q41 ∧ q5 ∧ q41 ∧ q6 ∧ y5 (fun (x1 x2 : Int) => x1 + x2) q49 q18 = Lib.itoa (Zu s q43 + (cI z')) ∧ kI ∧
 (cI z) + iO = (cI z')) ∧ True)) (lN q49 ≤ nM ∧ 1 ≤ nM ∧ bF q50 (bF q50 (bF q53 (bF (!q54 || dK (iZ + iO + iO + iO)) (bF q53 (bF q50 (bF (!zS false q51 || (!yc q49 q15 == iZ || zS false q51 && zS true q55)) (bF (!!zg q52 iZ || zS false q51) (zZ (bif zg q52 iZ then true else bif yc q49 q15 == iZ then iZ + iO + iO + iO == (3 : Int) else false) q25 (j2 ∧ q1 ∧ IntKind.i64 =
 .i64 ∧ (4 : Int) = iZ)))))))))))))))) False))))))))))))))))))))) := by
 delta bF dK bA nM cI kI j2 lZ lN gD iZ iO aI
 dsimp only
 intro hb
 simp only [↓yy, ↓Zi, row_one]
 have c0 : Sx.intOf (Zj.getD 0 undef) = 4 := rfl
 have c1 : Sx.intOf (Zj.getD 1 undef) = 16 := rfl
 have c2 : Sx.intOf (Zj.getD 2 undef) = 64 := rfl
 have n0 : Int.toNat 4 = 4 := rfl
 have n1 : Int.toNat 16 = 16 := rfl
 have n2 : Int.toNat 64 = 64 := rfl
 simp only [sS, YK, yi, zk, yo, Yx, XQ, YC, wn, xJ, wE, XU, Uu, dS, c0, c1, c2, n0, n1, n2]
 refine ⟨fun h0 => ?_, fun h1 => ?_⟩
 ·obtain rfl := List.eq_nil_of_length_eq_zero (show s.length = 0 by omega)
  exact ⟨rfl, rfl⟩
 have h : Hl s := h.h.resolve_left fun e => h1 (by rw [e]; rfl)
 have hd := h.dec
 refine VO (p := 4) rfl h.len h.a (by decide) (fun e => absurd e (by decide)) (fun h0 => ?_) (fun h0 h1 => ?_) fun h0 h1 => ?_
 ·unfold za Yv
  rw [if_pos h0]; rfl
 ·have e : Yv s 4 = -1 := by unfold Yv; rw [if_neg (by omega), if_pos h1]
  unfold za
  rw [e]; rfl
 have e4 : Yv s 4 = 0 := by unfold Yv; rw [if_neg (by omega), if_neg (by omega)]
 have e16 : za s = if Yv s 16 = 0 then Yv s 64 else Yv s 16 := by unfold za; rw [if_pos e4]
 rw [e16] at hd ⊢
 refine VO (p := 16) rfl h.len (h.b e4) (by decide) (fun e => absurd e (by decide)) (fun h0 => ?_) (fun h0 h1 => ?_) fun h0 h1 => ?_
 ·unfold Yv
  rw [if_pos h0]; rfl
 ·have e : Yv s 16 = -1 := by unfold Yv; rw [if_neg (by omega), if_pos h1]
  rw [e]; rfl
 have e6 : Yv s 16 = 0 := by unfold Yv; rw [if_neg (by omega), if_neg (by omega)]
 rw [if_pos e6] at hd ⊢
 have hd2 : 0 < Zu s 64 ∨ Zu s 64 + s.length < 0 := by
  unfold Yv at hd
  split at hd
  ·exact .inl (by assumption)
  ·split at hd
   ·exact .inr (by assumption)
   ·exact absurd rfl hd
 refine VO (p := 64) rfl h.len (h.c e4 e6) (by decide) (fun _ => by omega) (fun h0 => ?_) (fun h0 h1 => ?_) fun h0 h1 => ?_
 ·unfold Yv
  rw [if_pos h0]
 ·unfold Yv
  rw [if_neg (by omega), if_pos h1]
 ·exact absurd hd2 (by omega)
def pc : List AV → Option (List zn × AV)
 | [x] => some ([.b (zB Tm x), .p (ot (yx (α := Tm) x))], .tup 2 (zw [.i (za (yx (α := Tm) x)), .i 0]))
 | _ => none
theorem jt {G : List (Nat × Obj)} (hG : VV G) : zp Tryz.prog G 41 pc := by
 intro xs ps r h hp
 unfold pc at h
 split at h
 ·rename_i x
  cases h
  obtain ⟨q0, -⟩ := ZF hp
  have q1 : ot (yx (α := Tm) x) := hp _ (List.mem_cons_of_mem _ List.mem_cons_self)
  have hs := OH hG.tab
  obtain ⟨_, t, fr, t2, fr2, G', rfl⟩ := hG
  exact weaken (ys := [_]) ⟨zd q0, trivial⟩ (zW mixed hs (Eq.mp (by kernel_rfl) (jH t t2 fr fr2 G' (yx (α := Tm) x) q1) : vC Tryz.prog (GZ ((2, Obj.cells zm t fr) :: (0, Obj.cells Zj t2 fr2) :: G')) 41 (Jl (yx (α := Tm) x)) [ZD (yx (α := Tm) x)] (.tup 2 (zw [.i (za (yx (α := Tm) x)), .i 0]))))
 ·cases h
structure If (s t : List Tm) : Prop where
 fs : xj s
 ft : xj t
 made : vU (s ++ yW (-1) t)
 sg : Hl (Zg (s ++ yW (-1) t))
theorem iv (G : List (Nat × Obj)) (s t : List Tm) (h : If s t) :
 let q1 := (AV.xl false 2 (lN s) fun i j => zr.enc (gD s i zr.dflt) j); let q2 := (AV.xl false 2 (lN t) fun i j => zr.enc (gD t i zr.dflt) j); let q3 := (yx q2); let q4 := (yx q1 ++ yW (-1 : Rat) q3); let q6 := (Zg q4); let q5 := (AV.xl false 2 (lN q6) fun i j => zr.enc (gD q6 i zr.dflt) j); let q7 := (yx q5); Zt [AV.xl false 2 (lN s) fun i j => zr.enc (gD s i zr.dflt) j, AV.xl false 2 (lN t) fun i j => zr.enc (gD t i zr.dflt) j] → bF (zB Tm q1) (bF (zB Tm q2) (xj (yx q1) ∧ xj q3 ∧
 vU q4 ∧ bF (zB Tm q5) (ot q7 ∧ j2 ∧ (True ∧ kI ∧ za q7 = za (Zg (s ++ yW (-1 : Rat) t))) ∧ kI ∧ iZ = iZ))) := by
 delta bF kI j2 lN gD iZ
 dsimp only
 intro hb
 simp only [↓yy, ↓Zi, row_one]
 simp only [sS, YK, yi, zk, yo, Yx, XQ, YC, wn, xJ, wE, XU, Uu, dS]
 exact ⟨h.fs, h.ft, h.made, ⟨.inr h.sg⟩, rfl⟩
theorem jP {G : List (Nat × Obj)} (hG : VV G) (s t : List Tm) (h : If s t) : zU Tryz.prog G 23 [ZD s, ZD t] (.tup 2 (zw [.i (za (Zg (s ++ yW (-1) t))), .i 0])) :=
 zW (T := ((W2 G).plus 13 qb).plus 41 pc) (an := .auto) mixed (zz.plus (zz.plus zQ (iu hG.tab)) (jt hG)) (Eq.mp (by kernel_rfl) (iv G s t h))
end Go.Te

namespace Go.Te
open Go Go.Sx Go.Proofs Go.Ar
set_option maxRecDepth 100000
set_option maxHeartbeats 4000000
theorem nO {t : Tm} (h : Zw RM t) : li (zt t.q) := by
 obtain ⟨b1, p1, d1, n1⟩ := wN h (by decide)
 refine ⟨(ZI (by decide) (by decide)).2 (b1.mono (by decide)), by rw [zk]; exact p1, ?_⟩
 rw [zk]
 have a1 : Xx t.q.num ≤ 8 := xK (by decide) b1.num
 have a2 : Lib.nDigits t.q.den ≤ 8 := (ZX (by decide)).2 b1.den
 omega
theorem mf {c : Rat} {L D k : Nat} (hL : 0 < L) (h : ∃ z : Int, c * (L : Rat) = (z : Rat) ∧ z.natAbs ≤ D) (h1 : D < 10 ^ k) (h2 : L < 10 ^ k) : bq k c := by
 obtain ⟨z, hz, hd⟩ := h
 have hd0 : (L : Rat) ≠ 0 := fun e => by have := Rat.natCast_eq_zero_iff.1 e; omega
 have e : c = mkRat z L := by rw [Rat.mkRat_eq_div, ← hz]; grind
 rw [e]
 exact T4 hL (by omega) h2
theorem J2 {l : List Tm} {L B : Nat} (hl : l.length ≤ 16) (hn : ∀ t ∈ l, Zw RM t) (hc : ∀ t ∈ l, bq 60 t.c) (hL : 0 < L) (hp : pg L B l) (h1 : B * RM < 10 ^ 60) (h2 : L * RM < 10 ^ 60) : vU l := by
 have hi : inT RM l := fun t ht => uj (hn t ht)
 have hR : RM < 18446744073709551616 := by decide
 exact ⟨by omega, hc, fun t ht _ => nO (hn t ht), hi, QE hR hi hL hp h1 h2, Nat.le_trans (xm hR hi).2.1 hl⟩
def UI (L D : Nat) (l : List Tm) : Prop := ∀ t ∈ l, ∃ z : Int, t.c * (L : Rat) = (z : Rat) ∧ z.natAbs ≤ D
theorem Le {l : List Tm} {R L D : Nat} (hl : l.length ≤ 16) (hR : R ≤ RM) (hn : ∀ t ∈ l, Zw R t) (hL : 0 < L) (hc : UI L D l) (h1 : 16 * (D * R) * RM < 10 ^ 60) (h2 : L * RM < 10 ^ 60) (hD : D < 10 ^ 60) : vU l := by
 have hn' : ∀ t ∈ l, Zw RM t := fun t ht => by obtain ⟨r, e, h0, h1⟩ := hn t ht; exact ⟨r, e, h0, Nat.le_trans h1 hR⟩
 have hl1 : L ≤ L * RM := Nat.le_mul_of_pos_right _ (by decide)
 exact J2 hl hn' (fun t ht => mf hL (hc t ht) hD (by omega)) hL ((PV hn hc).mono (Nat.mul_le_mul_right _ hl)) h1 h2
theorem rO {l : List Tm} (h : vU l) : xj (Zg l) := by
 refine ⟨(xm (by decide) h.root).1, h.out, fun x hx => ?_⟩
 have h1 := (Xs (xn l)).mem_iff.1 hx
 have h2 := h.cls l.length
 rw [List.take_length] at h2
 exact h2 x (List.mem_filter.1 h1).1
def QY (L R : List Tm) : List AV → Option (List zn × AV)
 | [x] => some ([.b (zB Tm x && decide (yx (α := Tm) x = L))], .tup 2 (zw [ZD R, .i 0]))
 | _ => none
theorem jA {G : List (Nat × Obj)} {f : FuncId} {L R : List Tm} (h : zU Tryz.prog G f [ZD L] (.tup 2 (zw [ZD R, .i 0]))) : zp Tryz.prog G f (QY L R) := by
 intro xs ps r e hp
 unfold QY at e
 split at e
 ·rename_i x
  cases e
  have q0 : (zB Tm x && decide (yx (α := Tm) x = L)) = true := hp _ List.mem_cons_self
  rw [Bool.and_eq_true, decide_eq_true_iff] at q0
  exact weaken (ys := [_]) ⟨q0.2 ▸ zd q0.1, trivial⟩ h
 ·cases e
def SZ (L M R : List Tm) : List AV → Option (List zn × AV)
 | [x, y] => some ([.b (zB Tm x && decide (yx (α := Tm) x = L)), .b (zB Tm y && decide (yx (α := Tm) y = M))], .tup 2 (zw [ZD R, .i 0]))
 | _ => none
theorem nF {G : List (Nat × Obj)} {f : FuncId} {L M R : List Tm} (h : zU Tryz.prog G f [ZD L, ZD M] (.tup 2 (zw [ZD R, .i 0]))) : zp Tryz.prog G f (SZ L M R) := by
 intro xs ps r e hp
 unfold SZ at e
 split at e
 ·rename_i x y
  cases e
  have q0 : (zB Tm x && decide (yx (α := Tm) x = L)) = true := hp _ List.mem_cons_self
  have q1 : (zB Tm y && decide (yx (α := Tm) y = M)) = true := hp _ (List.mem_cons_of_mem _ List.mem_cons_self)
  rw [Bool.and_eq_true, decide_eq_true_iff] at q0 q1
  exact weaken (ys := [_, _]) ⟨q0.2 ▸ zd q0.1, q1.2 ▸ zd q1.1, trivial⟩ h
 ·cases e
theorem HB {t : Tm} (h : (t.q.den = 1 ∧ 0 < t.q.num) ∧ t.q.num.natAbs ≤ RM) : Zw RM t := by
 exact ⟨t.q.num.natAbs, Rat.ext (by rw [Rat.num_natCast]; omega) (by rw [Rat.den_natCast]; exact h.1.1), by omega, h.2⟩
def N1 (l : List Tm) : Bool := l.all fun t => (t.q.den == 1 && decide (0 < t.q.num)) && Nat.ble t.q.num.natAbs 1000 && decide ((t.c * 62).den = 1) && Nat.ble (t.c * 62).num.natAbs 1000
theorem xD {l : List Tm} (hl : l.length ≤ 16) (h : N1 l = true) : vU l := by
 unfold N1 at h
 rw [List.all_eq_true] at h
 have key : ∀ t ∈ l, Zw RM t ∧ ∃ z : Int, t.c * ((62 : Nat) : Rat) = (z : Rat) ∧ z.natAbs ≤ 1000 := fun t ht => by
  have := h t ht
  simp only [Bool.and_eq_true, beq_iff_eq, decide_eq_true_eq] at this
  obtain ⟨⟨⟨h1, h2⟩, h3⟩, h4⟩ := this
  have h2 := Nat.le_of_ble_eq_true h2
  have h4 := Nat.le_of_ble_eq_true h4
  refine ⟨HB ⟨h1, Nat.le_trans h2 (by decide)⟩, (t.c * 62).num, ?_, h4⟩
  exact Rat.ext rfl h3
 exact Le (L := 62) (D := 1000) hl (Nat.le_refl _) (fun t ht => (key t ht).1) (by decide) (fun t ht => (key t ht).2) (by decide) (by decide) (by decide)
theorem gY : Zg [⟨1, 8⟩] = [⟨2, 2⟩] := by decide +kernel
theorem GJ : Zg [⟨1, 2⟩] = [⟨1, 2⟩] := by decide +kernel
theorem G4 : Zg ([⟨1, 2⟩] ++ [⟨2, 2⟩]) = [⟨3, 2⟩] := by decide +kernel
theorem Gc : Zg (Z9 [⟨1, 2⟩] [⟨2, 2⟩]) = [⟨4, 1⟩] := by decide +kernel
abbrev lJ : List Tm := [⟨1, 2⟩, ⟨1, 3⟩]
abbrev nw : List Tm := [⟨1, 10⟩]
abbrev IT : List Tm := [⟨-1 / 62, 1⟩, ⟨1, 10⟩]
theorem H2 : Zg lJ = lJ ∧ Zg nw = nw ∧ Zg IT = IT := by decide +kernel
abbrev dY : List Tm := [⟨1, 2⟩, ⟨1, 3⟩, ⟨-1, 10⟩]
abbrev dZ : List Tm := [⟨1 / 62, 1⟩, ⟨1, 2⟩, ⟨1, 3⟩, ⟨-1, 10⟩]
theorem H8 : Zg (lJ ++ yW (-1) nw) = dY ∧ Zg (lJ ++ yW (-1) IT) = dZ := by decide +kernel
theorem wd {t : Tm} {p : Nat} (S r : Nat) (v : Int) (hS : X4 t p = S) (h1 : r * r ≤ S) (h2 : S < (r + 1) * (r + 1)) (hv : (if 0 ≤ t.c.num then ((r / t.c.den : Nat) : Int) else -(if r * r = S ∧ r % t.c.den = 0 then ((r / t.c.den : Nat) : Int) else ((r / t.c.den : Nat) : Int) + 1)) = v) : wi t p = v := by
 unfold wi
 rw [hS, ← Ss h1 h2]
 exact hv
theorem G3 : wi ⟨1 / 62, 1⟩ 4 = 161 ∧ wi ⟨1, 2⟩ 4 = 14142 ∧ wi ⟨1, 3⟩ 4 = 17320 ∧ wi ⟨-1, 10⟩ 4 = -31623 :=
 ⟨wd 100000000 10000 _ (by decide +kernel) (by decide) (by decide) (by decide +kernel), wd 200000000 14142 _ (by decide +kernel) (by decide) (by decide) (by decide +kernel),
  wd 300000000 17320 _ (by decide +kernel) (by decide) (by decide) (by decide +kernel), wd 1000000000 31622 _ (by decide +kernel) (by decide) (by decide) (by decide +kernel)⟩
theorem gZ : wi ⟨1 / 62, 1⟩ 16 = 161290322580645 ∧ wi ⟨1, 2⟩ 16 = 14142135623730950 ∧ wi ⟨1, 3⟩ 16 = 17320508075688772 ∧ wi ⟨-1, 10⟩ 16 = -31622776601683794 :=
 ⟨wd 100000000000000000000000000000000 10000000000000000 _ (by decide +kernel) (by decide) (by decide) (by decide +kernel), wd 200000000000000000000000000000000 14142135623730950 _ (by decide +kernel) (by decide) (by decide) (by decide +kernel),
  wd 300000000000000000000000000000000 17320508075688772 _ (by decide +kernel) (by decide) (by decide) (by decide +kernel), wd 1000000000000000000000000000000000 31622776601683793 _ (by decide +kernel) (by decide) (by decide) (by decide +kernel)⟩
theorem H3 : za dY = -1 ∧ Yv dZ 4 = 0 ∧ za dZ = 1 := by
 obtain ⟨a1, a2, a3, a4⟩ := G3
 obtain ⟨b1, b2, b3, b4⟩ := gZ
 have y4 : Yv dY 4 = -1 := by
  unfold Yv Zu
  simp only [List.map_cons, List.map_nil, List.sum_cons, List.sum_nil, a2, a3, a4]
  decide
 have z4 : Yv dZ 4 = 0 := by
  unfold Yv Zu
  simp only [List.map_cons, List.map_nil, List.sum_cons, List.sum_nil, a1, a2, a3, a4]
  decide
 have z16 : Yv dZ 16 = 1 := by
  unfold Yv Zu
  simp only [List.map_cons, List.map_nil, List.sum_cons, List.sum_nil, b1, b2, b3, b4]
  decide
 unfold za
 rw [y4, z4, z16]
 decide
theorem GI : ∀ t ∈ dZ, ∀ p ∈ [(4 : Int), 16, 64], X4 t p.toNat < 10 ^ 215 := by decide +kernel
theorem GW {s : List Tm} (h0 : 0 < s.length) (hl : s.length ≤ 16) (h : N1 s = true) (hf : ∀ t ∈ s, ∀ p ∈ [(4 : Int), 16, 64], X4 t p.toNat < 10 ^ 215) (hne : ∀ t ∈ s, t.c ≠ 0) (hd : za s ≠ 0) : Hl s := by
 have hm := xD hl h
 have key : ∀ t ∈ s, ∀ p ∈ [(4 : Int), 16, 64], qT t p := fun t ht p hp => by
  refine ⟨hne t ht, hm.cs t ht, ?_, ?_, hf t ht p hp⟩
  ·unfold N1 at h
   have := (List.all_eq_true.1 h) t ht
   simp only [Bool.and_eq_true, beq_iff_eq, decide_eq_true_eq] at this
   exact HB ⟨this.1.1.1, Nat.le_trans (Nat.le_of_ble_eq_true this.1.1.2) (by decide)⟩
  ·revert p hp; decide
 exact ⟨h0, hl, fun t ht => key t ht 4 (by simp), fun _ t ht => key t ht 16 (by simp), fun _ _ t ht => key t ht 64 (by simp), hd⟩
theorem Iq {s : List Tm} (hl : s.length ≤ 16) (h : N1 s = true) (he : Zg s = s) : xj s := he ▸ rO (xD hl h)
theorem gW {G : List (Nat × Obj)} (hG : zo G) : zU Tryz.prog G 20 [ZD [(⟨1, 8⟩ : Tm)]] (.tup 2 (zw [ZD [(⟨2, 2⟩ : Tm)], .i 0])) := gY ▸ K4 hG [⟨1, 8⟩] (xD (by decide) (by decide +kernel))
theorem gH {G : List (Nat × Obj)} (hG : zo G) : zU Tryz.prog G 12 [ZD [(⟨1, 2⟩ : Tm)], ZD [(⟨2, 2⟩ : Tm)]] (.tup 2 (zw [ZD [(⟨3, 2⟩ : Tm)], .i 0])) :=
 G4 ▸ iR hG [⟨1, 2⟩] [⟨2, 2⟩] (Iq (by decide) (by decide +kernel) GJ) (gY ▸ rO (xD (by decide) (by decide +kernel))) (xD (by decide) (by decide +kernel))
theorem gv {G : List (Nat × Obj)} (hG : zo G) : zU Tryz.prog G 16 [ZD [(⟨1, 2⟩ : Tm)], ZD [(⟨2, 2⟩ : Tm)]] (.tup 2 (zw [ZD [(⟨4, 1⟩ : Tm)], .i 0])) :=
 Gc ▸ jR hG [⟨1, 2⟩] [⟨2, 2⟩] (Iq (by decide) (by decide +kernel) GJ) (gY ▸ rO (xD (by decide) (by decide +kernel))) (xD (by decide) (by decide +kernel))
theorem gM {G : List (Nat × Obj)} (hG : VV G) : zU Tryz.prog G 23 [ZD lJ, ZD nw] (.tup 2 (zw [.i (-1), .i 0])) := by
 have h := jP hG lJ nw ⟨Iq (by decide) (by decide +kernel) H2.1, Iq (by decide) (by decide +kernel) H2.2.1, xD (by decide) (by decide +kernel), by
  rw [H8.1]
  exact GW (by decide) (by decide) (by decide +kernel) (fun t ht => GI t (List.mem_cons_of_mem _ ht)) (by decide +kernel) (by rw [H3.1]; decide)⟩
 rw [H8.1, H3.1] at h
 exact h
theorem gG {G : List (Nat × Obj)} (hG : VV G) : zU Tryz.prog G 23 [ZD lJ, ZD IT] (.tup 2 (zw [.i 1, .i 0])) := by
 have h := jP hG lJ IT ⟨Iq (by decide) (by decide +kernel) H2.1, Iq (by decide) (by decide +kernel) H2.2.2, xD (by decide) (by decide +kernel), by
  rw [H8.2]
  exact GW (by decide) (by decide) (by decide +kernel) GI (by decide +kernel) (by rw [H3.2.2]; decide)⟩
 rw [H8.2, H3.2.2] at h
 exact h
def Q3 : List AV → Option (List zn × AV)
 | [x, y] => some ([.b (zB Tm x && decide (yx (α := Tm) x = lJ)), .b (zB Tm y && (decide (yx (α := Tm) y = nw) || decide (yx (α := Tm) y = IT)))], .tup 2 (zw [.i (if yx (α := Tm) y = nw then -1 else 1), .i 0]))
 | _ => none
theorem IV {G : List (Nat × Obj)} (hG : VV G) : zp Tryz.prog G 23 Q3 := by
 intro xs ps r e hp
 unfold Q3 at e
 split at e
 ·rename_i x y
  cases e
  have q0 : (zB Tm x && decide (yx (α := Tm) x = lJ)) = true := hp _ List.mem_cons_self
  have q1 : (zB Tm y && (decide (yx (α := Tm) y = nw) || decide (yx (α := Tm) y = IT))) = true := hp _ (List.mem_cons_of_mem _ List.mem_cons_self)
  rw [Bool.and_eq_true, decide_eq_true_iff] at q0
  rw [Bool.and_eq_true, Bool.or_eq_true, decide_eq_true_iff, decide_eq_true_iff] at q1
  have hx := zd (α := Tm) q0.1
  have hy := zd (α := Tm) q1.1
  rw [q0.2] at hx
  by_cases hY : yx (α := Tm) y = nw
  ·rw [if_pos hY]
   rw [hY] at hy
   exact weaken (ys := [_, _]) ⟨hx, hy, trivial⟩ (gM hG)
  ·rw [if_neg hY]
   rw [q1.2.resolve_left hY] at hy
   exact weaken (ys := [_, _]) ⟨hx, hy, trivial⟩ (gG hG)
 ·cases e
def kx  : yS :=
 .two .auto (.two .auto (.two (.two .auto (.one (.unroll 3 .auto))) .auto))
noncomputable def Gl (G : List (Nat × Obj)) : Tb := (((((W2 G).plus 20 (QY [⟨1, 8⟩] [⟨2, 2⟩])).plus 12 (SZ [⟨1, 2⟩] [⟨2, 2⟩] [⟨3, 2⟩])).plus 16 (SZ [⟨1, 2⟩] [⟨2, 2⟩] [⟨4, 1⟩])).plus 23 Q3).body Tryz.prog [(39, kx), (21, .auto)]
theorem OP {G : List (Nat × Obj)} (hG : VV G) : zz Tryz.prog (Gl G) := zz.body mixed (zz.plus (zz.plus (zz.plus (zz.plus zQ (jA (gW hG.tab))) (nF (gH hG.tab))) (nF (gv hG.tab))) (IV hG)) _
theorem jG (G : List (Nat × Obj)) :
 Zt [] → (bif bif bif iZ == iZ then iZ == iZ else false then (if yx (AV.xl true 2 1 (Sx.rowAt [zw [AV.str (bA #[(49 : UInt8)]), AV.str (bA #[(49 : UInt8), (48 : UInt8)])]])) = nw then (-1 : Int) else iO) == (-1 : Int) else false then (if yx (AV.xl true 2 2 (Sx.rowAt [zw [AV.str (bA #[(45 : UInt8), (49 : UInt8), (47 : UInt8), (54 : UInt8), (50 : UInt8)]), AV.str (bA #[(49 : UInt8)])],
 zw [AV.str (bA #[(49 : UInt8)]), AV.str (bA #[(49 : UInt8), (48 : UInt8)])]])) = nw then (-1 : Int) else iO) == iO else false) = true := by
 delta bA iZ iO
 intro hb
 decide +kernel
def Mz : List AV → Option (List zn × AV)
 | [] => some ([], .b true)
 | _ => none
theorem Ig {G : List (Nat × Obj)} (hG : VV G) : zp Tryz.prog G 15 Mz := by
 intro xs ps r e hp
 unfold Mz at e
 split at e
 ·cases e
  exact zW mixed (OP hG) (Eq.mp (by kernel_rfl) (jG G) : vC Tryz.prog (Gl G) 15 .auto [] (.b true))
 ·cases e
end Go.Te
