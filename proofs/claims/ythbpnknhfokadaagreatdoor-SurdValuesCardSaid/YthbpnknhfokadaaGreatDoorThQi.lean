/- surd: floor, sign. -/
import Derived.Test.YthbpnknhfokadaaGreatDoorThQg
set_option linter.unusedSimpArgs false
set_option linter.unusedVariables false
namespace Go.Te
open Go Go.Sx Go.Proofs Go.Ar
set_option maxRecDepth 100000
set_option maxHeartbeats 4000000
theorem KH {x j k : Nat} (hx : x < 10 ^ j) (hj : j ≤ k) : x < 10 ^ k := Nat.lt_of_lt_of_le hx (Nat.pow_le_pow_right (Nat.succ_pos 9) hj)
theorem uJ {a : Int} (h : a.natAbs < 10 ^ 300) : ZR (Lib.itoa a) = 0 := by
 rw [Yt]
 exact xL h (by decide) (by decide)
theorem xn (f : Int → Int → Int) {a b : Int} (ha : a.natAbs < 10 ^ 300) (hb : b.natAbs < 10 ^ 300) (h : (f a b).natAbs < 10 ^ 300) : y6 f (Lib.itoa a) (Lib.itoa b) = Lib.itoa (f a b) := by
 rw [(X9 (f := f) (uJ ha) (uJ hb)).2, (zC a).2, (zC b).2]
 exact (ZP (k := 300) (by decide) (by decide) h).1
theorem Ox {a d : Nat} (ha : a < 10 ^ 300) (hd : d < 10 ^ 300) (h0 : 0 < d) : YX (Lib.itoa (a : Int)) (Lib.itoa (d : Int)) = Lib.itoa ((a / d : Nat) : Int) ∧ Vl (Lib.itoa (a : Int)) (Lib.itoa (d : Int)) = Lib.itoa ((a % d : Nat) : Int) := by
 have e : Xv (Lib.itoa (a : Int)) (Lib.itoa (d : Int)) = 0 := by
  unfold Xv zc
  rw [uJ (by rw [Int.natAbs_natCast]; exact ha), uJ (by rw [Int.natAbs_natCast]; exact hd), RJ (by omega)]
  rfl
 obtain ⟨e1, e2⟩ := qT e
 rw [e1, e2, (zC _).2, (zC _).2, Int.fdiv_eq_ediv_of_nonneg _ (by omega), Int.fmod_eq_emod_of_nonneg _ (by omega)]
 exact ⟨by rw [Int.natCast_ediv], by rw [Int.natCast_emod]⟩
theorem UE {a b : Int} : (Lib.itoa a == Lib.itoa b) = decide (a = b) := by
 rw [Bool.eq_iff_iff, beq_iff_eq, decide_eq_true_iff]
 exact ⟨fun h => by rw [← (zC a).2, h, (zC b).2], fun h => by rw [h]⟩
theorem Qi (n : Int) : (((Lib.itoa n).getD 0 0).toNat : Int) = 45 ↔ n < 0 := by
 constructor
 ·intro h
  refine Int.not_le.1 fun h0 => ?_
  obtain ⟨m, rfl⟩ : ∃ m : Nat, n = m := ⟨n.toNat, by omega⟩
  rw [Go.Ar.Z6] at h
  have hd := (Zt.1 (YV m))
  match hq : Lib.decDigits m, hd with
  | c :: r, hd =>
   have h1 := y9.1 (hd.2.1 c List.mem_cons_self)
   rw [hq] at h
   have h : (c.toNat : Int) = 45 := h
   have h2 : c = 45 := UInt8.toNat.inj (by show c.toNat = 45; omega)
   rw [h2] at h1
   exact absurd h1.1 (by decide)
 ·intro h
  have := Go.Ar.itoa_neg (n := n.natAbs) (by omega)
  rw [show -((n.natAbs : Nat) : Int) = n by omega] at this
  rw [this]; rfl
theorem ZA {n : Int} {k : Nat} (hk : 0 < k) (h : n.natAbs < 10 ^ k) : (Lib.itoa n).length ≤ k + 1 ∧ 0 < (Lib.itoa n).length := by
 have h1 := xM hk h
 have h2 := qu n
 rw [Xz]
 split <;> omega
def R4 (t : Tm) (p : Nat) : Nat := t.c.num.natAbs * t.c.num.natAbs * mQ t.q * 10 ^ (2 * p)
def VS (t : Tm) (p : Nat) : Int :=
 if 0 ≤ t.c.num then ((yR (R4 t p) / t.c.den : Nat) : Int)
 else -(if yR (R4 t p) * yR (R4 t p) = R4 t p ∧ yR (R4 t p) % t.c.den = 0 then ((yR (R4 t p) / t.c.den : Nat) : Int) else ((yR (R4 t p) / t.c.den : Nat) : Int) + 1)
structure pH (t : Tm) (p : Int) : Prop where
 ne : t.c ≠ 0
 bc : bq 60 t.c
 nat : ZV RM t
 pl : 0 ≤ p ∧ p ≤ 20
 sq : R4 t p.toNat < 10 ^ 77
noncomputable def H6 (G : List (Nat × Obj)) : Tb := (((((((WS G).plus 85 SL).plus 78 Wb).plus 116 sL).plus 117 NU).plus 115 SY).plus 64 ua).plus 118 Sl
theorem OT {G : List (Nat × Obj)} (hG : zo G) : zz Tryz.prog (H6 G) := zz.plus (zz.plus (zz.plus (zz.plus (zz.plus (zz.plus (zz.plus zQ (QL hG)) (Ua hG)) (zp.mono O3)) (iL hG)) (MP hG)) (qj hG)) (NN hG)
def MR : List AV → Option (List zN × AV)
 | [x_t, .v (.int .i64 p)] => some ([.b (yV Tm x_t), .p (pH (Zn (α := Tm) x_t) p)], .str (Lib.itoa (VS (Zn (α := Tm) x_t) p.toNat)))
 | _ => none
theorem Jj (G : List (Nat × Obj)) (t : Tm) (p : Int) (h : pH t p) :
 let q1 := (Lib.itoa (Rat.num (ze (zT (Tm.c t))))); let q2 := (y6 (fun (x1 x2 : Int) => x1 * x2) q1 q1); let q3 := (y6 (fun (x1 x2 : Int) => x1 * x2) q2 (zT (Tm.q t))); let q5 := (ByteArray.data (ByteArray.mk #[(49 : UInt8)])); let q4 := (Array.toList q5 ++ List.replicate (Int.toNat ((2 : Int) * p)) (48 : UInt8)); let q6 := (y6 (fun (x1 x2 : Int) => x1 * x2) q3 q4); let q7 := (Lib.itoa (cI (yR (Int.toNat (zY q6))))); let q8 := (Lib.itoa (cI (Rat.den (ze (zT (Tm.c t)))))); let q9 := (ByteArray.data (ByteArray.mk #[(48 : UInt8)])); let q10 := (YX q7 q8); let q11 := (y6
 (fun (x1 x2 : Int) => x1 + x2) q10 (Array.toList q5)); let q12 := (Array.toList q9); Zw [AV.agg 2 (zV.enc t), aI p] → Yo 300 (zT (Tm.c t)) ∧ lN q1 ≤ nM ∧ lN q1 ≤ nM ∧ lN q2 ≤ nM ∧ lN (zT (Tm.q t)) ≤ nM ∧ bF (dK ((2 : Int) * p)) ((iZ ≤ (2 : Int) * p ∧ (2 : Int) * p ≤ (40 : Int)) ∧ bF (DB.db (1 + lN (List.replicate (Int.toNat ((2 : Int) * p)) (48 : UInt8)) ≤ nX)) (lN q3 ≤ nM ∧ lN q4 ≤ nM ∧ Zy q6 = true ∧ iZ
 < zY q6 ∧ lN q6 ≤ 78 ∧ lN q7 ≤ nM ∧ lN q8 ≤ nM ∧ bF (DB.db (iZ ≤ iZ ∧ iZ < (lZ q1))) (zZ ((cI (UInt8.toNat (gD q1 0 (0 : UInt8)))) != (45 : Int)) (YX q7 q8 = Lib.itoa (VS t (Int.toNat p))) (lN q7 ≤ nM ∧ lN q7 ≤ nM ∧ bF (!zr false !y6 (fun (x1 x2 : Int) => x1 * x2) q7 q7 == y6 (fun (x1 x2 : Int) => x1 * x2) q3 q4 || zr false !y6 (fun (x1 x2 : Int) => x1 * x2) q7 q7 == y6 (fun (x1 x2 : Int) => x1 * x2) q3 q4) (bF (!!!y6 (fun (x1 x2 : Int) =>
 x1 * x2) q7 q7 == y6 (fun (x1 x2 : Int) => x1 * x2) q3 q4 || zr false !y6 (fun (x1 x2 : Int) => x1 * x2) q7 q7 == y6 (fun (x1 x2 : Int) => x1 * x2) q3 q4) (zZ (bif !y6 (fun (x1 x2 : Int) => x1 * x2) q7 q7 == y6 (fun (x1 x2 : Int) => x1 * x2) q3 q4 then true else !Vl q7 q8 == Array.toList q9) (lN q10 ≤ nM ∧ 1 ≤ nM ∧ 1 ≤ nM ∧ lN q11 ≤ nM ∧ y6 (fun (x1 x2 : Int) => x1 - x2) q12 q11 = Lib.itoa (VS t (Int.toNat p))) (1 ≤ nM ∧ lN q10 ≤ nM ∧ y6 (fun (x1 x2 : Int) => x1 - x2) q12 q10 = Lib.itoa (VS t (Int.toNat
 p))))))))) := by
 delta bF dK nX nM cI lZ lN gD iZ aI
 dsimp only
 intro hb
 simp only [sS, YY, yU, zm, yZ, yI, xh, Yl, Xr, Yb, Xa, Y6, vN, dS]
 obtain ⟨b1, p1, d1, n1⟩ := wo h.nat (by decide)
 obtain ⟨e, m0, mR⟩ := h.nat.mQ
 have E2 : zT t.q = Lib.itoa ((mQ t.q : Nat) : Int) := (congrArg zT e).trans (w5 _)
 have o1 : Yo 300 (zT t.c) := (ZH (by decide) (by decide)).2 (h.bc.mono (by decide))
 obtain ⟨p, rfl⟩ : ∃ q : Nat, p = q := ⟨p.toNat, by have := h.pl; omega⟩
 have hp := h.pl
 have hS := h.sq
 have hn0 : t.c.num ≠ 0 := fun e => h.ne (Rat.num_eq_zero.1 e)
 have hN := h.bc.num
 have hD := h.bc.den
 have hd0 := t.c.den_pos
 rw [Int.toNat_natCast] at hS
 rw [Int.toNat_natCast, E2]
 unfold VS
 have ek : (2 * (p : Int)).toNat = 2 * p := by omega
 rw [ek]
 obtain ⟨t1, t2⟩ := pd (2 * p)
 have et : ([49] ++ List.replicate (2 * p) 48 : zj) = Lib.itoa ((10 ^ (2 * p) : Nat) : Int) := by rw [← t2, Yh t1]; rfl
 have eS : R4 t p = t.c.num.natAbs * t.c.num.natAbs * mQ t.q * 10 ^ (2 * p) := rfl
 have hT0 : 0 < 10 ^ (2 * p) := Nat.pow_pos (by omega)
 have hT1 : 10 ^ (2 * p) < 10 ^ 41 := Nat.pow_lt_pow_right (by omega) (by omega)
 have lrep : (List.replicate (2 * p) (48 : UInt8)).length = 2 * p := List.length_replicate
 generalize 10 ^ (2 * p) = T at *
 have hm9 : mQ t.q < 10 ^ 9 := Nat.lt_of_le_of_lt mR (by decide)
 generalize mQ t.q = m at *
 generalize t.c.num = n at *
 generalize t.c.den = d at *
 generalize R4 t p = S at *
 have hNN : n.natAbs * n.natAbs < 10 ^ 120 := Yr (j := 60) (k := 60) hN hN
 have hNM : n.natAbs * n.natAbs * m < 10 ^ 129 := Yr (j := 120) (k := 9) hNN hm9
 have up : ∀ {x j : Nat}, x < 10 ^ j → j ≤ 300 → x < 10 ^ 300 := fun hx hj => KH (k := 300) hx hj
 have nn : n * n = ((n.natAbs * n.natAbs : Nat) : Int) := Int.natAbs_mul_self.symm
 have E1 : y6 (fun x1 x2 => x1 * x2) (Lib.itoa n) (Lib.itoa n) = Lib.itoa ((n.natAbs * n.natAbs : Nat) : Int) := by
  rw [xn _ (up hN (by omega)) (up hN (by omega)) (by rw [nn, Int.natAbs_natCast]; exact up hNN (by omega)), nn]
 have E3 : y6 (fun x1 x2 => x1 * x2) (Lib.itoa ((n.natAbs * n.natAbs : Nat) : Int)) (Lib.itoa (m : Int)) = Lib.itoa ((n.natAbs * n.natAbs * m : Nat) : Int) := by
  rw [xn _ (by rw [Int.natAbs_natCast]; exact up hNN (by omega)) (by rw [Int.natAbs_natCast]; exact up hm9 (by omega)) (by rw [← Int.natCast_mul, Int.natAbs_natCast]; exact up hNM (by omega)), ← Int.natCast_mul]
 have E5 : y6 (fun x1 x2 => x1 * x2) (Lib.itoa ((n.natAbs * n.natAbs * m : Nat) : Int)) (Lib.itoa (T : Int)) = Lib.itoa (S : Int) := by
  rw [xn _ (by rw [Int.natAbs_natCast]; exact up hNM (by omega)) (by rw [Int.natAbs_natCast]; exact up hT1 (by omega)) (by rw [← Int.natCast_mul, ← eS, Int.natAbs_natCast]; exact up hS (by omega)), ← Int.natCast_mul, ← eS]
 have hS0 : 0 < S := by
  rw [eS]
  have := Nat.mul_pos (show 0 < n.natAbs by omega) (show 0 < n.natAbs by omega)
  exact Nat.mul_pos (Nat.mul_pos this m0) hT0
 have ltn := ZA (n := n) (k := 60) (by decide) hN
 have lnn := ZA (n := ((n.natAbs * n.natAbs : Nat) : Int)) (k := 120) (by decide) (by rw [Int.natAbs_natCast]; exact hNN)
 have lm := ZA (n := (m : Int)) (k := 9) (by decide) (by rw [Int.natAbs_natCast]; exact hm9)
 have lnm := ZA (n := ((n.natAbs * n.natAbs * m : Nat) : Int)) (k := 129) (by decide) (by rw [Int.natAbs_natCast]; exact hNM)
 have lT := ZA (n := (T : Int)) (k := 41) (by decide) (by rw [Int.natAbs_natCast]; exact hT1)
 have lS := ZA (n := (S : Int)) (k := 77) (by decide) (by rw [Int.natAbs_natCast]; exact hS)
 have hr : yR S < 10 ^ 77 := Nat.lt_of_le_of_lt (Q5 S) hS
 have hrr : yR S * yR S ≤ S := (XJ S).1
 have lr := ZA (n := (yR S : Int)) (k := 77) (by decide) (by rw [Int.natAbs_natCast]; exact hr)
 have ld := ZA (n := (d : Int)) (k := 60) (by decide) (by rw [Int.natAbs_natCast]; exact hD)
 obtain ⟨v1, v2⟩ := Ox (up hr (by omega)) (up hD (by omega)) hd0
 rw [et, E1, E3, E5, (zC (S : Int)).2, Int.toNat_natCast, v1, v2, lrep]
 have hq : yR S / d < 10 ^ 77 := Nat.lt_of_le_of_lt (Nat.div_le_self _ _) hr
 generalize yR S / d = q at *
 generalize yR S % d = rr at *
 generalize yR S = r at *
 have E6 : y6 (fun x1 x2 => x1 * x2) (Lib.itoa (r : Int)) (Lib.itoa (r : Int)) = Lib.itoa ((r * r : Nat) : Int) := by
  rw [xn _ (by rw [Int.natAbs_natCast]; exact up hr (by omega)) (by rw [Int.natAbs_natCast]; exact up hr (by omega)) (by rw [← Int.natCast_mul, Int.natAbs_natCast]; exact up (Nat.lt_of_le_of_lt hrr hS) (by omega)), ← Int.natCast_mul]
 have one : ([49] : zj) = Lib.itoa 1 := by decide +kernel
 have zer : ([48] : zj) = Lib.itoa 0 := by decide +kernel
 have e300 : ∀ k : Nat, k < 10 ^ 78 → (k : Int).natAbs < 10 ^ 300 := fun k hk => by rw [Int.natAbs_natCast]; exact up hk (by omega)
 have big : (1 : Int).natAbs < 10 ^ 300 := up (j := 1) (show (1 : Int).natAbs < 10 ^ 1 by decide) (by omega)
 have h78 : ∀ k : Nat, k < 10 ^ 77 → k + 1 < 10 ^ 78 := fun k hk => by
  have : (10 : Nat) ^ 78 = 10 ^ 77 * 10 := rfl
  omega
 have E7 : y6 (fun x1 x2 => x1 + x2) (Lib.itoa ((q : Nat) : Int)) [49] = Lib.itoa ((q : Int) + 1) := by
  rw [one, xn (fun x1 x2 => x1 + x2) (e300 _ (Nat.lt_trans (Nat.lt_succ_self _) (h78 _ hq))) big (by
   show ((q : Int) + 1).natAbs < 10 ^ 300
   have := up (h78 _ hq) (by omega)
   omega)]
 have E8 : ∀ z : Nat, z < 10 ^ 78 → y6 (fun x1 x2 => x1 - x2) [48] (Lib.itoa (z : Int)) = Lib.itoa (-(z : Int)) := fun z hz => by
  rw [zer, xn (fun x1 x2 => x1 - x2) (up (j := 1) (show (0 : Int).natAbs < 10 ^ 1 by decide) (by omega)) (e300 _ hz) (by
   show (0 - (z : Int)).natAbs < 10 ^ 300
   have := up hz (by omega)
   omega)]
  show Lib.itoa (0 - (z : Int)) = _
  rw [Int.zero_sub]
 have lq := ZA (n := ((q : Nat) : Int)) (k := 77) (by decide) (by rw [Int.natAbs_natCast]; exact hq)
 have lq1 := ZA (n := ((q : Nat) : Int) + 1) (k := 78) (by decide) (by have := h78 _ hq; omega)
 have e45 := Qi n
 rw [E6, E7]
 refine ⟨o1, by omega, by omega, by omega, by omega, by simp only [yP]; omega, ⟨by omega, by omega⟩, by omega, by omega, by omega, (zC _).1, by omega, by omega, by omega, by omega, ⟨by omega, by omega⟩, fun h5 => ?_, fun h5 => ⟨by omega, by omega, ?_⟩⟩
 ·have hn : 0 ≤ n := Int.not_lt.1 fun e => h5 (e45.2 e)
  rw [if_pos hn]
 ·have hn : ¬ 0 ≤ n := Int.not_le.2 (e45.1 h5)
  rw [if_neg hn, zer, UE, UE]
  refine zX.2 ⟨fun c => ?_, fun c => ?_⟩
  ·have c' : ¬(r * r = S ∧ rr = 0) := fun e => by
    rw [decide_eq_true (show ((r * r : Nat) : Int) = (S : Int) by rw [e.1]), decide_eq_true (show (rr : Int) = 0 by omega)] at c
    cases c
   have e9 := E8 (q + 1) (h78 _ hq)
   rw [if_neg c']
   rw [zer, Int.natCast_add] at e9
   exact ⟨by omega, by omega, by omega, by omega, e9⟩
  ·have c' : r * r = S ∧ rr = 0 := by
    simp only [Bool.or_eq_false_iff, Bool.not_eq_false', decide_eq_true_eq] at c
    exact ⟨by have := c.1; omega, by have := c.2; omega⟩
   have e9 := E8 q (Nat.lt_trans (Nat.lt_succ_self _) (h78 _ hq))
   rw [if_pos c']
   rw [zer] at e9
   exact ⟨by omega, by omega, e9⟩
theorem IT {G : List (Nat × Obj)} (hG : zo G) (t : Tm) (p : Int) (h : pH t p) : zt Tryz.prog G 80 [YG t, .i p] (.str (Lib.itoa (VS t p.toNat))) :=
 zW (T := H6 G) (an := .auto) mixed (OT hG) (Eq.mp (by kernel_rfl) (Jj G t p h))
theorem I8 {G : List (Nat × Obj)} (hG : zo G) : zp Tryz.prog G 80 MR := by
 intro xs ps r h hp
 unfold MR at h
 split at h
 ·skip
  rename_i x_t p
  cases h
  obtain ⟨q0, q1, -⟩ := ZI hp
  exact weaken (ys := [YG (Zn (α := Tm) x_t), .i p]) ⟨ZU q0, zS _, trivial⟩ (IT hG (Zn (α := Tm) x_t) p q1)
 ·cases h
def Zq : Array Value := #[.int .i64 4, .int .i64 16, .int .i64 64]
def WB (G : List (Nat × Obj)) : Prop := zo G ∧ ∃ t fr t2 fr2 G', G = (2, Obj.cells zO t fr) :: (0, Obj.cells Zq t2 fr2) :: G'
theorem WB.tab {G : List (Nat × Obj)} (h : WB G) : zo G := h.1
def Zg (s : List Tm) (p : Nat) : Int := (s.map fun t => VS t p).sum
noncomputable def gq (G : List (Nat × Obj)) : Tb := ((((WS G).plus 80 MR).plus 64 ua).plus 59 sI)
theorem oQ {G : List (Nat × Obj)} (hG : zo G) : zz Tryz.prog (gq G) := zz.plus (zz.plus (zz.plus zQ (I8 hG)) (qj hG)) (OJ hG)
theorem Ov {s : List Tm} {z : Nat} (h : z < s.length) (p : Nat) : Zg (s.take (z + 1)) p = Zg (s.take z) p + VS (s.getD z zV.dflt) p := by
 unfold Zg
 rw [tV h, List.map_append, List.sum_append]
 simp
def XB (s : List Tm) (p : Nat) : Int := if 0 < Zg s p then 1 else if Zg s p + s.length < 0 then -1 else 0
def wB (s : List Tm) : Int := if XB s 4 = 0 then XB s 16 else XB s 4
structure il (s : List Tm) : Prop where
 ne : 0 < s.length
 len : s.length ≤ 16
 a : ∀ t ∈ s, pH t 4
 b : XB s 4 = 0 → ∀ t ∈ s, pH t 16
 dec : wB s ≠ 0
theorem mC {t : Tm} {P : Int} (h : pH t P) : (VS t P.toNat).natAbs < 10 ^ 79 := by
 have h1 : yR (R4 t P.toNat) < 10 ^ 77 := Nat.lt_of_le_of_lt (Q5 _) h.sq
 have h2 : yR (R4 t P.toNat) / t.c.den < 10 ^ 77 := Nat.lt_of_le_of_lt (Nat.div_le_self _ _) h1
 have e : (10 : Nat) ^ 79 = 10 ^ 77 * 100 := rfl
 unfold VS
 generalize yR (R4 t P.toNat) / t.c.den = q at *
 split
 ·omega
 ·split <;> omega
theorem LG {s : List Tm} {P : Int} (hl : s.length ≤ 16) (h : ∀ t ∈ s, pH t P) (z : Nat) : (Zg (s.take z) P.toNat).natAbs < 10 ^ 82 := by
 have key : ∀ l : List Tm, (∀ t ∈ l, pH t P) → (Zg l P.toNat).natAbs ≤ l.length * 10 ^ 79 := by
  intro l
  induction l with
  | nil => intro _; simp [Zg]
  | cons t l ih =>
   intro hl
   have h1 := mC (hl t List.mem_cons_self)
   have h2 := ih fun x hx => hl x (List.mem_cons_of_mem _ hx)
   have e : Zg (t :: l) P.toNat = VS t P.toNat + Zg l P.toNat := by unfold Zg; simp
   rw [e, List.length_cons, Nat.add_mul]
   have := Int.natAbs_add_le (VS t P.toNat) (Zg l P.toNat)
   omega
 have h1 := key (s.take z) fun t ht => h t (List.mem_of_mem_take ht)
 have h2 : (s.take z).length * 10 ^ 79 ≤ 16 * 10 ^ 79 := Nat.mul_le_mul_right _ (by rw [List.length_take]; omega)
 have e : (10 : Nat) ^ 82 = 1000 * 10 ^ 79 := rfl
 omega
theorem cmp0 {x : Int} (h : x.natAbs < 10 ^ 300) : yD (Lib.itoa x) [48] = xR x 0 := by
 unfold yD zc
 rw [uJ h, (zC x).2]
 rfl
theorem TW (x : Int) : (0 < xR x 0 ↔ 0 < x) ∧ zg (xR x 0) 0 = zg x 0 ∧ (xR x 0 == 0) = (x == 0) := by
 unfold xR
 cases h1 : zg x 0 with
 | true =>
  have := (zq _ _).1 h1
  exact ⟨⟨fun h => absurd h (show ¬ (0 : Int) < -1 by decide), fun h => by omega⟩, rfl, by rw [show (x == 0) = false from beq_eq_false_iff_ne.2 (by omega)]; rfl⟩
 | false =>
  have h1 : ¬ x < 0 := fun e => by rw [(zq _ _).2 e] at h1; cases h1
  cases h2 : x == 0 with
  | true => have := beq_iff_eq.1 h2; exact ⟨⟨fun h => absurd h (by decide), fun h => by omega⟩, rfl, rfl⟩
  | false => have := beq_eq_false_iff_ne.1 h2; exact ⟨⟨fun _ => by omega, fun _ => by decide⟩, rfl, rfl⟩
theorem Tc {s : List Tm} {p : Nat} {P k V : Int} (hP : P.toNat = p) (hl : s.length ≤ 16) (hf : ∀ t ∈ s, pH t P) (hk : 0 ≤ k ∧ k < 3) {NEXT : Prop} (h1 : 0 < Zg s p → 1 = V) (h2 : Zg s p ≤ 0 → Zg s p + s.length < 0 → -1 = V) (h3 : Zg s p ≤ 0 → 0 ≤ Zg s p + s.length → NEXT) :
  (∃ z : Nat, z ≤ s.length ∧ [48] = Lib.itoa (Zg (List.take z s) p) ∧ (0 : Int) = (z : Int)) ∧
   ∀ z : Nat, z ≤ s.length →
    ((z : Int) < (s.length : Int) → (0 ≤ (z : Int) ∧ (z : Int) < (s.length : Int)) ∧ pH (s.getD z zV.dflt) P ∧ (Lib.itoa (Zg (List.take z s) p)).length ≤ 4294967280 ∧ (Lib.itoa (VS (s.getD z zV.dflt) p)).length ≤ 4294967280 ∧ yP IntKind.i64 ((z : Int) + 1) ∧
      ∃ z' : Nat, (z' ≤ s.length ∧ s.length - z' < s.length - z) ∧ y6 (fun x1 x2 => x1 + x2) (Lib.itoa (Zg (List.take z s) p)) (Lib.itoa (VS (s.getD z zV.dflt) p)) = Lib.itoa (Zg (List.take z' s) p) ∧ (z : Int) + 1 = (z' : Int)) ∧
     ((s.length : Int) ≤ (z : Int) → (Lib.itoa (Zg (List.take z s) p)).length ≤ 4294967280 ∧ 1 ≤ 4294967280 ∧
       (0 < yD (Lib.itoa (Zg (List.take z s) p)) [48] → 2 = [AV.junk, AV.junk].length ∧ 1 = V) ∧
        (yD (Lib.itoa (Zg (List.take z s) p)) [48] ≤ 0 →
         (∃ z_1 : Nat, z_1 ≤ s.length ∧ Lib.itoa (Zg (List.take z s) p) = Lib.itoa (Zg s p + (z_1 : Int)) ∧ (0 : Int) = (z_1 : Int)) ∧
          ∀ z : Nat, z ≤ s.length →
           ((z : Int) < (s.length : Int) → (Lib.itoa (Zg s p + (z : Int))).length ≤ 4294967280 ∧ 1 ≤ 4294967280 ∧ yP IntKind.i64 ((z : Int) + 1) ∧
             ∃ z' : Nat, (z' ≤ s.length ∧ s.length - z' < s.length - z) ∧ y6 (fun x1 x2 => x1 + x2) (Lib.itoa (Zg s p + (z : Int))) [49] = Lib.itoa (Zg s p + (z' : Int)) ∧ (z : Int) + 1 = (z' : Int)) ∧
            ((s.length : Int) ≤ (z : Int) → (Lib.itoa (Zg s p + (z : Int))).length ≤ 4294967280 ∧ 1 ≤ 4294967280 ∧
              ((!zg (yD (Lib.itoa (Zg s p + (z : Int))) [48]) 0 && yD (Lib.itoa (Zg s p + (z : Int))) [48] == 0) = true → yP IntKind.i64 k) ∧
               zZ (!!zg (yD (Lib.itoa (Zg s p + (z : Int))) [48]) 0 || (!yD (Lib.itoa (Zg s p + (z : Int))) [48] == 0 || !zg (yD (Lib.itoa (Zg s p + (z : Int))) [48]) 0 && yD (Lib.itoa (Zg s p + (z : Int))) [48] == 0))
                (zZ (zg (yD (Lib.itoa (Zg s p + (z : Int))) [48]) 0 || yD (Lib.itoa (Zg s p + (z : Int))) [48] == 0 && k == 3) (2 = [AV.junk, AV.junk].length ∧ -1 = V) NEXT) False))) := by
 subst hP
 have big := LG hl hf
 have full := big s.length
 rw [List.take_length] at full
 have up : ∀ x : Int, x.natAbs < 10 ^ 83 → x.natAbs < 10 ^ 300 := fun x hx => KH (k := 300) hx (by decide)
 have e83 : (10 : Nat) ^ 83 = 10 ^ 82 * 10 := rfl
 have e82 : (10 : Nat) ^ 82 = 10 ^ 79 * 1000 := rfl
 have zer : ([48] : zj) = Lib.itoa 0 := by decide +kernel
 have one : ([49] : zj) = Lib.itoa 1 := by decide +kernel
 have sh : ∀ x : Int, x.natAbs < 10 ^ 83 → (Lib.itoa x).length ≤ 4294967280 := fun x hx => by have := (ZA (k := 83) (by decide) hx).1; omega
 refine ⟨⟨0, Nat.zero_le _, zer.trans (by rfl), rfl⟩, fun z hz => ⟨fun hlt => ?_, fun hge => ?_⟩⟩
 ·have hzl : z < s.length := by omega
  have f := hf _ (yF hzl)
  have b1 := big z
  have b2 := mC f
  have b3 := big (z + 1)
  have e := Ov hzl P.toNat
  refine ⟨⟨by omega, by omega⟩, f, sh _ (by omega), sh _ (by omega), by simp only [yP]; omega, z + 1, ⟨by omega, by omega⟩, ?_, by omega⟩
  rw [xn _ (up _ (by omega)) (up _ (by omega)) (by rw [← e]; exact up _ (by omega)), e]
 ·obtain rfl : z = s.length := by omega
  rw [List.take_length, cmp0 (up _ (by omega))]
  obtain ⟨c1, c2, c3⟩ := TW (Zg s P.toNat)
  refine ⟨sh _ (by omega), by omega, fun h => ⟨rfl, h1 (c1.1 h)⟩, fun h => ⟨⟨0, Nat.zero_le _, by rw [show ((0 : Nat) : Int) = 0 from rfl, Int.add_zero], rfl⟩, fun y hy => ⟨fun ylt => ?_, fun yge => ?_⟩⟩⟩
  ·refine ⟨sh _ (by omega), by omega, by simp only [yP]; omega, y + 1, ⟨by omega, by omega⟩, ?_, by omega⟩
   rw [one, xn _ (up _ (by omega)) (up 1 (by decide)) (up _ (by omega)), Int.natCast_add, ← Int.add_assoc]; rfl
  ·obtain rfl : y = s.length := by omega
   rw [cmp0 (up _ (by omega))]
   obtain ⟨d1, d2, d3⟩ := TW (Zg s P.toNat + (s.length : Int))
   have hs : Zg s P.toNat ≤ 0 := Int.not_lt.1 fun e => by have := c1.2 e; omega
   rw [d2, d3, show (k == 3) = false from beq_eq_false_iff_ne.2 (by omega), Bool.and_false, Bool.or_false]
   refine ⟨sh _ (by omega), by omega, fun _ => by simp only [yP]; omega, zX.2 ⟨fun _ => zX.2 ⟨fun c => ⟨rfl, h2 hs ((zq _ _).1 c)⟩, fun c => h3 hs (Int.not_lt.1 fun e => by rw [(zq _ _).2 e] at c; cases c)⟩, fun c => ?_⟩⟩
   exfalso
   revert c
   cases zg (Zg s P.toNat + (s.length : Int)) 0 <;> cases Zg s P.toNat + (s.length : Int) == 0 <;> decide
def j9 (s : List Tm) : yt :=
 .two .auto (.two .auto (.two (.two .auto (.one (.unroll 4 ((.two .auto (.two .auto (.two (.one (.two .auto (.two .auto (.two (.two .auto (.one (.loop Nat (fun σ z => [(0, σ.tm 0), (4, σ.tm 4), (5, σ.tm 5), (16, σ.tm 16), (17, σ.tm 17), (21, σ.tm 21), (22, σ.tm 22), (6, .str (Lib.itoa (Zg (s.take z) (AV.int (σ.tm 5)).toNat))), (23, .i (z : Int))]) (fun σ z => []) 0 (fun σ z => z ≤ s.length) (fun σ z => s.length - z) .auto))) (.two .auto (.two (.two .auto (.one (.loop Nat (fun σ z => [(0, σ.tm 0), (4, σ.tm 4), (16, σ.tm 16), (17, σ.tm 17), (44, σ.tm 44), (6, .str (Lib.itoa (Zg s (AV.int (σ.tm 5)).toNat + (z : Int)))), (45, .i (z : Int))]) (fun σ z => []) 0 (fun σ z => z ≤ s.length) (fun σ z => s.length - z) .auto))) .auto)))))) .auto))))))) .auto))
theorem iw (t1 t2 : TypeId) (fr fr2 : Nat × Nat) (G : List (Nat × Obj)) (s : List Tm) (h : il s) :
 let q1 := (True ∧ kI ∧ iZ = wB s); let q2 := (AV.xl false 2 (lN s) fun i j => zV.enc (gD s i zV.dflt) j); let q3 := (kI ∧ iZ = iZ); let q4 := (kI ∧ Sx.intOf (Array.getD Zq 0 undef) = Sx.intOf (Array.getD Zq 0 undef)); let q5 := (3 = 3 ∧ ((kI ∧ Sx.intOf (Array.getD Zq (nat_lit 0) undef) = Sx.intOf (Array.getD Zq (nat_lit 0) undef)) ∧ kI ∧ Sx.intOf (Array.getD Zq (nat_lit 1) undef) = Sx.intOf (Array.getD Zq (nat_lit 1) undef)) ∧ kI
 ∧ Sx.intOf (Array.getD Zq (nat_lit 2) undef) = Sx.intOf (Array.getD Zq (nat_lit 2) undef)); let q6 := (kI ∧ (lZ s) = (lZ s)); let q7 := (ByteArray.data (ByteArray.mk #[(48 : UInt8)])); let q8 := (Int.toNat (AV.int (aI (Sx.intOf (Array.getD Zq 0 undef))))); let q10 := (Value.agg #[Value.string (ByteArray.mk #[]), Value.string (ByteArray.mk #[])]); let q15 := (Array.toList q7); let q16 := (j2 ∧ (True ∧ kI ∧ iO = wB s) ∧ kI ∧ iZ = (0
 : Int)); let q18 := (bA #[(49 : UInt8)]); let q25 := (j2 ∧ (True ∧ kI ∧ (-1 : Int) = wB s) ∧ kI ∧ iZ = iZ); let q26 := (kI ∧ iZ + iO = iZ + iO); let q27 := (kI ∧ Sx.intOf (Array.getD Zq 1 undef) = Sx.intOf (Array.getD Zq 1 undef)); let q28 := (Int.toNat (AV.int (aI (Sx.intOf (Array.getD Zq 1 undef))))); let q41 := (kI ∧ iZ + iO + iO = iZ +
 iO + iO); let q42 := (kI ∧ Sx.intOf (Array.getD Zq 2 undef) = Sx.intOf (Array.getD Zq 2 undef)); let q43 := (Int.toNat (AV.int (aI (Sx.intOf (Array.getD Zq 2 undef))))); Zw [AV.xl false 2 (lN s) fun i j => zV.enc (gD s i zV.dflt) j] → zZ ((lZ s) == iZ) (j2 ∧ q1 ∧ kI ∧ iZ = iZ) ((∃ (z : Nat), (z ≤ lN s ∧ zd q2 q2 ∧ q3 ∧ q4 ∧ q5 ∧ q3 ∧ zd q2 q2 ∧ q6 ∧ Array.toList q7 = Lib.itoa (Zg (List.take z s) q8) ∧
 kI ∧ iZ = (cI z)) ∧ True) ∧ ∀ (z : Nat), let q9 := (AV.agg 2 fun (i : Nat) => if 0 ≤ 0 + i ∧ 0 + i < 2 then zV.enc (gD s (Int.toNat (cI z)) zV.dflt) (0 + (0 + i - 0)) else Z1 q10 (0 + i)); let q11 := (Zn q9); let q13 := (Zg (List.take z s) q8); let q12 := (Lib.itoa q13); let q14 := (Lib.itoa (VS q11 4)); z ≤ lN s → zZ (zg (cI z) (lZ s)) (bF (DB.db (iZ ≤ (cI z) ∧ (cI z) < (lZ s))) (bF (yV Tm q9) (pH q11 (Sx.intOf (Array.getD Zq 0 undef)) ∧ lN q12 ≤
 nM ∧ lN q14 ≤ nM ∧ bF (dK ((cI z) + iO)) (∃ (z' : Nat), ((z' ≤ lN s ∧ lN s - z' < lN s - z) ∧ zd q2 q2 ∧ q3 ∧ q4 ∧ q5 ∧ q3 ∧ zd q2 q2 ∧ q6 ∧ y6 (fun (x1 x2 : Int) => x1 + x2) q12 q14 = Lib.itoa (Zg (List.take z' s) q8) ∧ kI ∧ (cI z) + iO = (cI z')) ∧ True)))) (lN q12 ≤ nM ∧ 1 ≤ nM ∧ zZ (zg iZ (yD q12 q15)) q16 ((∃ (z_1 : Nat), (z_1 ≤ lN s ∧ zd q2 q2 ∧ q3 ∧ q5 ∧ q3 ∧ q6 ∧ Lib.itoa q13 = Lib.itoa (Zg s q8 + (↑z_1
 : Int)) ∧ kI ∧ iZ = (cI z_1)) ∧ True) ∧ ∀ (z : Nat), let q17 := (Lib.itoa (Zg s q8 + (cI z))); let q21 := (yD q17 q15); let q20 := (zg q21 iZ); let q19 := (!zr false q20 || zr false q20); let q24 := (yD q17 q15 == iZ); let q23 := (zr false q20 && zr true q24); let q22 := (!q23 || zr false q20 && zr true q24); z ≤ lN s → zZ (zg (cI z) (lZ s)) (lN q17 ≤ nM ∧ 1 ≤ nM ∧ bF (dK ((cI z) + iO)) (∃ (z' : Nat), ((z' ≤ lN s ∧ lN s - z'
 < lN s - z) ∧ zd q2 q2 ∧ q3 ∧ q5 ∧ q3 ∧ q6 ∧ y6 (fun (x1 x2 : Int) => x1 + x2) q17 q18 = Lib.itoa (Zg s q8 + (cI z')) ∧ kI ∧ (cI z) + iO = (cI z')) ∧ True)) (lN q17 ≤ nM ∧ 1 ≤ nM ∧ bF q19 (bF q19 (bF q22 (bF (!q23 || dK (iZ + iO)) (bF q22 (bF q19 (bF (!zr false q20 || (!yD q17 q15 == iZ || zr false q20 && zr true q24)) (bF (!!zg q21 iZ || zr false q20) (zZ (bif zg q21 iZ then true else bif yD q17 q15 == iZ then
 iZ + iO == (3 : Int) else false) q25 ((∃ (z : Nat), (z ≤ lN s ∧ zd q2 q2 ∧ q26 ∧ q27 ∧ q5 ∧ q26 ∧ zd q2 q2 ∧ q6 ∧ Array.toList q7 = Lib.itoa (Zg (List.take z s) q28) ∧ kI ∧ iZ = (cI z)) ∧ True) ∧ ∀ (z : Nat), let q29 := (AV.agg 2 fun (i : Nat) => if 0 ≤ 0 + i ∧ 0 + i < 2 then zV.enc (gD s (Int.toNat (cI z)) zV.dflt) (0 + (0 + i - 0)) else Z1 q10 (0 + i)); let q30 := (Zn q29); let q32 := (Zg (List.take z s) q28); let q31 := (Lib.itoa q32); let q33 := (Lib.itoa (VS q30 16)); z ≤ lN s → zZ (zg (cI z)
 (lZ s)) (bF (DB.db (iZ ≤ (cI z) ∧ (cI z) < (lZ s))) (bF (yV Tm q29) (pH q30 (Sx.intOf (Array.getD Zq 1 undef)) ∧ lN q31 ≤ nM ∧ lN q33 ≤ nM ∧ bF (dK ((cI z) + iO)) (∃ (z' : Nat), ((z' ≤ lN s ∧ lN s - z' < lN s - z) ∧ zd q2 q2 ∧ q26 ∧ q27 ∧ q5 ∧ q26 ∧ zd q2 q2 ∧ q6 ∧ y6 (fun (x1 x2 : Int) => x1 + x2) q31 q33 = Lib.itoa (Zg (List.take z' s) q28) ∧ kI ∧ (cI z) + iO = (cI z')) ∧ True))))
 (lN q31 ≤ nM ∧ 1 ≤ nM ∧ zZ (zg iZ (yD q31 q15)) q16 ((∃ (z_1 : Nat), (z_1 ≤ lN s ∧ zd q2 q2 ∧ q26 ∧ q5 ∧ q26 ∧ q6 ∧ Lib.itoa q32 = Lib.itoa (Zg s q28 + (cI z_1)) ∧ kI ∧ iZ = (cI z_1)) ∧ True) ∧ ∀ (z : Nat), let q34 := (Lib.itoa (Zg s q28 + (cI z))); let q37 := (yD q34 q15); let q36 := (zg q37 iZ); let q35 := (!zr false q36 || zr false q36); let q40 := (yD q34 q15 == iZ); let q39 := (zr false q36 && zr true q40); let q38 := (!q39 || zr false q36 && zr true q40); z ≤ List.length
 s → zZ (zg (cI z) (lZ s)) (lN q34 ≤ nM ∧ 1 ≤ nM ∧ bF (dK ((cI z) + iO)) (∃ (z' : Nat), ((z' ≤ lN s ∧ lN s - z' < lN s - z) ∧ zd q2 q2 ∧ q26 ∧ q5 ∧ q26 ∧ q6 ∧ y6 (fun (x1 x2 : Int) => x1 + x2) q34 q18 = Lib.itoa (Zg s q28 + (cI z')) ∧ kI ∧ (cI z) + iO = (cI z')) ∧ True)) (lN q34 ≤ nM ∧ 1 ≤ nM ∧ bF q35 (bF q35 (bF q38 (bF (!q39 || dK (iZ + iO + iO)) (bF q38 (zZ
 q35 (bF (!zr false q36 || (!yD q34 q15 == iZ || zr false q36 && zr true q40)) (bF (!!zg q37 iZ || zr false q36) (zZ (bif zg q37 iZ then true else bif yD q34 q15 == iZ then iZ + iO + iO == (3 : Int) else false) q25 ((∃ (z : Nat), (z ≤ lN s ∧ zd q2 q2 ∧ q41 ∧ q42 ∧ q5 ∧ q41 ∧ zd q2 q2 ∧ q6 ∧ Array.toList q7 = Lib.itoa (Zg (List.take z s) q43) ∧ kI ∧ iZ = (cI z)) ∧ True) ∧ ∀ (z : Nat), let q44 := (AV.agg 2 fun (i : Nat) => if 0 ≤ 0 + i ∧ 0 + i < 2 then zV.enc (gD s (Int.toNat
 (cI z)) zV.dflt) (0 + (0 + i - 0)) else Z1 q10 (0 + i)); let q45 := (Zn q44); let q47 := (Zg (List.take z s) q43); let q46 := (Lib.itoa q47); let q48 := (Lib.itoa (VS q45 64)); z ≤ lN s → zZ (zg (cI z) (lZ s)) (bF (DB.db (iZ ≤ (cI z) ∧ (cI z) < (lZ s))) (bF (yV Tm q44) (pH q45 (Sx.intOf (Array.getD Zq 2 undef)) ∧ lN q46 ≤ nM ∧ lN q48 ≤ nM ∧ bF (dK ((cI z) + iO)) (∃ (z' : Nat), ((z' ≤ lN s ∧ lN s - z' < lN s -
 z) ∧ zd q2 q2 ∧ q41 ∧ q42 ∧ q5 ∧ q41 ∧ zd q2 q2 ∧ q6 ∧ y6 (fun (x1 x2 : Int) => x1 + x2) q46 q48 = Lib.itoa (Zg (List.take z' s) q43) ∧ kI ∧ (cI z) + iO = (cI z')) ∧ True)))) (lN q46 ≤ nM ∧ 1 ≤ nM ∧ zZ (zg iZ (yD q46 q15)) q16 ((∃ (z_1 : Nat), (z_1 ≤ lN s ∧ zd q2 q2 ∧ q41 ∧ q5 ∧ q41 ∧ q6 ∧ Lib.itoa q47 = Lib.itoa (Zg s q43 + (cI z_1)) ∧ kI ∧ iZ = (cI z_1)) ∧ True) ∧ ∀ (z : Nat), let q49 := (Lib.itoa (Zg s q43 + (cI z))); let q52 := (yD q49 q15); let q51
 := (zg q52 iZ); let q50 := (!zr false q51 || zr false q51); let q55 := (yD q49 q15 == iZ); let q54 := (zr false q51 && zr true q55); let q53 := (!q54 || zr false q51 && zr true q55); z ≤ lN s → zZ (zg (cI z) (lZ s)) (lN q49 ≤ nM ∧ 1 ≤ nM ∧ bF (dK ((cI z) + iO)) (∃ (z' : Nat), ((z' ≤ lN s ∧ lN s - z' < lN s - z) ∧ zd q2 q2 ∧ q41 ∧ q5 ∧ q41 ∧ q6 ∧ y6 (fun (x1 x2 : Int) => x1 + x2) q49 q18 = Lib.itoa (Zg s q43 + (cI z')) ∧ kI ∧
 (cI z) + iO = (cI z')) ∧ True)) (lN q49 ≤ nM ∧ 1 ≤ nM ∧ bF q50 (bF q50 (bF q53 (bF (!q54 || dK (iZ + iO + iO + iO)) (bF q53 (bF q50 (bF (!zr false q51 || (!yD q49 q15 == iZ || zr false q51 && zr true q55)) (bF (!!zg q52 iZ || zr false q51) (zZ (bif zg q52 iZ then true else bif yD q49 q15 == iZ then iZ + iO + iO + iO == (3 : Int) else false) q25 (j2 ∧ q1 ∧ IntKind.i64 =
 .i64 ∧ (4 : Int) = iZ)))))))))))))))) False))))))))))))))))))))) := by
 delta bF dK bA nM cI kI j2 lZ lN gD iZ iO aI
 dsimp only
 intro hb
 simp only [↓yz, ↓Zj, row_one]
 have c0 : Sx.intOf (Zq.getD 0 undef) = 4 := rfl
 have c1 : Sx.intOf (Zq.getD 1 undef) = 16 := rfl
 have c2 : Sx.intOf (Zq.getD 2 undef) = 64 := rfl
 have n0 : Int.toNat 4 = 4 := rfl
 have n1 : Int.toNat 16 = 16 := rfl
 simp only [sS, YY, yU, zm, yZ, yI, xh, Yl, Xr, Yb, Xa, Y6, vN, dS, c0, c1, c2, n0, n1]
 have hne := h.ne
 have hd := h.dec
 refine ⟨fun h0 => by omega, fun _ => Tc (p := 4) rfl h.len h.a (by decide) (fun h0 => ?_) (fun h0 h1 => ?_) fun h0 h1 => ?_⟩
 ·unfold wB XB
  rw [if_pos h0]; rfl
 ·have e : XB s 4 = -1 := by unfold XB; rw [if_neg (by omega), if_pos h1]
  unfold wB
  rw [e]; rfl
 have e4 : XB s 4 = 0 := by unfold XB; rw [if_neg (by omega), if_neg (by omega)]
 have e16 : wB s = XB s 16 := by unfold wB; rw [if_pos e4]
 rw [e16] at hd ⊢
 refine Tc (p := 16) rfl h.len (h.b e4) (by decide) (fun h0 => ?_) (fun h0 h1 => ?_) fun h0 h1 => ?_
 ·unfold XB
  rw [if_pos h0]
 ·unfold XB
  rw [if_neg (by omega), if_pos h1]
 ·exact absurd (by unfold XB; rw [if_neg (by omega), if_neg (by omega)]) hd
def mI : List AV → Option (List zN × AV)
 | [x] => some ([.b (zf Tm x), .p (il (Zs (α := Tm) x))], .tup 2 (zw [.i (wB (Zs (α := Tm) x)), .i 0]))
 | _ => none
theorem IE {G : List (Nat × Obj)} (hG : WB G) : zp Tryz.prog G 41 mI := by
 intro xs ps r h hp
 unfold mI at h
 split at h
 ·rename_i x
  cases h
  obtain ⟨q0, -⟩ := ZI hp
  have q1 : il (Zs (α := Tm) x) := hp _ (List.mem_cons_of_mem _ List.mem_cons_self)
  have hs := oQ hG.tab
  obtain ⟨_, t, fr, t2, fr2, G', rfl⟩ := hG
  exact weaken (ys := [_]) ⟨zI q0, trivial⟩ (zW mixed hs (Eq.mp (by kernel_rfl) (iw t t2 fr fr2 G' (Zs (α := Tm) x) q1) : vR Tryz.prog (gq ((2, Obj.cells zO t fr) :: (0, Obj.cells Zq t2 fr2) :: G')) 41 (j9 (Zs (α := Tm) x)) [Ze (Zs (α := Tm) x)] (.tup 2 (zw [.i (wB (Zs (α := Tm) x)), .i 0]))))
 ·cases h
structure iJ (s t : List Tm) : Prop where
 fs : Y3 s
 ft : Y3 t
 made : XL (s ++ ZD (-1) t)
 sg : il (Zl (s ++ ZD (-1) t))
theorem J7 (G : List (Nat × Obj)) (s t : List Tm) (h : iJ s t) :
 let q1 := (AV.xl false 2 (lN s) fun i j => zV.enc (gD s i zV.dflt) j); let q2 := (AV.xl false 2 (lN t) fun i j => zV.enc (gD t i zV.dflt) j); let q3 := (Zs q2); let q4 := (Zs q1 ++ ZD (-1 : Rat) q3); let q6 := (Zl q4); let q5 := (AV.xl false 2 (lN q6) fun i j => zV.enc (gD q6 i zV.dflt) j); let q7 := (Zs q5); Zw [AV.xl false 2 (lN s) fun i j => zV.enc (gD s i zV.dflt) j, AV.xl false 2 (lN t) fun i j => zV.enc (gD t i zV.dflt) j] → bF (zf Tm q1) (bF (zf Tm q2) (Y3 (Zs q1) ∧ Y3 q3 ∧
 XL q4 ∧ bF (zf Tm q5) (il q7 ∧ j2 ∧ (True ∧ kI ∧ wB q7 = wB (Zl (s ++ ZD (-1 : Rat) t))) ∧ kI ∧ iZ = iZ))) := by
 delta bF kI j2 lN gD iZ
 dsimp only
 intro hb
 simp only [↓yz, ↓Zj, row_one]
 simp only [sS, YY, yU, zm, yZ, yI, xh, Yl, Xr, Yb, Xa, Y6, vN, dS]
 exact ⟨h.fs, h.ft, h.made, h.sg, rfl⟩
theorem KC {G : List (Nat × Obj)} (hG : WB G) (s t : List Tm) (h : iJ s t) : zt Tryz.prog G 23 [Ze s, Ze t] (.tup 2 (zw [.i (wB (Zl (s ++ ZD (-1) t))), .i 0])) :=
 zW (T := ((WS G).plus 13 qv).plus 41 mI) (an := .auto) mixed (zz.plus (zz.plus zQ (Jt hG.tab)) (IE hG)) (Eq.mp (by kernel_rfl) (J7 G s t h))
end Go.Te

namespace Go.Te
open Go Go.Sx Go.Proofs Go.Ar
set_option maxRecDepth 100000
set_option maxHeartbeats 4000000
theorem QG {t : Tm} (h : ZV RM t) : MK (zT t.q) := by
 obtain ⟨b1, p1, d1, n1⟩ := wo h (by decide)
 refine ⟨(ZH (by decide) (by decide)).2 (b1.mono (by decide)), by rw [zm]; exact p1, ?_⟩
 rw [zm]
 have a1 : x5 t.q.num ≤ 8 := xM (by decide) b1.num
 have a2 : Lib.nDigits t.q.den ≤ 8 := (Zx (by decide)).2 b1.den
 omega
theorem mM {c : Rat} {L D k : Nat} (hL : 0 < L) (h : ∃ z : Int, c * (L : Rat) = (z : Rat) ∧ z.natAbs ≤ D) (h1 : D < 10 ^ k) (h2 : L < 10 ^ k) : bq k c := by
 obtain ⟨z, hz, hd⟩ := h
 have hd0 : (L : Rat) ≠ 0 := fun e => by have := Rat.natCast_eq_zero_iff.1 e; omega
 have e : c = mkRat z L := by rw [Rat.mkRat_eq_div, ← hz]; grind
 rw [e]
 exact Tj hL (by omega) h2
theorem je {l : List Tm} {L B : Nat} (hl : l.length ≤ 16) (hn : ∀ t ∈ l, ZV RM t) (hc : ∀ t ∈ l, bq 60 t.c) (hL : 0 < L) (hp : pg L B l) (h1 : B * RM < 10 ^ 60) (h2 : L * RM < 10 ^ 60) : XL l := by
 have hi : inT RM l := fun t ht => WM (hn t ht)
 have hR : RM < 18446744073709551616 := by decide
 exact ⟨by omega, hc, fun t ht _ => QG (hn t ht), hi, sD hR hi hL hp h1 h2, Nat.le_trans (Yk hR hi).2.1 hl⟩
def Sb (L D : Nat) (l : List Tm) : Prop := ∀ t ∈ l, ∃ z : Int, t.c * (L : Rat) = (z : Rat) ∧ z.natAbs ≤ D
theorem MC {l : List Tm} {R L D : Nat} (hl : l.length ≤ 16) (hR : R ≤ RM) (hn : ∀ t ∈ l, ZV R t) (hL : 0 < L) (hc : Sb L D l) (h1 : 16 * (D * R) * RM < 10 ^ 60) (h2 : L * RM < 10 ^ 60) (hD : D < 10 ^ 60) : XL l := by
 have hn' : ∀ t ∈ l, ZV RM t := fun t ht => by obtain ⟨r, e, h0, h1⟩ := hn t ht; exact ⟨r, e, h0, Nat.le_trans h1 hR⟩
 have hl1 : L ≤ L * RM := Nat.le_mul_of_pos_right _ (by decide)
 exact je hl hn' (fun t ht => mM hL (hc t ht) hD (by omega)) hL ((RZ hn hc).mono (Nat.mul_le_mul_right _ hl)) h1 h2
theorem Sn {l : List Tm} (h : XL l) : Y3 (Zl l) := by
 refine ⟨(Yk (by decide) h.root).1, h.out, fun x hx => ?_⟩
 have h1 := (Xy (xp l)).mem_iff.1 hx
 have h2 := h.cls l.length
 rw [List.take_length] at h2
 exact h2 x (List.mem_filter.1 h1).1
def Qs (L R : List Tm) : List AV → Option (List zN × AV)
 | [x] => some ([.b (zf Tm x && decide (Zs (α := Tm) x = L))], .tup 2 (zw [Ze R, .i 0]))
 | _ => none
theorem K3 {G : List (Nat × Obj)} {f : FuncId} {L R : List Tm} (h : zt Tryz.prog G f [Ze L] (.tup 2 (zw [Ze R, .i 0]))) : zp Tryz.prog G f (Qs L R) := by
 intro xs ps r e hp
 unfold Qs at e
 split at e
 ·rename_i x
  cases e
  have q0 : (zf Tm x && decide (Zs (α := Tm) x = L)) = true := hp _ List.mem_cons_self
  rw [Bool.and_eq_true, decide_eq_true_iff] at q0
  exact weaken (ys := [_]) ⟨q0.2 ▸ zI q0.1, trivial⟩ h
 ·cases e
def Su (L M R : List Tm) : List AV → Option (List zN × AV)
 | [x, y] => some ([.b (zf Tm x && decide (Zs (α := Tm) x = L)), .b (zf Tm y && decide (Zs (α := Tm) y = M))], .tup 2 (zw [Ze R, .i 0]))
 | _ => none
theorem MO {G : List (Nat × Obj)} {f : FuncId} {L M R : List Tm} (h : zt Tryz.prog G f [Ze L, Ze M] (.tup 2 (zw [Ze R, .i 0]))) : zp Tryz.prog G f (Su L M R) := by
 intro xs ps r e hp
 unfold Su at e
 split at e
 ·rename_i x y
  cases e
  have q0 : (zf Tm x && decide (Zs (α := Tm) x = L)) = true := hp _ List.mem_cons_self
  have q1 : (zf Tm y && decide (Zs (α := Tm) y = M)) = true := hp _ (List.mem_cons_of_mem _ List.mem_cons_self)
  rw [Bool.and_eq_true, decide_eq_true_iff] at q0 q1
  exact weaken (ys := [_, _]) ⟨q0.2 ▸ zI q0.1, q1.2 ▸ zI q1.1, trivial⟩ h
 ·cases e
theorem iA {t : Tm} (h : (t.q.den = 1 ∧ 0 < t.q.num) ∧ t.q.num.natAbs ≤ RM) : ZV RM t := by
 exact ⟨t.q.num.natAbs, Rat.ext (by rw [Rat.num_natCast]; omega) (by rw [Rat.den_natCast]; exact h.1.1), by omega, h.2⟩
def MN (l : List Tm) : Bool := l.all fun t => (t.q.den == 1 && decide (0 < t.q.num)) && Nat.ble t.q.num.natAbs 1000 && decide ((t.c * 62).den = 1) && Nat.ble (t.c * 62).num.natAbs 1000
theorem xe {l : List Tm} (hl : l.length ≤ 16) (h : MN l = true) : XL l := by
 unfold MN at h
 rw [List.all_eq_true] at h
 have key : ∀ t ∈ l, ZV RM t ∧ ∃ z : Int, t.c * ((62 : Nat) : Rat) = (z : Rat) ∧ z.natAbs ≤ 1000 := fun t ht => by
  have := h t ht
  simp only [Bool.and_eq_true, beq_iff_eq, decide_eq_true_eq] at this
  obtain ⟨⟨⟨h1, h2⟩, h3⟩, h4⟩ := this
  have h2 := Nat.le_of_ble_eq_true h2
  have h4 := Nat.le_of_ble_eq_true h4
  refine ⟨iA ⟨h1, Nat.le_trans h2 (by decide)⟩, (t.c * 62).num, ?_, h4⟩
  exact Rat.ext rfl h3
 exact MC (L := 62) (D := 1000) hl (Nat.le_refl _) (fun t ht => (key t ht).1) (by decide) (fun t ht => (key t ht).2) (by decide) (by decide) (by decide)
theorem HF : Zl [⟨1, 8⟩] = [⟨2, 2⟩] := by decide +kernel
theorem gM : Zl [⟨1, 2⟩] = [⟨1, 2⟩] := by decide +kernel
theorem gI : Zl ([⟨1, 2⟩] ++ [⟨2, 2⟩]) = [⟨3, 2⟩] := by decide +kernel
theorem gg : Zl (Z8 [⟨1, 2⟩] [⟨2, 2⟩]) = [⟨4, 1⟩] := by decide +kernel
abbrev Mj : List Tm := [⟨1, 2⟩, ⟨1, 3⟩]
abbrev nG : List Tm := [⟨1, 10⟩]
abbrev JA : List Tm := [⟨-1 / 62, 1⟩, ⟨1, 10⟩]
theorem Hy : Zl Mj = Mj ∧ Zl nG = nG ∧ Zl JA = JA := by decide +kernel
abbrev dY : List Tm := [⟨1, 2⟩, ⟨1, 3⟩, ⟨-1, 10⟩]
abbrev dZ : List Tm := [⟨1 / 62, 1⟩, ⟨1, 2⟩, ⟨1, 3⟩, ⟨-1, 10⟩]
theorem Hw : Zl (Mj ++ ZD (-1) nG) = dY ∧ Zl (Mj ++ ZD (-1) JA) = dZ := by decide +kernel
theorem w7 {t : Tm} {p : Nat} (S r : Nat) (v : Int) (hS : R4 t p = S) (h1 : r * r ≤ S) (h2 : S < (r + 1) * (r + 1)) (hv : (if 0 ≤ t.c.num then ((r / t.c.den : Nat) : Int) else -(if r * r = S ∧ r % t.c.den = 0 then ((r / t.c.den : Nat) : Int) else ((r / t.c.den : Nat) : Int) + 1)) = v) : VS t p = v := by
 unfold VS
 rw [hS, ← Sc h1 h2]
 exact hv
theorem gJ : VS ⟨1 / 62, 1⟩ 4 = 161 ∧ VS ⟨1, 2⟩ 4 = 14142 ∧ VS ⟨1, 3⟩ 4 = 17320 ∧ VS ⟨-1, 10⟩ 4 = -31623 :=
 ⟨w7 100000000 10000 _ (by decide +kernel) (by decide) (by decide) (by decide +kernel), w7 200000000 14142 _ (by decide +kernel) (by decide) (by decide) (by decide +kernel),
  w7 300000000 17320 _ (by decide +kernel) (by decide) (by decide) (by decide +kernel), w7 1000000000 31622 _ (by decide +kernel) (by decide) (by decide) (by decide +kernel)⟩
theorem He : VS ⟨1 / 62, 1⟩ 16 = 161290322580645 ∧ VS ⟨1, 2⟩ 16 = 14142135623730950 ∧ VS ⟨1, 3⟩ 16 = 17320508075688772 ∧ VS ⟨-1, 10⟩ 16 = -31622776601683794 :=
 ⟨w7 100000000000000000000000000000000 10000000000000000 _ (by decide +kernel) (by decide) (by decide) (by decide +kernel), w7 200000000000000000000000000000000 14142135623730950 _ (by decide +kernel) (by decide) (by decide) (by decide +kernel),
  w7 300000000000000000000000000000000 17320508075688772 _ (by decide +kernel) (by decide) (by decide) (by decide +kernel), w7 1000000000000000000000000000000000 31622776601683793 _ (by decide +kernel) (by decide) (by decide) (by decide +kernel)⟩
theorem Hx : wB dY = -1 ∧ XB dZ 4 = 0 ∧ wB dZ = 1 := by
 obtain ⟨a1, a2, a3, a4⟩ := gJ
 obtain ⟨b1, b2, b3, b4⟩ := He
 have y4 : XB dY 4 = -1 := by
  unfold XB Zg
  simp only [List.map_cons, List.map_nil, List.sum_cons, List.sum_nil, a2, a3, a4]
  decide
 have z4 : XB dZ 4 = 0 := by
  unfold XB Zg
  simp only [List.map_cons, List.map_nil, List.sum_cons, List.sum_nil, a1, a2, a3, a4]
  decide
 have z16 : XB dZ 16 = 1 := by
  unfold XB Zg
  simp only [List.map_cons, List.map_nil, List.sum_cons, List.sum_nil, b1, b2, b3, b4]
  decide
 unfold wB
 rw [y4, z4, z16]
 decide
theorem gR : ∀ t ∈ dZ, ∀ p ∈ [(4 : Int), 16], R4 t p.toNat < 10 ^ 77 := by decide +kernel
theorem H5 {s : List Tm} (h0 : 0 < s.length) (hl : s.length ≤ 16) (h : MN s = true) (hf : ∀ t ∈ s, ∀ p ∈ [(4 : Int), 16], R4 t p.toNat < 10 ^ 77) (hne : ∀ t ∈ s, t.c ≠ 0) (hd : wB s ≠ 0) : il s := by
 have hm := xe hl h
 have key : ∀ t ∈ s, ∀ p ∈ [(4 : Int), 16], pH t p := fun t ht p hp => by
  refine ⟨hne t ht, hm.cs t ht, ?_, ?_, hf t ht p hp⟩
  ·unfold MN at h
   have := (List.all_eq_true.1 h) t ht
   simp only [Bool.and_eq_true, beq_iff_eq, decide_eq_true_eq] at this
   exact iA ⟨this.1.1.1, Nat.le_trans (Nat.le_of_ble_eq_true this.1.1.2) (by decide)⟩
  ·revert p hp; decide
 exact ⟨h0, hl, fun t ht => key t ht 4 (by simp), fun _ t ht => key t ht 16 (by simp), hd⟩
theorem im {s : List Tm} (hl : s.length ≤ 16) (h : MN s = true) (he : Zl s = s) : Y3 s := he ▸ Sn (xe hl h)
theorem HR {G : List (Nat × Obj)} (hG : zo G) : zt Tryz.prog G 20 [Ze [(⟨1, 8⟩ : Tm)]] (.tup 2 (zw [Ze [(⟨2, 2⟩ : Tm)], .i 0])) := HF ▸ Kd hG [⟨1, 8⟩] (xe (by decide) (by decide +kernel))
theorem HJ {G : List (Nat × Obj)} (hG : zo G) : zt Tryz.prog G 12 [Ze [(⟨1, 2⟩ : Tm)], Ze [(⟨2, 2⟩ : Tm)]] (.tup 2 (zw [Ze [(⟨3, 2⟩ : Tm)], .i 0])) :=
 gI ▸ mU hG [⟨1, 2⟩] [⟨2, 2⟩] (im (by decide) (by decide +kernel) gM) (HF ▸ Sn (xe (by decide) (by decide +kernel))) (xe (by decide) (by decide +kernel))
theorem Ho {G : List (Nat × Obj)} (hG : zo G) : zt Tryz.prog G 16 [Ze [(⟨1, 2⟩ : Tm)], Ze [(⟨2, 2⟩ : Tm)]] (.tup 2 (zw [Ze [(⟨4, 1⟩ : Tm)], .i 0])) :=
 gg ▸ KF hG [⟨1, 2⟩] [⟨2, 2⟩] (im (by decide) (by decide +kernel) gM) (HF ▸ Sn (xe (by decide) (by decide +kernel))) (xe (by decide) (by decide +kernel))
theorem HP {G : List (Nat × Obj)} (hG : WB G) : zt Tryz.prog G 23 [Ze Mj, Ze nG] (.tup 2 (zw [.i (-1), .i 0])) := by
 have h := KC hG Mj nG ⟨im (by decide) (by decide +kernel) Hy.1, im (by decide) (by decide +kernel) Hy.2.1, xe (by decide) (by decide +kernel), by
  rw [Hw.1]
  exact H5 (by decide) (by decide) (by decide +kernel) (fun t ht => gR t (List.mem_cons_of_mem _ ht)) (by decide +kernel) (by rw [Hx.1]; decide)⟩
 rw [Hw.1, Hx.1] at h
 exact h
theorem HU {G : List (Nat × Obj)} (hG : WB G) : zt Tryz.prog G 23 [Ze Mj, Ze JA] (.tup 2 (zw [.i 1, .i 0])) := by
 have h := KC hG Mj JA ⟨im (by decide) (by decide +kernel) Hy.1, im (by decide) (by decide +kernel) Hy.2.2, xe (by decide) (by decide +kernel), by
  rw [Hw.2]
  exact H5 (by decide) (by decide) (by decide +kernel) gR (by decide +kernel) (by rw [Hx.2.2]; decide)⟩
 rw [Hw.2, Hx.2.2] at h
 exact h
def qb : List AV → Option (List zN × AV)
 | [x, y] => some ([.b (zf Tm x && decide (Zs (α := Tm) x = Mj)), .b (zf Tm y && (decide (Zs (α := Tm) y = nG) || decide (Zs (α := Tm) y = JA)))], .tup 2 (zw [.i (if Zs (α := Tm) y = nG then -1 else 1), .i 0]))
 | _ => none
theorem j8 {G : List (Nat × Obj)} (hG : WB G) : zp Tryz.prog G 23 qb := by
 intro xs ps r e hp
 unfold qb at e
 split at e
 ·rename_i x y
  cases e
  have q0 : (zf Tm x && decide (Zs (α := Tm) x = Mj)) = true := hp _ List.mem_cons_self
  have q1 : (zf Tm y && (decide (Zs (α := Tm) y = nG) || decide (Zs (α := Tm) y = JA))) = true := hp _ (List.mem_cons_of_mem _ List.mem_cons_self)
  rw [Bool.and_eq_true, decide_eq_true_iff] at q0
  rw [Bool.and_eq_true, Bool.or_eq_true, decide_eq_true_iff, decide_eq_true_iff] at q1
  have hx := zI (α := Tm) q0.1
  have hy := zI (α := Tm) q1.1
  rw [q0.2] at hx
  by_cases hY : Zs (α := Tm) y = nG
  ·rw [if_pos hY]
   rw [hY] at hy
   exact weaken (ys := [_, _]) ⟨hx, hy, trivial⟩ (HP hG)
  ·rw [if_neg hY]
   rw [q1.2.resolve_left hY] at hy
   exact weaken (ys := [_, _]) ⟨hx, hy, trivial⟩ (HU hG)
 ·cases e
def kU  : yt :=
 .two .auto (.two .auto (.two (.two .auto (.one (.unroll 3 .auto))) .auto))
noncomputable def gW (G : List (Nat × Obj)) : Tb := (((((WS G).plus 20 (Qs [⟨1, 8⟩] [⟨2, 2⟩])).plus 12 (Su [⟨1, 2⟩] [⟨2, 2⟩] [⟨3, 2⟩])).plus 16 (Su [⟨1, 2⟩] [⟨2, 2⟩] [⟨4, 1⟩])).plus 23 qb).body Tryz.prog [(39, kU), (21, .auto)]
theorem oF {G : List (Nat × Obj)} (hG : WB G) : zz Tryz.prog (gW G) := zz.body mixed (zz.plus (zz.plus (zz.plus (zz.plus zQ (K3 (HR hG.tab))) (MO (HJ hG.tab))) (MO (Ho hG.tab))) (j8 hG)) _
theorem j0 (G : List (Nat × Obj)) :
 Zw [] → (bif bif bif iZ == iZ then iZ == iZ else false then (if Zs (AV.xl true 2 1 (Sx.rowAt [zw [AV.str (bA #[(49 : UInt8)]), AV.str (bA #[(49 : UInt8), (48 : UInt8)])]])) = nG then (-1 : Int) else iO) == (-1 : Int) else false then (if Zs (AV.xl true 2 2 (Sx.rowAt [zw [AV.str (bA #[(45 : UInt8), (49 : UInt8), (47 : UInt8), (54 : UInt8), (50 : UInt8)]), AV.str (bA #[(49 : UInt8)])],
 zw [AV.str (bA #[(49 : UInt8)]), AV.str (bA #[(49 : UInt8), (48 : UInt8)])]])) = nG then (-1 : Int) else iO) == iO else false) = true := by
 delta bA iZ iO
 intro hb
 decide +kernel
def pI : List AV → Option (List zN × AV)
 | [] => some ([], .b true)
 | _ => none
theorem KI {G : List (Nat × Obj)} (hG : WB G) : zp Tryz.prog G 15 pI := by
 intro xs ps r e hp
 unfold pI at e
 split at e
 ·cases e
  exact zW mixed (oF hG) (Eq.mp (by kernel_rfl) (j0 G) : vR Tryz.prog (gW G) 15 .auto [] (.b true))
 ·cases e
end Go.Te
