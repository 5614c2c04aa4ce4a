/- surd: floor, sign. -/
import Derived.Test.YthbpnknhfokadaaGreatDoorThQg
set_option linter.unusedSimpArgs false
set_option linter.unusedVariables false
namespace Go.Te
open Go Go.Sx Go.Proofs Go.Ar
set_option maxRecDepth 100000
set_option maxHeartbeats 4000000
theorem kL {x j k : Nat} (hx : x < 10 ^ j) (hj : j ≤ k) : x < 10 ^ k := Nat.lt_of_lt_of_le hx (Nat.pow_le_pow_right (Nat.succ_pos 9) hj)
theorem uK {a : Int} (h : a.natAbs < 10 ^ 300) : Zs (Lib.itoa a) = 0 := by
 rw [Yv]
 exact xp h (by decide) (by decide)
theorem xW (f : Int → Int → Int) {a b : Int} (ha : a.natAbs < 10 ^ 300) (hb : b.natAbs < 10 ^ 300) (h : (f a b).natAbs < 10 ^ 300) : yA f (Lib.itoa a) (Lib.itoa b) = Lib.itoa (f a b) := by
 rw [(X4 (f := f) (uK ha) (uK hb)).2, (zC a).2, (zC b).2]
 exact (Zq (k := 300) (by decide) (by decide) h).1
theorem PW {a d : Nat} (ha : a < 10 ^ 300) (hd : d < 10 ^ 300) (h0 : 0 < d) : Yy (Lib.itoa (a : Int)) (Lib.itoa (d : Int)) = Lib.itoa ((a / d : Nat) : Int) ∧ vL (Lib.itoa (a : Int)) (Lib.itoa (d : Int)) = Lib.itoa ((a % d : Nat) : Int) := by
 have e : x9 (Lib.itoa (a : Int)) (Lib.itoa (d : Int)) = 0 := by
  unfold x9 zc
  rw [uK (by rw [Int.natAbs_natCast]; exact ha), uK (by rw [Int.natAbs_natCast]; exact hd), rT (by omega)]
  rfl
 obtain ⟨e1, e2⟩ := Rj e
 rw [e1, e2, (zC _).2, (zC _).2, Int.fdiv_eq_ediv_of_nonneg _ (by omega), Int.fmod_eq_emod_of_nonneg _ (by omega)]
 exact ⟨by rw [Int.natCast_ediv], by rw [Int.natCast_emod]⟩
theorem uP {a b : Int} : (Lib.itoa a == Lib.itoa b) = decide (a = b) := by
 rw [Bool.eq_iff_iff, beq_iff_eq, decide_eq_true_iff]
 exact ⟨fun h => by rw [← (zC a).2, h, (zC b).2], fun h => by rw [h]⟩
theorem Qu (n : Int) : (((Lib.itoa n).getD 0 0).toNat : Int) = 45 ↔ n < 0 := by
 constructor
 ·intro h
  refine Int.not_le.1 fun h0 => ?_
  obtain ⟨m, rfl⟩ : ∃ m : Nat, n = m := ⟨n.toNat, by omega⟩
  rw [Go.Ar.Z5] at h
  have hd := (Zt.1 (Yw m))
  match hq : Lib.decDigits m, hd with
  | c :: r, hd =>
   have h1 := y5.1 (hd.2.1 c List.mem_cons_self)
   rw [hq] at h
   have h : (c.toNat : Int) = 45 := h
   have h2 : c = 45 := UInt8.toNat.inj (by show c.toNat = 45; omega)
   rw [h2] at h1
   exact absurd h1.1 (by decide)
 ·intro h
  have := Go.Ar.itoa_neg (n := n.natAbs) (by omega)
  rw [show -((n.natAbs : Nat) : Int) = n by omega] at this
  rw [this]; rfl
theorem ZA {n : Int} {k : Nat} (hk : 0 < k) (h : n.natAbs < 10 ^ k) : (Lib.itoa n).length ≤ k + 1 ∧ 0 < (Lib.itoa n).length := by
 have h1 := xR hk h
 have h2 := R7 n
 rw [x6]
 split <;> omega
def Rt (t : Tm) (p : Nat) : Nat := t.c.num.natAbs * t.c.num.natAbs * mQ t.q * 10 ^ (2 * p)
def vh (t : Tm) (p : Nat) : Int :=
 if 0 ≤ t.c.num then ((yU (Rt t p) / t.c.den : Nat) : Int)
 else -(if yU (Rt t p) * yU (Rt t p) = Rt t p ∧ yU (Rt t p) % t.c.den = 0 then ((yU (Rt t p) / t.c.den : Nat) : Int) else ((yU (Rt t p) / t.c.den : Nat) : Int) + 1)
structure Qk (t : Tm) (p : Int) : Prop where
 ne : t.c ≠ 0
 bc : bq 60 t.c
 nat : Zf RM t
 pl : 0 ≤ p ∧ p ≤ 20
 sq : Rt t p.toNat < 10 ^ 77
noncomputable def I5 (G : List (Nat × Obj)) : Tb := (((((((Wm G).plus 85 TH).plus 78 WF).plus 116 TN).plus 117 nm).plus 115 sB).plus 64 uN).plus 118 TJ
theorem PR {G : List (Nat × Obj)} (hG : zo G) : zz Tryz.prog (I5 G) := zz.plus (zz.plus (zz.plus (zz.plus (zz.plus (zz.plus (zz.plus zQ (Rk hG)) (uo hG)) (zp.mono oB)) (iu hG)) (Oy hG)) (qb hG)) (o9 hG)
def mO : List AV → Option (List zn × AV)
 | [x_t, .v (.int .i64 p)] => some ([.b (yw Tm x_t), .p (Qk (Zn (α := Tm) x_t) p)], .str (Lib.itoa (vh (Zn (α := Tm) x_t) p.toNat)))
 | _ => none
theorem K9 (G : List (Nat × Obj)) (t : Tm) (p : Int) (h : Qk t p) :
 let q1 := (Lib.itoa (Rat.num (ze (zT (Tm.c t))))); let q2 := (yA (fun (x1 x2 : Int) => x1 * x2) q1 q1); let q3 := (yA (fun (x1 x2 : Int) => x1 * x2) q2 (zT (Tm.q t))); let q5 := (ByteArray.data (ByteArray.mk #[(49 : UInt8)])); let q4 := (Array.toList q5 ++ List.replicate (Int.toNat ((2 : Int) * p)) (48 : UInt8)); let q6 := (yA (fun (x1 x2 : Int) => x1 * x2) q3 q4); let q7 := (Lib.itoa (cI (yU (Int.toNat (zY q6))))); let q8 := (Lib.itoa (cI (Rat.den (ze (zT (Tm.c t)))))); let q9 := (ByteArray.data (ByteArray.mk #[(48 : UInt8)])); let q10 := (Yy q7 q8); let q11 := (yA
 (fun (x1 x2 : Int) => x1 + x2) q10 (Array.toList q5)); let q12 := (Array.toList q9); ZV [AV.agg 2 (zU.enc t), aI p] → YQ 300 (zT (Tm.c t)) ∧ lN q1 ≤ nM ∧ lN q1 ≤ nM ∧ lN q2 ≤ nM ∧ lN (zT (Tm.q t)) ≤ nM ∧ bF (dK ((2 : Int) * p)) ((iZ ≤ (2 : Int) * p ∧ (2 : Int) * p ≤ (40 : Int)) ∧ bF (DB.db (1 + lN (List.replicate (Int.toNat ((2 : Int) * p)) (48 : UInt8)) ≤ nX)) (lN q3 ≤ nM ∧ lN q4 ≤ nM ∧ ZZ q6 = true ∧ iZ
 < zY q6 ∧ lN q6 ≤ 78 ∧ lN q7 ≤ nM ∧ lN q8 ≤ nM ∧ bF (DB.db (iZ ≤ iZ ∧ iZ < (lZ q1))) (zZ ((cI (UInt8.toNat (gD q1 0 (0 : UInt8)))) != (45 : Int)) (Yy q7 q8 = Lib.itoa (vh t (Int.toNat p))) (lN q7 ≤ nM ∧ lN q7 ≤ nM ∧ bF (!zr false !yA (fun (x1 x2 : Int) => x1 * x2) q7 q7 == yA (fun (x1 x2 : Int) => x1 * x2) q3 q4 || zr false !yA (fun (x1 x2 : Int) => x1 * x2) q7 q7 == yA (fun (x1 x2 : Int) => x1 * x2) q3 q4) (bF (!!!yA (fun (x1 x2 : Int) =>
 x1 * x2) q7 q7 == yA (fun (x1 x2 : Int) => x1 * x2) q3 q4 || zr false !yA (fun (x1 x2 : Int) => x1 * x2) q7 q7 == yA (fun (x1 x2 : Int) => x1 * x2) q3 q4) (zZ (bif !yA (fun (x1 x2 : Int) => x1 * x2) q7 q7 == yA (fun (x1 x2 : Int) => x1 * x2) q3 q4 then true else !vL q7 q8 == Array.toList q9) (lN q10 ≤ nM ∧ 1 ≤ nM ∧ 1 ≤ nM ∧ lN q11 ≤ nM ∧ yA (fun (x1 x2 : Int) => x1 - x2) q12 q11 = Lib.itoa (vh t (Int.toNat p))) (1 ≤ nM ∧ lN q10 ≤ nM ∧ yA (fun (x1 x2 : Int) => x1 - x2) q12 q10 = Lib.itoa (vh t (Int.toNat
 p))))))))) := by
 delta bF dK nX nM cI lZ lN gD iZ aI
 dsimp only
 intro hb
 simp only [sS, YN, yK, zk, yp, YZ, Xr, YD, wu, xO, wH, XW, Vm, dS]
 obtain ⟨b1, p1, d1, n1⟩ := wT h.nat (by decide)
 obtain ⟨e, m0, mR⟩ := h.nat.mQ
 have E2 : zT t.q = Lib.itoa ((mQ t.q : Nat) : Int) := (congrArg zT e).trans (wB _)
 have o1 : YQ 300 (zT t.c) := (ZJ (by decide) (by decide)).2 (h.bc.mono (by decide))
 obtain ⟨p, rfl⟩ : ∃ q : Nat, p = q := ⟨p.toNat, by have := h.pl; omega⟩
 have hp := h.pl
 have hS := h.sq
 have hn0 : t.c.num ≠ 0 := fun e => h.ne (Rat.num_eq_zero.1 e)
 have hN := h.bc.num
 have hD := h.bc.den
 have hd0 := t.c.den_pos
 rw [Int.toNat_natCast] at hS
 rw [Int.toNat_natCast, E2]
 unfold vh
 have ek : (2 * (p : Int)).toNat = 2 * p := by omega
 rw [ek]
 obtain ⟨t1, t2⟩ := Q4 (2 * p)
 have et : ([49] ++ List.replicate (2 * p) 48 : zj) = Lib.itoa ((10 ^ (2 * p) : Nat) : Int) := by rw [← t2, Yj t1]; rfl
 have eS : Rt t p = t.c.num.natAbs * t.c.num.natAbs * mQ t.q * 10 ^ (2 * p) := rfl
 have hT0 : 0 < 10 ^ (2 * p) := Nat.pow_pos (by omega)
 have hT1 : 10 ^ (2 * p) < 10 ^ 41 := Nat.pow_lt_pow_right (by omega) (by omega)
 have lrep : (List.replicate (2 * p) (48 : UInt8)).length = 2 * p := List.length_replicate
 generalize 10 ^ (2 * p) = T at *
 have hm9 : mQ t.q < 10 ^ 9 := Nat.lt_of_le_of_lt mR (by decide)
 generalize mQ t.q = m at *
 generalize t.c.num = n at *
 generalize t.c.den = d at *
 generalize Rt t p = S at *
 have hNN : n.natAbs * n.natAbs < 10 ^ 120 := YX (j := 60) (k := 60) hN hN
 have hNM : n.natAbs * n.natAbs * m < 10 ^ 129 := YX (j := 120) (k := 9) hNN hm9
 have up : ∀ {x j : Nat}, x < 10 ^ j → j ≤ 300 → x < 10 ^ 300 := fun hx hj => kL (k := 300) hx hj
 have nn : n * n = ((n.natAbs * n.natAbs : Nat) : Int) := Int.natAbs_mul_self.symm
 have E1 : yA (fun x1 x2 => x1 * x2) (Lib.itoa n) (Lib.itoa n) = Lib.itoa ((n.natAbs * n.natAbs : Nat) : Int) := by
  rw [xW _ (up hN (by omega)) (up hN (by omega)) (by rw [nn, Int.natAbs_natCast]; exact up hNN (by omega)), nn]
 have E3 : yA (fun x1 x2 => x1 * x2) (Lib.itoa ((n.natAbs * n.natAbs : Nat) : Int)) (Lib.itoa (m : Int)) = Lib.itoa ((n.natAbs * n.natAbs * m : Nat) : Int) := by
  rw [xW _ (by rw [Int.natAbs_natCast]; exact up hNN (by omega)) (by rw [Int.natAbs_natCast]; exact up hm9 (by omega)) (by rw [← Int.natCast_mul, Int.natAbs_natCast]; exact up hNM (by omega)), ← Int.natCast_mul]
 have E5 : yA (fun x1 x2 => x1 * x2) (Lib.itoa ((n.natAbs * n.natAbs * m : Nat) : Int)) (Lib.itoa (T : Int)) = Lib.itoa (S : Int) := by
  rw [xW _ (by rw [Int.natAbs_natCast]; exact up hNM (by omega)) (by rw [Int.natAbs_natCast]; exact up hT1 (by omega)) (by rw [← Int.natCast_mul, ← eS, Int.natAbs_natCast]; exact up hS (by omega)), ← Int.natCast_mul, ← eS]
 have hS0 : 0 < S := by
  rw [eS]
  have := Nat.mul_pos (show 0 < n.natAbs by omega) (show 0 < n.natAbs by omega)
  exact Nat.mul_pos (Nat.mul_pos this m0) hT0
 have ltn := ZA (n := n) (k := 60) (by decide) hN
 have lnn := ZA (n := ((n.natAbs * n.natAbs : Nat) : Int)) (k := 120) (by decide) (by rw [Int.natAbs_natCast]; exact hNN)
 have lm := ZA (n := (m : Int)) (k := 9) (by decide) (by rw [Int.natAbs_natCast]; exact hm9)
 have lnm := ZA (n := ((n.natAbs * n.natAbs * m : Nat) : Int)) (k := 129) (by decide) (by rw [Int.natAbs_natCast]; exact hNM)
 have lT := ZA (n := (T : Int)) (k := 41) (by decide) (by rw [Int.natAbs_natCast]; exact hT1)
 have lS := ZA (n := (S : Int)) (k := 77) (by decide) (by rw [Int.natAbs_natCast]; exact hS)
 have hr : yU S < 10 ^ 77 := Nat.lt_of_le_of_lt (pr S) hS
 have hrr : yU S * yU S ≤ S := (XO S).1
 have lr := ZA (n := (yU S : Int)) (k := 77) (by decide) (by rw [Int.natAbs_natCast]; exact hr)
 have ld := ZA (n := (d : Int)) (k := 60) (by decide) (by rw [Int.natAbs_natCast]; exact hD)
 obtain ⟨v1, v2⟩ := PW (up hr (by omega)) (up hD (by omega)) hd0
 rw [et, E1, E3, E5, (zC (S : Int)).2, Int.toNat_natCast, v1, v2, lrep]
 have hq : yU S / d < 10 ^ 77 := Nat.lt_of_le_of_lt (Nat.div_le_self _ _) hr
 generalize yU S / d = q at *
 generalize yU S % d = rr at *
 generalize yU S = r at *
 have E6 : yA (fun x1 x2 => x1 * x2) (Lib.itoa (r : Int)) (Lib.itoa (r : Int)) = Lib.itoa ((r * r : Nat) : Int) := by
  rw [xW _ (by rw [Int.natAbs_natCast]; exact up hr (by omega)) (by rw [Int.natAbs_natCast]; exact up hr (by omega)) (by rw [← Int.natCast_mul, Int.natAbs_natCast]; exact up (Nat.lt_of_le_of_lt hrr hS) (by omega)), ← Int.natCast_mul]
 have one : ([49] : zj) = Lib.itoa 1 := by decide +kernel
 have zer : ([48] : zj) = Lib.itoa 0 := by decide +kernel
 have e300 : ∀ k : Nat, k < 10 ^ 78 → (k : Int).natAbs < 10 ^ 300 := fun k hk => by rw [Int.natAbs_natCast]; exact up hk (by omega)
 have big : (1 : Int).natAbs < 10 ^ 300 := up (j := 1) (show (1 : Int).natAbs < 10 ^ 1 by decide) (by omega)
 have h78 : ∀ k : Nat, k < 10 ^ 77 → k + 1 < 10 ^ 78 := fun k hk => by
  have : (10 : Nat) ^ 78 = 10 ^ 77 * 10 := rfl
  omega
 have E7 : yA (fun x1 x2 => x1 + x2) (Lib.itoa ((q : Nat) : Int)) [49] = Lib.itoa ((q : Int) + 1) := by
  rw [one, xW (fun x1 x2 => x1 + x2) (e300 _ (Nat.lt_trans (Nat.lt_succ_self _) (h78 _ hq))) big (by
   show ((q : Int) + 1).natAbs < 10 ^ 300
   have := up (h78 _ hq) (by omega)
   omega)]
 have E8 : ∀ z : Nat, z < 10 ^ 78 → yA (fun x1 x2 => x1 - x2) [48] (Lib.itoa (z : Int)) = Lib.itoa (-(z : Int)) := fun z hz => by
  rw [zer, xW (fun x1 x2 => x1 - x2) (up (j := 1) (show (0 : Int).natAbs < 10 ^ 1 by decide) (by omega)) (e300 _ hz) (by
   show (0 - (z : Int)).natAbs < 10 ^ 300
   have := up hz (by omega)
   omega)]
  show Lib.itoa (0 - (z : Int)) = _
  rw [Int.zero_sub]
 have lq := ZA (n := ((q : Nat) : Int)) (k := 77) (by decide) (by rw [Int.natAbs_natCast]; exact hq)
 have lq1 := ZA (n := ((q : Nat) : Int) + 1) (k := 78) (by decide) (by have := h78 _ hq; omega)
 have e45 := Qu n
 rw [E6, E7]
 refine ⟨o1, by omega, by omega, by omega, by omega, by simp only [yn]; omega, ⟨by omega, by omega⟩, by omega, by omega, by omega, (zC _).1, by omega, by omega, by omega, by omega, ⟨by omega, by omega⟩, fun h5 => ?_, fun h5 => ⟨by omega, by omega, ?_⟩⟩
 ·have hn : 0 ≤ n := Int.not_lt.1 fun e => h5 (e45.2 e)
  rw [if_pos hn]
 ·have hn : ¬ 0 ≤ n := Int.not_le.2 (e45.1 h5)
  rw [if_neg hn, zer, uP, uP]
  refine zX.2 ⟨fun c => ?_, fun c => ?_⟩
  ·have c' : ¬(r * r = S ∧ rr = 0) := fun e => by
    rw [decide_eq_true (show ((r * r : Nat) : Int) = (S : Int) by rw [e.1]), decide_eq_true (show (rr : Int) = 0 by omega)] at c
    cases c
   have e9 := E8 (q + 1) (h78 _ hq)
   rw [if_neg c']
   rw [zer, Int.natCast_add] at e9
   exact ⟨by omega, by omega, by omega, by omega, e9⟩
  ·have c' : r * r = S ∧ rr = 0 := by
    simp only [Bool.or_eq_false_iff, Bool.not_eq_false', decide_eq_true_eq] at c
    exact ⟨by have := c.1; omega, by have := c.2; omega⟩
   have e9 := E8 q (Nat.lt_trans (Nat.lt_succ_self _) (h78 _ hq))
   rw [if_pos c']
   rw [zer] at e9
   exact ⟨by omega, by omega, e9⟩
theorem JH {G : List (Nat × Obj)} (hG : zo G) (t : Tm) (p : Int) (h : Qk t p) : zt Tryz.prog G 80 [Yh t, .i p] (.str (Lib.itoa (vh t p.toNat))) :=
 zW (T := I5 G) (an := .auto) mixed (PR hG) (Eq.mp (by kernel_rfl) (K9 G t p h))
theorem Jc {G : List (Nat × Obj)} (hG : zo G) : zp Tryz.prog G 80 mO := by
 intro xs ps r h hp
 unfold mO at h
 split at h
 ·skip
  rename_i x_t p
  cases h
  obtain ⟨q0, q1, -⟩ := ZH hp
  exact weaken (ys := [Yh (Zn (α := Tm) x_t), .i p]) ⟨Zu q0, zS _, trivial⟩ (JH hG (Zn (α := Tm) x_t) p q1)
 ·cases h
def ZL : Array Value := #[.int .i64 4, .int .i64 16, .int .i64 64]
def Vh (G : List (Nat × Obj)) : Prop := zo G ∧ ∃ t fr t2 fr2 G', G = (2, Obj.cells zm t fr) :: (0, Obj.cells ZL t2 fr2) :: G'
theorem Vh.tab {G : List (Nat × Obj)} (h : Vh G) : zo G := h.1
def ZI (s : List Tm) (p : Nat) : Int := (s.map fun t => vh t p).sum
noncomputable def Hs (G : List (Nat × Obj)) : Tb := ((((Wm G).plus 80 mO).plus 64 uN).plus 59 sI)
theorem Pl {G : List (Nat × Obj)} (hG : zo G) : zz Tryz.prog (Hs G) := zz.plus (zz.plus (zz.plus zQ (Jc hG)) (qb hG)) (mM hG)
theorem Pe {s : List Tm} {z : Nat} (h : z < s.length) (p : Nat) : ZI (s.take (z + 1)) p = ZI (s.take z) p + vh (s.getD z zU.dflt) p := by
 unfold ZI
 rw [Uj h, List.map_append, List.sum_append]
 simp
def XM (s : List Tm) (p : Nat) : Int := if 0 < ZI s p then 1 else if ZI s p + s.length < 0 then -1 else 0
def wI (s : List Tm) : Int := if XM s 4 = 0 then XM s 16 else XM s 4
structure Jo (s : List Tm) : Prop where
 ne : 0 < s.length
 len : s.length ≤ 16
 a : ∀ t ∈ s, Qk t 4
 b : XM s 4 = 0 → ∀ t ∈ s, Qk t 16
 dec : wI s ≠ 0
theorem OE {t : Tm} {P : Int} (h : Qk t P) : (vh t P.toNat).natAbs < 10 ^ 79 := by
 have h1 : yU (Rt t P.toNat) < 10 ^ 77 := Nat.lt_of_le_of_lt (pr _) h.sq
 have h2 : yU (Rt t P.toNat) / t.c.den < 10 ^ 77 := Nat.lt_of_le_of_lt (Nat.div_le_self _ _) h1
 have e : (10 : Nat) ^ 79 = 10 ^ 77 * 100 := rfl
 unfold vh
 generalize yU (Rt t P.toNat) / t.c.den = q at *
 split
 ·omega
 ·split <;> omega
theorem kY {s : List Tm} {P : Int} (hl : s.length ≤ 16) (h : ∀ t ∈ s, Qk t P) (z : Nat) : (ZI (s.take z) P.toNat).natAbs < 10 ^ 82 := by
 have key : ∀ l : List Tm, (∀ t ∈ l, Qk t P) → (ZI l P.toNat).natAbs ≤ l.length * 10 ^ 79 := by
  intro l
  induction l with
  | nil => intro _; simp [ZI]
  | cons t l ih =>
   intro hl
   have h1 := OE (hl t List.mem_cons_self)
   have h2 := ih fun x hx => hl x (List.mem_cons_of_mem _ hx)
   have e : ZI (t :: l) P.toNat = vh t P.toNat + ZI l P.toNat := by unfold ZI; simp
   rw [e, List.length_cons, Nat.add_mul]
   have := Int.natAbs_add_le (vh t P.toNat) (ZI l P.toNat)
   omega
 have h1 := key (s.take z) fun t ht => h t (List.mem_of_mem_take ht)
 have h2 : (s.take z).length * 10 ^ 79 ≤ 16 * 10 ^ 79 := Nat.mul_le_mul_right _ (by rw [List.length_take]; omega)
 have e : (10 : Nat) ^ 82 = 1000 * 10 ^ 79 := rfl
 omega
theorem cmp0 {x : Int} (h : x.natAbs < 10 ^ 300) : ye (Lib.itoa x) [48] = xr x 0 := by
 unfold ye zc
 rw [uK h, (zC x).2]
 rfl
theorem tj (x : Int) : (0 < xr x 0 ↔ 0 < x) ∧ zg (xr x 0) 0 = zg x 0 ∧ (xr x 0 == 0) = (x == 0) := by
 unfold xr
 cases h1 : zg x 0 with
 | true =>
  have := (zq _ _).1 h1
  exact ⟨⟨fun h => absurd h (show ¬ (0 : Int) < -1 by decide), fun h => by omega⟩, rfl, by rw [show (x == 0) = false from beq_eq_false_iff_ne.2 (by omega)]; rfl⟩
 | false =>
  have h1 : ¬ x < 0 := fun e => by rw [(zq _ _).2 e] at h1; cases h1
  cases h2 : x == 0 with
  | true => have := beq_iff_eq.1 h2; exact ⟨⟨fun h => absurd h (by decide), fun h => by omega⟩, rfl, rfl⟩
  | false => have := beq_eq_false_iff_ne.1 h2; exact ⟨⟨fun _ => by omega, fun _ => by decide⟩, rfl, rfl⟩
theorem tB {s : List Tm} {p : Nat} {P k V : Int} (hP : P.toNat = p) (hl : s.length ≤ 16) (hf : ∀ t ∈ s, Qk t P) (hk : 0 ≤ k ∧ k < 3) {NEXT : Prop} (h1 : 0 < ZI s p → 1 = V) (h2 : ZI s p ≤ 0 → ZI s p + s.length < 0 → -1 = V) (h3 : ZI s p ≤ 0 → 0 ≤ ZI s p + s.length → NEXT) :
  (∃ z : Nat, z ≤ s.length ∧ [48] = Lib.itoa (ZI (List.take z s) p) ∧ (0 : Int) = (z : Int)) ∧
   ∀ z : Nat, z ≤ s.length →
    ((z : Int) < (s.length : Int) → (0 ≤ (z : Int) ∧ (z : Int) < (s.length : Int)) ∧ Qk (s.getD z zU.dflt) P ∧ (Lib.itoa (ZI (List.take z s) p)).length ≤ 4294967280 ∧ (Lib.itoa (vh (s.getD z zU.dflt) p)).length ≤ 4294967280 ∧ yn IntKind.i64 ((z : Int) + 1) ∧
      ∃ z' : Nat, (z' ≤ s.length ∧ s.length - z' < s.length - z) ∧ yA (fun x1 x2 => x1 + x2) (Lib.itoa (ZI (List.take z s) p)) (Lib.itoa (vh (s.getD z zU.dflt) p)) = Lib.itoa (ZI (List.take z' s) p) ∧ (z : Int) + 1 = (z' : Int)) ∧
     ((s.length : Int) ≤ (z : Int) → (Lib.itoa (ZI (List.take z s) p)).length ≤ 4294967280 ∧ 1 ≤ 4294967280 ∧
       (0 < ye (Lib.itoa (ZI (List.take z s) p)) [48] → 2 = [AV.junk, AV.junk].length ∧ 1 = V) ∧
        (ye (Lib.itoa (ZI (List.take z s) p)) [48] ≤ 0 →
         (∃ z_1 : Nat, z_1 ≤ s.length ∧ Lib.itoa (ZI (List.take z s) p) = Lib.itoa (ZI s p + (z_1 : Int)) ∧ (0 : Int) = (z_1 : Int)) ∧
          ∀ z : Nat, z ≤ s.length →
           ((z : Int) < (s.length : Int) → (Lib.itoa (ZI s p + (z : Int))).length ≤ 4294967280 ∧ 1 ≤ 4294967280 ∧ yn IntKind.i64 ((z : Int) + 1) ∧
             ∃ z' : Nat, (z' ≤ s.length ∧ s.length - z' < s.length - z) ∧ yA (fun x1 x2 => x1 + x2) (Lib.itoa (ZI s p + (z : Int))) [49] = Lib.itoa (ZI s p + (z' : Int)) ∧ (z : Int) + 1 = (z' : Int)) ∧
            ((s.length : Int) ≤ (z : Int) → (Lib.itoa (ZI s p + (z : Int))).length ≤ 4294967280 ∧ 1 ≤ 4294967280 ∧
              ((!zg (ye (Lib.itoa (ZI s p + (z : Int))) [48]) 0 && ye (Lib.itoa (ZI s p + (z : Int))) [48] == 0) = true → yn IntKind.i64 k) ∧
               zZ (!!zg (ye (Lib.itoa (ZI s p + (z : Int))) [48]) 0 || (!ye (Lib.itoa (ZI s p + (z : Int))) [48] == 0 || !zg (ye (Lib.itoa (ZI s p + (z : Int))) [48]) 0 && ye (Lib.itoa (ZI s p + (z : Int))) [48] == 0))
                (zZ (zg (ye (Lib.itoa (ZI s p + (z : Int))) [48]) 0 || ye (Lib.itoa (ZI s p + (z : Int))) [48] == 0 && k == 3) (2 = [AV.junk, AV.junk].length ∧ -1 = V) NEXT) False))) := by
 subst hP
 have big := kY hl hf
 have full := big s.length
 rw [List.take_length] at full
 have up : ∀ x : Int, x.natAbs < 10 ^ 83 → x.natAbs < 10 ^ 300 := fun x hx => kL (k := 300) hx (by decide)
 have e83 : (10 : Nat) ^ 83 = 10 ^ 82 * 10 := rfl
 have e82 : (10 : Nat) ^ 82 = 10 ^ 79 * 1000 := rfl
 have zer : ([48] : zj) = Lib.itoa 0 := by decide +kernel
 have one : ([49] : zj) = Lib.itoa 1 := by decide +kernel
 have sh : ∀ x : Int, x.natAbs < 10 ^ 83 → (Lib.itoa x).length ≤ 4294967280 := fun x hx => by have := (ZA (k := 83) (by decide) hx).1; omega
 refine ⟨⟨0, Nat.zero_le _, zer.trans (by rfl), rfl⟩, fun z hz => ⟨fun hlt => ?_, fun hge => ?_⟩⟩
 ·have hzl : z < s.length := by omega
  have f := hf _ (yJ hzl)
  have b1 := big z
  have b2 := OE f
  have b3 := big (z + 1)
  have e := Pe hzl P.toNat
  refine ⟨⟨by omega, by omega⟩, f, sh _ (by omega), sh _ (by omega), by simp only [yn]; omega, z + 1, ⟨by omega, by omega⟩, ?_, by omega⟩
  rw [xW _ (up _ (by omega)) (up _ (by omega)) (by rw [← e]; exact up _ (by omega)), e]
 ·obtain rfl : z = s.length := by omega
  rw [List.take_length, cmp0 (up _ (by omega))]
  obtain ⟨c1, c2, c3⟩ := tj (ZI s P.toNat)
  refine ⟨sh _ (by omega), by omega, fun h => ⟨rfl, h1 (c1.1 h)⟩, fun h => ⟨⟨0, Nat.zero_le _, by rw [show ((0 : Nat) : Int) = 0 from rfl, Int.add_zero], rfl⟩, fun y hy => ⟨fun ylt => ?_, fun yge => ?_⟩⟩⟩
  ·refine ⟨sh _ (by omega), by omega, by simp only [yn]; omega, y + 1, ⟨by omega, by omega⟩, ?_, by omega⟩
   rw [one, xW _ (up _ (by omega)) (up 1 (by decide)) (up _ (by omega)), Int.natCast_add, ← Int.add_assoc]; rfl
  ·obtain rfl : y = s.length := by omega
   rw [cmp0 (up _ (by omega))]
   obtain ⟨d1, d2, d3⟩ := tj (ZI s P.toNat + (s.length : Int))
   have hs : ZI s P.toNat ≤ 0 := Int.not_lt.1 fun e => by have := c1.2 e; omega
   rw [d2, d3, show (k == 3) = false from beq_eq_false_iff_ne.2 (by omega), Bool.and_false, Bool.or_false]
   refine ⟨sh _ (by omega), by omega, fun _ => by simp only [yn]; omega, zX.2 ⟨fun _ => zX.2 ⟨fun c => ⟨rfl, h2 hs ((zq _ _).1 c)⟩, fun c => h3 hs (Int.not_lt.1 fun e => by rw [(zq _ _).2 e] at c; cases c)⟩, fun c => ?_⟩⟩
   exfalso
   revert c
   cases zg (ZI s P.toNat + (s.length : Int)) 0 <;> cases ZI s P.toNat + (s.length : Int) == 0 <;> decide
def Kw (s : List Tm) : yW :=
 .two .auto (.two .auto (.two (.two .auto (.one (.unroll 4 ((.two .auto (.two .auto (.two (.one (.two .auto (.two .auto (.two (.two .auto (.one (.loop Nat (fun σ z => [(0, σ.tm 0), (4, σ.tm 4), (5, σ.tm 5), (16, σ.tm 16), (17, σ.tm 17), (21, σ.tm 21), (22, σ.tm 22), (6, .str (Lib.itoa (ZI (s.take z) (AV.int (σ.tm 5)).toNat))), (23, .i (z : Int))]) (fun σ z => []) 0 (fun σ z => z ≤ s.length) (fun σ z => s.length - z) .auto))) (.two .auto (.two (.two .auto (.one (.loop Nat (fun σ z => [(0, σ.tm 0), (4, σ.tm 4), (16, σ.tm 16), (17, σ.tm 17), (44, σ.tm 44), (6, .str (Lib.itoa (ZI s (AV.int (σ.tm 5)).toNat + (z : Int)))), (45, .i (z : Int))]) (fun σ z => []) 0 (fun σ z => z ≤ s.length) (fun σ z => s.length - z) .auto))) .auto)))))) .auto))))))) .auto))
theorem JQ (t1 t2 : TypeId) (fr fr2 : Nat × Nat) (G : List (Nat × Obj)) (s : List Tm) (h : Jo s) :
 let q1 := (True ∧ kI ∧ iZ = wI s); let q2 := (AV.xl false 2 (lN s) fun i j => zU.enc (gD s i zU.dflt) j); let q3 := (kI ∧ iZ = iZ); let q4 := (kI ∧ Sx.intOf (Array.getD ZL 0 undef) = Sx.intOf (Array.getD ZL 0 undef)); let q5 := (3 = 3 ∧ ((kI ∧ Sx.intOf (Array.getD ZL (nat_lit 0) undef) = Sx.intOf (Array.getD ZL (nat_lit 0) undef)) ∧ kI ∧ Sx.intOf (Array.getD ZL (nat_lit 1) undef) = Sx.intOf (Array.getD ZL (nat_lit 1) undef)) ∧ kI
 ∧ Sx.intOf (Array.getD ZL (nat_lit 2) undef) = Sx.intOf (Array.getD ZL (nat_lit 2) undef)); let q6 := (kI ∧ (lZ s) = (lZ s)); let q7 := (ByteArray.data (ByteArray.mk #[(48 : UInt8)])); let q8 := (Int.toNat (AV.int (aI (Sx.intOf (Array.getD ZL 0 undef))))); let q10 := (Value.agg #[Value.string (ByteArray.mk #[]), Value.string (ByteArray.mk #[])]); let q15 := (Array.toList q7); let q16 := (j2 ∧ (True ∧ kI ∧ iO = wI s) ∧ kI ∧ iZ = (0
 : Int)); let q18 := (bA #[(49 : UInt8)]); let q25 := (j2 ∧ (True ∧ kI ∧ (-1 : Int) = wI s) ∧ kI ∧ iZ = iZ); let q26 := (kI ∧ iZ + iO = iZ + iO); let q27 := (kI ∧ Sx.intOf (Array.getD ZL 1 undef) = Sx.intOf (Array.getD ZL 1 undef)); let q28 := (Int.toNat (AV.int (aI (Sx.intOf (Array.getD ZL 1 undef))))); let q41 := (kI ∧ iZ + iO + iO = iZ +
 iO + iO); let q42 := (kI ∧ Sx.intOf (Array.getD ZL 2 undef) = Sx.intOf (Array.getD ZL 2 undef)); let q43 := (Int.toNat (AV.int (aI (Sx.intOf (Array.getD ZL 2 undef))))); ZV [AV.xl false 2 (lN s) fun i j => zU.enc (gD s i zU.dflt) j] → zZ ((lZ s) == iZ) (j2 ∧ q1 ∧ kI ∧ iZ = iZ) ((∃ (z : Nat), (z ≤ lN s ∧ zE q2 q2 ∧ q3 ∧ q4 ∧ q5 ∧ q3 ∧ zE q2 q2 ∧ q6 ∧ Array.toList q7 = Lib.itoa (ZI (List.take z s) q8) ∧
 kI ∧ iZ = (cI z)) ∧ True) ∧ ∀ (z : Nat), let q9 := (AV.agg 2 fun (i : Nat) => if 0 ≤ 0 + i ∧ 0 + i < 2 then zU.enc (gD s (Int.toNat (cI z)) zU.dflt) (0 + (0 + i - 0)) else Z0 q10 (0 + i)); let q11 := (Zn q9); let q13 := (ZI (List.take z s) q8); let q12 := (Lib.itoa q13); let q14 := (Lib.itoa (vh q11 4)); z ≤ lN s → zZ (zg (cI z) (lZ s)) (bF (DB.db (iZ ≤ (cI z) ∧ (cI z) < (lZ s))) (bF (yw Tm q9) (Qk q11 (Sx.intOf (Array.getD ZL 0 undef)) ∧ lN q12 ≤
 nM ∧ lN q14 ≤ nM ∧ bF (dK ((cI z) + iO)) (∃ (z' : Nat), ((z' ≤ lN s ∧ lN s - z' < lN s - z) ∧ zE q2 q2 ∧ q3 ∧ q4 ∧ q5 ∧ q3 ∧ zE q2 q2 ∧ q6 ∧ yA (fun (x1 x2 : Int) => x1 + x2) q12 q14 = Lib.itoa (ZI (List.take z' s) q8) ∧ kI ∧ (cI z) + iO = (cI z')) ∧ True)))) (lN q12 ≤ nM ∧ 1 ≤ nM ∧ zZ (zg iZ (ye q12 q15)) q16 ((∃ (z_1 : Nat), (z_1 ≤ lN s ∧ zE q2 q2 ∧ q3 ∧ q5 ∧ q3 ∧ q6 ∧ Lib.itoa q13 = Lib.itoa (ZI s q8 + (↑z_1
 : Int)) ∧ kI ∧ iZ = (cI z_1)) ∧ True) ∧ ∀ (z : Nat), let q17 := (Lib.itoa (ZI s q8 + (cI z))); let q21 := (ye q17 q15); let q20 := (zg q21 iZ); let q19 := (!zr false q20 || zr false q20); let q24 := (ye q17 q15 == iZ); let q23 := (zr false q20 && zr true q24); let q22 := (!q23 || zr false q20 && zr true q24); z ≤ lN s → zZ (zg (cI z) (lZ s)) (lN q17 ≤ nM ∧ 1 ≤ nM ∧ bF (dK ((cI z) + iO)) (∃ (z' : Nat), ((z' ≤ lN s ∧ lN s - z'
 < lN s - z) ∧ zE q2 q2 ∧ q3 ∧ q5 ∧ q3 ∧ q6 ∧ yA (fun (x1 x2 : Int) => x1 + x2) q17 q18 = Lib.itoa (ZI s q8 + (cI z')) ∧ kI ∧ (cI z) + iO = (cI z')) ∧ True)) (lN q17 ≤ nM ∧ 1 ≤ nM ∧ bF q19 (bF q19 (bF q22 (bF (!q23 || dK (iZ + iO)) (bF q22 (bF q19 (bF (!zr false q20 || (!ye q17 q15 == iZ || zr false q20 && zr true q24)) (bF (!!zg q21 iZ || zr false q20) (zZ (bif zg q21 iZ then true else bif ye q17 q15 == iZ then
 iZ + iO == (3 : Int) else false) q25 ((∃ (z : Nat), (z ≤ lN s ∧ zE q2 q2 ∧ q26 ∧ q27 ∧ q5 ∧ q26 ∧ zE q2 q2 ∧ q6 ∧ Array.toList q7 = Lib.itoa (ZI (List.take z s) q28) ∧ kI ∧ iZ = (cI z)) ∧ True) ∧ ∀ (z : Nat), let q29 := (AV.agg 2 fun (i : Nat) => if 0 ≤ 0 + i ∧ 0 + i < 2 then zU.enc (gD s (Int.toNat (cI z)) zU.dflt) (0 + (0 + i - 0)) else Z0 q10 (0 + i)); let q30 := (Zn q29); let q32 := (ZI (List.take z s) q28); let q31 := (Lib.itoa q32); let q33 := (Lib.itoa (vh q30 16)); z ≤ lN s → zZ (zg (cI z)
 (lZ s)) (bF (DB.db (iZ ≤ (cI z) ∧ (cI z) < (lZ s))) (bF (yw Tm q29) (Qk q30 (Sx.intOf (Array.getD ZL 1 undef)) ∧ lN q31 ≤ nM ∧ lN q33 ≤ nM ∧ bF (dK ((cI z) + iO)) (∃ (z' : Nat), ((z' ≤ lN s ∧ lN s - z' < lN s - z) ∧ zE q2 q2 ∧ q26 ∧ q27 ∧ q5 ∧ q26 ∧ zE q2 q2 ∧ q6 ∧ yA (fun (x1 x2 : Int) => x1 + x2) q31 q33 = Lib.itoa (ZI (List.take z' s) q28) ∧ kI ∧ (cI z) + iO = (cI z')) ∧ True))))
 (lN q31 ≤ nM ∧ 1 ≤ nM ∧ zZ (zg iZ (ye q31 q15)) q16 ((∃ (z_1 : Nat), (z_1 ≤ lN s ∧ zE q2 q2 ∧ q26 ∧ q5 ∧ q26 ∧ q6 ∧ Lib.itoa q32 = Lib.itoa (ZI s q28 + (cI z_1)) ∧ kI ∧ iZ = (cI z_1)) ∧ True) ∧ ∀ (z : Nat), let q34 := (Lib.itoa (ZI s q28 + (cI z))); let q37 := (ye q34 q15); let q36 := (zg q37 iZ); let q35 := (!zr false q36 || zr false q36); let q40 := (ye q34 q15 == iZ); let q39 := (zr false q36 && zr true q40); let q38 := (!q39 || zr false q36 && zr true q40); z ≤ List.length
 s → zZ (zg (cI z) (lZ s)) (lN q34 ≤ nM ∧ 1 ≤ nM ∧ bF (dK ((cI z) + iO)) (∃ (z' : Nat), ((z' ≤ lN s ∧ lN s - z' < lN s - z) ∧ zE q2 q2 ∧ q26 ∧ q5 ∧ q26 ∧ q6 ∧ yA (fun (x1 x2 : Int) => x1 + x2) q34 q18 = Lib.itoa (ZI s q28 + (cI z')) ∧ kI ∧ (cI z) + iO = (cI z')) ∧ True)) (lN q34 ≤ nM ∧ 1 ≤ nM ∧ bF q35 (bF q35 (bF q38 (bF (!q39 || dK (iZ + iO + iO)) (bF q38 (zZ
 q35 (bF (!zr false q36 || (!ye q34 q15 == iZ || zr false q36 && zr true q40)) (bF (!!zg q37 iZ || zr false q36) (zZ (bif zg q37 iZ then true else bif ye q34 q15 == iZ then iZ + iO + iO == (3 : Int) else false) q25 ((∃ (z : Nat), (z ≤ lN s ∧ zE q2 q2 ∧ q41 ∧ q42 ∧ q5 ∧ q41 ∧ zE q2 q2 ∧ q6 ∧ Array.toList q7 = Lib.itoa (ZI (List.take z s) q43) ∧ kI ∧ iZ = (cI z)) ∧ True) ∧ ∀ (z : Nat), let q44 := (AV.agg 2 fun (i : Nat) => if 0 ≤ 0 + i ∧ 0 + i < 2 then zU.enc (gD s (Int.toNat
 (cI z)) zU.dflt) (0 + (0 + i - 0)) else Z0 q10 (0 + i)); let q45 := (Zn q44); let q47 := (ZI (List.take z s) q43); let q46 := (Lib.itoa q47); let q48 := (Lib.itoa (vh q45 64)); z ≤ lN s → zZ (zg (cI z) (lZ s)) (bF (DB.db (iZ ≤ (cI z) ∧ (cI z) < (lZ s))) (bF (yw Tm q44) (Qk q45 (Sx.intOf (Array.getD ZL 2 undef)) ∧ lN q46 ≤ nM ∧ lN q48 ≤ nM ∧ bF (dK ((cI z) + iO)) (∃ (z' : Nat), ((z' ≤ lN s ∧ lN s - z' < lN s -
 z) ∧ zE q2 q2 ∧ q41 ∧ q42 ∧ q5 ∧ q41 ∧ zE q2 q2 ∧ q6 ∧ yA (fun (x1 x2 : Int) => x1 + x2) q46 q48 = Lib.itoa (ZI (List.take z' s) q43) ∧ kI ∧ (cI z) + iO = (cI z')) ∧ True)))) (lN q46 ≤ nM ∧ 1 ≤ nM ∧ zZ (zg iZ (ye q46 q15)) q16 ((∃ (z_1 : Nat), (z_1 ≤ lN s ∧ zE q2 q2 ∧ q41 ∧ q5 ∧ q41 ∧ q6 ∧ Lib.itoa q47 = Lib.itoa (ZI s q43 + (cI z_1)) ∧ kI ∧ iZ = (cI z_1)) ∧ True) ∧ ∀ (z : Nat), let q49 := (Lib.itoa (ZI s q43 + (cI z))); let q52 := (ye q49 q15); let q51
 := (zg q52 iZ); let q50 := (!zr false q51 || zr false q51); let q55 := (ye q49 q15 == iZ); let q54 := (zr false q51 && zr true q55); let q53 := (!q54 || zr false q51 && zr true q55); z ≤ lN s → zZ (zg (cI z) (lZ s)) (lN q49 ≤ nM ∧ 1 ≤ nM ∧ bF (dK ((cI z) + iO)) (∃ (z' : Nat), ((z' ≤ lN s ∧ lN s - z' < lN s - z) ∧ zE q2 q2 ∧ q41 ∧ q5 ∧ q41 ∧ q6 ∧ yA (fun (x1 x2 : Int) => x1 + x2) q49 q18 = Lib.itoa (ZI s q43 + (cI z')) ∧ kI ∧
 (cI z) + iO = (cI z')) ∧ True)) (lN q49 ≤ nM ∧ 1 ≤ nM ∧ bF q50 (bF q50 (bF q53 (bF (!q54 || dK (iZ + iO + iO + iO)) (bF q53 (bF q50 (bF (!zr false q51 || (!ye q49 q15 == iZ || zr false q51 && zr true q55)) (bF (!!zg q52 iZ || zr false q51) (zZ (bif zg q52 iZ then true else bif ye q49 q15 == iZ then iZ + iO + iO + iO == (3 : Int) else false) q25 (j2 ∧ q1 ∧ IntKind.i64 =
 .i64 ∧ (4 : Int) = iZ)))))))))))))))) False))))))))))))))))))))) := by
 delta bF dK bA nM cI kI j2 lZ lN gD iZ iO aI
 dsimp only
 intro hb
 simp only [↓yZ, ↓Zj, row_one]
 have c0 : Sx.intOf (ZL.getD 0 undef) = 4 := rfl
 have c1 : Sx.intOf (ZL.getD 1 undef) = 16 := rfl
 have c2 : Sx.intOf (ZL.getD 2 undef) = 64 := rfl
 have n0 : Int.toNat 4 = 4 := rfl
 have n1 : Int.toNat 16 = 16 := rfl
 simp only [sS, YN, yK, zk, yp, YZ, Xr, YD, wu, xO, wH, XW, Vm, dS, c0, c1, c2, n0, n1]
 have hne := h.ne
 have hd := h.dec
 refine ⟨fun h0 => by omega, fun _ => tB (p := 4) rfl h.len h.a (by decide) (fun h0 => ?_) (fun h0 h1 => ?_) fun h0 h1 => ?_⟩
 ·unfold wI XM
  rw [if_pos h0]; rfl
 ·have e : XM s 4 = -1 := by unfold XM; rw [if_neg (by omega), if_pos h1]
  unfold wI
  rw [e]; rfl
 have e4 : XM s 4 = 0 := by unfold XM; rw [if_neg (by omega), if_neg (by omega)]
 have e16 : wI s = XM s 16 := by unfold wI; rw [if_pos e4]
 rw [e16] at hd ⊢
 refine tB (p := 16) rfl h.len (h.b e4) (by decide) (fun h0 => ?_) (fun h0 h1 => ?_) fun h0 h1 => ?_
 ·unfold XM
  rw [if_pos h0]
 ·unfold XM
  rw [if_neg (by omega), if_pos h1]
 ·exact absurd (by unfold XM; rw [if_neg (by omega), if_neg (by omega)]) hd
def nY : List AV → Option (List zn × AV)
 | [x] => some ([.b (zD Tm x), .p (Jo (ZO (α := Tm) x))], .tup 2 (zw [.i (wI (ZO (α := Tm) x)), .i 0]))
 | _ => none
theorem Je {G : List (Nat × Obj)} (hG : Vh G) : zp Tryz.prog G 41 nY := by
 intro xs ps r h hp
 unfold nY at h
 split at h
 ·rename_i x
  cases h
  obtain ⟨q0, -⟩ := ZH hp
  have q1 : Jo (ZO (α := Tm) x) := hp _ (List.mem_cons_of_mem _ List.mem_cons_self)
  have hs := Pl hG.tab
  obtain ⟨_, t, fr, t2, fr2, G', rfl⟩ := hG
  exact weaken (ys := [_]) ⟨zG q0, trivial⟩ (zW mixed hs (Eq.mp (by kernel_rfl) (JQ t t2 fr fr2 G' (ZO (α := Tm) x) q1) : vV Tryz.prog (Hs ((2, Obj.cells zm t fr) :: (0, Obj.cells ZL t2 fr2) :: G')) 41 (Kw (ZO (α := Tm) x)) [ZE (ZO (α := Tm) x)] (.tup 2 (zw [.i (wI (ZO (α := Tm) x)), .i 0]))))
 ·cases h
structure iy (s t : List Tm) : Prop where
 fs : xh s
 ft : xh t
 made : wv (s ++ ZK (-1) t)
 sg : Jo (ZD (s ++ ZK (-1) t))
theorem JR (G : List (Nat × Obj)) (s t : List Tm) (h : iy s t) :
 let q1 := (AV.xl false 2 (lN s) fun i j => zU.enc (gD s i zU.dflt) j); let q2 := (AV.xl false 2 (lN t) fun i j => zU.enc (gD t i zU.dflt) j); let q3 := (ZO q2); let q4 := (ZO q1 ++ ZK (-1 : Rat) q3); let q6 := (ZD q4); let q5 := (AV.xl false 2 (lN q6) fun i j => zU.enc (gD q6 i zU.dflt) j); let q7 := (ZO q5); ZV [AV.xl false 2 (lN s) fun i j => zU.enc (gD s i zU.dflt) j, AV.xl false 2 (lN t) fun i j => zU.enc (gD t i zU.dflt) j] → bF (zD Tm q1) (bF (zD Tm q2) (xh (ZO q1) ∧ xh q3 ∧
 wv q4 ∧ bF (zD Tm q5) (Jo q7 ∧ j2 ∧ (True ∧ kI ∧ wI q7 = wI (ZD (s ++ ZK (-1 : Rat) t))) ∧ kI ∧ iZ = iZ))) := by
 delta bF kI j2 lN gD iZ
 dsimp only
 intro hb
 simp only [↓yZ, ↓Zj, row_one]
 simp only [sS, YN, yK, zk, yp, YZ, Xr, YD, wu, xO, wH, XW, Vm, dS]
 exact ⟨h.fs, h.ft, h.made, h.sg, rfl⟩
theorem kR {G : List (Nat × Obj)} (hG : Vh G) (s t : List Tm) (h : iy s t) : zt Tryz.prog G 23 [ZE s, ZE t] (.tup 2 (zw [.i (wI (ZD (s ++ ZK (-1) t))), .i 0])) :=
 zW (T := ((Wm G).plus 13 SV).plus 41 nY) (an := .auto) mixed (zz.plus (zz.plus zQ (mT hG.tab)) (Je hG)) (Eq.mp (by kernel_rfl) (JR G s t h))
end Go.Te

namespace Go.Te
open Go Go.Sx Go.Proofs Go.Ar
set_option maxRecDepth 100000
set_option maxHeartbeats 4000000
theorem mo {t : Tm} (h : Zf RM t) : mj (zT t.q) := by
 obtain ⟨b1, p1, d1, n1⟩ := wT h (by decide)
 refine ⟨(ZJ (by decide) (by decide)).2 (b1.mono (by decide)), by rw [zk]; exact p1, ?_⟩
 rw [zk]
 have a1 : xC t.q.num ≤ 8 := xR (by decide) b1.num
 have a2 : Lib.nDigits t.q.den ≤ 8 := (Zx (by decide)).2 b1.den
 omega
theorem kT {c : Rat} {L D k : Nat} (hL : 0 < L) (h : ∃ z : Int, c * (L : Rat) = (z : Rat) ∧ z.natAbs ≤ D) (h1 : D < 10 ^ k) (h2 : L < 10 ^ k) : bq k c := by
 obtain ⟨z, hz, hd⟩ := h
 have hd0 : (L : Rat) ≠ 0 := fun e => by have := Rat.natCast_eq_zero_iff.1 e; omega
 have e : c = mkRat z L := by rw [Rat.mkRat_eq_div, ← hz]; grind
 rw [e]
 exact tP hL (by omega) h2
theorem kB {l : List Tm} {L B : Nat} (hl : l.length ≤ 16) (hn : ∀ t ∈ l, Zf RM t) (hc : ∀ t ∈ l, bq 60 t.c) (hL : 0 < L) (hp : pg L B l) (h1 : B * RM < 10 ^ 60) (h2 : L * RM < 10 ^ 60) : wv l := by
 have hi : inT RM l := fun t ht => sJ (hn t ht)
 have hR : RM < 18446744073709551616 := by decide
 exact ⟨by omega, hc, fun t ht _ => mo (hn t ht), hi, qB hR hi hL hp h1 h2, Nat.le_trans (XX hR hi).2.1 hl⟩
def IL (L D : Nat) (l : List Tm) : Prop := ∀ t ∈ l, ∃ z : Int, t.c * (L : Rat) = (z : Rat) ∧ z.natAbs ≤ D
theorem M0 {l : List Tm} {R L D : Nat} (hl : l.length ≤ 16) (hR : R ≤ RM) (hn : ∀ t ∈ l, Zf R t) (hL : 0 < L) (hc : IL L D l) (h1 : 16 * (D * R) * RM < 10 ^ 60) (h2 : L * RM < 10 ^ 60) (hD : D < 10 ^ 60) : wv l := by
 have hn' : ∀ t ∈ l, Zf RM t := fun t ht => by obtain ⟨r, e, h0, h1⟩ := hn t ht; exact ⟨r, e, h0, Nat.le_trans h1 hR⟩
 have hl1 : L ≤ L * RM := Nat.le_mul_of_pos_right _ (by decide)
 exact kB hl hn' (fun t ht => kT hL (hc t ht) hD (by omega)) hL ((kv hn hc).mono (Nat.mul_le_mul_right _ hl)) h1 h2
theorem sj {l : List Tm} (h : wv l) : xh (ZD l) := by
 refine ⟨(XX (by decide) h.root).1, h.out, fun x hx => ?_⟩
 have h1 := (x8 (xw l)).mem_iff.1 hx
 have h2 := h.cls l.length
 rw [List.take_length] at h2
 exact h2 x (List.mem_filter.1 h1).1
def Ri (L R : List Tm) : List AV → Option (List zn × AV)
 | [x] => some ([.b (zD Tm x && decide (ZO (α := Tm) x = L))], .tup 2 (zw [ZE R, .i 0]))
 | _ => none
theorem Jw {G : List (Nat × Obj)} {f : FuncId} {L R : List Tm} (h : zt Tryz.prog G f [ZE L] (.tup 2 (zw [ZE R, .i 0]))) : zp Tryz.prog G f (Ri L R) := by
 intro xs ps r e hp
 unfold Ri at e
 split at e
 ·rename_i x
  cases e
  have q0 : (zD Tm x && decide (ZO (α := Tm) x = L)) = true := hp _ List.mem_cons_self
  rw [Bool.and_eq_true, decide_eq_true_iff] at q0
  exact weaken (ys := [_]) ⟨q0.2 ▸ zG q0.1, trivial⟩ h
 ·cases e
def T4 (L M R : List Tm) : List AV → Option (List zn × AV)
 | [x, y] => some ([.b (zD Tm x && decide (ZO (α := Tm) x = L)), .b (zD Tm y && decide (ZO (α := Tm) y = M))], .tup 2 (zw [ZE R, .i 0]))
 | _ => none
theorem nQ {G : List (Nat × Obj)} {f : FuncId} {L M R : List Tm} (h : zt Tryz.prog G f [ZE L, ZE M] (.tup 2 (zw [ZE R, .i 0]))) : zp Tryz.prog G f (T4 L M R) := by
 intro xs ps r e hp
 unfold T4 at e
 split at e
 ·rename_i x y
  cases e
  have q0 : (zD Tm x && decide (ZO (α := Tm) x = L)) = true := hp _ List.mem_cons_self
  have q1 : (zD Tm y && decide (ZO (α := Tm) y = M)) = true := hp _ (List.mem_cons_of_mem _ List.mem_cons_self)
  rw [Bool.and_eq_true, decide_eq_true_iff] at q0 q1
  exact weaken (ys := [_, _]) ⟨q0.2 ▸ zG q0.1, q1.2 ▸ zG q1.1, trivial⟩ h
 ·cases e
theorem JB {t : Tm} (h : (t.q.den = 1 ∧ 0 < t.q.num) ∧ t.q.num.natAbs ≤ RM) : Zf RM t := by
 exact ⟨t.q.num.natAbs, Rat.ext (by rw [Rat.num_natCast]; omega) (by rw [Rat.den_natCast]; exact h.1.1), by omega, h.2⟩
def NU (l : List Tm) : Bool := l.all fun t => (t.q.den == 1 && decide (0 < t.q.num)) && Nat.ble t.q.num.natAbs 1000 && decide ((t.c * 62).den = 1) && Nat.ble (t.c * 62).num.natAbs 1000
theorem xi {l : List Tm} (hl : l.length ≤ 16) (h : NU l = true) : wv l := by
 unfold NU at h
 rw [List.all_eq_true] at h
 have key : ∀ t ∈ l, Zf RM t ∧ ∃ z : Int, t.c * ((62 : Nat) : Rat) = (z : Rat) ∧ z.natAbs ≤ 1000 := fun t ht => by
  have := h t ht
  simp only [Bool.and_eq_true, beq_iff_eq, decide_eq_true_eq] at this
  obtain ⟨⟨⟨h1, h2⟩, h3⟩, h4⟩ := this
  have h2 := Nat.le_of_ble_eq_true h2
  have h4 := Nat.le_of_ble_eq_true h4
  refine ⟨JB ⟨h1, Nat.le_trans h2 (by decide)⟩, (t.c * 62).num, ?_, h4⟩
  exact Rat.ext rfl h3
 exact M0 (L := 62) (D := 1000) hl (Nat.le_refl _) (fun t ht => (key t ht).1) (by decide) (fun t ht => (key t ht).2) (by decide) (by decide) (by decide)
theorem IR : ZD [⟨1, 8⟩] = [⟨2, 2⟩] := by decide +kernel
theorem I7 : ZD [⟨1, 2⟩] = [⟨1, 2⟩] := by decide +kernel
theorem HJ : ZD ([⟨1, 2⟩] ++ [⟨2, 2⟩]) = [⟨3, 2⟩] := by decide +kernel
theorem HL : ZD (xu [⟨1, 2⟩] [⟨2, 2⟩]) = [⟨4, 1⟩] := by decide +kernel
abbrev mH : List Tm := [⟨1, 2⟩, ⟨1, 3⟩]
abbrev Nu : List Tm := [⟨1, 10⟩]
abbrev jz : List Tm := [⟨-1 / 62, 1⟩, ⟨1, 10⟩]
theorem Iw : ZD mH = mH ∧ ZD Nu = Nu ∧ ZD jz = jz := by decide +kernel
abbrev dY : List Tm := [⟨1, 2⟩, ⟨1, 3⟩, ⟨-1, 10⟩]
abbrev dZ : List Tm := [⟨1 / 62, 1⟩, ⟨1, 2⟩, ⟨1, 3⟩, ⟨-1, 10⟩]
theorem IV : ZD (mH ++ ZK (-1) Nu) = dY ∧ ZD (mH ++ ZK (-1) jz) = dZ := by decide +kernel
theorem wm {t : Tm} {p : Nat} (S r : Nat) (v : Int) (hS : Rt t p = S) (h1 : r * r ≤ S) (h2 : S < (r + 1) * (r + 1)) (hv : (if 0 ≤ t.c.num then ((r / t.c.den : Nat) : Int) else -(if r * r = S ∧ r % t.c.den = 0 then ((r / t.c.den : Nat) : Int) else ((r / t.c.den : Nat) : Int) + 1)) = v) : vh t p = v := by
 unfold vh
 rw [hS, ← sT h1 h2]
 exact hv
theorem HK : vh ⟨1 / 62, 1⟩ 4 = 161 ∧ vh ⟨1, 2⟩ 4 = 14142 ∧ vh ⟨1, 3⟩ 4 = 17320 ∧ vh ⟨-1, 10⟩ 4 = -31623 :=
 ⟨wm 100000000 10000 _ (by decide +kernel) (by decide) (by decide) (by decide +kernel), wm 200000000 14142 _ (by decide +kernel) (by decide) (by decide) (by decide +kernel),
  wm 300000000 17320 _ (by decide +kernel) (by decide) (by decide) (by decide +kernel), wm 1000000000 31622 _ (by decide +kernel) (by decide) (by decide) (by decide +kernel)⟩
theorem IH : vh ⟨1 / 62, 1⟩ 16 = 161290322580645 ∧ vh ⟨1, 2⟩ 16 = 14142135623730950 ∧ vh ⟨1, 3⟩ 16 = 17320508075688772 ∧ vh ⟨-1, 10⟩ 16 = -31622776601683794 :=
 ⟨wm 100000000000000000000000000000000 10000000000000000 _ (by decide +kernel) (by decide) (by decide) (by decide +kernel), wm 200000000000000000000000000000000 14142135623730950 _ (by decide +kernel) (by decide) (by decide) (by decide +kernel),
  wm 300000000000000000000000000000000 17320508075688772 _ (by decide +kernel) (by decide) (by decide) (by decide +kernel), wm 1000000000000000000000000000000000 31622776601683793 _ (by decide +kernel) (by decide) (by decide) (by decide +kernel)⟩
theorem IY : wI dY = -1 ∧ XM dZ 4 = 0 ∧ wI dZ = 1 := by
 obtain ⟨a1, a2, a3, a4⟩ := HK
 obtain ⟨b1, b2, b3, b4⟩ := IH
 have y4 : XM dY 4 = -1 := by
  unfold XM ZI
  simp only [List.map_cons, List.map_nil, List.sum_cons, List.sum_nil, a2, a3, a4]
  decide
 have z4 : XM dZ 4 = 0 := by
  unfold XM ZI
  simp only [List.map_cons, List.map_nil, List.sum_cons, List.sum_nil, a1, a2, a3, a4]
  decide
 have z16 : XM dZ 16 = 1 := by
  unfold XM ZI
  simp only [List.map_cons, List.map_nil, List.sum_cons, List.sum_nil, b1, b2, b3, b4]
  decide
 unfold wI
 rw [y4, z4, z16]
 decide
theorem IB : ∀ t ∈ dZ, ∀ p ∈ [(4 : Int), 16], Rt t p.toNat < 10 ^ 77 := by decide +kernel
theorem Ib {s : List Tm} (h0 : 0 < s.length) (hl : s.length ≤ 16) (h : NU s = true) (hf : ∀ t ∈ s, ∀ p ∈ [(4 : Int), 16], Rt t p.toNat < 10 ^ 77) (hne : ∀ t ∈ s, t.c ≠ 0) (hd : wI s ≠ 0) : Jo s := by
 have hm := xi hl h
 have key : ∀ t ∈ s, ∀ p ∈ [(4 : Int), 16], Qk t p := fun t ht p hp => by
  refine ⟨hne t ht, hm.cs t ht, ?_, ?_, hf t ht p hp⟩
  ·unfold NU at h
   have := (List.all_eq_true.1 h) t ht
   simp only [Bool.and_eq_true, beq_iff_eq, decide_eq_true_eq] at this
   exact JB ⟨this.1.1.1, Nat.le_trans (Nat.le_of_ble_eq_true this.1.1.2) (by decide)⟩
  ·revert p hp; decide
 exact ⟨h0, hl, fun t ht => key t ht 4 (by simp), fun _ t ht => key t ht 16 (by simp), hd⟩
theorem JO {s : List Tm} (hl : s.length ≤ 16) (h : NU s = true) (he : ZD s = s) : xh s := he ▸ sj (xi hl h)
theorem IC {G : List (Nat × Obj)} (hG : zo G) : zt Tryz.prog G 20 [ZE [(⟨1, 8⟩ : Tm)]] (.tup 2 (zw [ZE [(⟨2, 2⟩ : Tm)], .i 0])) := IR ▸ kQ hG [⟨1, 8⟩] (xi (by decide) (by decide +kernel))
theorem IP {G : List (Nat × Obj)} (hG : zo G) : zt Tryz.prog G 12 [ZE [(⟨1, 2⟩ : Tm)], ZE [(⟨2, 2⟩ : Tm)]] (.tup 2 (zw [ZE [(⟨3, 2⟩ : Tm)], .i 0])) :=
 HJ ▸ NR hG [⟨1, 2⟩] [⟨2, 2⟩] (JO (by decide) (by decide +kernel) I7) (IR ▸ sj (xi (by decide) (by decide +kernel))) (xi (by decide) (by decide +kernel))
theorem Il {G : List (Nat × Obj)} (hG : zo G) : zt Tryz.prog G 16 [ZE [(⟨1, 2⟩ : Tm)], ZE [(⟨2, 2⟩ : Tm)]] (.tup 2 (zw [ZE [(⟨4, 1⟩ : Tm)], .i 0])) :=
 HL ▸ iG hG [⟨1, 2⟩] [⟨2, 2⟩] (JO (by decide) (by decide +kernel) I7) (IR ▸ sj (xi (by decide) (by decide +kernel))) (xi (by decide) (by decide +kernel))
theorem Ik {G : List (Nat × Obj)} (hG : Vh G) : zt Tryz.prog G 23 [ZE mH, ZE Nu] (.tup 2 (zw [.i (-1), .i 0])) := by
 have h := kR hG mH Nu ⟨JO (by decide) (by decide +kernel) Iw.1, JO (by decide) (by decide +kernel) Iw.2.1, xi (by decide) (by decide +kernel), by
  rw [IV.1]
  exact Ib (by decide) (by decide) (by decide +kernel) (fun t ht => IB t (List.mem_cons_of_mem _ ht)) (by decide +kernel) (by rw [IY.1]; decide)⟩
 rw [IV.1, IY.1] at h
 exact h
theorem II {G : List (Nat × Obj)} (hG : Vh G) : zt Tryz.prog G 23 [ZE mH, ZE jz] (.tup 2 (zw [.i 1, .i 0])) := by
 have h := kR hG mH jz ⟨JO (by decide) (by decide +kernel) Iw.1, JO (by decide) (by decide +kernel) Iw.2.2, xi (by decide) (by decide +kernel), by
  rw [IV.2]
  exact Ib (by decide) (by decide) (by decide +kernel) IB (by decide +kernel) (by rw [IY.2.2]; decide)⟩
 rw [IV.2, IY.2.2] at h
 exact h
def RH : List AV → Option (List zn × AV)
 | [x, y] => some ([.b (zD Tm x && decide (ZO (α := Tm) x = mH)), .b (zD Tm y && (decide (ZO (α := Tm) y = Nu) || decide (ZO (α := Tm) y = jz)))], .tup 2 (zw [.i (if ZO (α := Tm) y = Nu then -1 else 1), .i 0]))
 | _ => none
theorem KC {G : List (Nat × Obj)} (hG : Vh G) : zp Tryz.prog G 23 RH := by
 intro xs ps r e hp
 unfold RH at e
 split at e
 ·rename_i x y
  cases e
  have q0 : (zD Tm x && decide (ZO (α := Tm) x = mH)) = true := hp _ List.mem_cons_self
  have q1 : (zD Tm y && (decide (ZO (α := Tm) y = Nu) || decide (ZO (α := Tm) y = jz))) = true := hp _ (List.mem_cons_of_mem _ List.mem_cons_self)
  rw [Bool.and_eq_true, decide_eq_true_iff] at q0
  rw [Bool.and_eq_true, Bool.or_eq_true, decide_eq_true_iff, decide_eq_true_iff] at q1
  have hx := zG (α := Tm) q0.1
  have hy := zG (α := Tm) q1.1
  rw [q0.2] at hx
  by_cases hY : ZO (α := Tm) y = Nu
  ·rw [if_pos hY]
   rw [hY] at hy
   exact weaken (ys := [_, _]) ⟨hx, hy, trivial⟩ (Ik hG)
  ·rw [if_neg hY]
   rw [q1.2.resolve_left hY] at hy
   exact weaken (ys := [_, _]) ⟨hx, hy, trivial⟩ (II hG)
 ·cases e
def ky  : yW :=
 .two .auto (.two .auto (.two (.two .auto (.one (.unroll 3 .auto))) .auto))
noncomputable def IA (G : List (Nat × Obj)) : Tb := (((((Wm G).plus 20 (Ri [⟨1, 8⟩] [⟨2, 2⟩])).plus 12 (T4 [⟨1, 2⟩] [⟨2, 2⟩] [⟨3, 2⟩])).plus 16 (T4 [⟨1, 2⟩] [⟨2, 2⟩] [⟨4, 1⟩])).plus 23 RH).body Tryz.prog [(39, ky), (21, .auto)]
theorem pB {G : List (Nat × Obj)} (hG : Vh G) : zz Tryz.prog (IA G) := zz.body mixed (zz.plus (zz.plus (zz.plus (zz.plus zQ (Jw (IC hG.tab))) (nQ (IP hG.tab))) (nQ (Il hG.tab))) (KC hG)) _
theorem Km (G : List (Nat × Obj)) :
 ZV [] → (bif bif bif iZ == iZ then iZ == iZ else false then (if ZO (AV.xl true 2 1 (Sx.rowAt [zw [AV.str (bA #[(49 : UInt8)]), AV.str (bA #[(49 : UInt8), (48 : UInt8)])]])) = Nu then (-1 : Int) else iO) == (-1 : Int) else false then (if ZO (AV.xl true 2 2 (Sx.rowAt [zw [AV.str (bA #[(45 : UInt8), (49 : UInt8), (47 : UInt8), (54 : UInt8), (50 : UInt8)]), AV.str (bA #[(49 : UInt8)])],
 zw [AV.str (bA #[(49 : UInt8)]), AV.str (bA #[(49 : UInt8), (48 : UInt8)])]])) = Nu then (-1 : Int) else iO) == iO else false) = true := by
 delta bA iZ iO
 intro hb
 decide +kernel
def NT : List AV → Option (List zn × AV)
 | [] => some ([], .b true)
 | _ => none
theorem iQ {G : List (Nat × Obj)} (hG : Vh G) : zp Tryz.prog G 15 NT := by
 intro xs ps r e hp
 unfold NT at e
 split at e
 ·cases e
  exact zW mixed (pB hG) (Eq.mp (by kernel_rfl) (Km G) : vV Tryz.prog (IA G) 15 .auto [] (.b true))
 ·cases e
end Go.Te
