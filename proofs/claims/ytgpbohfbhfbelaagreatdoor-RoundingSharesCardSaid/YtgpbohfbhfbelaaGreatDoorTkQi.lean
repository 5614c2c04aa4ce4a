/- surd: floor, sign. -/
import Derived.Test.YtgpbohfbhfbelaaGreatDoorTkQg
set_option linter.unusedSimpArgs false
set_option linter.unusedVariables false
namespace Go.Te
open Go Go.Sx Go.Proofs Go.Ar
set_option maxRecDepth 100000
set_option maxHeartbeats 4000000
theorem MH {x j k : Nat} (hx : x < 10 ^ j) (hj : j ≤ k) : x < 10 ^ k := Nat.lt_of_lt_of_le hx (Nat.pow_le_pow_right (Nat.succ_pos 9) hj)
theorem tE {a : Int} (h : a.natAbs < 10 ^ 300) : ZU (Lib.itoa a) = 0 := by
 rw [Ym]
 exact x6 h (by decide) (by decide)
theorem Y6 (f : Int → Int → Int) {a b : Int} (ha : a.natAbs < 10 ^ 300) (hb : b.natAbs < 10 ^ 300) (h : (f a b).natAbs < 10 ^ 300) : Z5 f (Lib.itoa a) (Lib.itoa b) = Lib.itoa (f a b) := by
 rw [(wP (f := f) (tE ha) (tE hb)).2, (za a).2, (za b).2]
 exact (Zp (k := 300) (by decide) (by decide) h).1
theorem sT {a d : Nat} (ha : a < 10 ^ 300) (hd : d < 10 ^ 300) (h0 : 0 < d) : yP (Lib.itoa (a : Int)) (Lib.itoa (d : Int)) = Lib.itoa ((a / d : Nat) : Int) ∧ WQ (Lib.itoa (a : Int)) (Lib.itoa (d : Int)) = Lib.itoa ((a % d : Nat) : Int) := by
 have e : xC (Lib.itoa (a : Int)) (Lib.itoa (d : Int)) = 0 := by
  unfold xC zb
  rw [tE (by rw [Int.natAbs_natCast]; exact ha), tE (by rw [Int.natAbs_natCast]; exact hd), qU (by omega)]
  rfl
 obtain ⟨e1, e2⟩ := rp e
 rw [e1, e2, (za _).2, (za _).2, Int.fdiv_eq_ediv_of_nonneg _ (by omega), Int.fmod_eq_emod_of_nonneg _ (by omega)]
 exact ⟨by rw [Int.natCast_ediv], by rw [Int.natCast_emod]⟩
theorem U1 {a b : Int} : (Lib.itoa a == Lib.itoa b) = decide (a = b) := by
 rw [Bool.eq_iff_iff, beq_iff_eq, decide_eq_true_iff]
 exact ⟨fun h => by rw [← (za a).2, h, (za b).2], fun h => by rw [h]⟩
theorem TK (n : Int) : (((Lib.itoa n).getD 0 0).toNat : Int) = 45 ↔ n < 0 := by
 constructor
 ·intro h
  refine Int.not_le.1 fun h0 => ?_
  obtain ⟨m, rfl⟩ : ∃ m : Nat, n = m := ⟨n.toNat, by omega⟩
  rw [Go.Ar.Z0] at h
  have hd := (Zt.1 (Yp m))
  match hq : Lib.decDigits m, hd with
  | c :: r, hd =>
   have h1 := Yu.1 (hd.2.1 c List.mem_cons_self)
   rw [hq] at h
   have h : (c.toNat : Int) = 45 := h
   have h2 : c = 45 := UInt8.toNat.inj (by show c.toNat = 45; omega)
   rw [h2] at h1
   exact absurd h1.1 (by decide)
 ·intro h
  have := Go.Ar.itoa_neg (n := n.natAbs) (by omega)
  rw [show -((n.natAbs : Nat) : Int) = n by omega] at this
  rw [this]; rfl
theorem ZD {n : Int} {k : Nat} (hk : 0 < k) (h : n.natAbs < 10 ^ k) : (Lib.itoa n).length ≤ k + 1 ∧ 0 < (Lib.itoa n).length := by
 have h1 := x5 hk h
 have h2 := tV n
 rw [XK]
 split <;> omega
def Ve (t : Tm) (p : Nat) : Nat := t.c.num.natAbs * t.c.num.natAbs * mQ t.q * 10 ^ (2 * p)
def S4 (t : Tm) (p : Nat) : Int :=
 if 0 ≤ t.c.num then ((Z7 (Ve t p) / t.c.den : Nat) : Int)
 else -(if Z7 (Ve t p) * Z7 (Ve t p) = Ve t p ∧ Z7 (Ve t p) % t.c.den = 0 then ((Z7 (Ve t p) / t.c.den : Nat) : Int) else ((Z7 (Ve t p) / t.c.den : Nat) : Int) + 1)
structure Qq (t : Tm) (p : Int) : Prop where
 ne : t.c ≠ 0
 bc : bq 60 t.c
 nat : yw RM t
 pl : 0 ≤ p ∧ p ≤ 64
 sq : Ve t p.toNat < 10 ^ 215
noncomputable def EN (G : List (Nat × Obj)) : Tb := (((((((Xz G).plus 155 TR).plus 43 Wc).plus 89 tH).plus 152 oz).plus 104 V4).plus 47 tg).plus 49 Rm
theorem nB {G : List (Nat × Obj)} (hG : zO G) : zz Tryz.prog (EN G) := zz.plus (zz.plus (zz.plus (zz.plus (zz.plus (zz.plus (zz.plus zr (rq hG)) (uu hG)) (zQ.mono Pn)) (JP hG)) (rB hG)) (PO hG)) (lH hG)
def MA : List AV → Option (List zN × AV)
 | [x_t, .v (.int .i64 p)] => some ([.b (yo Tm x_t), .p (Qq (yR (α := Tm) x_t) p)], .str (Lib.itoa (S4 (yR (α := Tm) x_t) p.toNat)))
 | _ => none
theorem IJ (G : List (Nat × Obj)) (t : Tm) (p : Int) (h : Qq t p) :
 let q1 := (Lib.itoa (Rat.num (zP (zu (Tm.c t))))); let q2 := (Z5 (fun (x1 x2 : Int) => x1 * x2) q1 q1); let q3 := (Z5 (fun (x1 x2 : Int) => x1 * x2) q2 (zu (Tm.q t))); let q5 := (ByteArray.data (ByteArray.mk #[(49 : UInt8)])); let q4 := (Array.toList q5 ++ List.replicate (Int.toNat ((2 : Int) * p)) (48 : UInt8)); let q6 := (Z5 (fun (x1 x2 : Int) => x1 * x2) q3 q4); let q7 := (Lib.itoa (cI (Z7 (Int.toNat (zX q6))))); let q8 := (Lib.itoa (cI (Rat.den (zP (zu (Tm.c t)))))); let q9 := (ByteArray.data (ByteArray.mk #[(48 : UInt8)])); let q10 := (yP q7 q8); let q11 := (Z5
 (fun (x1 x2 : Int) => x1 + x2) q10 (Array.toList q5)); let q12 := (Array.toList q9); zB [AV.agg 2 (zR.enc t), aI p] → yX 300 (zu (Tm.c t)) ∧ lN q1 ≤ nM ∧ lN q1 ≤ nM ∧ lN q2 ≤ nM ∧ lN (zu (Tm.q t)) ≤ nM ∧ bF (dK ((2 : Int) * p)) ((iZ ≤ (2 : Int) * p ∧ (2 : Int) * p ≤ (1000000 : Int)) ∧ bF (DB.db (1 + lN (List.replicate (Int.toNat ((2 : Int) * p)) (48 : UInt8)) ≤ nX)) (lN q3 ≤ nM ∧ lN q4 ≤ nM ∧ Zy q6 = true ∧ (0 :
 Int) ≤ zX q6 ∧ lN q6 ≤ 216 ∧ lN q7 ≤ nM ∧ lN q8 ≤ nM ∧ bF (DB.db (iZ ≤ iZ ∧ iZ < (lZ q1))) (zZ ((cI (UInt8.toNat (gD q1 0 (0 : UInt8)))) != (45 : Int)) (yP q7 q8 = Lib.itoa (S4 t (Int.toNat p))) (lN q7 ≤ nM ∧ lN q7 ≤ nM ∧ bF (!zS false !Z5 (fun (x1 x2 : Int) => x1 * x2) q7 q7 == Z5 (fun (x1 x2 : Int) => x1 * x2) q3 q4 || zS false !Z5 (fun (x1 x2 : Int) => x1 * x2) q7 q7 == Z5 (fun (x1 x2 : Int) => x1 * x2) q3 q4) (bF (!!!Z5 (fun (x1 x2 :
 Int) => x1 * x2) q7 q7 == Z5 (fun (x1 x2 : Int) => x1 * x2) q3 q4 || zS false !Z5 (fun (x1 x2 : Int) => x1 * x2) q7 q7 == Z5 (fun (x1 x2 : Int) => x1 * x2) q3 q4) (zZ (bif !Z5 (fun (x1 x2 : Int) => x1 * x2) q7 q7 == Z5 (fun (x1 x2 : Int) => x1 * x2) q3 q4 then true else !WQ q7 q8 == Array.toList q9) (lN q10 ≤ nM ∧ 1 ≤ nM ∧ 1 ≤ nM ∧ lN q11 ≤ nM ∧ Z5 (fun (x1 x2 : Int) => x1 - x2) q12 q11 = Lib.itoa (S4 t (Int.toNat p))) (1 ≤ nM ∧ lN q10 ≤ nM ∧ Z5 (fun (x1 x2 : Int) => x1 - x2) q12 q10 = Lib.itoa (S4 t
 (Int.toNat p))))))))) := by
 delta bF dK nX nM cI lZ lN gD iZ aI
 dsimp only
 intro hb
 simp only [sS, Z2, ZL, zn, ZQ, xi, YU, yx, Yn, yp, YH, ym, UF, dS]
 obtain ⟨b1, p1, d1, n1⟩ := WI h.nat (by decide)
 obtain ⟨e, m0, mR⟩ := h.nat.mQ
 have E2 : zu t.q = Lib.itoa ((mQ t.q : Nat) : Int) := (congrArg zu e).trans (Xn _)
 have o1 : yX 300 (zu t.c) := (Zm (by decide) (by decide)).2 (h.bc.mono (by decide))
 obtain ⟨p, rfl⟩ : ∃ q : Nat, p = q := ⟨p.toNat, by have := h.pl; omega⟩
 have hp := h.pl
 have hS := h.sq
 have hn0 : t.c.num ≠ 0 := fun e => h.ne (Rat.num_eq_zero.1 e)
 have hN := h.bc.num
 have hD := h.bc.den
 have hd0 := t.c.den_pos
 rw [Int.toNat_natCast] at hS
 rw [Int.toNat_natCast, E2]
 unfold S4
 have ek : (2 * (p : Int)).toNat = 2 * p := by omega
 rw [ek]
 obtain ⟨t1, t2⟩ := rS (2 * p)
 have et : ([49] ++ List.replicate (2 * p) 48 : zj) = Lib.itoa ((10 ^ (2 * p) : Nat) : Int) := by rw [← t2, Yt t1]; rfl
 have eS : Ve t p = t.c.num.natAbs * t.c.num.natAbs * mQ t.q * 10 ^ (2 * p) := rfl
 have hT0 : 0 < 10 ^ (2 * p) := Nat.pow_pos (by omega)
 have hT1 : 10 ^ (2 * p) < 10 ^ 129 := Nat.pow_lt_pow_right (by omega) (by omega)
 have lrep : (List.replicate (2 * p) (48 : UInt8)).length = 2 * p := List.length_replicate
 generalize 10 ^ (2 * p) = T at *
 have hm9 : mQ t.q < 10 ^ 9 := Nat.lt_of_le_of_lt mR (by decide)
 generalize mQ t.q = m at *
 generalize t.c.num = n at *
 generalize t.c.den = d at *
 generalize Ve t p = S at *
 have hNN : n.natAbs * n.natAbs < 10 ^ 120 := YV (j := 60) (k := 60) hN hN
 have hNM : n.natAbs * n.natAbs * m < 10 ^ 129 := YV (j := 120) (k := 9) hNN hm9
 have up : ∀ {x j : Nat}, x < 10 ^ j → j ≤ 300 → x < 10 ^ 300 := fun hx hj => MH (k := 300) hx hj
 have nn : n * n = ((n.natAbs * n.natAbs : Nat) : Int) := Int.natAbs_mul_self.symm
 have E1 : Z5 (fun x1 x2 => x1 * x2) (Lib.itoa n) (Lib.itoa n) = Lib.itoa ((n.natAbs * n.natAbs : Nat) : Int) := by
  rw [Y6 _ (up hN (by omega)) (up hN (by omega)) (by rw [nn, Int.natAbs_natCast]; exact up hNN (by omega)), nn]
 have E3 : Z5 (fun x1 x2 => x1 * x2) (Lib.itoa ((n.natAbs * n.natAbs : Nat) : Int)) (Lib.itoa (m : Int)) = Lib.itoa ((n.natAbs * n.natAbs * m : Nat) : Int) := by
  rw [Y6 _ (by rw [Int.natAbs_natCast]; exact up hNN (by omega)) (by rw [Int.natAbs_natCast]; exact up hm9 (by omega)) (by rw [← Int.natCast_mul, Int.natAbs_natCast]; exact up hNM (by omega)), ← Int.natCast_mul]
 have E5 : Z5 (fun x1 x2 => x1 * x2) (Lib.itoa ((n.natAbs * n.natAbs * m : Nat) : Int)) (Lib.itoa (T : Int)) = Lib.itoa (S : Int) := by
  rw [Y6 _ (by rw [Int.natAbs_natCast]; exact up hNM (by omega)) (by rw [Int.natAbs_natCast]; exact up hT1 (by omega)) (by rw [← Int.natCast_mul, ← eS, Int.natAbs_natCast]; exact up hS (by omega)), ← Int.natCast_mul, ← eS]
 have hS0 : 0 < S := by
  rw [eS]
  have := Nat.mul_pos (show 0 < n.natAbs by omega) (show 0 < n.natAbs by omega)
  exact Nat.mul_pos (Nat.mul_pos this m0) hT0
 have ltn := ZD (n := n) (k := 60) (by decide) hN
 have lnn := ZD (n := ((n.natAbs * n.natAbs : Nat) : Int)) (k := 120) (by decide) (by rw [Int.natAbs_natCast]; exact hNN)
 have lm := ZD (n := (m : Int)) (k := 9) (by decide) (by rw [Int.natAbs_natCast]; exact hm9)
 have lnm := ZD (n := ((n.natAbs * n.natAbs * m : Nat) : Int)) (k := 129) (by decide) (by rw [Int.natAbs_natCast]; exact hNM)
 have lT := ZD (n := (T : Int)) (k := 129) (by decide) (by rw [Int.natAbs_natCast]; exact hT1)
 have lS := ZD (n := (S : Int)) (k := 215) (by decide) (by rw [Int.natAbs_natCast]; exact hS)
 have hr : Z7 S < 10 ^ 215 := Nat.lt_of_le_of_lt (Ow S) hS
 have hrr : Z7 S * Z7 S ≤ S := (wx S).1
 have lr := ZD (n := (Z7 S : Int)) (k := 215) (by decide) (by rw [Int.natAbs_natCast]; exact hr)
 have ld := ZD (n := (d : Int)) (k := 60) (by decide) (by rw [Int.natAbs_natCast]; exact hD)
 obtain ⟨v1, v2⟩ := sT (up hr (by omega)) (up hD (by omega)) hd0
 rw [et, E1, E3, E5, (za (S : Int)).2, Int.toNat_natCast, v1, v2, lrep]
 have hq : Z7 S / d < 10 ^ 215 := Nat.lt_of_le_of_lt (Nat.div_le_self _ _) hr
 generalize Z7 S / d = q at *
 generalize Z7 S % d = rr at *
 generalize Z7 S = r at *
 have E6 : Z5 (fun x1 x2 => x1 * x2) (Lib.itoa (r : Int)) (Lib.itoa (r : Int)) = Lib.itoa ((r * r : Nat) : Int) := by
  rw [Y6 _ (by rw [Int.natAbs_natCast]; exact up hr (by omega)) (by rw [Int.natAbs_natCast]; exact up hr (by omega)) (by rw [← Int.natCast_mul, Int.natAbs_natCast]; exact up (Nat.lt_of_le_of_lt hrr hS) (by omega)), ← Int.natCast_mul]
 have one : ([49] : zj) = Lib.itoa 1 := by decide +kernel
 have zer : ([48] : zj) = Lib.itoa 0 := by decide +kernel
 have e300 : ∀ k : Nat, k < 10 ^ 216 → (k : Int).natAbs < 10 ^ 300 := fun k hk => by rw [Int.natAbs_natCast]; exact up hk (by omega)
 have big : (1 : Int).natAbs < 10 ^ 300 := up (j := 1) (show (1 : Int).natAbs < 10 ^ 1 by decide) (by omega)
 have h78 : ∀ k : Nat, k < 10 ^ 215 → k + 1 < 10 ^ 216 := fun k hk => by
  have : (10 : Nat) ^ 216 = 10 ^ 215 * 10 := rfl
  omega
 have E7 : Z5 (fun x1 x2 => x1 + x2) (Lib.itoa ((q : Nat) : Int)) [49] = Lib.itoa ((q : Int) + 1) := by
  rw [one, Y6 (fun x1 x2 => x1 + x2) (e300 _ (Nat.lt_trans (Nat.lt_succ_self _) (h78 _ hq))) big (by
   show ((q : Int) + 1).natAbs < 10 ^ 300
   have := up (h78 _ hq) (by omega)
   omega)]
 have E8 : ∀ z : Nat, z < 10 ^ 216 → Z5 (fun x1 x2 => x1 - x2) [48] (Lib.itoa (z : Int)) = Lib.itoa (-(z : Int)) := fun z hz => by
  rw [zer, Y6 (fun x1 x2 => x1 - x2) (up (j := 1) (show (0 : Int).natAbs < 10 ^ 1 by decide) (by omega)) (e300 _ hz) (by
   show (0 - (z : Int)).natAbs < 10 ^ 300
   have := up hz (by omega)
   omega)]
  show Lib.itoa (0 - (z : Int)) = _
  rw [Int.zero_sub]
 have lq := ZD (n := ((q : Nat) : Int)) (k := 215) (by decide) (by rw [Int.natAbs_natCast]; exact hq)
 have lq1 := ZD (n := ((q : Nat) : Int) + 1) (k := 216) (by decide) (by have := h78 _ hq; omega)
 have e45 := TK n
 rw [E6, E7]
 refine ⟨o1, by omega, by omega, by omega, by omega, by simp only [ZB]; omega, ⟨by omega, by omega⟩, by omega, by omega, by omega, (za _).1, by omega, by omega, by omega, by omega, ⟨by omega, by omega⟩, fun h5 => ?_, fun h5 => ⟨by omega, by omega, ?_⟩⟩
 ·have hn : 0 ≤ n := Int.not_lt.1 fun e => h5 (e45.2 e)
  rw [if_pos hn]
 ·have hn : ¬ 0 ≤ n := Int.not_le.2 (e45.1 h5)
  rw [if_neg hn, zer, U1, U1]
  refine zY.2 ⟨fun c => ?_, fun c => ?_⟩
  ·have c' : ¬(r * r = S ∧ rr = 0) := fun e => by
    rw [decide_eq_true (show ((r * r : Nat) : Int) = (S : Int) by rw [e.1]), decide_eq_true (show (rr : Int) = 0 by omega)] at c
    cases c
   have e9 := E8 (q + 1) (h78 _ hq)
   rw [if_neg c']
   rw [zer, Int.natCast_add] at e9
   exact ⟨by omega, by omega, by omega, by omega, e9⟩
  ·have c' : r * r = S ∧ rr = 0 := by
    simp only [Bool.or_eq_false_iff, Bool.not_eq_false', decide_eq_true_eq] at c
    exact ⟨by have := c.1; omega, by have := c.2; omega⟩
   have e9 := E8 q (Nat.lt_trans (Nat.lt_succ_self _) (h78 _ hq))
   rw [if_pos c']
   rw [zer] at e9
   exact ⟨by omega, by omega, e9⟩
theorem GQ {G : List (Nat × Obj)} (hG : zO G) (t : Tm) (p : Int) (h : Qq t p) : zv Tryz.prog G 187 [yD t, .i p] (.str (Lib.itoa (S4 t p.toNat))) :=
 zW (T := EN G) (an := .auto) mixed (nB hG) (Eq.mp (by kernel_rfl) (IJ G t p h))
theorem fj {G : List (Nat × Obj)} (hG : zO G) : zQ Tryz.prog G 187 MA := by
 intro xs ps r h hp
 unfold MA at h
 split at h
 ·skip
  rename_i x_t p
  cases h
  obtain ⟨q0, q1, -⟩ := ZT hp
  exact weaken (ys := [yD (yR (α := Tm) x_t), .i p]) ⟨zD q0, zV _, trivial⟩ (GQ hG (yR (α := Tm) x_t) p q1)
 ·cases h
def Zi : Array Value := #[.int .i64 4, .int .i64 16, .int .i64 64]
def xx (G : List (Nat × Obj)) : Prop := zO G ∧ ∃ t fr t2 fr2 G', G = (1, Obj.cells zK t fr) :: (0, Obj.cells Zi t2 fr2) :: G'
theorem xx.tab {G : List (Nat × Obj)} (h : xx G) : zO G := h.1
def Zk (s : List Tm) (p : Nat) : Int := (s.map fun t => S4 t p).sum
noncomputable def eG (G : List (Nat × Obj)) : Tb := ((((Xz G).plus 187 MA).plus 47 tg).plus 34 rt)
theorem nO {G : List (Nat × Obj)} (hG : zO G) : zz Tryz.prog (eG G) := zz.plus (zz.plus (zz.plus zr (fj hG)) (PO hG)) (M6 hG)
theorem nq {s : List Tm} {z : Nat} (h : z < s.length) (p : Nat) : Zk (s.take (z + 1)) p = Zk (s.take z) p + S4 (s.getD z zR.dflt) p := by
 unfold Zk
 rw [SQ h, List.map_append, List.sum_append]
 simp
def YE (s : List Tm) (p : Nat) : Int := if 0 < Zk s p then 1 else if Zk s p + s.length < 0 then -1 else 0
def wh (s : List Tm) : Int := if YE s 4 = 0 then (if YE s 16 = 0 then YE s 64 else YE s 16) else YE s 4
structure gG (s : List Tm) : Prop where
 ne : 0 < s.length
 len : s.length ≤ 16
 a : ∀ t ∈ s, Qq t 4
 b : YE s 4 = 0 → ∀ t ∈ s, Qq t 16
 c : YE s 4 = 0 → YE s 16 = 0 → ∀ t ∈ s, Qq t 64
 dec : wh s ≠ 0
theorem MV {t : Tm} {P : Int} (h : Qq t P) : (S4 t P.toNat).natAbs < 10 ^ 217 := by
 have h1 : Z7 (Ve t P.toNat) < 10 ^ 215 := Nat.lt_of_le_of_lt (Ow _) h.sq
 have h2 : Z7 (Ve t P.toNat) / t.c.den < 10 ^ 215 := Nat.lt_of_le_of_lt (Nat.div_le_self _ _) h1
 have e : (10 : Nat) ^ 217 = 10 ^ 215 * 100 := rfl
 unfold S4
 generalize Z7 (Ve t P.toNat) / t.c.den = q at *
 split
 ·omega
 ·split <;> omega
theorem kC {s : List Tm} {P : Int} (hl : s.length ≤ 16) (h : ∀ t ∈ s, Qq t P) (z : Nat) : (Zk (s.take z) P.toNat).natAbs < 10 ^ 220 := by
 have key : ∀ l : List Tm, (∀ t ∈ l, Qq t P) → (Zk l P.toNat).natAbs ≤ l.length * 10 ^ 217 := by
  intro l
  induction l with
  | nil => intro _; simp [Zk]
  | cons t l ih =>
   intro hl
   have h1 := MV (hl t List.mem_cons_self)
   have h2 := ih fun x hx => hl x (List.mem_cons_of_mem _ hx)
   have e : Zk (t :: l) P.toNat = S4 t P.toNat + Zk l P.toNat := by unfold Zk; simp
   rw [e, List.length_cons, Nat.add_mul]
   have := Int.natAbs_add_le (S4 t P.toNat) (Zk l P.toNat)
   omega
 have h1 := key (s.take z) fun t ht => h t (List.mem_of_mem_take ht)
 have h2 : (s.take z).length * 10 ^ 217 ≤ 16 * 10 ^ 217 := Nat.mul_le_mul_right _ (by rw [List.length_take]; omega)
 have e : (10 : Nat) ^ 220 = 1000 * 10 ^ 217 := rfl
 omega
theorem cmp0 {x : Int} (h : x.natAbs < 10 ^ 300) : Yy (Lib.itoa x) [48] = Yh x 0 := by
 unfold Yy zb
 rw [tE h, (za x).2]
 rfl
theorem T7 (x : Int) : (0 < Yh x 0 ↔ 0 < x) ∧ zM (Yh x 0) 0 = zM x 0 ∧ (Yh x 0 == 0) = (x == 0) := by
 unfold Yh
 cases h1 : zM x 0 with
 | true =>
  have := (zq _ _).1 h1
  exact ⟨⟨fun h => absurd h (show ¬ (0 : Int) < -1 by decide), fun h => by omega⟩, rfl, by rw [show (x == 0) = false from beq_eq_false_iff_ne.2 (by omega)]; rfl⟩
 | false =>
  have h1 : ¬ x < 0 := fun e => by rw [(zq _ _).2 e] at h1; cases h1
  cases h2 : x == 0 with
  | true => have := beq_iff_eq.1 h2; exact ⟨⟨fun h => absurd h (by decide), fun h => by omega⟩, rfl, rfl⟩
  | false => have := beq_eq_false_iff_ne.1 h2; exact ⟨⟨fun _ => by omega, fun _ => by decide⟩, rfl, rfl⟩
theorem VB {s : List Tm} {p : Nat} {P k V : Int} (hP : P.toNat = p) (hl : s.length ≤ 16) (hf : ∀ t ∈ s, Qq t P) (hk : 0 ≤ k ∧ k ≤ 3) (h3k : k = 3 → Zk s p + s.length ≠ 0) {NEXT : Prop} (h1 : 0 < Zk s p → 1 = V) (h2 : Zk s p ≤ 0 → Zk s p + s.length < 0 → -1 = V) (h3 : Zk s p ≤ 0 → 0 ≤ Zk s p + s.length → NEXT) :
  (∃ z : Nat, z ≤ s.length ∧ [48] = Lib.itoa (Zk (List.take z s) p) ∧ (0 : Int) = (z : Int)) ∧
   ∀ z : Nat, z ≤ s.length →
    ((z : Int) < (s.length : Int) → (0 ≤ (z : Int) ∧ (z : Int) < (s.length : Int)) ∧ Qq (s.getD z zR.dflt) P ∧ (Lib.itoa (Zk (List.take z s) p)).length ≤ 4294967280 ∧ (Lib.itoa (S4 (s.getD z zR.dflt) p)).length ≤ 4294967280 ∧ ZB IntKind.i64 ((z : Int) + 1) ∧
      ∃ z' : Nat, (z' ≤ s.length ∧ s.length - z' < s.length - z) ∧ Z5 (fun x1 x2 => x1 + x2) (Lib.itoa (Zk (List.take z s) p)) (Lib.itoa (S4 (s.getD z zR.dflt) p)) = Lib.itoa (Zk (List.take z' s) p) ∧ (z : Int) + 1 = (z' : Int)) ∧
     ((s.length : Int) ≤ (z : Int) → (Lib.itoa (Zk (List.take z s) p)).length ≤ 4294967280 ∧ 1 ≤ 4294967280 ∧
       (0 < Yy (Lib.itoa (Zk (List.take z s) p)) [48] → 2 = [AV.junk, AV.junk].length ∧ 1 = V) ∧
        (Yy (Lib.itoa (Zk (List.take z s) p)) [48] ≤ 0 →
         (∃ z_1 : Nat, z_1 ≤ s.length ∧ Lib.itoa (Zk (List.take z s) p) = Lib.itoa (Zk s p + (z_1 : Int)) ∧ (0 : Int) = (z_1 : Int)) ∧
          ∀ z : Nat, z ≤ s.length →
           ((z : Int) < (s.length : Int) → (Lib.itoa (Zk s p + (z : Int))).length ≤ 4294967280 ∧ 1 ≤ 4294967280 ∧ ZB IntKind.i64 ((z : Int) + 1) ∧
             ∃ z' : Nat, (z' ≤ s.length ∧ s.length - z' < s.length - z) ∧ Z5 (fun x1 x2 => x1 + x2) (Lib.itoa (Zk s p + (z : Int))) [49] = Lib.itoa (Zk s p + (z' : Int)) ∧ (z : Int) + 1 = (z' : Int)) ∧
            ((s.length : Int) ≤ (z : Int) → (Lib.itoa (Zk s p + (z : Int))).length ≤ 4294967280 ∧ 1 ≤ 4294967280 ∧
              ((!zM (Yy (Lib.itoa (Zk s p + (z : Int))) [48]) 0 && Yy (Lib.itoa (Zk s p + (z : Int))) [48] == 0) = true → ZB IntKind.i64 k) ∧
               zZ (!!zM (Yy (Lib.itoa (Zk s p + (z : Int))) [48]) 0 || (!Yy (Lib.itoa (Zk s p + (z : Int))) [48] == 0 || !zM (Yy (Lib.itoa (Zk s p + (z : Int))) [48]) 0 && Yy (Lib.itoa (Zk s p + (z : Int))) [48] == 0))
                (zZ (zM (Yy (Lib.itoa (Zk s p + (z : Int))) [48]) 0 || Yy (Lib.itoa (Zk s p + (z : Int))) [48] == 0 && k == 3) (2 = [AV.junk, AV.junk].length ∧ -1 = V) NEXT) False))) := by
 subst hP
 have big := kC hl hf
 have full := big s.length
 rw [List.take_length] at full
 have up : ∀ x : Int, x.natAbs < 10 ^ 221 → x.natAbs < 10 ^ 300 := fun x hx => MH (k := 300) hx (by decide)
 have e83 : (10 : Nat) ^ 221 = 10 ^ 220 * 10 := rfl
 have e82 : (10 : Nat) ^ 220 = 10 ^ 217 * 1000 := rfl
 have zer : ([48] : zj) = Lib.itoa 0 := by decide +kernel
 have one : ([49] : zj) = Lib.itoa 1 := by decide +kernel
 have sh : ∀ x : Int, x.natAbs < 10 ^ 221 → (Lib.itoa x).length ≤ 4294967280 := fun x hx => by have := (ZD (k := 221) (by decide) hx).1; omega
 refine ⟨⟨0, Nat.zero_le _, zer.trans (by rfl), rfl⟩, fun z hz => ⟨fun hlt => ?_, fun hge => ?_⟩⟩
 ·have hzl : z < s.length := by omega
  have f := hf _ (yc hzl)
  have b1 := big z
  have b2 := MV f
  have b3 := big (z + 1)
  have e := nq hzl P.toNat
  refine ⟨⟨by omega, by omega⟩, f, sh _ (by omega), sh _ (by omega), by simp only [ZB]; omega, z + 1, ⟨by omega, by omega⟩, ?_, by omega⟩
  rw [Y6 _ (up _ (by omega)) (up _ (by omega)) (by rw [← e]; exact up _ (by omega)), e]
 ·obtain rfl : z = s.length := by omega
  rw [List.take_length, cmp0 (up _ (by omega))]
  obtain ⟨c1, c2, c3⟩ := T7 (Zk s P.toNat)
  refine ⟨sh _ (by omega), by omega, fun h => ⟨rfl, h1 (c1.1 h)⟩, fun h => ⟨⟨0, Nat.zero_le _, by rw [show ((0 : Nat) : Int) = 0 from rfl, Int.add_zero], rfl⟩, fun y hy => ⟨fun ylt => ?_, fun yge => ?_⟩⟩⟩
  ·refine ⟨sh _ (by omega), by omega, by simp only [ZB]; omega, y + 1, ⟨by omega, by omega⟩, ?_, by omega⟩
   rw [one, Y6 _ (up _ (by omega)) (up 1 (by decide)) (up _ (by omega)), Int.natCast_add, ← Int.add_assoc]; rfl
  ·obtain rfl : y = s.length := by omega
   rw [cmp0 (up _ (by omega))]
   obtain ⟨d1, d2, d3⟩ := T7 (Zk s P.toNat + (s.length : Int))
   have hs : Zk s P.toNat ≤ 0 := Int.not_lt.1 fun e => by have := c1.2 e; omega
   have d4 : (Zk s P.toNat + (s.length : Int) == 0 && k == 3) = false := by
    rw [Bool.and_eq_false_iff, beq_eq_false_iff_ne, beq_eq_false_iff_ne]
    by_cases e : k = 3
    ·exact .inl (h3k e)
    ·exact .inr e
   rw [d2, d3, d4, Bool.or_false]
   refine ⟨sh _ (by omega), by omega, fun _ => by simp only [ZB]; omega, zY.2 ⟨fun _ => zY.2 ⟨fun c => ⟨rfl, h2 hs ((zq _ _).1 c)⟩, fun c => h3 hs (Int.not_lt.1 fun e => by rw [(zq _ _).2 e] at c; cases c)⟩, fun c => ?_⟩⟩
   exfalso
   revert c
   cases zM (Zk s P.toNat + (s.length : Int)) 0 <;> cases Zk s P.toNat + (s.length : Int) == 0 <;> decide
structure Fs (s : List Tm) : Prop where
 h : s = [] ∨ gG s
def gp (s : List Tm) : yV :=
 .two .auto (.two .auto (.two (.two .auto (.one (.unroll 4 ((.two .auto (.two .auto (.two (.one (.two .auto (.two .auto (.two (.two .auto (.one (.loop Nat (fun σ z => [(0, σ.tm 0), (4, σ.tm 4), (5, σ.tm 5), (16, σ.tm 16), (17, σ.tm 17), (21, σ.tm 21), (22, σ.tm 22), (6, .str (Lib.itoa (Zk (s.take z) (AV.int (σ.tm 5)).toNat))), (23, .i (z : Int))]) (fun σ z => []) 0 (fun σ z => z ≤ s.length) (fun σ z => s.length - z) .auto))) (.two .auto (.two (.two .auto (.one (.loop Nat (fun σ z => [(0, σ.tm 0), (4, σ.tm 4), (16, σ.tm 16), (17, σ.tm 17), (44, σ.tm 44), (6, .str (Lib.itoa (Zk s (AV.int (σ.tm 5)).toNat + (z : Int)))), (45, .i (z : Int))]) (fun σ z => []) 0 (fun σ z => z ≤ s.length) (fun σ z => s.length - z) .auto))) .auto)))))) .auto))))))) .auto))
theorem Iu (t1 t2 : TypeId) (fr fr2 : Nat × Nat) (G : List (Nat × Obj)) (s : List Tm) (h : Fs s) :
 let q1 := (True ∧ kI ∧ iZ = wh s); let q2 := (AV.xl false 2 (lN s) fun i j => zR.enc (gD s i zR.dflt) j); let q3 := (kI ∧ iZ = iZ); let q4 := (kI ∧ Sx.intOf (Array.getD Zi 0 undef) = Sx.intOf (Array.getD Zi 0 undef)); let q5 := (3 = 3 ∧ ((kI ∧ Sx.intOf (Array.getD Zi (nat_lit 0) undef) = Sx.intOf (Array.getD Zi (nat_lit 0) undef)) ∧ kI ∧ Sx.intOf (Array.getD Zi (nat_lit 1) undef) = Sx.intOf (Array.getD Zi (nat_lit 1) undef)) ∧ kI
 ∧ Sx.intOf (Array.getD Zi (nat_lit 2) undef) = Sx.intOf (Array.getD Zi (nat_lit 2) undef)); let q6 := (kI ∧ (lZ s) = (lZ s)); let q7 := (ByteArray.data (ByteArray.mk #[(48 : UInt8)])); let q8 := (Int.toNat (AV.int (aI (Sx.intOf (Array.getD Zi 0 undef))))); let q10 := (Value.agg #[Value.string (ByteArray.mk #[]), Value.string (ByteArray.mk #[])]); let q15 := (Array.toList q7); let q16 := (j2 ∧ (True ∧ kI ∧ iO = wh s) ∧ kI ∧ iZ = (0
 : Int)); let q18 := (bA #[(49 : UInt8)]); let q25 := (j2 ∧ (True ∧ kI ∧ (-1 : Int) = wh s) ∧ kI ∧ iZ = iZ); let q26 := (kI ∧ iZ + iO = iZ + iO); let q27 := (kI ∧ Sx.intOf (Array.getD Zi 1 undef) = Sx.intOf (Array.getD Zi 1 undef)); let q28 := (Int.toNat (AV.int (aI (Sx.intOf (Array.getD Zi 1 undef))))); let q41 := (kI ∧ iZ + iO + iO = iZ +
 iO + iO); let q42 := (kI ∧ Sx.intOf (Array.getD Zi 2 undef) = Sx.intOf (Array.getD Zi 2 undef)); let q43 := (Int.toNat (AV.int (aI (Sx.intOf (Array.getD Zi 2 undef))))); zB [AV.xl false 2 (lN s) fun i j => zR.enc (gD s i zR.dflt) j] → zZ ((lZ s) == iZ) (j2 ∧ q1 ∧ kI ∧ iZ = iZ) ((∃ (z : Nat), (z ≤ lN s ∧ zi q2 q2 ∧ q3 ∧ q4 ∧ q5 ∧ q3 ∧ zi q2 q2 ∧ q6 ∧ Array.toList q7 = Lib.itoa (Zk (List.take z s) q8) ∧
 kI ∧ iZ = (cI z)) ∧ True) ∧ ∀ (z : Nat), let q9 := (AV.agg 2 fun (i : Nat) => if 0 ≤ 0 + i ∧ 0 + i < 2 then zR.enc (gD s (Int.toNat (cI z)) zR.dflt) (0 + (0 + i - 0)) else ZC q10 (0 + i)); let q11 := (yR q9); let q13 := (Zk (List.take z s) q8); let q12 := (Lib.itoa q13); let q14 := (Lib.itoa (S4 q11 4)); z ≤ lN s → zZ (zM (cI z) (lZ s)) (bF (DB.db (iZ ≤ (cI z) ∧ (cI z) < (lZ s))) (bF (yo Tm q9) (Qq q11 (Sx.intOf (Array.getD Zi 0 undef)) ∧ lN q12 ≤
 nM ∧ lN q14 ≤ nM ∧ bF (dK ((cI z) + iO)) (∃ (z' : Nat), ((z' ≤ lN s ∧ lN s - z' < lN s - z) ∧ zi q2 q2 ∧ q3 ∧ q4 ∧ q5 ∧ q3 ∧ zi q2 q2 ∧ q6 ∧ Z5 (fun (x1 x2 : Int) => x1 + x2) q12 q14 = Lib.itoa (Zk (List.take z' s) q8) ∧ kI ∧ (cI z) + iO = (cI z')) ∧ True)))) (lN q12 ≤ nM ∧ 1 ≤ nM ∧ zZ (zM iZ (Yy q12 q15)) q16 ((∃ (z_1 : Nat), (z_1 ≤ lN s ∧ zi q2 q2 ∧ q3 ∧ q5 ∧ q3 ∧ q6 ∧ Lib.itoa q13 = Lib.itoa (Zk s q8 + (↑z_1
 : Int)) ∧ kI ∧ iZ = (cI z_1)) ∧ True) ∧ ∀ (z : Nat), let q17 := (Lib.itoa (Zk s q8 + (cI z))); let q21 := (Yy q17 q15); let q20 := (zM q21 iZ); let q19 := (!zS false q20 || zS false q20); let q24 := (Yy q17 q15 == iZ); let q23 := (zS false q20 && zS true q24); let q22 := (!q23 || zS false q20 && zS true q24); z ≤ lN s → zZ (zM (cI z) (lZ s)) (lN q17 ≤ nM ∧ 1 ≤ nM ∧ bF (dK ((cI z) + iO)) (∃ (z' : Nat), ((z' ≤ lN s ∧ lN s - z'
 < lN s - z) ∧ zi q2 q2 ∧ q3 ∧ q5 ∧ q3 ∧ q6 ∧ Z5 (fun (x1 x2 : Int) => x1 + x2) q17 q18 = Lib.itoa (Zk s q8 + (cI z')) ∧ kI ∧ (cI z) + iO = (cI z')) ∧ True)) (lN q17 ≤ nM ∧ 1 ≤ nM ∧ bF q19 (bF q19 (bF q22 (bF (!q23 || dK (iZ + iO)) (bF q22 (bF q19 (bF (!zS false q20 || (!Yy q17 q15 == iZ || zS false q20 && zS true q24)) (bF (!!zM q21 iZ || zS false q20) (zZ (bif zM q21 iZ then true else bif Yy q17 q15 == iZ then
 iZ + iO == (3 : Int) else false) q25 ((∃ (z : Nat), (z ≤ lN s ∧ zi q2 q2 ∧ q26 ∧ q27 ∧ q5 ∧ q26 ∧ zi q2 q2 ∧ q6 ∧ Array.toList q7 = Lib.itoa (Zk (List.take z s) q28) ∧ kI ∧ iZ = (cI z)) ∧ True) ∧ ∀ (z : Nat), let q29 := (AV.agg 2 fun (i : Nat) => if 0 ≤ 0 + i ∧ 0 + i < 2 then zR.enc (gD s (Int.toNat (cI z)) zR.dflt) (0 + (0 + i - 0)) else ZC q10 (0 + i)); let q30 := (yR q29); let q32 := (Zk (List.take z s) q28); let q31 := (Lib.itoa q32); let q33 := (Lib.itoa (S4 q30 16)); z ≤ lN s → zZ (zM (cI z)
 (lZ s)) (bF (DB.db (iZ ≤ (cI z) ∧ (cI z) < (lZ s))) (bF (yo Tm q29) (Qq q30 (Sx.intOf (Array.getD Zi 1 undef)) ∧ lN q31 ≤ nM ∧ lN q33 ≤ nM ∧ bF (dK ((cI z) + iO)) (∃ (z' : Nat), ((z' ≤ lN s ∧ lN s - z' < lN s - z) ∧ zi q2 q2 ∧ q26 ∧ q27 ∧ q5 ∧ q26 ∧ zi q2 q2 ∧ q6 ∧ Z5 (fun (x1 x2 : Int) => x1 + x2) q31 q33 = Lib.itoa (Zk (List.take z' s) q28) ∧ kI ∧ (cI z) + iO = (cI z')) ∧ True))))
 (lN q31 ≤ nM ∧ 1 ≤ nM ∧ zZ (zM iZ (Yy q31 q15)) q16 ((∃ (z_1 : Nat), (z_1 ≤ lN s ∧ zi q2 q2 ∧ q26 ∧ q5 ∧ q26 ∧ q6 ∧ Lib.itoa q32 = Lib.itoa (Zk s q28 + (cI z_1)) ∧ kI ∧ iZ = (cI z_1)) ∧ True) ∧ ∀ (z : Nat), let q34 := (Lib.itoa (Zk s q28 + (cI z))); let q37 := (Yy q34 q15); let q36 := (zM q37 iZ); let q35 := (!zS false q36 || zS false q36); let q40 := (Yy q34 q15 == iZ); let q39 := (zS false q36 && zS true q40); let q38 := (!q39 || zS false q36 && zS true q40); z ≤ List.length
 s → zZ (zM (cI z) (lZ s)) (lN q34 ≤ nM ∧ 1 ≤ nM ∧ bF (dK ((cI z) + iO)) (∃ (z' : Nat), ((z' ≤ lN s ∧ lN s - z' < lN s - z) ∧ zi q2 q2 ∧ q26 ∧ q5 ∧ q26 ∧ q6 ∧ Z5 (fun (x1 x2 : Int) => x1 + x2) q34 q18 = Lib.itoa (Zk s q28 + (cI z')) ∧ kI ∧ (cI z) + iO = (cI z')) ∧ True)) (lN q34 ≤ nM ∧ 1 ≤ nM ∧ bF q35 (bF q35 (bF q38 (bF (!q39 || dK (iZ + iO + iO)) (bF q38 (zZ
 q35 (bF (!zS false q36 || (!Yy q34 q15 == iZ || zS false q36 && zS true q40)) (bF (!!zM q37 iZ || zS false q36) (zZ (bif zM q37 iZ then true else bif Yy q34 q15 == iZ then iZ + iO + iO == (3 : Int) else false) q25 ((∃ (z : Nat), (z ≤ lN s ∧ zi q2 q2 ∧ q41 ∧ q42 ∧ q5 ∧ q41 ∧ zi q2 q2 ∧ q6 ∧ Array.toList q7 = Lib.itoa (Zk (List.take z s) q43) ∧ kI ∧ iZ = (cI z)) ∧ True) ∧ ∀ (z : Nat), let q44 := (AV.agg 2 fun (i : Nat) => if 0 ≤ 0 + i ∧ 0 + i < 2 then zR.enc (gD s (Int.toNat
 (cI z)) zR.dflt) (0 + (0 + i - 0)) else ZC q10 (0 + i)); let q45 := (yR q44); let q47 := (Zk (List.take z s) q43); let q46 := (Lib.itoa q47); let q48 := (Lib.itoa (S4 q45 64)); z ≤ lN s → zZ (zM (cI z) (lZ s)) (bF (DB.db (iZ ≤ (cI z) ∧ (cI z) < (lZ s))) (bF (yo Tm q44) (Qq q45 (Sx.intOf (Array.getD Zi 2 undef)) ∧ lN q46 ≤ nM ∧ lN q48 ≤ nM ∧ bF (dK ((cI z) + iO)) (∃ (z' : Nat), ((z' ≤ lN s ∧ lN s - z' < lN s -
 z) ∧ zi q2 q2 ∧ q41 ∧ q42 ∧ q5 ∧ q41 ∧ zi q2 q2 ∧ q6 ∧ Z5 (fun (x1 x2 : Int) => x1 + x2) q46 q48 = Lib.itoa (Zk (List.take z' s) q43) ∧ kI ∧ (cI z) + iO = (cI z')) ∧ True)))) (lN q46 ≤ nM ∧ 1 ≤ nM ∧ zZ (zM iZ (Yy q46 q15)) q16 ((∃ (z_1 : Nat), (z_1 ≤ lN s ∧ zi q2 q2 ∧ q41 ∧ q5 ∧ q41 ∧ q6 ∧ Lib.itoa q47 = Lib.itoa (Zk s q43 + (cI z_1)) ∧ kI ∧ iZ = (cI z_1)) ∧ True) ∧ ∀ (z : Nat), let q49 := (Lib.itoa (Zk s q43 + (cI z))); let q52 := (Yy q49 q15); let q51
 := (zM q52 iZ); let q50 := (!zS false q51 || zS false q51); let q55 := (Yy q49 q15 == iZ); let q54 := (zS false q51 && zS true q55); let q53 := (!q54 || zS false q51 && zS true q55); z ≤ lN s → zZ (zM (cI z) (lZ s)) (lN q49 ≤ nM ∧ 1 ≤ nM ∧ bF (dK ((cI z) + iO)) (∃ (z' : Nat), ((z' ≤ lN s ∧ lN s - z' < lN s - z) ∧ zi q2 q2 ∧ q41 ∧ q5 ∧ q41 ∧ q6 ∧ Z5 (fun (x1 x2 : Int) => x1 + x2) q49 q18 = Lib.itoa (Zk s q43 + (cI z')) ∧ kI ∧
 (cI z) + iO = (cI z')) ∧ True)) (lN q49 ≤ nM ∧ 1 ≤ nM ∧ bF q50 (bF q50 (bF q53 (bF (!q54 || dK (iZ + iO + iO + iO)) (bF q53 (bF q50 (bF (!zS false q51 || (!Yy q49 q15 == iZ || zS false q51 && zS true q55)) (bF (!!zM q52 iZ || zS false q51) (zZ (bif zM q52 iZ then true else bif Yy q49 q15 == iZ then iZ + iO + iO + iO == (3 : Int) else false) q25 (j2 ∧ q1 ∧ IntKind.i64 =
 .i64 ∧ (4 : Int) = iZ)))))))))))))))) False))))))))))))))))))))) := by
 delta bF dK bA nM cI kI j2 lZ lN gD iZ iO aI
 dsimp only
 intro hb
 simp only [↓Zf, ↓Zu, row_one]
 have c0 : Sx.intOf (Zi.getD 0 undef) = 4 := rfl
 have c1 : Sx.intOf (Zi.getD 1 undef) = 16 := rfl
 have c2 : Sx.intOf (Zi.getD 2 undef) = 64 := rfl
 have n0 : Int.toNat 4 = 4 := rfl
 have n1 : Int.toNat 16 = 16 := rfl
 have n2 : Int.toNat 64 = 64 := rfl
 simp only [sS, Z2, ZL, zn, ZQ, xi, YU, yx, Yn, yp, YH, ym, UF, dS, c0, c1, c2, n0, n1, n2]
 refine ⟨fun h0 => ?_, fun h1 => ?_⟩
 ·obtain rfl := List.eq_nil_of_length_eq_zero (show s.length = 0 by omega)
  exact ⟨rfl, rfl⟩
 have h : gG s := h.h.resolve_left fun e => h1 (by rw [e]; rfl)
 have hd := h.dec
 refine VB (p := 4) rfl h.len h.a (by decide) (fun e => absurd e (by decide)) (fun h0 => ?_) (fun h0 h1 => ?_) fun h0 h1 => ?_
 ·unfold wh YE
  rw [if_pos h0]; rfl
 ·have e : YE s 4 = -1 := by unfold YE; rw [if_neg (by omega), if_pos h1]
  unfold wh
  rw [e]; rfl
 have e4 : YE s 4 = 0 := by unfold YE; rw [if_neg (by omega), if_neg (by omega)]
 have e16 : wh s = if YE s 16 = 0 then YE s 64 else YE s 16 := by unfold wh; rw [if_pos e4]
 rw [e16] at hd ⊢
 refine VB (p := 16) rfl h.len (h.b e4) (by decide) (fun e => absurd e (by decide)) (fun h0 => ?_) (fun h0 h1 => ?_) fun h0 h1 => ?_
 ·unfold YE
  rw [if_pos h0]; rfl
 ·have e : YE s 16 = -1 := by unfold YE; rw [if_neg (by omega), if_pos h1]
  rw [e]; rfl
 have e6 : YE s 16 = 0 := by unfold YE; rw [if_neg (by omega), if_neg (by omega)]
 rw [if_pos e6] at hd ⊢
 have hd2 : 0 < Zk s 64 ∨ Zk s 64 + s.length < 0 := by
  unfold YE at hd
  split at hd
  ·exact .inl (by assumption)
  ·split at hd
   ·exact .inr (by assumption)
   ·exact absurd rfl hd
 refine VB (p := 64) rfl h.len (h.c e4 e6) (by decide) (fun _ => by omega) (fun h0 => ?_) (fun h0 h1 => ?_) fun h0 h1 => ?_
 ·unfold YE
  rw [if_pos h0]
 ·unfold YE
  rw [if_neg (by omega), if_pos h1]
 ·exact absurd hd2 (by omega)
def MB : List AV → Option (List zN × AV)
 | [x] => some ([.b (ze Tm x), .p (Fs (Zn (α := Tm) x))], .tup 2 (zw [.i (wh (Zn (α := Tm) x)), .i 0]))
 | _ => none
theorem Gn {G : List (Nat × Obj)} (hG : xx G) : zQ Tryz.prog G 125 MB := by
 intro xs ps r h hp
 unfold MB at h
 split at h
 ·rename_i x
  cases h
  obtain ⟨q0, -⟩ := ZT hp
  have q1 : Fs (Zn (α := Tm) x) := hp _ (List.mem_cons_of_mem _ List.mem_cons_self)
  have hs := nO hG.tab
  obtain ⟨_, t, fr, t2, fr2, G', rfl⟩ := hG
  exact weaken (ys := [_]) ⟨zI q0, trivial⟩ (zW mixed hs (Eq.mp (by kernel_rfl) (Iu t t2 fr fr2 G' (Zn (α := Tm) x) q1) : vP Tryz.prog (eG ((1, Obj.cells zK t fr) :: (0, Obj.cells Zi t2 fr2) :: G')) 125 (gp (Zn (α := Tm) x)) [Zl (Zn (α := Tm) x)] (.tup 2 (zw [.i (wh (Zn (α := Tm) x)), .i 0]))))
 ·cases h
structure FX (s t : List Tm) : Prop where
 fs : wL s
 ft : wL t
 made : uM (s ++ Zq (-1) t)
 sg : gG (YA (s ++ Zq (-1) t))
theorem iS (G : List (Nat × Obj)) (s t : List Tm) (h : FX s t) :
 let q1 := (AV.xl false 2 (lN s) fun i j => zR.enc (gD s i zR.dflt) j); let q2 := (AV.xl false 2 (lN t) fun i j => zR.enc (gD t i zR.dflt) j); let q3 := (Zn q2); let q4 := (Zn q1 ++ Zq (-1 : Rat) q3); let q6 := (YA q4); let q5 := (AV.xl false 2 (lN q6) fun i j => zR.enc (gD q6 i zR.dflt) j); let q7 := (Zn q5); zB [AV.xl false 2 (lN s) fun i j => zR.enc (gD s i zR.dflt) j, AV.xl false 2 (lN t) fun i j => zR.enc (gD t i zR.dflt) j] → bF (ze Tm q1) (bF (ze Tm q2) (wL (Zn q1) ∧ wL q3 ∧
 uM q4 ∧ bF (ze Tm q5) (Fs q7 ∧ j2 ∧ (True ∧ kI ∧ wh q7 = wh (YA (s ++ Zq (-1 : Rat) t))) ∧ kI ∧ iZ = iZ))) := by
 delta bF kI j2 lN gD iZ
 dsimp only
 intro hb
 simp only [↓Zf, ↓Zu, row_one]
 simp only [sS, Z2, ZL, zn, ZQ, xi, YU, yx, Yn, yp, YH, ym, UF, dS]
 exact ⟨h.fs, h.ft, h.made, ⟨.inr h.sg⟩, rfl⟩
theorem Gm {G : List (Nat × Obj)} (hG : xx G) (s t : List Tm) (h : FX s t) : zv Tryz.prog G 70 [Zl s, Zl t] (.tup 2 (zw [.i (wh (YA (s ++ Zq (-1) t))), .i 0])) :=
 zW (T := ((Xz G).plus 124 Q7).plus 125 MB) (an := .auto) mixed (zz.plus (zz.plus zr (iW hG.tab)) (Gn hG)) (Eq.mp (by kernel_rfl) (iS G s t h))
end Go.Te
