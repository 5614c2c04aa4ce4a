/- Roots of any numbers, by Newton's way. -/
import Derived.Test.YtgpbohfbhfbelaaGreatDoorArW
import Derived.Test.YtgpbohfbhfbelaaGreatDoorArA
set_option linter.unusedSimpArgs false
set_option linter.unusedVariables false
namespace Go.Ar
open Go Go.Sx Go.Lib
def Z7 (n : Nat) : Nat := XH n n
theorem wx (n : Nat) : Z7 n * Z7 n ≤ n ∧ n < (Z7 n + 1) * (Z7 n + 1) := vw n n (Nat.lt_pow_self (by decide))
theorem Sa {n r : Nat} (h1 : r * r ≤ n) (h2 : n < (r + 1) * (r + 1)) : r = Z7 n := by
 obtain ⟨s1, s2⟩ := wx n
 have a := X7 (a := r) (b := Z7 n + 1) (by omega)
 have b := X7 (a := Z7 n) (b := r + 1) (by omega)
 omega
theorem mU {n : Nat} (h : 0 < n) : 0 < Z7 n := Nat.pos_of_ne_zero fun e => by
 have := (wx n).2
 rw [e] at this
 omega
theorem JI {n z : Nat} (hz : 0 < z) (hn : n < (z + 1) * (z + 1)) (h0 : 0 < n) :
  (z ≤ (z + n / z) / 2 → z = Z7 n) ∧ ((z + n / z) / 2 < z → 0 < (z + n / z) / 2 ∧ n < ((z + n / z) / 2 + 1) * ((z + n / z) / 2 + 1)) := by
 obtain ⟨s1, s2⟩ := wx n
 have hg := oG (n := n) (r := z) (s := Z7 n) hz s1
 have hp := mU h0
 refine ⟨fun h => Sa (sF hz h) hn, fun _ => ⟨by omega, ?_⟩⟩
 exact Nat.lt_of_lt_of_le s2 (Nat.mul_le_mul (by omega) (by omega))
theorem Ow (n : Nat) : Z7 n ≤ n := by
 obtain ⟨s1, _⟩ := wx n
 rcases Nat.eq_zero_or_pos (Z7 n) with h | h
 ·omega
 ·have := Nat.mul_le_mul_right (Z7 n) h
  omega
theorem P7 : ∀ k : Nat, zc (List.replicate k 48) = 0
 | 0 => rfl
 | k + 1 => by
  rw [List.replicate_succ, xR, P7 k]
  show Vu 48 * _ + 0 = 0
  rw [show Vu 48 = 0 from by decide, Nat.zero_mul]
theorem rS (k : Nat) : Zy (49 :: List.replicate k 48) = true ∧ zX (49 :: List.replicate k 48) = ((10 ^ k : Nat) : Int) := by
 have hd : Z6 (49 :: List.replicate k 48) = true := by
  refine Zt.2 ⟨by simp, fun c hc => ?_, ?_⟩
  ·rcases List.mem_cons.1 hc with rfl | hc
   ·decide
   ·rw [(List.mem_replicate.1 hc).2]; decide
  ·simp
 obtain ⟨h1, h2⟩ := WS hd
 refine ⟨h1, h2.trans ?_⟩
 rw [xR, P7, List.length_replicate, show Vu 49 = 1 from by decide, Nat.one_mul, Nat.add_zero]
end Go.Ar

namespace Go.Ar
open Go Go.Lib
set_option maxRecDepth 100000
structure Tm where
 c : Rat
 q : Rat
deriving DecidableEq
def Oo (f : Nat → Rat) : Prop := ∀ k n : Nat, f (k * k * n) = (k : Rat) * f n
def mQ (q : Rat) : Nat := q.num.toNat * q.den
def fQ (f : Nat → Rat) (q : Rat) : Rat := f (mQ q) / (q.den : Rat)
def ev (f : Nat → Rat) : List Tm → Rat
 | [] => 0
 | t :: l => t.c * fQ f t.q + ev f l
theorem Y7 (f : Nat → Rat) : ev f [] = 0 := rfl
theorem yt (f : Nat → Rat) (t : Tm) (l : List Tm) : ev f (t :: l) = t.c * fQ f t.q + ev f l := rfl
theorem VA (f : Nat → Rat) : ∀ a b : List Tm, ev f (a ++ b) = ev f a + ev f b
 | [], b => by simp [ev, Rat.zero_add]
 | t :: a, b => by
  rw [List.cons_append]
  simp only [yt, Y7]
  rw [VA f a b, Rat.add_assoc]
theorem L2 {f : Nat → Rat} {a b : List Tm} (h : a.Perm b) : ev f a = ev f b := by
 induction h with
 | nil => rfl
 | cons x _ ih => rw [yt, yt, ih]
 | swap x y l => simp only [yt]; grind
 | trans _ _ h1 h2 => rw [h1, h2]
def ru (t : Tm) : Tm := ⟨t.c * mkRat (nrm (mQ t.q)).1 t.q.den, ((nrm (mQ t.q)).2 : Rat)⟩
def XG (l : List Tm) : List Tm := (l.filter fun t => decide (t.c ≠ 0) && decide (t.q ≠ 0)).map ru
theorem Qb (r : Nat) : mQ (r : Rat) = r := by
 unfold mQ
 rw [Rat.num_natCast, Rat.den_natCast, Nat.mul_one, Int.toNat_natCast]
theorem ut (f : Nat → Rat) (r : Nat) : fQ f (r : Rat) = f r := by
 unfold fQ
 rw [Qb, Rat.den_natCast]
 show f r / 1 = f r
 grind
theorem mO {f : Nat → Rat} (hf : Oo f) : f 0 = 0 := by
 have := hf 0 0
 simpa using this
theorem Px {q : Rat} (h : 0 < q) : 0 < mQ q := by
 unfold mQ
 have : 0 < q.num := by
  have := Rat.num_nonneg.2 (Rat.le_of_lt h)
  have h2 : q.num ≠ 0 := fun e => (Rat.ne_of_gt h) (Rat.num_eq_zero.1 e)
  omega
 exact Nat.mul_pos (by omega) q.den_pos
theorem jG {f : Nat → Rat} (hf : Oo f) {t : Tm} (h : 0 < t.q) : (ru t).c * fQ f (ru t).q = t.c * fQ f t.q := by
 obtain ⟨h1, h2, h3, h4⟩ := tW (Px h)
 unfold ru
 simp only [ut]
 unfold fQ
 conv => rhs; rw [← h1, hf]
 rw [Rat.mkRat_eq_div]
 have hd : (t.q.den : Rat) ≠ 0 := by
  intro e
  have := t.q.den_pos
  have e := Rat.natCast_eq_zero_iff.1 e
  omega
 rw [Rat.intCast_natCast]
 generalize ((Ar.nrm (mQ t.q)).1 : Rat) = x at *
 generalize (t.q.den : Rat) = d at *
 generalize f (Ar.nrm (mQ t.q)).2 = y at *
 grind
theorem P2 {f : Nat → Rat} (hf : Oo f) : ∀ {l : List Tm}, (∀ t ∈ l, 0 ≤ t.q) → ev f (XG l) = ev f l
 | [], _ => rfl
 | t :: l, h => by
  have ih := P2 hf (l := l) fun t ht => h t (List.mem_cons_of_mem _ ht)
  have h0 := h t List.mem_cons_self
  unfold XG at ih ⊢
  rw [List.filter_cons]
  by_cases hc : t.c = 0
  ·rw [if_neg (by simp [hc]), ih]
   simp only [yt, Y7]
   rw [hc, Rat.zero_mul, Rat.zero_add]
  by_cases hq : t.q = 0
  ·rw [if_neg (by simp [hq]), ih]
   conv => rhs; rw [yt]
   have : fQ f t.q = 0 := by
    rw [hq]
    show f (0 * 1) / 1 = 0
    rw [Nat.zero_mul, mO hf]
    grind
   rw [this, Rat.mul_zero, Rat.zero_add]
  ·rw [if_pos (by simp [hc, hq]), List.map_cons]
   simp only [yt, Y7]
   rw [ih, jG hf (Rat.lt_of_le_of_ne h0 (Ne.symm hq))]
def G3 (x : Rat) : Bool := Nat.beq (Yx x.num.toNat * Yx x.num.toNat) x.num.toNat && Nat.beq (Yx x.den * Yx x.den) x.den
def Gl (x : Rat) : Rat := mkRat (Yx x.num.toNat) (Yx x.den)
def y7 (p q : Rat) : Bool := G3 (p / q)
def Wx (p q : Rat) : Rat := Gl (p / q)
theorem pB {r s : Nat} (hr : 0 < r) (hs : 0 < s) (h : y7 (r : Rat) (s : Rat) = true) : ∃ u v : Nat, 0 < u ∧ 0 < v ∧ r * (v * v) = s * (u * u) ∧ Wx (r : Rat) (s : Rat) = mkRat u v := by
 unfold y7 G3 at h
 rw [Bool.and_eq_true, Nat.beq_eq, Nat.beq_eq] at h
 obtain ⟨h1, h2⟩ := h
 have e : ((r : Rat) / (s : Rat)) = mkRat (r : Int) s := by rw [Rat.mkRat_eq_div]; rfl
 unfold Wx Gl
 rw [e] at h1 h2 ⊢
 rw [Rat.num_mkRat, if_neg (by omega)] at h1 ⊢
 rw [Rat.den_mkRat, if_neg (by omega)] at h2 ⊢
 rw [Int.natAbs_natCast] at h1 h2 ⊢
 have hg : 0 < Nat.gcd s r := Nat.gcd_pos_of_pos_left _ hs
 obtain ⟨a, ha⟩ := Nat.gcd_dvd_right s r
 obtain ⟨b, hb⟩ := Nat.gcd_dvd_left s r
 generalize Nat.gcd s r = g at *
 subst ha hb
 have e1 : (((g * a : Nat) : Int) / (g : Int)).toNat = a := by
  rw [← Int.natCast_ediv, Nat.mul_div_cancel_left _ hg, Int.toNat_natCast]
 have e2 : g * b / g = b := Nat.mul_div_cancel_left _ hg
 rw [e1] at h1 ⊢
 rw [e2] at h2 ⊢
 have ha0 : 0 < a := Nat.pos_of_mul_pos_left hr
 have hb0 : 0 < b := Nat.pos_of_mul_pos_left hs
 refine ⟨Yx a, Yx b, Nat.pos_of_ne_zero fun e => by rw [e] at h1; omega, Nat.pos_of_ne_zero fun e => by rw [e] at h2; omega, ?_, rfl⟩
 rw [h1, h2]
 grind
theorem MD {f : Nat → Rat} (hf : Oo f) {r s : Nat} (hr : 0 < r) (hs : 0 < s) (h : y7 (r : Rat) (s : Rat) = true) : f r = Wx (r : Rat) (s : Rat) * f s := by
 obtain ⟨u, v, hu, hv, e, e2⟩ := pB hr hs h
 rw [e2, Rat.mkRat_eq_div]
 have h1 : (v : Rat) * f r = (u : Rat) * f s := by
  rw [← hf, ← hf, Nat.mul_comm (v * v), Nat.mul_comm (u * u), e]
 have hd : (v : Rat) ≠ 0 := fun e => by
  have e := Rat.natCast_eq_zero_iff.1 e
  omega
 have h2 : ((u : Int) : Rat) = (u : Rat) := Rat.intCast_natCast u
 rw [h2]
 grind
theorem mI {r s : Nat} (hr : 0 < r) (hs : 0 < s) (br : r < 18446744073709551616) (bs : s < 18446744073709551616) (h : y7 (r : Rat) (s : Rat) = false) : ∀ k : Nat, r * s ≠ k * k := by
 intro k hk
 have e : ((r : Rat) / (s : Rat)) = mkRat (r : Int) s := by rw [Rat.mkRat_eq_div]; rfl
 unfold y7 G3 at h
 rw [e, Rat.num_mkRat, if_neg (by omega), Rat.den_mkRat, if_neg (by omega), Int.natAbs_natCast] at h
 have hg : 0 < Nat.gcd s r := Nat.gcd_pos_of_pos_left _ hs
 have hc := Nat.coprime_div_gcd_div_gcd hg
 obtain ⟨a, ha⟩ := Nat.gcd_dvd_right s r
 obtain ⟨b, hb⟩ := Nat.gcd_dvd_left s r
 generalize Nat.gcd s r = g at *
 subst ha hb
 have e1 : (((g * a : Nat) : Int) / (g : Int)).toNat = a := by
  rw [← Int.natCast_ediv, Nat.mul_div_cancel_left _ hg, Int.toNat_natCast]
 have e2 : g * b / g = b := Nat.mul_div_cancel_left _ hg
 have e3 : g * a / g = a := Nat.mul_div_cancel_left _ hg
 rw [e1, e2] at h
 rw [e2, e3] at hc
 have ha0 : 0 < a := Nat.pos_of_mul_pos_left hr
 have hb0 : 0 < b := Nat.pos_of_mul_pos_left hs
 have hla : a ≤ g * a := Nat.le_mul_of_pos_left _ hg
 have hlb : b ≤ g * b := Nat.le_mul_of_pos_left _ hg
 -- a * b is a square, too
 have hgk : g ∣ k := by
  refine Sp (a := g) (b := k) ?_
  rw [← hk]
  exact ⟨a * b, by grind⟩
 obtain ⟨m, rfl⟩ := hgk
 have hab : a * b = m * m := by
  have h1 : (g * g) * (a * b) = (g * g) * (m * m) := by grind
  exact Nat.eq_of_mul_eq_mul_left (Nat.mul_pos hg hg) h1
 have key : ∀ x y : Nat, 0 < x → Nat.Coprime y x → x * y = m * m → Nat.gcd x m * Nat.gcd x m = x := by
  intro x y hx hco hxy
  have h1 : Nat.gcd x m * Nat.gcd x m = Nat.gcd (x * x) (m * m) := by
   have := Nat.pow_gcd_pow (k := 2) (n := x) (m := m)
   rw [Nat.pow_two, Nat.pow_two, Nat.pow_two] at this
   exact this.symm
  rw [h1, ← hxy, Nat.gcd_mul_left]
  rw [show Nat.gcd x y = 1 from Nat.gcd_comm x y ▸ hco, Nat.mul_one]
 have ka := key a b ha0 hc hab
 have kb := key b a hb0 (Nat.Coprime.symm hc) (by rw [Nat.mul_comm]; exact hab)
 have q1 : Yx a * Yx a = a := by
  have := LV (k := Nat.gcd a m) (by omega)
  rw [ka] at this
  rw [this, ka]
 have q2 : Yx b * Yx b = b := by
  have := LV (k := Nat.gcd b m) (by omega)
  rw [kb] at this
  rw [this, kb]
 generalize Yx a = x at *
 generalize Yx b = y at *
 rw [q1, q2] at h
 rw [Nat.beq_refl, Nat.beq_refl] at h
 cases h
def wu (x t : Tm) : Tm := if t.q < x.q then ⟨t.c + x.c * Wx x.q t.q, t.q⟩ else ⟨x.c + t.c * Wx t.q x.q, x.q⟩
def vo : List Tm → Tm → List Tm
 | [], t => [t]
 | x :: r, t => if y7 t.q x.q then wu x t :: r else x :: vo r t
theorem xp (x : Tm) (r : List Tm) (t : Tm) : vo (x :: r) t = if y7 t.q x.q then wu x t :: r else x :: vo r t := rfl
def wW (l : List Tm) : List Tm := l.foldl vo []
theorem sj (l : List Tm) (t : Tm) : wW (l ++ [t]) = vo (wW l) t := by unfold wW; rw [List.foldl_append]; rfl
theorem OY {t d : Tm} : ∀ {cl : List Tm} {i : Nat}, i < cl.length → (∀ j, j < i → y7 t.q (cl.getD j d).q = false) → y7 t.q (cl.getD i d).q = true → vo cl t = cl.set i (wu (cl.getD i d) t)
 | x :: r, 0, _, _, h => by
  rw [xp]
  rw [if_pos (show y7 t.q x.q = true from h)]; rfl
 | x :: r, i + 1, hi, hn, h => by
  rw [xp]
  have h0 : y7 t.q x.q = false := hn 0 (by omega)
  rw [if_neg (by rw [h0]; decide), OY (d := d) (i := i) (by simpa using hi) (fun j hj => hn (j + 1) (by omega)) h]
  rfl
theorem Sr {t d : Tm} : ∀ {cl : List Tm}, (∀ j, j < cl.length → y7 t.q (cl.getD j d).q = false) → vo cl t = cl ++ [t]
 | [], _ => rfl
 | x :: r, h => by
  rw [xp]
  have h0 : y7 t.q x.q = false := h 0 (by simp)
  rw [if_neg (by rw [h0]; decide), Sr (d := d) fun j hj => h (j + 1) (by simpa using hj)]
  rfl
def yw (R : Nat) (t : Tm) : Prop := ∃ r : Nat, t.q = (r : Rat) ∧ 0 < r ∧ r ≤ R
theorem Q9 {x t : Tm} : (wu x t).q = x.q ∨ (wu x t).q = t.q := by
 unfold wu
 split
 ·exact .inr rfl
 ·exact .inl rfl
theorem nH {R : Nat} {x t : Tm} (hx : yw R x) (ht : yw R t) : yw R (wu x t) := by
 unfold yw
 rcases Q9 (x := x) (t := t) with e | e <;> rw [e] <;> assumption
theorem jT {f : Nat → Rat} (hf : Oo f) {R : Nat} {x t : Tm} (hx : yw R x) (ht : yw R t) (hR : R < 18446744073709551616) (h : y7 t.q x.q = true) :
  (wu x t).c * fQ f (wu x t).q = x.c * fQ f x.q + t.c * fQ f t.q := by
 obtain ⟨r, hr, hr0, hrR⟩ := hx
 obtain ⟨s, hs, hs0, hsR⟩ := ht
 have h' : y7 x.q t.q = true := by
  rw [hr, hs] at h ⊢
  cases hb : y7 (r : Rat) (s : Rat) with
  | true => rfl
  | false =>
   obtain ⟨u, v, hu, hv, e, _⟩ := pB hs0 hr0 h
   have := mI hr0 hs0 (by omega) (by omega) hb
   -- r * s is the square of r * u / v
   have h1 : (r * s) * (v * v) = (r * u) * (r * u) := by grind
   obtain ⟨j, hj, _⟩ := uO (c := v) (l := r * s) (k := r * u) hv (by rw [← h1, Nat.mul_comm])
   exact absurd hj (this j)
 unfold wu
 split
 ·simp only
  rw [hs, hr, ut, ut]
  rw [hs, hr] at h'
  rw [MD hf hr0 hs0 h']
  grind
 ·simp only
  rw [hs, hr, ut, ut]
  rw [hs, hr] at h
  rw [MD hf hs0 hr0 h]
  grind
theorem SH {f : Nat → Rat} (hf : Oo f) {R : Nat} {t : Tm} (ht : yw R t) (hR : R < 18446744073709551616) : ∀ {cl : List Tm}, (∀ x ∈ cl, yw R x) → ev f (vo cl t) = ev f cl + t.c * fQ f t.q ∧ ∀ x ∈ vo cl t, yw R x
 | [], _ => by
  refine ⟨by simp only [vo, yt, Y7]; grind, fun x hx => ?_⟩
  rw [List.mem_singleton.1 hx]; exact ht
 | x :: r, h => by
  obtain ⟨ih1, ih2⟩ := SH hf ht hR (cl := r) fun x hx => h x (List.mem_cons_of_mem _ hx)
  have hx := h x List.mem_cons_self
  rw [xp]
  split
  ·rename_i hb
   refine ⟨?_, fun y hy => ?_⟩
   ·simp only [yt, Y7]
    rw [jT hf hx ht hR hb]
    grind
   ·rcases List.mem_cons.1 hy with rfl | hy
    ·exact nH hx ht
    ·exact h y (List.mem_cons_of_mem _ hy)
  ·refine ⟨?_, fun y hy => ?_⟩
   ·simp only [yt, Y7]
    rw [ih1]
    grind
   ·rcases List.mem_cons.1 hy with rfl | hy
    ·exact hx
    ·exact ih2 y hy
end Go.Ar

namespace Go.Ar
open Go Go.Lib
set_option maxRecDepth 100000
def unr (x y : Tm) : Prop := ∀ k : Nat, mQ x.q * mQ y.q ≠ k * k
theorem unr.symm {x y : Tm} (h : unr x y) : unr y x := fun k => by rw [Nat.mul_comm]; exact h k
theorem yw.mQ {R : Nat} {t : Tm} (h : yw R t) : t.q = ((mQ t.q : Nat) : Rat) ∧ 0 < mQ t.q ∧ mQ t.q ≤ R := by
 obtain ⟨r, hr, h0, h1⟩ := h
 rw [hr, Qb]
 exact ⟨rfl, h0, h1⟩
theorem sJ {a b r : Nat} (hr : 0 < r) (h : a * (r * r) = b * b) : ∃ k, a = k * k := by
 obtain ⟨j, hj, _⟩ := uO (c := r) (l := a) (k := b) hr (by rw [← h, Nat.mul_comm])
 exact ⟨j, hj⟩
theorem lj {R : Nat} {x y : Tm} (hx : yw R x) (hy : yw R y) (h : y7 x.q y.q = true) : ∃ k, mQ x.q * mQ y.q = k * k := by
 obtain ⟨e1, p1, _⟩ := hx.mQ
 obtain ⟨e2, p2, _⟩ := hy.mQ
 rw [e1, e2] at h
 obtain ⟨u, v, hu, hv, e, _⟩ := pB p1 p2 h
 exact sJ (r := v) (b := mQ y.q * u) hv (by grind)
theorem UO {R : Nat} {x y : Tm} (hx : yw R x) (hy : yw R y) (hR : R < 18446744073709551616) : y7 x.q y.q = false ↔ unr x y := by
 obtain ⟨e1, p1, b1⟩ := hx.mQ
 obtain ⟨e2, p2, b2⟩ := hy.mQ
 constructor
 ·intro h
  rw [e1, e2] at h
  exact mI p1 p2 (by omega) (by omega) h
 ·intro h
  refine Bool.eq_false_iff.2 fun e => ?_
  obtain ⟨k, hk⟩ := lj hx hy e
  exact h k hk
theorem jd {R : Nat} {x y z : Tm} (hx : yw R x) (hy : yw R y) (h : ∃ k, mQ x.q * mQ y.q = k * k) (hz : unr x z) : unr y z := fun k hk => by
 obtain ⟨j, hj⟩ := h
 obtain ⟨_, p2, _⟩ := hy.mQ
 obtain ⟨m, hm⟩ := sJ (a := mQ x.q * mQ z.q) (b := j * k) p2 (by
  have e1 : mQ x.q * mQ z.q * (mQ y.q * mQ y.q) = (mQ x.q * mQ y.q) * (mQ y.q * mQ z.q) := by grind
  rw [e1, hj, hk]; grind)
 exact hz m hm
theorem RH {R : Nat} {t : Tm} (ht : yw R t) (hR : R < 18446744073709551616) : ∀ {cl : List Tm}, (∀ x ∈ cl, yw R x) → cl.Pairwise unr → (vo cl t).Pairwise unr ∧
  ∀ z : Tm, yw R z → (∀ x ∈ cl, unr z x) → unr z t → ∀ x ∈ vo cl t, unr z x
 | [], _, _ => ⟨List.pairwise_singleton _ _, fun z _ _ h x hx => by
  rw [List.mem_singleton.1 hx]; exact h⟩
 | x :: r, h, hp => by
  have hx := h x List.mem_cons_self
  have hr := fun y hy => h y (List.mem_cons_of_mem x hy)
  obtain ⟨p1, p2⟩ := List.pairwise_cons.1 hp
  obtain ⟨i1, i2⟩ := RH ht hR hr p2
  rw [xp]
  split
  ·rename_i hb
   have hs := lj ht hx hb
   have hj : ∀ z : Tm, yw R z → unr z x → unr z (wu x t) := fun z hz hzx => by
    rcases Q9 (x := x) (t := t) with e | e
    ·intro k; rw [e]; exact hzx k
    ·have := jd hx ht (by obtain ⟨k, hk⟩ := hs; exact ⟨k, by rw [Nat.mul_comm]; exact hk⟩) hzx.symm
     intro k; rw [e]; exact this.symm k
   refine ⟨List.pairwise_cons.2 ⟨fun y hy => (hj y (hr y hy) (p1 y hy).symm).symm, p2⟩, fun z hz hzx hzt y hy => ?_⟩
   rcases List.mem_cons.1 hy with rfl | hy
   ·exact hj z hz (hzx x List.mem_cons_self)
   ·exact hzx y (List.mem_cons_of_mem _ hy)
  ·rename_i hb
   have hb : unr t x := (UO ht hx hR).1 (by simpa using hb)
   refine ⟨List.pairwise_cons.2 ⟨fun y hy => i2 x hx p1 hb.symm y hy, i1⟩, fun z hz hzx hzt y hy => ?_⟩
   rcases List.mem_cons.1 hy with rfl | hy
   ·exact hzx y List.mem_cons_self
   ·exact i2 z hz (fun w hw => hzx w (List.mem_cons_of_mem _ hw)) hzt y hy
theorem lE {P : Rat → Prop} {t : Tm} (ht : P t.q) : ∀ {cl : List Tm}, (∀ x ∈ cl, P x.q) → ∀ x ∈ vo cl t, P x.q
 | [], _, x, hx => by rw [List.mem_singleton.1 hx]; exact ht
 | y :: r, h, x, hx => by
  rw [xp] at hx
  split at hx
  ·rcases List.mem_cons.1 hx with rfl | hx
   ·rcases Q9 (x := y) (t := t) with e | e
    ·rw [e]; exact h y List.mem_cons_self
    ·rw [e]; exact ht
   ·exact h x (List.mem_cons_of_mem _ hx)
  ·rcases List.mem_cons.1 hx with rfl | hx
   ·exact h _ List.mem_cons_self
   ·exact lE ht (fun z hz => h z (List.mem_cons_of_mem _ hz)) x hx
theorem QW {t : Tm} : ∀ {cl : List Tm}, (vo cl t).length ≤ cl.length + 1
 | [] => by simp [vo]
 | x :: r => by
  rw [xp]
  split
  ·simp
  ·simpa using QW (t := t) (cl := r)
theorem sN {R : Nat} (hR : R < 18446744073709551616) {P : Rat → Prop} : ∀ (n : Nat) {V : List Tm}, V.length = n → (∀ t ∈ V, yw R t) → (∀ t ∈ V, P t.q) →
  (wW V).Pairwise unr ∧ (∀ x ∈ wW V, yw R x) ∧ (∀ x ∈ wW V, P x.q) ∧ (wW V).length ≤ n ∧ ∀ f, Oo f → ev f (wW V) = ev f V
 | 0, V, hn, _, _ => by
  obtain rfl := List.eq_nil_of_length_eq_zero hn
  exact ⟨List.Pairwise.nil, (fun x hx => by cases hx), (fun x hx => by cases hx), Nat.le_refl _, fun f _ => rfl⟩
 | n + 1, V, hn, h, hP => by
  obtain ⟨W, t, rfl⟩ : ∃ W t, V = W ++ [t] := by
   have hne : V ≠ [] := fun e => by rw [e] at hn; cases hn
   exact ⟨V.dropLast, V.getLast hne, (List.dropLast_concat_getLast hne).symm⟩
  rw [List.length_append] at hn
  have hl : W.length = n := by simpa using hn
  obtain ⟨a1, a2, a3, a4, a5⟩ := sN hR (P := P) n hl (fun x hx => h x (List.mem_append_left _ hx)) (fun x hx => hP x (List.mem_append_left _ hx))
  have ht := h t (List.mem_append_right _ List.mem_cons_self)
  have hPt := hP t (List.mem_append_right _ List.mem_cons_self)
  rw [sj]
  refine ⟨(RH ht hR a2 a1).1, (SH (f := fun _ => 0) (fun _ _ => by simp) ht hR a2).2, lE hPt a3, Nat.le_trans QW (by omega), fun f hf => ?_⟩
  rw [(SH hf ht hR a2).1, a5 f hf, VA, yt, Y7, Rat.add_zero]
def Ol (t : Tm) : List Tm → List Tm
 | [] => [t]
 | x :: r => if x.q < t.q then x :: Ol t r else t :: x :: r
def Vi : List Tm → List Tm
 | [] => []
 | t :: r => Ol t (Vi r)
theorem VD (t : Tm) : ∀ l : List Tm, (Ol t l).Perm (t :: l)
 | [] => List.Perm.refl _
 | x :: r => by
  unfold Ol
  split
  ·exact ((VD t r).cons x).trans (List.Perm.swap t x r)
  ·exact List.Perm.refl _
theorem Xh : ∀ l : List Tm, (Vi l).Perm l
 | [] => List.Perm.refl _
 | t :: r => (VD t (Vi r)).trans ((Xh r).cons t)
def Ia (x y : Tm) : Prop := x.q ≤ y.q
theorem oY (t : Tm) : ∀ {l : List Tm}, l.Pairwise Ia → (Ol t l).Pairwise Ia
 | [], _ => List.pairwise_singleton _ _
 | x :: r, h => by
  obtain ⟨h1, h2⟩ := List.pairwise_cons.1 h
  unfold Ol
  split
  ·rename_i hlt
   refine List.pairwise_cons.2 ⟨fun y hy => ?_, oY t h2⟩
   rcases List.mem_cons.1 ((VD t r).mem_iff.1 hy) with rfl | hy
   ·exact Rat.le_of_lt hlt
   ·exact h1 y hy
  ·rename_i hge
   have hge : t.q ≤ x.q := Rat.not_lt.1 hge
   refine List.pairwise_cons.2 ⟨fun y hy => ?_, h⟩
   rcases List.mem_cons.1 hy with rfl | hy
   ·exact hge
   ·exact Rat.le_trans hge (h1 y hy)
theorem UD : ∀ l : List Tm, (Vi l).Pairwise Ia
 | [] => List.Pairwise.nil
 | t :: r => oY t (UD r)
theorem lc {R : Nat} {x y : Tm} (hx : yw R x) (h : unr x y) : x.q ≠ y.q := fun e => by
 have := h (mQ x.q)
 rw [← e] at this
 exact this rfl
theorem py {R : Nat} {l p : List Tm} (hn : ∀ x ∈ l, yw R x) (hu : l.Pairwise unr) (h1 : p.Perm l) (h2 : p.Pairwise Ia) : p = Vi l := by
 have hs := Xh l
 have hu2 : p.Pairwise unr := h1.symm.pairwise hu fun h => h.symm
 have hu3 : (Vi l).Pairwise unr := hs.symm.pairwise hu fun h => h.symm
 refine List.Perm.eq_of_pairwise (le := Ia) (fun a b ha hb hab hba => ?_) h2 (UD l) (h1.trans hs.symm)
 have e : a.q = b.q := Rat.le_antisymm hab hba
 have ha' : a ∈ l := h1.mem_iff.1 ha
 have hb' : b ∈ l := hs.mem_iff.1 hb
 refine Decidable.byContradiction fun hne => ?_
 have : ∀ {l : List Tm}, l.Pairwise unr → a ∈ l → b ∈ l → unr a b := by
  intro l hu ha hb
  induction l with
  | nil => cases ha
  | cons x r ih =>
   obtain ⟨q1, q2⟩ := List.pairwise_cons.1 hu
   rcases List.mem_cons.1 ha with ea | ha <;> rcases List.mem_cons.1 hb with eb | hb
   ·exact absurd (ea.trans eb.symm) hne
   ·rw [ea]; exact q1 b hb
   ·rw [eb]; exact (q1 a ha).symm
   ·exact ih q2 ha hb
 exact lc (hn a ha') (this hu ha' hb') e
def xF (l : List Tm) : List Tm := (wW (XG l)).filter fun t => decide (t.c ≠ 0)
def YA (l : List Tm) : List Tm := Vi (xF l)
def fR (r n : Nat) : Rat := if Z7 (n * r) * Z7 (n * r) = n * r then (Z7 (n * r) : Rat) else 0
theorem jE (k : Nat) : Z7 (k * k) = k := (Sa (Nat.le_refl _) (by grind)).symm
theorem Qv {r n k : Nat} (h : n * r = k * k) : fR r n = (k : Rat) := by unfold fR; rw [h, jE, if_pos rfl]
theorem qm {r n : Nat} (h : ∀ k, n * r ≠ k * k) : fR r n = 0 := by unfold fR; rw [if_neg fun e => h _ e.symm]
theorem mG (r : Nat) : Oo (fR r) := by
 intro k n
 by_cases hk : k = 0
 ·subst hk
  rw [Qv (k := 0) (by simp)]
  simp
 by_cases h : ∃ m, n * r = m * m
 ·obtain ⟨m, hm⟩ := h
  rw [Qv hm, Qv (k := k * m) (by rw [show k * k * n * r = k * k * (n * r) by grind, hm]; grind)]
  exact Rat.natCast_mul k m
 ·have h : ∀ m, n * r ≠ m * m := fun m hm => h ⟨m, hm⟩
  rw [qm h, qm fun m hm => ?_, Rat.mul_zero]
  obtain ⟨j, hj, _⟩ := uO (c := k) (l := n * r) (k := m) (by omega) (by rw [← hm]; grind)
  exact h j hj
theorem KX {R : Nat} {t : Tm} (h : yw R t) (r : Nat) : fQ (fR r) t.q = fR r (mQ t.q) := by
 obtain ⟨e, _, _⟩ := h.mQ
 conv => lhs; rw [e]
 exact ut _ _
theorem L1 {R r : Nat} {S : List Tm} (hn : ∀ x ∈ S, yw R x) (h : ∀ x ∈ S, ∀ k, mQ x.q * r ≠ k * k) : ev (fR r) S = 0 := by
 induction S with
 | nil => rfl
 | cons x S ih =>
  simp only [yt, Y7]
  rw [KX (hn x List.mem_cons_self), qm (h x List.mem_cons_self), Rat.mul_zero, Rat.zero_add]
  exact ih (fun y hy => hn y (List.mem_cons_of_mem _ hy)) fun y hy => h y (List.mem_cons_of_mem _ hy)
theorem PE {R : Nat} {x : Tm} : ∀ {S : List Tm}, (∀ y ∈ S, yw R y) → S.Pairwise unr → x ∈ S → ev (fR (mQ x.q)) S = x.c * (mQ x.q : Rat)
 | y :: S, hn, hu, hx => by
  obtain ⟨u1, u2⟩ := List.pairwise_cons.1 hu
  have hS := fun z hz => hn z (List.mem_cons_of_mem y hz)
  simp only [yt, Y7]
  rcases List.mem_cons.1 hx with rfl | hx
  ·rw [KX (hn x List.mem_cons_self), Qv rfl, L1 hS fun z hz k hk => u1 z hz k (by rw [Nat.mul_comm]; exact hk), Rat.add_zero]
  ·rw [KX (hn y List.mem_cons_self), qm fun k hk => u1 x hx k hk, Rat.mul_zero, Rat.zero_add]
   exact PE hS u2 hx
end Go.Ar

namespace Go.Ar
open Go Go.Lib
set_option maxRecDepth 100000
structure gS (R : Nat) (s : List Tm) : Prop where
 nat : ∀ x ∈ s, yw R x
 ne : ∀ x ∈ s, x.c ≠ 0
 nrm : ∀ x ∈ s, nrm (mQ x.q) = (1, mQ x.q)
 unr : s.Pairwise unr
 le : s.Pairwise Ia
def inT (R : Nat) (l : List Tm) : Prop := ∀ t ∈ l, 0 ≤ t.q ∧ (nrm (mQ t.q)).2 ≤ R
theorem P4 {R : Nat} {l : List Tm} (h : inT R l) : (∀ t ∈ XG l, yw R t) ∧ ∀ t ∈ XG l, nrm (mQ t.q) = (1, mQ t.q) := by
 have key : ∀ t ∈ XG l, yw R t ∧ nrm (mQ t.q) = (1, mQ t.q) := fun t ht => by
  unfold XG at ht
  obtain ⟨u, hu, rfl⟩ := List.mem_map.1 ht
  obtain ⟨hu1, hu2⟩ := List.mem_filter.1 hu
  rw [Bool.and_eq_true, decide_eq_true_iff, decide_eq_true_iff] at hu2
  obtain ⟨h0, h1⟩ := h u hu1
  obtain ⟨n1, n2, n3, n4⟩ := tW (Px (Rat.lt_of_le_of_ne h0 (Ne.symm hu2.2)))
  have hq : (ru u).q = (((Ar.nrm (mQ u.q)).2 : Nat) : Rat) := rfl
  rw [hq, Qb]
  exact ⟨⟨_, hq, n3, h1⟩, n4⟩
 exact ⟨fun t ht => (key t ht).1, fun t ht => (key t ht).2⟩
theorem QF (f : Nat → Rat) : ∀ l : List Tm, ev f (l.filter fun t => decide (t.c ≠ 0)) = ev f l
 | [] => rfl
 | t :: l => by
  rw [List.filter_cons]
  split
  ·simp only [yt, Y7]; rw [QF f l]
  ·rename_i h
   have h : t.c = 0 := by simpa using h
   rw [QF f l]
   conv => rhs; rw [yt]
   rw [h, Rat.zero_mul, Rat.zero_add]
theorem Vn {R : Nat} (hR : R < 18446744073709551616) {l : List Tm} (h : inT R l) :
  (wW (XG l)).Pairwise unr ∧ (∀ x ∈ wW (XG l), yw R x) ∧ (∀ x ∈ wW (XG l), nrm (mQ x.q) = (1, mQ x.q)) ∧ (wW (XG l)).length ≤ l.length ∧ ∀ f, Oo f → ev f (wW (XG l)) = ev f l := by
 obtain ⟨v1, v2⟩ := P4 h
 obtain ⟨a1, a2, a3, a4, a5⟩ := sN hR (P := fun q => nrm (mQ q) = (1, mQ q)) _ rfl v1 v2
 refine ⟨a1, a2, a3, Nat.le_trans a4 ?_, fun f hf => ?_⟩
 ·unfold XG
  rw [List.length_map]
  exact List.length_filter_le _ _
 ·rw [a5 f hf, P2 hf fun t ht => (h t ht).1]
theorem Tv {R : Nat} (hR : R < 18446744073709551616) {l : List Tm} (h : inT R l) : gS R (YA l) ∧ (YA l).length ≤ l.length ∧ ∀ f, Oo f → ev f (YA l) = ev f l := by
 obtain ⟨a1, a2, a3, a4, a5⟩ := Vn hR h
 have hp := Xh (xF l)
 have hm : ∀ x, x ∈ YA l → x ∈ wW (XG l) ∧ x.c ≠ 0 := fun x hx => by
  obtain ⟨b1, b2⟩ := List.mem_filter.1 (hp.mem_iff.1 hx)
  exact ⟨b1, by simpa using b2⟩
 refine ⟨⟨fun x hx => a2 x (hm x hx).1, fun x hx => (hm x hx).2, fun x hx => a3 x (hm x hx).1, hp.symm.pairwise (a1.filter _) fun h => h.symm, UD _⟩, ?_, fun f hf => ?_⟩
 ·show (Vi (xF l)).length ≤ _
  rw [hp.length_eq]
  exact Nat.le_trans (List.length_filter_le _ _) a4
 ·show ev f (Vi (xF l)) = _
  rw [L2 hp]
  show ev f ((wW (XG l)).filter _) = _
  rw [QF, a5 f hf]
theorem JZ {R : Nat} {s : List Tm} (h : gS R s) (he : ∀ f, Oo f → ev f s = 0) : s = [] := by
 cases s with
 | nil => rfl
 | cons x r =>
  have h1 := PE h.nat h.unr (x := x) List.mem_cons_self
  rw [he _ (mG _)] at h1
  obtain ⟨_, hp, _⟩ := (h.nat x List.mem_cons_self).mQ
  rcases Rat.mul_eq_zero.1 h1.symm with e | e
  ·exact absurd e (h.ne x List.mem_cons_self)
  ·have := Rat.natCast_eq_zero_iff.1 e
   omega
def Zq (k : Rat) (l : List Tm) : List Tm := l.map fun t => ⟨t.c * k, t.q⟩
theorem NC (f : Nat → Rat) (k : Rat) : ∀ l : List Tm, ev f (Zq k l) = ev f l * k
 | [] => by simp [Zq, ev]
 | t :: l => by
  have := NC f k l
  unfold Zq at this ⊢
  rw [List.map_cons]
  simp only [yt, Y7]
  rw [this]
  grind
theorem QE {R : Nat} {a b : List Tm} (ha : inT R a) (hb : inT R b) : inT R (a ++ b) := fun t ht => by
 rcases List.mem_append.1 ht with h | h
 ·exact ha t h
 ·exact hb t h
theorem Ko {R : Nat} {k : Rat} {a : List Tm} (ha : inT R a) : inT R (Zq k a) := fun t ht => by
 obtain ⟨u, hu, rfl⟩ := List.mem_map.1 ht
 exact ha u hu
theorem oK {R : Nat} {t : Tm} (h : yw R t) : 0 ≤ t.q ∧ (nrm (mQ t.q)).2 ≤ R := by
 obtain ⟨e, h0, h1⟩ := h.mQ
 refine ⟨?_, Nat.le_trans (MI h0).2.1 h1⟩
 rw [e]
 exact Rat.natCast_nonneg
theorem gS.inT {R : Nat} {s : List Tm} (h : gS R s) : inT R s := fun t ht => oK (h.nat t ht)
theorem sub_zero {R : Nat} (hR : R < 18446744073709551616) {s t : List Tm} (hs : inT R s) (ht : inT R t) (h : ∀ f, Oo f → ev f s = ev f t) : YA (s ++ Zq (-1) t) = [] := by
 obtain ⟨h1, _, h3⟩ := Tv hR (QE hs (Ko (k := -1) ht))
 refine JZ h1 fun f hf => ?_
 rw [h3 f hf, VA, NC, h f hf]
 grind
def bi (f : Nat → Rat) : List Tm → List Tm → Rat
 | [], _ => 0
 | a :: s, t => a.c * ev (fun n => f (mQ a.q * n)) t + bi f s t
def pg (L B : Nat) (V : List Tm) : Prop := ∀ r k : Nat, 0 < r → ∃ z : Int, ev (fR r) (V.take k) * (L : Rat) = (z : Rat) ∧ z.natAbs ≤ B * r
theorem pg.mono {L B C : Nat} {V : List Tm} (h : pg L B V) (hc : B ≤ C) : pg L C V := fun r k hr => by
 obtain ⟨z, h1, h2⟩ := h r k hr
 exact ⟨z, h1, Nat.le_trans h2 (Nat.mul_le_mul_right _ hc)⟩
theorem fE {R r n : Nat} (hr : 0 < r) (hn : n ≤ R) : ∃ m : Nat, fR r n = (m : Rat) ∧ m ≤ R * r := by
 by_cases h : ∃ m, n * r = m * m
 ·obtain ⟨m, hm⟩ := h
  refine ⟨m, Qv hm, ?_⟩
  have h1 : n * r ≤ R * r := Nat.mul_le_mul_right _ hn
  have h2 : m ≤ m * m := by
   cases m with
   | zero => omega
   | succ m => exact Nat.le_mul_of_pos_left _ (by omega)
  omega
 ·exact ⟨0, qm fun m hm => h ⟨m, hm⟩, Nat.zero_le _⟩
theorem Jn {R L D : Nat} : ∀ {V : List Tm}, (∀ t ∈ V, yw R t) → (∀ t ∈ V, ∃ z : Int, t.c * (L : Rat) = (z : Rat) ∧ z.natAbs ≤ D) → pg L (V.length * (D * R)) V
 | [], _, _ => fun r k _ => ⟨0, by rw [List.take_nil]; simp only [yt, Y7]; rw [Rat.zero_mul]; rfl, Nat.zero_le _⟩
 | t :: V, h, g => fun r k hr => by
  match k with
  | 0 => exact ⟨0, by rw [List.take_zero]; simp only [yt, Y7]; rw [Rat.zero_mul]; rfl, Nat.zero_le _⟩
  | k + 1 =>
   obtain ⟨z, h1, h2⟩ := Jn (fun x hx => h x (List.mem_cons_of_mem _ hx)) (fun x hx => g x (List.mem_cons_of_mem _ hx)) r k hr
   obtain ⟨y, g1, g2⟩ := g t List.mem_cons_self
   have ht := h t List.mem_cons_self
   obtain ⟨m, m1, m2⟩ := fE (r := r) hr ht.mQ.2.2
   refine ⟨y * m + z, ?_, ?_⟩
   ·rw [List.take_succ_cons]
    simp only [yt, Y7]
    rw [KX ht, m1, Rat.intCast_add, ← h1, Rat.intCast_mul, ← g1, Rat.intCast_natCast]
    grind
   ·have a1 := Int.natAbs_add_le (y * m) z
    have a2 : (y * m).natAbs ≤ D * (R * r) := by rw [Int.natAbs_mul, Int.natAbs_natCast]; exact Nat.mul_le_mul g2 m2
    rw [List.length_cons, Nat.add_mul, Nat.add_mul]
    rw [← Nat.mul_assoc] at a2
    rw [Nat.one_mul]
    exact Nat.le_trans a1 (Nat.le_trans (Nat.add_le_add a2 h2) (Nat.le_of_eq (Nat.add_comm _ _)))
theorem Kn {R L B K : Nat} {S V : List Tm} (hL : 0 < L) (hn : ∀ x ∈ S, yw R x) (hu : S.Pairwise unr) (he : ∀ f, Oo f → ev f S = ev f V) (h : pg L B V) (h1 : B * R < 10 ^ K) (h2 : L * R < 10 ^ K) : ∀ x ∈ S, bq K x.c := fun x hx => by
 obtain ⟨e, p0, pR⟩ := (hn x hx).mQ
 obtain ⟨z, z1, z2⟩ := h (mQ x.q) V.length p0
 rw [List.take_length, ← he _ (mG _), PE hn hu hx] at z1
 generalize mQ x.q = r at *
 have hd : ((L * r : Nat) : Rat) ≠ 0 := fun e => by
  have := Rat.natCast_eq_zero_iff.1 e
  have := Nat.mul_pos hL p0
  omega
 have ec : x.c = mkRat z (L * r) := by
  rw [Rat.mkRat_eq_div, ← z1]
  rw [Rat.natCast_mul] at hd ⊢
  grind
 rw [ec]
 exact sr (Nat.mul_pos hL p0) (Nat.lt_of_le_of_lt (Nat.le_trans z2 (Nat.mul_le_mul_left _ pR)) h1) (Nat.lt_of_le_of_lt (Nat.mul_le_mul_left _ pR) h2)
theorem H8 {R L B K : Nat} (hR : R < 18446744073709551616) {l : List Tm} (hi : inT R l) (hL : 0 < L) (h : pg L B l) (h1 : B * R < 10 ^ K) (h2 : L * R < 10 ^ K) : ∀ k, ∀ x ∈ wW (XG (l.take k)), bq K x.c := fun k => by
 obtain ⟨a1, a2, _, _, a5⟩ := Vn hR (l := l.take k) fun t ht => hi t (List.mem_of_mem_take ht)
 refine Kn hL a2 a1 a5 (V := l.take k) (fun r j hr => ?_) h1 h2
 rw [List.take_take]
 exact h r _ hr
end Go.Ar
