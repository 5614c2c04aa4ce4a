/- Roots of any numbers, by Newton's way. -/
import Derived.Test.YthbpnknhfokadaaGreatDoorArW
import Derived.Test.YthbpnknhfokadaaGreatDoorArO
set_option linter.unusedSimpArgs false
set_option linter.unusedVariables false
namespace Go.Ar
open Go Go.Sx Go.Lib
def ZJ (n : Nat) : Nat := uN n n
theorem yH (n : Nat) : ZJ n * ZJ n ≤ n ∧ n < (ZJ n + 1) * (ZJ n + 1) := Vs n n (Nat.lt_pow_self (by decide))
theorem Ss {n r : Nat} (h1 : r * r ≤ n) (h2 : n < (r + 1) * (r + 1)) : r = ZJ n := by
 obtain ⟨s1, s2⟩ := yH n
 have a := xR (a := r) (b := ZJ n + 1) (by omega)
 have b := xR (a := ZJ n) (b := r + 1) (by omega)
 omega
theorem mY {n : Nat} (h : 0 < n) : 0 < ZJ n := Nat.pos_of_ne_zero fun e => by
 have := (yH n).2
 rw [e] at this
 omega
theorem jZ {n z : Nat} (hz : 0 < z) (hn : n < (z + 1) * (z + 1)) (h0 : 0 < n) :
  (z ≤ (z + n / z) / 2 → z = ZJ n) ∧ ((z + n / z) / 2 < z → 0 < (z + n / z) / 2 ∧ n < ((z + n / z) / 2 + 1) * ((z + n / z) / 2 + 1)) := by
 obtain ⟨s1, s2⟩ := yH n
 have hg := Pd (n := n) (r := z) (s := ZJ n) hz s1
 have hp := mY h0
 refine ⟨fun h => Ss (ss hz h) hn, fun _ => ⟨by omega, ?_⟩⟩
 exact Nat.lt_of_lt_of_le s2 (Nat.mul_le_mul (by omega) (by omega))
theorem P0 (n : Nat) : ZJ n ≤ n := by
 obtain ⟨s1, _⟩ := yH n
 rcases Nat.eq_zero_or_pos (ZJ n) with h | h
 ·omega
 ·have := Nat.mul_le_mul_right (ZJ n) h
  omega
theorem Ka {n d : Nat} (h : d * d ≤ n) : d ≤ ZJ n := by
 have := xR (a := d) (b := ZJ n + 1) (by have := (yH n).2; omega)
 omega
theorem PN : ∀ k : Nat, ze (List.replicate k 48) = 0
 | 0 => rfl
 | k + 1 => by
  rw [List.replicate_succ, xy, PN k]
  show vm 48 * _ + 0 = 0
  rw [show vm 48 = 0 from by decide, Nat.zero_mul]
theorem Pi (k : Nat) : Zy (49 :: List.replicate k 48) = true ∧ zY (49 :: List.replicate k 48) = ((10 ^ k : Nat) : Int) := by
 have hd : Z1 (49 :: List.replicate k 48) = true := by
  refine Zr.2 ⟨by simp, fun c hc => ?_, ?_⟩
  ·rcases List.mem_cons.1 hc with rfl | hc
   ·decide
   ·rw [(List.mem_replicate.1 hc).2]; decide
  ·simp
 obtain ⟨h1, h2⟩ := wD hd
 refine ⟨h1, h2.trans ?_⟩
 rw [xy, PN, List.length_replicate, show vm 49 = 1 from by decide, Nat.one_mul, Nat.add_zero]
end Go.Ar

namespace Go.Ar
open Go Go.Lib
set_option maxRecDepth 100000
structure Tm where
 c : Rat
 q : Rat
deriving DecidableEq
def hom (f : Nat → Rat) : Prop := ∀ k n : Nat, f (k * k * n) = (k : Rat) * f n
def mQ (q : Rat) : Nat := q.num.toNat * q.den
def fQ (f : Nat → Rat) (q : Rat) : Rat := f (mQ q) / (q.den : Rat)
def ev (f : Nat → Rat) : List Tm → Rat
 | [] => 0
 | t :: l => t.c * fQ f t.q + ev f l
theorem yz (f : Nat → Rat) : ev f [] = 0 := rfl
theorem Zk (f : Nat → Rat) (t : Tm) (l : List Tm) : ev f (t :: l) = t.c * fQ f t.q + ev f l := rfl
theorem WM (f : Nat → Rat) : ∀ a b : List Tm, ev f (a ++ b) = ev f a + ev f b
 | [], b => by simp [ev, Rat.zero_add]
 | t :: a, b => by
  rw [List.cons_append]
  simp only [Zk, yz]
  rw [WM f a b, Rat.add_assoc]
theorem LQ {f : Nat → Rat} {a b : List Tm} (h : a.Perm b) : ev f a = ev f b := by
 induction h with
 | nil => rfl
 | cons x _ ih => rw [Zk, Zk, ih]
 | swap x y l => simp only [Zk]; grind
 | trans _ _ h1 h2 => rw [h1, h2]
def rR (t : Tm) : Tm := ⟨t.c * mkRat (nrm (mQ t.q)).1 t.q.den, ((nrm (mQ t.q)).2 : Rat)⟩
def Xq (l : List Tm) : List Tm := (l.filter fun t => decide (t.c ≠ 0) && decide (t.q ≠ 0)).map rR
theorem WU (r : Nat) : mQ (r : Rat) = r := by
 unfold mQ
 rw [Rat.num_natCast, Rat.den_natCast, Nat.mul_one, Int.toNat_natCast]
theorem XK (f : Nat → Rat) (r : Nat) : fQ f (r : Rat) = f r := by
 unfold fQ
 rw [WU, Rat.den_natCast]
 show f r / 1 = f r
 grind
theorem rC {f : Nat → Rat} (hf : hom f) : f 0 = 0 := by
 have := hf 0 0
 simpa using this
theorem qf {q : Rat} (h : 0 < q) : 0 < mQ q := by
 unfold mQ
 have : 0 < q.num := by
  have := Rat.num_nonneg.2 (Rat.le_of_lt h)
  have h2 : q.num ≠ 0 := fun e => (Rat.ne_of_gt h) (Rat.num_eq_zero.1 e)
  omega
 exact Nat.mul_pos (by omega) q.den_pos
theorem KO {f : Nat → Rat} (hf : hom f) {t : Tm} (h : 0 < t.q) : (rR t).c * fQ f (rR t).q = t.c * fQ f t.q := by
 obtain ⟨h1, h2, h3, h4⟩ := UZ (qf h)
 unfold rR
 simp only [XK]
 unfold fQ
 conv => rhs; rw [← h1, hf]
 rw [Rat.mkRat_eq_div]
 have hd : (t.q.den : Rat) ≠ 0 := by
  intro e
  have := t.q.den_pos
  have e := Rat.natCast_eq_zero_iff.1 e
  omega
 rw [Rat.intCast_natCast]
 generalize ((Ar.nrm (mQ t.q)).1 : Rat) = x at *
 generalize (t.q.den : Rat) = d at *
 generalize f (Ar.nrm (mQ t.q)).2 = y at *
 grind
theorem pH {f : Nat → Rat} (hf : hom f) : ∀ {l : List Tm}, (∀ t ∈ l, 0 ≤ t.q) → ev f (Xq l) = ev f l
 | [], _ => rfl
 | t :: l, h => by
  have ih := pH hf (l := l) fun t ht => h t (List.mem_cons_of_mem _ ht)
  have h0 := h t List.mem_cons_self
  unfold Xq at ih ⊢
  rw [List.filter_cons]
  by_cases hc : t.c = 0
  ·rw [if_neg (by simp [hc]), ih]
   simp only [Zk, yz]
   rw [hc, Rat.zero_mul, Rat.zero_add]
  by_cases hq : t.q = 0
  ·rw [if_neg (by simp [hq]), ih]
   conv => rhs; rw [Zk]
   have : fQ f t.q = 0 := by
    rw [hq]
    show f (0 * 1) / 1 = 0
    rw [Nat.zero_mul, rC hf]
    grind
   rw [this, Rat.mul_zero, Rat.zero_add]
  ·rw [if_pos (by simp [hc, hq]), List.map_cons]
   simp only [Zk, yz]
   rw [ih, KO hf (Rat.lt_of_le_of_ne h0 (Ne.symm hq))]
def I6 (x : Rat) : Bool := Nat.beq (y7 x.num.toNat * y7 x.num.toNat) x.num.toNat && Nat.beq (y7 x.den * y7 x.den) x.den
def I9 (x : Rat) : Rat := mkRat (y7 x.num.toNat) (y7 x.den)
def yF (p q : Rat) : Bool := I6 (p / q)
def wj (p q : Rat) : Rat := I9 (p / q)
theorem QI {r s : Nat} (hr : 0 < r) (hs : 0 < s) (h : yF (r : Rat) (s : Rat) = true) : ∃ u v : Nat, 0 < u ∧ 0 < v ∧ r * (v * v) = s * (u * u) ∧ wj (r : Rat) (s : Rat) = mkRat u v := by
 unfold yF I6 at h
 rw [Bool.and_eq_true, Nat.beq_eq, Nat.beq_eq] at h
 obtain ⟨h1, h2⟩ := h
 have e : ((r : Rat) / (s : Rat)) = mkRat (r : Int) s := by rw [Rat.mkRat_eq_div]; rfl
 unfold wj I9
 rw [e] at h1 h2 ⊢
 rw [Rat.num_mkRat, if_neg (by omega)] at h1 ⊢
 rw [Rat.den_mkRat, if_neg (by omega)] at h2 ⊢
 rw [Int.natAbs_natCast] at h1 h2 ⊢
 have hg : 0 < Nat.gcd s r := Nat.gcd_pos_of_pos_left _ hs
 obtain ⟨a, ha⟩ := Nat.gcd_dvd_right s r
 obtain ⟨b, hb⟩ := Nat.gcd_dvd_left s r
 generalize Nat.gcd s r = g at *
 subst ha hb
 have e1 : (((g * a : Nat) : Int) / (g : Int)).toNat = a := by
  rw [← Int.natCast_ediv, Nat.mul_div_cancel_left _ hg, Int.toNat_natCast]
 have e2 : g * b / g = b := Nat.mul_div_cancel_left _ hg
 rw [e1] at h1 ⊢
 rw [e2] at h2 ⊢
 have ha0 : 0 < a := Nat.pos_of_mul_pos_left hr
 have hb0 : 0 < b := Nat.pos_of_mul_pos_left hs
 refine ⟨y7 a, y7 b, Nat.pos_of_ne_zero fun e => by rw [e] at h1; omega, Nat.pos_of_ne_zero fun e => by rw [e] at h2; omega, ?_, rfl⟩
 rw [h1, h2]
 grind
theorem lK {f : Nat → Rat} (hf : hom f) {r s : Nat} (hr : 0 < r) (hs : 0 < s) (h : yF (r : Rat) (s : Rat) = true) : f r = wj (r : Rat) (s : Rat) * f s := by
 obtain ⟨u, v, hu, hv, e, e2⟩ := QI hr hs h
 rw [e2, Rat.mkRat_eq_div]
 have h1 : (v : Rat) * f r = (u : Rat) * f s := by
  rw [← hf, ← hf, Nat.mul_comm (v * v), Nat.mul_comm (u * u), e]
 have hd : (v : Rat) ≠ 0 := fun e => by
  have e := Rat.natCast_eq_zero_iff.1 e
  omega
 have h2 : ((u : Int) : Rat) = (u : Rat) := Rat.intCast_natCast u
 rw [h2]
 grind
theorem NV {r s : Nat} (hr : 0 < r) (hs : 0 < s) (br : r < 18446744073709551616) (bs : s < 18446744073709551616) (h : yF (r : Rat) (s : Rat) = false) : ∀ k : Nat, r * s ≠ k * k := by
 intro k hk
 have e : ((r : Rat) / (s : Rat)) = mkRat (r : Int) s := by rw [Rat.mkRat_eq_div]; rfl
 unfold yF I6 at h
 rw [e, Rat.num_mkRat, if_neg (by omega), Rat.den_mkRat, if_neg (by omega), Int.natAbs_natCast] at h
 have hg : 0 < Nat.gcd s r := Nat.gcd_pos_of_pos_left _ hs
 have hc := Nat.coprime_div_gcd_div_gcd hg
 obtain ⟨a, ha⟩ := Nat.gcd_dvd_right s r
 obtain ⟨b, hb⟩ := Nat.gcd_dvd_left s r
 generalize Nat.gcd s r = g at *
 subst ha hb
 have e1 : (((g * a : Nat) : Int) / (g : Int)).toNat = a := by
  rw [← Int.natCast_ediv, Nat.mul_div_cancel_left _ hg, Int.toNat_natCast]
 have e2 : g * b / g = b := Nat.mul_div_cancel_left _ hg
 have e3 : g * a / g = a := Nat.mul_div_cancel_left _ hg
 rw [e1, e2] at h
 rw [e2, e3] at hc
 have ha0 : 0 < a := Nat.pos_of_mul_pos_left hr
 have hb0 : 0 < b := Nat.pos_of_mul_pos_left hs
 have hla : a ≤ g * a := Nat.le_mul_of_pos_left _ hg
 have hlb : b ≤ g * b := Nat.le_mul_of_pos_left _ hg
 -- a * b is a square, too
 have hgk : g ∣ k := by
  refine Tq (a := g) (b := k) ?_
  rw [← hk]
  exact ⟨a * b, by grind⟩
 obtain ⟨m, rfl⟩ := hgk
 have hab : a * b = m * m := by
  have h1 : (g * g) * (a * b) = (g * g) * (m * m) := by grind
  exact Nat.eq_of_mul_eq_mul_left (Nat.mul_pos hg hg) h1
 have key : ∀ x y : Nat, 0 < x → Nat.Coprime y x → x * y = m * m → Nat.gcd x m * Nat.gcd x m = x := by
  intro x y hx hco hxy
  have h1 : Nat.gcd x m * Nat.gcd x m = Nat.gcd (x * x) (m * m) := by
   have := Nat.pow_gcd_pow (k := 2) (n := x) (m := m)
   rw [Nat.pow_two, Nat.pow_two, Nat.pow_two] at this
   exact this.symm
  rw [h1, ← hxy, Nat.gcd_mul_left]
  rw [show Nat.gcd x y = 1 from Nat.gcd_comm x y ▸ hco, Nat.mul_one]
 have ka := key a b ha0 hc hab
 have kb := key b a hb0 (Nat.Coprime.symm hc) (by rw [Nat.mul_comm]; exact hab)
 have q1 : y7 a * y7 a = a := by
  have := Mn (k := Nat.gcd a m) (by omega)
  rw [ka] at this
  rw [this, ka]
 have q2 : y7 b * y7 b = b := by
  have := Mn (k := Nat.gcd b m) (by omega)
  rw [kb] at this
  rw [this, kb]
 generalize y7 a = x at *
 generalize y7 b = y at *
 rw [q1, q2] at h
 rw [Nat.beq_refl, Nat.beq_refl] at h
 cases h
def XD (x t : Tm) : Tm := if t.q < x.q then ⟨t.c + x.c * wj x.q t.q, t.q⟩ else ⟨x.c + t.c * wj t.q x.q, x.q⟩
def Wb : List Tm → Tm → List Tm
 | [], t => [t]
 | x :: r, t => if yF t.q x.q then XD x t :: r else x :: Wb r t
theorem xz (x : Tm) (r : List Tm) (t : Tm) : Wb (x :: r) t = if yF t.q x.q then XD x t :: r else x :: Wb r t := rfl
def XC (l : List Tm) : List Tm := l.foldl Wb []
theorem TI (l : List Tm) (t : Tm) : XC (l ++ [t]) = Wb (XC l) t := by unfold XC; rw [List.foldl_append]; rfl
theorem pN {t d : Tm} : ∀ {cl : List Tm} {i : Nat}, i < cl.length → (∀ j, j < i → yF t.q (cl.getD j d).q = false) → yF t.q (cl.getD i d).q = true → Wb cl t = cl.set i (XD (cl.getD i d) t)
 | x :: r, 0, _, _, h => by
  rw [xz]
  rw [if_pos (show yF t.q x.q = true from h)]; rfl
 | x :: r, i + 1, hi, hn, h => by
  rw [xz]
  have h0 : yF t.q x.q = false := hn 0 (by omega)
  rw [if_neg (by rw [h0]; decide), pN (d := d) (i := i) (by simpa using hi) (fun j hj => hn (j + 1) (by omega)) h]
  rfl
theorem T6 {t d : Tm} : ∀ {cl : List Tm}, (∀ j, j < cl.length → yF t.q (cl.getD j d).q = false) → Wb cl t = cl ++ [t]
 | [], _ => rfl
 | x :: r, h => by
  rw [xz]
  have h0 : yF t.q x.q = false := h 0 (by simp)
  rw [if_neg (by rw [h0]; decide), T6 (d := d) fun j hj => h (j + 1) (by simpa using hj)]
  rfl
def Zw (R : Nat) (t : Tm) : Prop := ∃ r : Nat, t.q = (r : Rat) ∧ 0 < r ∧ r ≤ R
theorem pZ {x t : Tm} : (XD x t).q = x.q ∨ (XD x t).q = t.q := by
 unfold XD
 split
 ·exact .inr rfl
 ·exact .inl rfl
theorem oH {R : Nat} {x t : Tm} (hx : Zw R x) (ht : Zw R t) : Zw R (XD x t) := by
 unfold Zw
 rcases pZ (x := x) (t := t) with e | e <;> rw [e] <;> assumption
theorem Kk {f : Nat → Rat} (hf : hom f) {R : Nat} {x t : Tm} (hx : Zw R x) (ht : Zw R t) (hR : R < 18446744073709551616) (h : yF t.q x.q = true) :
  (XD x t).c * fQ f (XD x t).q = x.c * fQ f x.q + t.c * fQ f t.q := by
 obtain ⟨r, hr, hr0, hrR⟩ := hx
 obtain ⟨s, hs, hs0, hsR⟩ := ht
 have h' : yF x.q t.q = true := by
  rw [hr, hs] at h ⊢
  cases hb : yF (r : Rat) (s : Rat) with
  | true => rfl
  | false =>
   obtain ⟨u, v, hu, hv, e, _⟩ := QI hs0 hr0 h
   have := NV hr0 hs0 (by omega) (by omega) hb
   -- r * s is the square of r * u / v
   have h1 : (r * s) * (v * v) = (r * u) * (r * u) := by grind
   obtain ⟨j, hj, _⟩ := Wq (c := v) (l := r * s) (k := r * u) hv (by rw [← h1, Nat.mul_comm])
   exact absurd hj (this j)
 unfold XD
 split
 ·simp only
  rw [hs, hr, XK, XK]
  rw [hs, hr] at h'
  rw [lK hf hr0 hs0 h']
  grind
 ·simp only
  rw [hs, hr, XK, XK]
  rw [hs, hr] at h
  rw [lK hf hs0 hr0 h]
  grind
theorem Sq {f : Nat → Rat} (hf : hom f) {R : Nat} {t : Tm} (ht : Zw R t) (hR : R < 18446744073709551616) : ∀ {cl : List Tm}, (∀ x ∈ cl, Zw R x) → ev f (Wb cl t) = ev f cl + t.c * fQ f t.q ∧ ∀ x ∈ Wb cl t, Zw R x
 | [], _ => by
  refine ⟨by simp only [Wb, Zk, yz]; grind, fun x hx => ?_⟩
  rw [List.mem_singleton.1 hx]; exact ht
 | x :: r, h => by
  obtain ⟨ih1, ih2⟩ := Sq hf ht hR (cl := r) fun x hx => h x (List.mem_cons_of_mem _ hx)
  have hx := h x List.mem_cons_self
  rw [xz]
  split
  ·rename_i hb
   refine ⟨?_, fun y hy => ?_⟩
   ·simp only [Zk, yz]
    rw [Kk hf hx ht hR hb]
    grind
   ·rcases List.mem_cons.1 hy with rfl | hy
    ·exact oH hx ht
    ·exact h y (List.mem_cons_of_mem _ hy)
  ·refine ⟨?_, fun y hy => ?_⟩
   ·simp only [Zk, yz]
    rw [ih1]
    grind
   ·rcases List.mem_cons.1 hy with rfl | hy
    ·exact hx
    ·exact ih2 y hy
end Go.Ar

namespace Go.Ar
open Go Go.Lib
set_option maxRecDepth 100000
def unr (x y : Tm) : Prop := ∀ k : Nat, mQ x.q * mQ y.q ≠ k * k
theorem unr.symm {x y : Tm} (h : unr x y) : unr y x := fun k => by rw [Nat.mul_comm]; exact h k
theorem Zw.mQ {R : Nat} {t : Tm} (h : Zw R t) : t.q = ((mQ t.q : Nat) : Rat) ∧ 0 < mQ t.q ∧ mQ t.q ≤ R := by
 obtain ⟨r, hr, h0, h1⟩ := h
 rw [hr, WU]
 exact ⟨rfl, h0, h1⟩
theorem XG {a b r : Nat} (hr : 0 < r) (h : a * (r * r) = b * b) : ∃ k, a = k * k := by
 obtain ⟨j, hj, _⟩ := Wq (c := r) (l := a) (k := b) hr (by rw [← h, Nat.mul_comm])
 exact ⟨j, hj⟩
theorem md {R : Nat} {x y : Tm} (hx : Zw R x) (hy : Zw R y) (h : yF x.q y.q = true) : ∃ k, mQ x.q * mQ y.q = k * k := by
 obtain ⟨e1, p1, _⟩ := hx.mQ
 obtain ⟨e2, p2, _⟩ := hy.mQ
 rw [e1, e2] at h
 obtain ⟨u, v, hu, hv, e, _⟩ := QI p1 p2 h
 exact XG (r := v) (b := mQ y.q * u) hv (by grind)
theorem uI {R : Nat} {x y : Tm} (hx : Zw R x) (hy : Zw R y) (hR : R < 18446744073709551616) : yF x.q y.q = false ↔ unr x y := by
 obtain ⟨e1, p1, b1⟩ := hx.mQ
 obtain ⟨e2, p2, b2⟩ := hy.mQ
 constructor
 ·intro h
  rw [e1, e2] at h
  exact NV p1 p2 (by omega) (by omega) h
 ·intro h
  refine Bool.eq_false_iff.2 fun e => ?_
  obtain ⟨k, hk⟩ := md hx hy e
  exact h k hk
theorem kc {R : Nat} {x y z : Tm} (hx : Zw R x) (hy : Zw R y) (h : ∃ k, mQ x.q * mQ y.q = k * k) (hz : unr x z) : unr y z := fun k hk => by
 obtain ⟨j, hj⟩ := h
 obtain ⟨_, p2, _⟩ := hy.mQ
 obtain ⟨m, hm⟩ := XG (a := mQ x.q * mQ z.q) (b := j * k) p2 (by
  have e1 : mQ x.q * mQ z.q * (mQ y.q * mQ y.q) = (mQ x.q * mQ y.q) * (mQ y.q * mQ z.q) := by grind
  rw [e1, hj, hk]; grind)
 exact hz m hm
theorem Rh {R : Nat} {t : Tm} (ht : Zw R t) (hR : R < 18446744073709551616) : ∀ {cl : List Tm}, (∀ x ∈ cl, Zw R x) → cl.Pairwise unr → (Wb cl t).Pairwise unr ∧
  ∀ z : Tm, Zw R z → (∀ x ∈ cl, unr z x) → unr z t → ∀ x ∈ Wb cl t, unr z x
 | [], _, _ => ⟨List.pairwise_singleton _ _, fun z _ _ h x hx => by
  rw [List.mem_singleton.1 hx]; exact h⟩
 | x :: r, h, hp => by
  have hx := h x List.mem_cons_self
  have hr := fun y hy => h y (List.mem_cons_of_mem x hy)
  obtain ⟨p1, p2⟩ := List.pairwise_cons.1 hp
  obtain ⟨i1, i2⟩ := Rh ht hR hr p2
  rw [xz]
  split
  ·rename_i hb
   have hs := md ht hx hb
   have hj : ∀ z : Tm, Zw R z → unr z x → unr z (XD x t) := fun z hz hzx => by
    rcases pZ (x := x) (t := t) with e | e
    ·intro k; rw [e]; exact hzx k
    ·have := kc hx ht (by obtain ⟨k, hk⟩ := hs; exact ⟨k, by rw [Nat.mul_comm]; exact hk⟩) hzx.symm
     intro k; rw [e]; exact this.symm k
   refine ⟨List.pairwise_cons.2 ⟨fun y hy => (hj y (hr y hy) (p1 y hy).symm).symm, p2⟩, fun z hz hzx hzt y hy => ?_⟩
   rcases List.mem_cons.1 hy with rfl | hy
   ·exact hj z hz (hzx x List.mem_cons_self)
   ·exact hzx y (List.mem_cons_of_mem _ hy)
  ·rename_i hb
   have hb : unr t x := (uI ht hx hR).1 (by simpa using hb)
   refine ⟨List.pairwise_cons.2 ⟨fun y hy => i2 x hx p1 hb.symm y hy, i1⟩, fun z hz hzx hzt y hy => ?_⟩
   rcases List.mem_cons.1 hy with rfl | hy
   ·exact hzx y List.mem_cons_self
   ·exact i2 z hz (fun w hw => hzx w (List.mem_cons_of_mem _ hw)) hzt y hy
theorem m8 {P : Rat → Prop} {t : Tm} (ht : P t.q) : ∀ {cl : List Tm}, (∀ x ∈ cl, P x.q) → ∀ x ∈ Wb cl t, P x.q
 | [], _, x, hx => by rw [List.mem_singleton.1 hx]; exact ht
 | y :: r, h, x, hx => by
  rw [xz] at hx
  split at hx
  ·rcases List.mem_cons.1 hx with rfl | hx
   ·rcases pZ (x := y) (t := t) with e | e
    ·rw [e]; exact h y List.mem_cons_self
    ·rw [e]; exact ht
   ·exact h x (List.mem_cons_of_mem _ hx)
  ·rcases List.mem_cons.1 hx with rfl | hx
   ·exact h _ List.mem_cons_self
   ·exact m8 ht (fun z hz => h z (List.mem_cons_of_mem _ hz)) x hx
theorem qW {t : Tm} : ∀ {cl : List Tm}, (Wb cl t).length ≤ cl.length + 1
 | [] => by simp [Wb]
 | x :: r => by
  rw [xz]
  split
  ·simp
  ·simpa using qW (t := t) (cl := r)
theorem Ta {R : Nat} (hR : R < 18446744073709551616) {P : Rat → Prop} : ∀ (n : Nat) {V : List Tm}, V.length = n → (∀ t ∈ V, Zw R t) → (∀ t ∈ V, P t.q) →
  (XC V).Pairwise unr ∧ (∀ x ∈ XC V, Zw R x) ∧ (∀ x ∈ XC V, P x.q) ∧ (XC V).length ≤ n ∧ ∀ f, hom f → ev f (XC V) = ev f V
 | 0, V, hn, _, _ => by
  obtain rfl := List.eq_nil_of_length_eq_zero hn
  exact ⟨List.Pairwise.nil, (fun x hx => by cases hx), (fun x hx => by cases hx), Nat.le_refl _, fun f _ => rfl⟩
 | n + 1, V, hn, h, hP => by
  obtain ⟨W, t, rfl⟩ : ∃ W t, V = W ++ [t] := by
   have hne : V ≠ [] := fun e => by rw [e] at hn; cases hn
   exact ⟨V.dropLast, V.getLast hne, (List.dropLast_concat_getLast hne).symm⟩
  rw [List.length_append] at hn
  have hl : W.length = n := by simpa using hn
  obtain ⟨a1, a2, a3, a4, a5⟩ := Ta hR (P := P) n hl (fun x hx => h x (List.mem_append_left _ hx)) (fun x hx => hP x (List.mem_append_left _ hx))
  have ht := h t (List.mem_append_right _ List.mem_cons_self)
  have hPt := hP t (List.mem_append_right _ List.mem_cons_self)
  rw [TI]
  refine ⟨(Rh ht hR a2 a1).1, (Sq (f := fun _ => 0) (fun _ _ => by simp) ht hR a2).2, m8 hPt a3, Nat.le_trans qW (by omega), fun f hf => ?_⟩
  rw [(Sq hf ht hR a2).1, a5 f hf, WM, Zk, yz, Rat.add_zero]
def oX (t : Tm) : List Tm → List Tm
 | [] => [t]
 | x :: r => if x.q < t.q then x :: oX t r else t :: x :: r
def vg : List Tm → List Tm
 | [] => []
 | t :: r => oX t (vg r)
theorem Va (t : Tm) : ∀ l : List Tm, (oX t l).Perm (t :: l)
 | [] => List.Perm.refl _
 | x :: r => by
  unfold oX
  split
  ·exact ((Va t r).cons x).trans (List.Perm.swap t x r)
  ·exact List.Perm.refl _
theorem Xs : ∀ l : List Tm, (vg l).Perm l
 | [] => List.Perm.refl _
 | t :: r => (Va t (vg r)).trans ((Xs r).cons t)
def ip (x y : Tm) : Prop := x.q ≤ y.q
theorem Pv (t : Tm) : ∀ {l : List Tm}, l.Pairwise ip → (oX t l).Pairwise ip
 | [], _ => List.pairwise_singleton _ _
 | x :: r, h => by
  obtain ⟨h1, h2⟩ := List.pairwise_cons.1 h
  unfold oX
  split
  ·rename_i hlt
   refine List.pairwise_cons.2 ⟨fun y hy => ?_, Pv t h2⟩
   rcases List.mem_cons.1 ((Va t r).mem_iff.1 hy) with rfl | hy
   ·exact Rat.le_of_lt hlt
   ·exact h1 y hy
  ·rename_i hge
   have hge : t.q ≤ x.q := Rat.not_lt.1 hge
   refine List.pairwise_cons.2 ⟨fun y hy => ?_, h⟩
   rcases List.mem_cons.1 hy with rfl | hy
   ·exact hge
   ·exact Rat.le_trans hge (h1 y hy)
theorem Uw : ∀ l : List Tm, (vg l).Pairwise ip
 | [] => List.Pairwise.nil
 | t :: r => Pv t (Uw r)
theorem ND {R : Nat} {x y : Tm} (hx : Zw R x) (h : unr x y) : x.q ≠ y.q := fun e => by
 have := h (mQ x.q)
 rw [← e] at this
 exact this rfl
theorem Qh {R : Nat} {l p : List Tm} (hn : ∀ x ∈ l, Zw R x) (hu : l.Pairwise unr) (h1 : p.Perm l) (h2 : p.Pairwise ip) : p = vg l := by
 have hs := Xs l
 have hu2 : p.Pairwise unr := h1.symm.pairwise hu fun h => h.symm
 have hu3 : (vg l).Pairwise unr := hs.symm.pairwise hu fun h => h.symm
 refine List.Perm.eq_of_pairwise (le := ip) (fun a b ha hb hab hba => ?_) h2 (Uw l) (h1.trans hs.symm)
 have e : a.q = b.q := Rat.le_antisymm hab hba
 have ha' : a ∈ l := h1.mem_iff.1 ha
 have hb' : b ∈ l := hs.mem_iff.1 hb
 refine Decidable.byContradiction fun hne => ?_
 have : ∀ {l : List Tm}, l.Pairwise unr → a ∈ l → b ∈ l → unr a b := by
  intro l hu ha hb
  induction l with
  | nil => cases ha
  | cons x r ih =>
   obtain ⟨q1, q2⟩ := List.pairwise_cons.1 hu
   rcases List.mem_cons.1 ha with ea | ha <;> rcases List.mem_cons.1 hb with eb | hb
   ·exact absurd (ea.trans eb.symm) hne
   ·rw [ea]; exact q1 b hb
   ·rw [eb]; exact (q1 a ha).symm
   ·exact ih q2 ha hb
 exact ND (hn a ha') (this hu ha' hb') e
def xn (l : List Tm) : List Tm := (XC (Xq l)).filter fun t => decide (t.c ≠ 0)
def Zg (l : List Tm) : List Tm := vg (xn l)
def fR (r n : Nat) : Rat := if ZJ (n * r) * ZJ (n * r) = n * r then (ZJ (n * r) : Rat) else 0
theorem K3 (k : Nat) : ZJ (k * k) = k := (Ss (Nat.le_refl _) (by grind)).symm
theorem ux {r n k : Nat} (h : n * r = k * k) : fR r n = (k : Rat) := by unfold fR; rw [h, K3, if_pos rfl]
theorem vH {r n : Nat} (h : ∀ k, n * r ≠ k * k) : fR r n = 0 := by unfold fR; rw [if_neg fun e => h _ e.symm]
theorem VP (r : Nat) : hom (fR r) := by
 intro k n
 by_cases hk : k = 0
 ·subst hk
  rw [ux (k := 0) (by simp)]
  simp
 by_cases h : ∃ m, n * r = m * m
 ·obtain ⟨m, hm⟩ := h
  rw [ux hm, ux (k := k * m) (by rw [show k * k * n * r = k * k * (n * r) by grind, hm]; grind)]
  exact Rat.natCast_mul k m
 ·have h : ∀ m, n * r ≠ m * m := fun m hm => h ⟨m, hm⟩
  rw [vH h, vH fun m hm => ?_, Rat.mul_zero]
  obtain ⟨j, hj, _⟩ := Wq (c := k) (l := n * r) (k := m) (by omega) (by rw [← hm]; grind)
  exact h j hj
theorem m9 {R : Nat} {t : Tm} (h : Zw R t) (r : Nat) : fQ (fR r) t.q = fR r (mQ t.q) := by
 obtain ⟨e, _, _⟩ := h.mQ
 conv => lhs; rw [e]
 exact XK _ _
theorem SG {R r : Nat} {S : List Tm} (hn : ∀ x ∈ S, Zw R x) (h : ∀ x ∈ S, ∀ k, mQ x.q * r ≠ k * k) : ev (fR r) S = 0 := by
 induction S with
 | nil => rfl
 | cons x S ih =>
  simp only [Zk, yz]
  rw [m9 (hn x List.mem_cons_self), vH (h x List.mem_cons_self), Rat.mul_zero, Rat.zero_add]
  exact ih (fun y hy => hn y (List.mem_cons_of_mem _ hy)) fun y hy => h y (List.mem_cons_of_mem _ hy)
theorem PG {R r : Nat} (hr : 0 < r) : ∀ {S : List Tm}, (∀ x ∈ S, Zw R x) → S.Pairwise unr → ∀ k, ev (fR r) (S.take k) = 0 ∨ ev (fR r) (S.take k) = ev (fR r) S
 | [], _, _, k => by left; rw [List.take_nil]; rfl
 | x :: S, hn, hu, 0 => .inl rfl
 | x :: S, hn, hu, k + 1 => by
  obtain ⟨u1, u2⟩ := List.pairwise_cons.1 hu
  have hx := hn x List.mem_cons_self
  have hS := fun y hy => hn y (List.mem_cons_of_mem x hy)
  rw [List.take_succ_cons]
  simp only [Zk, yz]
  by_cases hm : ∃ m, mQ x.q * r = m * m
  ·have h0 : ∀ y ∈ S, ∀ k, mQ y.q * r ≠ k * k := fun y hy k hk => by
    obtain ⟨m, hm⟩ := hm
    obtain ⟨j, hj⟩ := XG (a := mQ x.q * mQ y.q) (b := m * k) hr (by
     have : mQ x.q * mQ y.q * (r * r) = (mQ x.q * r) * (mQ y.q * r) := by grind
     rw [this, hm, hk]; grind)
    exact u1 y hy j hj
   right
   rw [SG (S := S.take k) (fun y hy => hS y (List.mem_of_mem_take hy)) fun y hy => h0 y (List.mem_of_mem_take hy), SG hS h0]
  ·rw [m9 hx, vH fun m e => hm ⟨m, e⟩, Rat.mul_zero, Rat.zero_add, Rat.zero_add]
   exact PG hr hS u2 k
theorem Vg {R : Nat} {x : Tm} : ∀ {S : List Tm}, (∀ y ∈ S, Zw R y) → S.Pairwise unr → x ∈ S → ev (fR (mQ x.q)) S = x.c * (mQ x.q : Rat)
 | y :: S, hn, hu, hx => by
  obtain ⟨u1, u2⟩ := List.pairwise_cons.1 hu
  have hS := fun z hz => hn z (List.mem_cons_of_mem y hz)
  simp only [Zk, yz]
  rcases List.mem_cons.1 hx with rfl | hx
  ·rw [m9 (hn x List.mem_cons_self), ux rfl, SG hS fun z hz k hk => u1 z hz k (by rw [Nat.mul_comm]; exact hk), Rat.add_zero]
  ·rw [m9 (hn y List.mem_cons_self), vH fun k hk => u1 x hx k hk, Rat.mul_zero, Rat.zero_add]
   exact Vg hS u2 hx
end Go.Ar

namespace Go.Ar
open Go Go.Lib
set_option maxRecDepth 100000
structure gS (R : Nat) (s : List Tm) : Prop where
 nat : ∀ x ∈ s, Zw R x
 ne : ∀ x ∈ s, x.c ≠ 0
 nrm : ∀ x ∈ s, nrm (mQ x.q) = (1, mQ x.q)
 unr : s.Pairwise unr
 le : s.Pairwise ip
def inT (R : Nat) (l : List Tm) : Prop := ∀ t ∈ l, 0 ≤ t.q ∧ (nrm (mQ t.q)).2 ≤ R
theorem PF {R : Nat} {l : List Tm} (h : inT R l) : (∀ t ∈ Xq l, Zw R t) ∧ ∀ t ∈ Xq l, nrm (mQ t.q) = (1, mQ t.q) := by
 have key : ∀ t ∈ Xq l, Zw R t ∧ nrm (mQ t.q) = (1, mQ t.q) := fun t ht => by
  unfold Xq at ht
  obtain ⟨u, hu, rfl⟩ := List.mem_map.1 ht
  obtain ⟨hu1, hu2⟩ := List.mem_filter.1 hu
  rw [Bool.and_eq_true, decide_eq_true_iff, decide_eq_true_iff] at hu2
  obtain ⟨h0, h1⟩ := h u hu1
  obtain ⟨n1, n2, n3, n4⟩ := UZ (qf (Rat.lt_of_le_of_ne h0 (Ne.symm hu2.2)))
  have hq : (rR u).q = (((Ar.nrm (mQ u.q)).2 : Nat) : Rat) := rfl
  rw [hq, WU]
  exact ⟨⟨_, hq, n3, h1⟩, n4⟩
 exact ⟨fun t ht => (key t ht).1, fun t ht => (key t ht).2⟩
theorem QH (f : Nat → Rat) : ∀ l : List Tm, ev f (l.filter fun t => decide (t.c ≠ 0)) = ev f l
 | [] => rfl
 | t :: l => by
  rw [List.filter_cons]
  split
  ·simp only [Zk, yz]; rw [QH f l]
  ·rename_i h
   have h : t.c = 0 := by simpa using h
   rw [QH f l]
   conv => rhs; rw [Zk]
   rw [h, Rat.zero_mul, Rat.zero_add]
theorem vQ {R : Nat} (hR : R < 18446744073709551616) {l : List Tm} (h : inT R l) :
  (XC (Xq l)).Pairwise unr ∧ (∀ x ∈ XC (Xq l), Zw R x) ∧ (∀ x ∈ XC (Xq l), nrm (mQ x.q) = (1, mQ x.q)) ∧ (XC (Xq l)).length ≤ l.length ∧ ∀ f, hom f → ev f (XC (Xq l)) = ev f l := by
 obtain ⟨v1, v2⟩ := PF h
 obtain ⟨a1, a2, a3, a4, a5⟩ := Ta hR (P := fun q => nrm (mQ q) = (1, mQ q)) _ rfl v1 v2
 refine ⟨a1, a2, a3, Nat.le_trans a4 ?_, fun f hf => ?_⟩
 ·unfold Xq
  rw [List.length_map]
  exact List.length_filter_le _ _
 ·rw [a5 f hf, pH hf fun t ht => (h t ht).1]
theorem xm {R : Nat} (hR : R < 18446744073709551616) {l : List Tm} (h : inT R l) : gS R (Zg l) ∧ (Zg l).length ≤ l.length ∧ ∀ f, hom f → ev f (Zg l) = ev f l := by
 obtain ⟨a1, a2, a3, a4, a5⟩ := vQ hR h
 have hp := Xs (xn l)
 have hm : ∀ x, x ∈ Zg l → x ∈ XC (Xq l) ∧ x.c ≠ 0 := fun x hx => by
  obtain ⟨b1, b2⟩ := List.mem_filter.1 (hp.mem_iff.1 hx)
  exact ⟨b1, by simpa using b2⟩
 refine ⟨⟨fun x hx => a2 x (hm x hx).1, fun x hx => (hm x hx).2, fun x hx => a3 x (hm x hx).1, hp.symm.pairwise (a1.filter _) fun h => h.symm, Uw _⟩, ?_, fun f hf => ?_⟩
 ·show (vg (xn l)).length ≤ _
  rw [hp.length_eq]
  exact Nat.le_trans (List.length_filter_le _ _) a4
 ·show ev f (vg (xn l)) = _
  rw [LQ hp]
  show ev f ((XC (Xq l)).filter _) = _
  rw [QH, a5 f hf]
theorem LH {R : Nat} {s : List Tm} (h : gS R s) (he : ∀ f, hom f → ev f s = 0) : s = [] := by
 cases s with
 | nil => rfl
 | cons x r =>
  have h1 := Vg h.nat h.unr (x := x) List.mem_cons_self
  rw [he _ (VP _)] at h1
  obtain ⟨_, hp, _⟩ := (h.nat x List.mem_cons_self).mQ
  rcases Rat.mul_eq_zero.1 h1.symm with e | e
  ·exact absurd e (h.ne x List.mem_cons_self)
  ·have := Rat.natCast_eq_zero_iff.1 e
   omega
def yW (k : Rat) (l : List Tm) : List Tm := l.map fun t => ⟨t.c * k, t.q⟩
theorem mB (f : Nat → Rat) (k : Rat) : ∀ l : List Tm, ev f (yW k l) = ev f l * k
 | [] => by simp [yW, ev]
 | t :: l => by
  have := mB f k l
  unfold yW at this ⊢
  rw [List.map_cons]
  simp only [Zk, yz]
  rw [this]
  grind
theorem QG {R : Nat} {a b : List Tm} (ha : inT R a) (hb : inT R b) : inT R (a ++ b) := fun t ht => by
 rcases List.mem_append.1 ht with h | h
 ·exact ha t h
 ·exact hb t h
theorem kv {R : Nat} {k : Rat} {a : List Tm} (ha : inT R a) : inT R (yW k a) := fun t ht => by
 obtain ⟨u, hu, rfl⟩ := List.mem_map.1 ht
 exact ha u hu
theorem uj {R : Nat} {t : Tm} (h : Zw R t) : 0 ≤ t.q ∧ (nrm (mQ t.q)).2 ≤ R := by
 obtain ⟨e, h0, h1⟩ := h.mQ
 refine ⟨?_, Nat.le_trans (qC h0).2.1 h1⟩
 rw [e]
 exact Rat.natCast_nonneg
theorem gS.inT {R : Nat} {s : List Tm} (h : gS R s) : inT R s := fun t ht => uj (h.nat t ht)
theorem sub_zero {R : Nat} (hR : R < 18446744073709551616) {s t : List Tm} (hs : inT R s) (ht : inT R t) (h : ∀ f, hom f → ev f s = ev f t) : Zg (s ++ yW (-1) t) = [] := by
 obtain ⟨h1, _, h3⟩ := xm hR (QG hs (kv (k := -1) ht))
 refine LH h1 fun f hf => ?_
 rw [h3 f hf, WM, mB, h f hf]
 grind
def Tx (a b : Tm) : Tm := ⟨a.c * b.c, a.q * b.q⟩
def Z9 (s t : List Tm) : List Tm := s.flatMap fun a => t.map (Tx a)
def bi (f : Nat → Rat) : List Tm → List Tm → Rat
 | [], _ => 0
 | a :: s, t => a.c * ev (fun n => f (mQ a.q * n)) t + bi f s t
theorem G0 (f : Nat → Rat) (t : List Tm) : bi f [] t = 0 := rfl
theorem Gb (f : Nat → Rat) (a : Tm) (s t : List Tm) : bi f (a :: s) t = a.c * ev (fun n => f (mQ a.q * n)) t + bi f s t := rfl
theorem sK {R Q : Nat} {a b : Tm} (ha : Zw R a) (hb : Zw Q b) : Zw (R * Q) (Tx a b) ∧ mQ (Tx a b).q = mQ a.q * mQ b.q := by
 obtain ⟨r, hr, r0, r1⟩ := ha
 obtain ⟨s, hs, s0, s1⟩ := hb
 have e : (Tx a b).q = ((r * s : Nat) : Rat) := by
  show a.q * b.q = _
  rw [hr, hs, Rat.natCast_mul]
 refine ⟨⟨r * s, e, Nat.mul_pos r0 s0, Nat.mul_le_mul r1 s1⟩, ?_⟩
 rw [e, hr, hs, WU, WU, WU]
theorem nN {R Q : Nat} {f : Nat → Rat} {a : Tm} (ha : Zw R a) : ∀ {t : List Tm}, (∀ x ∈ t, Zw Q x) → ev f (t.map (Tx a)) = a.c * ev (fun n => f (mQ a.q * n)) t
 | [], _ => by simp [ev]
 | b :: t, h => by
  have hb := h b List.mem_cons_self
  have ih := nN (f := f) ha (t := t) fun x hx => h x (List.mem_cons_of_mem _ hx)
  obtain ⟨m1, m2⟩ := sK ha hb
  rw [List.map_cons]
  simp only [Zk, yz]
  rw [ih]
  have e1 : fQ f (Tx a b).q = f (mQ a.q * mQ b.q) := by
   rw [m1.mQ.1, XK, m2]
  have e2 : fQ (fun n => f (mQ a.q * n)) b.q = f (mQ a.q * mQ b.q) := by
   conv => lhs; rw [hb.mQ.1]
   rw [XK]
  rw [e1, e2]
  show a.c * b.c * _ + _ = _
  grind
theorem NT {R Q : Nat} {f : Nat → Rat} : ∀ {s t : List Tm}, (∀ x ∈ s, Zw R x) → (∀ x ∈ t, Zw Q x) → ev f (Z9 s t) = bi f s t
 | [], _, _, _ => rfl
 | a :: s, t, hs, ht => by
  show ev f (t.map (Tx a) ++ Z9 s t) = _
  rw [WM, nN (hs a List.mem_cons_self) ht, NT (fun x hx => hs x (List.mem_cons_of_mem _ hx)) ht]
  rfl
theorem KG {R Q : Nat} {s t : List Tm} (hs : ∀ x ∈ s, Zw R x) (ht : ∀ x ∈ t, Zw Q x) : (∀ x ∈ Z9 s t, Zw (R * Q) x) ∧ inT (R * Q) (Z9 s t) := by
 have h : ∀ x ∈ Z9 s t, Zw (R * Q) x := fun x hx => by
  obtain ⟨a, ha, hx⟩ := List.mem_flatMap.1 hx
  obtain ⟨b, hb, rfl⟩ := List.mem_map.1 hx
  exact (sK (hs a ha) (ht b hb)).1
 exact ⟨h, fun x hx => uj (h x hx)⟩
theorem Us (s t : List Tm) : (Z9 s t).length = s.length * t.length := by
 unfold Z9
 induction s with
 | nil => simp
 | cons a s ih => rw [List.flatMap_cons, List.length_append, ih, List.length_map, List.length_cons]; grind
def pg (L B : Nat) (V : List Tm) : Prop := ∀ r k : Nat, 0 < r → ∃ z : Int, ev (fR r) (V.take k) * (L : Rat) = (z : Rat) ∧ z.natAbs ≤ B * r
theorem pg.mono {L B C : Nat} {V : List Tm} (h : pg L B V) (hc : B ≤ C) : pg L C V := fun r k hr => by
 obtain ⟨z, h1, h2⟩ := h r k hr
 exact ⟨z, h1, Nat.le_trans h2 (Nat.mul_le_mul_right _ hc)⟩
theorem jV {R r n : Nat} (hr : 0 < r) (hn : n ≤ R) : ∃ m : Nat, fR r n = (m : Rat) ∧ m ≤ R * r := by
 by_cases h : ∃ m, n * r = m * m
 ·obtain ⟨m, hm⟩ := h
  refine ⟨m, ux hm, ?_⟩
  have h1 : n * r ≤ R * r := Nat.mul_le_mul_right _ hn
  have h2 : m ≤ m * m := by
   cases m with
   | zero => omega
   | succ m => exact Nat.le_mul_of_pos_left _ (by omega)
  omega
 ·exact ⟨0, vH fun m hm => h ⟨m, hm⟩, Nat.zero_le _⟩
theorem PV {R L D : Nat} : ∀ {V : List Tm}, (∀ t ∈ V, Zw R t) → (∀ t ∈ V, ∃ z : Int, t.c * (L : Rat) = (z : Rat) ∧ z.natAbs ≤ D) → pg L (V.length * (D * R)) V
 | [], _, _ => fun r k _ => ⟨0, by rw [List.take_nil]; simp only [Zk, yz]; rw [Rat.zero_mul]; rfl, Nat.zero_le _⟩
 | t :: V, h, g => fun r k hr => by
  match k with
  | 0 => exact ⟨0, by rw [List.take_zero]; simp only [Zk, yz]; rw [Rat.zero_mul]; rfl, Nat.zero_le _⟩
  | k + 1 =>
   obtain ⟨z, h1, h2⟩ := PV (fun x hx => h x (List.mem_cons_of_mem _ hx)) (fun x hx => g x (List.mem_cons_of_mem _ hx)) r k hr
   obtain ⟨y, g1, g2⟩ := g t List.mem_cons_self
   have ht := h t List.mem_cons_self
   obtain ⟨m, m1, m2⟩ := jV (r := r) hr ht.mQ.2.2
   refine ⟨y * m + z, ?_, ?_⟩
   ·rw [List.take_succ_cons]
    simp only [Zk, yz]
    rw [m9 ht, m1, Rat.intCast_add, ← h1, Rat.intCast_mul, ← g1, Rat.intCast_natCast]
    grind
   ·have a1 := Int.natAbs_add_le (y * m) z
    have a2 : (y * m).natAbs ≤ D * (R * r) := by rw [Int.natAbs_mul, Int.natAbs_natCast]; exact Nat.mul_le_mul g2 m2
    rw [List.length_cons, Nat.add_mul, Nat.add_mul]
    rw [← Nat.mul_assoc] at a2
    rw [Nat.one_mul]
    exact Nat.le_trans a1 (Nat.le_trans (Nat.add_le_add a2 h2) (Nat.le_of_eq (Nat.add_comm _ _)))
theorem PW {R L B : Nat} {S V : List Tm} (hn : ∀ x ∈ S, Zw R x) (hu : S.Pairwise unr) (he : ∀ f, hom f → ev f S = ev f V) (h : pg L B V) : pg L B S := fun r k hr => by
 rcases PG hr hn hu k with e | e
 ·exact ⟨0, by rw [e, Rat.zero_mul]; rfl, Nat.zero_le _⟩
 ·obtain ⟨z, h1, h2⟩ := h r V.length hr
  rw [List.take_length] at h1
  exact ⟨z, by rw [e, he _ (VP r), h1], h2⟩
theorem Vu {R L B K : Nat} {S V : List Tm} (hL : 0 < L) (hn : ∀ x ∈ S, Zw R x) (hu : S.Pairwise unr) (he : ∀ f, hom f → ev f S = ev f V) (h : pg L B V) (h1 : B * R < 10 ^ K) (h2 : L * R < 10 ^ K) : ∀ x ∈ S, bq K x.c := fun x hx => by
 obtain ⟨e, p0, pR⟩ := (hn x hx).mQ
 obtain ⟨z, z1, z2⟩ := h (mQ x.q) V.length p0
 rw [List.take_length, ← he _ (VP _), Vg hn hu hx] at z1
 generalize mQ x.q = r at *
 have hd : ((L * r : Nat) : Rat) ≠ 0 := fun e => by
  have := Rat.natCast_eq_zero_iff.1 e
  have := Nat.mul_pos hL p0
  omega
 have ec : x.c = mkRat z (L * r) := by
  rw [Rat.mkRat_eq_div, ← z1]
  rw [Rat.natCast_mul] at hd ⊢
  grind
 rw [ec]
 exact T4 (Nat.mul_pos hL p0) (Nat.lt_of_le_of_lt (Nat.le_trans z2 (Nat.mul_le_mul_left _ pR)) h1) (Nat.lt_of_le_of_lt (Nat.mul_le_mul_left _ pR) h2)
theorem QE {R L B K : Nat} (hR : R < 18446744073709551616) {l : List Tm} (hi : inT R l) (hL : 0 < L) (h : pg L B l) (h1 : B * R < 10 ^ K) (h2 : L * R < 10 ^ K) : ∀ k, ∀ x ∈ XC (Xq (l.take k)), bq K x.c := fun k => by
 obtain ⟨a1, a2, _, _, a5⟩ := vQ hR (l := l.take k) fun t ht => hi t (List.mem_of_mem_take ht)
 refine Vu hL a2 a1 a5 (V := l.take k) (fun r j hr => ?_) h1 h2
 rw [List.take_take]
 exact h r _ hr
end Go.Ar
