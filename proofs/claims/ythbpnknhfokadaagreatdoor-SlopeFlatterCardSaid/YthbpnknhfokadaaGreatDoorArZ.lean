/- Roots of any numbers, by Newton's way. -/
import Derived.Test.YthbpnknhfokadaaGreatDoorArW
import Derived.Test.YthbpnknhfokadaaGreatDoorArA
set_option linter.unusedSimpArgs false
set_option linter.unusedVariables false
namespace Go.Ar
open Go Go.Sx Go.Lib
def ZE (n : Nat) : Nat := uU n n
theorem YO (n : Nat) : ZE n * ZE n ≤ n ∧ n < (ZE n + 1) * (ZE n + 1) := VJ n n (Nat.lt_pow_self (by decide))
theorem PO {n r : Nat} (h1 : r * r ≤ n) (h2 : n < (r + 1) * (r + 1)) : r = ZE n := by
 obtain ⟨s1, s2⟩ := YO n
 have a := xj (a := r) (b := ZE n + 1) (by omega)
 have b := xj (a := ZE n) (b := r + 1) (by omega)
 omega
theorem mu {n : Nat} (h : 0 < n) : 0 < ZE n := Nat.pos_of_ne_zero fun e => by
 have := (YO n).2
 rw [e] at this
 omega
theorem jv {n z : Nat} (hz : 0 < z) (hn : n < (z + 1) * (z + 1)) (h0 : 0 < n) :
  (z ≤ (z + n / z) / 2 → z = ZE n) ∧ ((z + n / z) / 2 < z → 0 < (z + n / z) / 2 ∧ n < ((z + n / z) / 2 + 1) * ((z + n / z) / 2 + 1)) := by
 obtain ⟨s1, s2⟩ := YO n
 have hg := PZ (n := n) (r := z) (s := ZE n) hz s1
 have hp := mu h0
 refine ⟨fun h => PO (T9 hz h) hn, fun _ => ⟨by omega, ?_⟩⟩
 exact Nat.lt_of_lt_of_le s2 (Nat.mul_le_mul (by omega) (by omega))
theorem PG (n : Nat) : ZE n ≤ n := by
 obtain ⟨s1, _⟩ := YO n
 rcases Nat.eq_zero_or_pos (ZE n) with h | h
 ·omega
 ·have := Nat.mul_le_mul_right (ZE n) h
  omega
theorem pD : ∀ k : Nat, zD (List.replicate k 48) = 0
 | 0 => rfl
 | k + 1 => by
  rw [List.replicate_succ, xy, pD k]
  show vE 48 * _ + 0 = 0
  rw [show vE 48 = 0 from by decide, Nat.zero_mul]
theorem Pu (k : Nat) : ZY (49 :: List.replicate k 48) = true ∧ zY (49 :: List.replicate k 48) = ((10 ^ k : Nat) : Int) := by
 have hd : Z8 (49 :: List.replicate k 48) = true := by
  refine ZS.2 ⟨by simp, fun c hc => ?_, ?_⟩
  ·rcases List.mem_cons.1 hc with rfl | hc
   ·decide
   ·rw [(List.mem_replicate.1 hc).2]; decide
  ·simp
 obtain ⟨h1, h2⟩ := wD hd
 refine ⟨h1, h2.trans ?_⟩
 rw [xy, pD, List.length_replicate, show vE 49 = 1 from by decide, Nat.one_mul, Nat.add_zero]
end Go.Ar

namespace Go.Ar
open Go Go.Lib
set_option maxRecDepth 100000
structure Tm where
 c : Rat
 q : Rat
deriving DecidableEq
def R7 (f : Nat → Rat) : Prop := ∀ k n : Nat, f (k * k * n) = (k : Rat) * f n
def mQ (q : Rat) : Nat := q.num.toNat * q.den
def fQ (f : Nat → Rat) (q : Rat) : Rat := f (mQ q) / (q.den : Rat)
def ev (f : Nat → Rat) : List Tm → Rat
 | [] => 0
 | t :: l => t.c * fQ f t.q + ev f l
theorem YH (f : Nat → Rat) : ev f [] = 0 := rfl
theorem yW (f : Nat → Rat) (t : Tm) (l : List Tm) : ev f (t :: l) = t.c * fQ f t.q + ev f l := rfl
theorem VL (f : Nat → Rat) : ∀ a b : List Tm, ev f (a ++ b) = ev f a + ev f b
 | [], b => by simp [ev, Rat.zero_add]
 | t :: a, b => by
  rw [List.cons_append]
  simp only [yW, YH]
  rw [VL f a b, Rat.add_assoc]
theorem kK {f : Nat → Rat} {a b : List Tm} (h : a.Perm b) : ev f a = ev f b := by
 induction h with
 | nil => rfl
 | cons x _ ih => rw [yW, yW, ih]
 | swap x y l => simp only [yW]; grind
 | trans _ _ h1 h2 => rw [h1, h2]
def XP (t : Tm) : Tm := ⟨t.c * mkRat (nrm (mQ t.q)).1 t.q.den, ((nrm (mQ t.q)).2 : Rat)⟩
def xY (l : List Tm) : List Tm := (l.filter fun t => decide (t.c ≠ 0) && decide (t.q ≠ 0)).map XP
theorem WX (r : Nat) : mQ (r : Rat) = r := by
 unfold mQ
 rw [Rat.num_natCast, Rat.den_natCast, Nat.mul_one, Int.toNat_natCast]
theorem we (f : Nat → Rat) (r : Nat) : fQ f (r : Rat) = f r := by
 unfold fQ
 rw [WX, Rat.den_natCast]
 show f r / 1 = f r
 grind
theorem NC {f : Nat → Rat} (hf : R7 f) : f 0 = 0 := by
 have := hf 0 0
 simpa using this
theorem tM {q : Rat} (h : 0 < q) : 0 < mQ q := by
 unfold mQ
 have : 0 < q.num := by
  have := Rat.num_nonneg.2 (Rat.le_of_lt h)
  have h2 : q.num ≠ 0 := fun e => (Rat.ne_of_gt h) (Rat.num_eq_zero.1 e)
  omega
 exact Nat.mul_pos (by omega) q.den_pos
theorem lc {f : Nat → Rat} (hf : R7 f) {t : Tm} (h : 0 < t.q) : (XP t).c * fQ f (XP t).q = t.c * fQ f t.q := by
 obtain ⟨h1, h2, h3, h4⟩ := XF (tM h)
 unfold XP
 simp only [we]
 unfold fQ
 conv => rhs; rw [← h1, hf]
 rw [Rat.mkRat_eq_div]
 have hd : (t.q.den : Rat) ≠ 0 := by
  intro e
  have := t.q.den_pos
  have e := Rat.natCast_eq_zero_iff.1 e
  omega
 rw [Rat.intCast_natCast]
 generalize ((Ar.nrm (mQ t.q)).1 : Rat) = x at *
 generalize (t.q.den : Rat) = d at *
 generalize f (Ar.nrm (mQ t.q)).2 = y at *
 grind
theorem P4 {f : Nat → Rat} (hf : R7 f) : ∀ {l : List Tm}, (∀ t ∈ l, 0 ≤ t.q) → ev f (xY l) = ev f l
 | [], _ => rfl
 | t :: l, h => by
  have ih := P4 hf (l := l) fun t ht => h t (List.mem_cons_of_mem _ ht)
  have h0 := h t List.mem_cons_self
  unfold xY at ih ⊢
  rw [List.filter_cons]
  by_cases hc : t.c = 0
  ·rw [if_neg (by simp [hc]), ih]
   simp only [yW, YH]
   rw [hc, Rat.zero_mul, Rat.zero_add]
  by_cases hq : t.q = 0
  ·rw [if_neg (by simp [hq]), ih]
   conv => rhs; rw [yW]
   have : fQ f t.q = 0 := by
    rw [hq]
    show f (0 * 1) / 1 = 0
    rw [Nat.zero_mul, NC hf]
    grind
   rw [this, Rat.mul_zero, Rat.zero_add]
  ·rw [if_pos (by simp [hc, hq]), List.map_cons]
   simp only [yW, YH]
   rw [ih, lc hf (Rat.lt_of_le_of_ne h0 (Ne.symm hq))]
def hJ (x : Rat) : Bool := Nat.beq (yC x.num.toNat * yC x.num.toNat) x.num.toNat && Nat.beq (yC x.den * yC x.den) x.den
def Hb (x : Rat) : Rat := mkRat (yC x.num.toNat) (yC x.den)
def yH (p q : Rat) : Bool := hJ (p / q)
def wh (p q : Rat) : Rat := Hb (p / q)
theorem pM {r s : Nat} (hr : 0 < r) (hs : 0 < s) (h : yH (r : Rat) (s : Rat) = true) : ∃ u v : Nat, 0 < u ∧ 0 < v ∧ r * (v * v) = s * (u * u) ∧ wh (r : Rat) (s : Rat) = mkRat u v := by
 unfold yH hJ at h
 rw [Bool.and_eq_true, Nat.beq_eq, Nat.beq_eq] at h
 obtain ⟨h1, h2⟩ := h
 have e : ((r : Rat) / (s : Rat)) = mkRat (r : Int) s := by rw [Rat.mkRat_eq_div]; rfl
 unfold wh Hb
 rw [e] at h1 h2 ⊢
 rw [Rat.num_mkRat, if_neg (by omega)] at h1 ⊢
 rw [Rat.den_mkRat, if_neg (by omega)] at h2 ⊢
 rw [Int.natAbs_natCast] at h1 h2 ⊢
 have hg : 0 < Nat.gcd s r := Nat.gcd_pos_of_pos_left _ hs
 obtain ⟨a, ha⟩ := Nat.gcd_dvd_right s r
 obtain ⟨b, hb⟩ := Nat.gcd_dvd_left s r
 generalize Nat.gcd s r = g at *
 subst ha hb
 have e1 : (((g * a : Nat) : Int) / (g : Int)).toNat = a := by
  rw [← Int.natCast_ediv, Nat.mul_div_cancel_left _ hg, Int.toNat_natCast]
 have e2 : g * b / g = b := Nat.mul_div_cancel_left _ hg
 rw [e1] at h1 ⊢
 rw [e2] at h2 ⊢
 have ha0 : 0 < a := Nat.pos_of_mul_pos_left hr
 have hb0 : 0 < b := Nat.pos_of_mul_pos_left hs
 refine ⟨yC a, yC b, Nat.pos_of_ne_zero fun e => by rw [e] at h1; omega, Nat.pos_of_ne_zero fun e => by rw [e] at h2; omega, ?_, rfl⟩
 rw [h1, h2]
 grind
theorem mC {f : Nat → Rat} (hf : R7 f) {r s : Nat} (hr : 0 < r) (hs : 0 < s) (h : yH (r : Rat) (s : Rat) = true) : f r = wh (r : Rat) (s : Rat) * f s := by
 obtain ⟨u, v, hu, hv, e, e2⟩ := pM hr hs h
 rw [e2, Rat.mkRat_eq_div]
 have h1 : (v : Rat) * f r = (u : Rat) * f s := by
  rw [← hf, ← hf, Nat.mul_comm (v * v), Nat.mul_comm (u * u), e]
 have hd : (v : Rat) ≠ 0 := fun e => by
  have e := Rat.natCast_eq_zero_iff.1 e
  omega
 have h2 : ((u : Int) : Rat) = (u : Rat) := Rat.intCast_natCast u
 rw [h2]
 grind
theorem Mf {r s : Nat} (hr : 0 < r) (hs : 0 < s) (br : r < 18446744073709551616) (bs : s < 18446744073709551616) (h : yH (r : Rat) (s : Rat) = false) : ∀ k : Nat, r * s ≠ k * k := by
 intro k hk
 have e : ((r : Rat) / (s : Rat)) = mkRat (r : Int) s := by rw [Rat.mkRat_eq_div]; rfl
 unfold yH hJ at h
 rw [e, Rat.num_mkRat, if_neg (by omega), Rat.den_mkRat, if_neg (by omega), Int.natAbs_natCast] at h
 have hg : 0 < Nat.gcd s r := Nat.gcd_pos_of_pos_left _ hs
 have hc := Nat.coprime_div_gcd_div_gcd hg
 obtain ⟨a, ha⟩ := Nat.gcd_dvd_right s r
 obtain ⟨b, hb⟩ := Nat.gcd_dvd_left s r
 generalize Nat.gcd s r = g at *
 subst ha hb
 have e1 : (((g * a : Nat) : Int) / (g : Int)).toNat = a := by
  rw [← Int.natCast_ediv, Nat.mul_div_cancel_left _ hg, Int.toNat_natCast]
 have e2 : g * b / g = b := Nat.mul_div_cancel_left _ hg
 have e3 : g * a / g = a := Nat.mul_div_cancel_left _ hg
 rw [e1, e2] at h
 rw [e2, e3] at hc
 have ha0 : 0 < a := Nat.pos_of_mul_pos_left hr
 have hb0 : 0 < b := Nat.pos_of_mul_pos_left hs
 have hla : a ≤ g * a := Nat.le_mul_of_pos_left _ hg
 have hlb : b ≤ g * b := Nat.le_mul_of_pos_left _ hg
 -- a * b is a square, too
 have hgk : g ∣ k := by
  refine Tt (a := g) (b := k) ?_
  rw [← hk]
  exact ⟨a * b, by grind⟩
 obtain ⟨m, rfl⟩ := hgk
 have hab : a * b = m * m := by
  have h1 : (g * g) * (a * b) = (g * g) * (m * m) := by grind
  exact Nat.eq_of_mul_eq_mul_left (Nat.mul_pos hg hg) h1
 have key : ∀ x y : Nat, 0 < x → Nat.Coprime y x → x * y = m * m → Nat.gcd x m * Nat.gcd x m = x := by
  intro x y hx hco hxy
  have h1 : Nat.gcd x m * Nat.gcd x m = Nat.gcd (x * x) (m * m) := by
   have := Nat.pow_gcd_pow (k := 2) (n := x) (m := m)
   rw [Nat.pow_two, Nat.pow_two, Nat.pow_two] at this
   exact this.symm
  rw [h1, ← hxy, Nat.gcd_mul_left]
  rw [show Nat.gcd x y = 1 from Nat.gcd_comm x y ▸ hco, Nat.mul_one]
 have ka := key a b ha0 hc hab
 have kb := key b a hb0 (Nat.Coprime.symm hc) (by rw [Nat.mul_comm]; exact hab)
 have q1 : yC a * yC a = a := by
  have := Qq (k := Nat.gcd a m) (by omega)
  rw [ka] at this
  rw [this, ka]
 have q2 : yC b * yC b = b := by
  have := Qq (k := Nat.gcd b m) (by omega)
  rw [kb] at this
  rw [this, kb]
 generalize yC a = x at *
 generalize yC b = y at *
 rw [q1, q2] at h
 rw [Nat.beq_refl, Nat.beq_refl] at h
 cases h
def Xf (x t : Tm) : Tm := if t.q < x.q then ⟨t.c + x.c * wh x.q t.q, t.q⟩ else ⟨x.c + t.c * wh t.q x.q, x.q⟩
def W1 : List Tm → Tm → List Tm
 | [], t => [t]
 | x :: r, t => if yH t.q x.q then Xf x t :: r else x :: W1 r t
theorem xu (x : Tm) (r : List Tm) (t : Tm) : W1 (x :: r) t = if yH t.q x.q then Xf x t :: r else x :: W1 r t := rfl
def wq (l : List Tm) : List Tm := l.foldl W1 []
theorem Tf (l : List Tm) (t : Tm) : wq (l ++ [t]) = W1 (wq l) t := by unfold wq; rw [List.foldl_append]; rfl
theorem Pe {t d : Tm} : ∀ {cl : List Tm} {i : Nat}, i < cl.length → (∀ j, j < i → yH t.q (cl.getD j d).q = false) → yH t.q (cl.getD i d).q = true → W1 cl t = cl.set i (Xf (cl.getD i d) t)
 | x :: r, 0, _, _, h => by
  rw [xu]
  rw [if_pos (show yH t.q x.q = true from h)]; rfl
 | x :: r, i + 1, hi, hn, h => by
  rw [xu]
  have h0 : yH t.q x.q = false := hn 0 (by omega)
  rw [if_neg (by rw [h0]; decide), Pe (d := d) (i := i) (by simpa using hi) (fun j hj => hn (j + 1) (by omega)) h]
  rfl
theorem sU {t d : Tm} : ∀ {cl : List Tm}, (∀ j, j < cl.length → yH t.q (cl.getD j d).q = false) → W1 cl t = cl ++ [t]
 | [], _ => rfl
 | x :: r, h => by
  rw [xu]
  have h0 : yH t.q x.q = false := h 0 (by simp)
  rw [if_neg (by rw [h0]; decide), sU (d := d) fun j hj => h (j + 1) (by simpa using hj)]
  rfl
def ZG (R : Nat) (t : Tm) : Prop := ∃ r : Nat, t.q = (r : Rat) ∧ 0 < r ∧ r ≤ R
theorem pH {x t : Tm} : (Xf x t).q = x.q ∨ (Xf x t).q = t.q := by
 unfold Xf
 split
 ·exact .inr rfl
 ·exact .inl rfl
theorem Oo {R : Nat} {x t : Tm} (hx : ZG R x) (ht : ZG R t) : ZG R (Xf x t) := by
 unfold ZG
 rcases pH (x := x) (t := t) with e | e <;> rw [e] <;> assumption
theorem LM {f : Nat → Rat} (hf : R7 f) {R : Nat} {x t : Tm} (hx : ZG R x) (ht : ZG R t) (hR : R < 18446744073709551616) (h : yH t.q x.q = true) :
  (Xf x t).c * fQ f (Xf x t).q = x.c * fQ f x.q + t.c * fQ f t.q := by
 obtain ⟨r, hr, hr0, hrR⟩ := hx
 obtain ⟨s, hs, hs0, hsR⟩ := ht
 have h' : yH x.q t.q = true := by
  rw [hr, hs] at h ⊢
  cases hb : yH (r : Rat) (s : Rat) with
  | true => rfl
  | false =>
   obtain ⟨u, v, hu, hv, e, _⟩ := pM hs0 hr0 h
   have := Mf hr0 hs0 (by omega) (by omega) hb
   -- r * s is the square of r * u / v
   have h1 : (r * s) * (v * v) = (r * u) * (r * u) := by grind
   obtain ⟨j, hj, _⟩ := Wd (c := v) (l := r * s) (k := r * u) hv (by rw [← h1, Nat.mul_comm])
   exact absurd hj (this j)
 unfold Xf
 split
 ·simp only
  rw [hs, hr, we, we]
  rw [hs, hr] at h'
  rw [mC hf hr0 hs0 h']
  grind
 ·simp only
  rw [hs, hr, we, we]
  rw [hs, hr] at h
  rw [mC hf hs0 hr0 h]
  grind
theorem SZ {f : Nat → Rat} (hf : R7 f) {R : Nat} {t : Tm} (ht : ZG R t) (hR : R < 18446744073709551616) : ∀ {cl : List Tm}, (∀ x ∈ cl, ZG R x) → ev f (W1 cl t) = ev f cl + t.c * fQ f t.q ∧ ∀ x ∈ W1 cl t, ZG R x
 | [], _ => by
  refine ⟨by simp only [W1, yW, YH]; grind, fun x hx => ?_⟩
  rw [List.mem_singleton.1 hx]; exact ht
 | x :: r, h => by
  obtain ⟨ih1, ih2⟩ := SZ hf ht hR (cl := r) fun x hx => h x (List.mem_cons_of_mem _ hx)
  have hx := h x List.mem_cons_self
  rw [xu]
  split
  ·rename_i hb
   refine ⟨?_, fun y hy => ?_⟩
   ·simp only [yW, YH]
    rw [LM hf hx ht hR hb]
    grind
   ·rcases List.mem_cons.1 hy with rfl | hy
    ·exact Oo hx ht
    ·exact h y (List.mem_cons_of_mem _ hy)
  ·refine ⟨?_, fun y hy => ?_⟩
   ·simp only [yW, YH]
    rw [ih1]
    grind
   ·rcases List.mem_cons.1 hy with rfl | hy
    ·exact hx
    ·exact ih2 y hy
end Go.Ar

namespace Go.Ar
open Go Go.Lib
set_option maxRecDepth 100000
def unr (x y : Tm) : Prop := ∀ k : Nat, mQ x.q * mQ y.q ≠ k * k
theorem unr.symm {x y : Tm} (h : unr x y) : unr y x := fun k => by rw [Nat.mul_comm]; exact h k
theorem ZG.mQ {R : Nat} {t : Tm} (h : ZG R t) : t.q = ((mQ t.q : Nat) : Rat) ∧ 0 < mQ t.q ∧ mQ t.q ≤ R := by
 obtain ⟨r, hr, h0, h1⟩ := h
 rw [hr, WX]
 exact ⟨rfl, h0, h1⟩
theorem VG {a b r : Nat} (hr : 0 < r) (h : a * (r * r) = b * b) : ∃ k, a = k * k := by
 obtain ⟨j, hj, _⟩ := Wd (c := r) (l := a) (k := b) hr (by rw [← h, Nat.mul_comm])
 exact ⟨j, hj⟩
theorem MV {R : Nat} {x y : Tm} (hx : ZG R x) (hy : ZG R y) (h : yH x.q y.q = true) : ∃ k, mQ x.q * mQ y.q = k * k := by
 obtain ⟨e1, p1, _⟩ := hx.mQ
 obtain ⟨e2, p2, _⟩ := hy.mQ
 rw [e1, e2] at h
 obtain ⟨u, v, hu, hv, e, _⟩ := pM p1 p2 h
 exact VG (r := v) (b := mQ y.q * u) hv (by grind)
theorem uC {R : Nat} {x y : Tm} (hx : ZG R x) (hy : ZG R y) (hR : R < 18446744073709551616) : yH x.q y.q = false ↔ unr x y := by
 obtain ⟨e1, p1, b1⟩ := hx.mQ
 obtain ⟨e2, p2, b2⟩ := hy.mQ
 constructor
 ·intro h
  rw [e1, e2] at h
  exact Mf p1 p2 (by omega) (by omega) h
 ·intro h
  refine Bool.eq_false_iff.2 fun e => ?_
  obtain ⟨k, hk⟩ := MV hx hy e
  exact h k hk
theorem L9 {R : Nat} {x y z : Tm} (hx : ZG R x) (hy : ZG R y) (h : ∃ k, mQ x.q * mQ y.q = k * k) (hz : unr x z) : unr y z := fun k hk => by
 obtain ⟨j, hj⟩ := h
 obtain ⟨_, p2, _⟩ := hy.mQ
 obtain ⟨m, hm⟩ := VG (a := mQ x.q * mQ z.q) (b := j * k) p2 (by
  have e1 : mQ x.q * mQ z.q * (mQ y.q * mQ y.q) = (mQ x.q * mQ y.q) * (mQ y.q * mQ z.q) := by grind
  rw [e1, hj, hk]; grind)
 exact hz m hm
theorem qZ {R : Nat} {t : Tm} (ht : ZG R t) (hR : R < 18446744073709551616) : ∀ {cl : List Tm}, (∀ x ∈ cl, ZG R x) → cl.Pairwise unr → (W1 cl t).Pairwise unr ∧
  ∀ z : Tm, ZG R z → (∀ x ∈ cl, unr z x) → unr z t → ∀ x ∈ W1 cl t, unr z x
 | [], _, _ => ⟨List.pairwise_singleton _ _, fun z _ _ h x hx => by
  rw [List.mem_singleton.1 hx]; exact h⟩
 | x :: r, h, hp => by
  have hx := h x List.mem_cons_self
  have hr := fun y hy => h y (List.mem_cons_of_mem x hy)
  obtain ⟨p1, p2⟩ := List.pairwise_cons.1 hp
  obtain ⟨i1, i2⟩ := qZ ht hR hr p2
  rw [xu]
  split
  ·rename_i hb
   have hs := MV ht hx hb
   have hj : ∀ z : Tm, ZG R z → unr z x → unr z (Xf x t) := fun z hz hzx => by
    rcases pH (x := x) (t := t) with e | e
    ·intro k; rw [e]; exact hzx k
    ·have := L9 hx ht (by obtain ⟨k, hk⟩ := hs; exact ⟨k, by rw [Nat.mul_comm]; exact hk⟩) hzx.symm
     intro k; rw [e]; exact this.symm k
   refine ⟨List.pairwise_cons.2 ⟨fun y hy => (hj y (hr y hy) (p1 y hy).symm).symm, p2⟩, fun z hz hzx hzt y hy => ?_⟩
   rcases List.mem_cons.1 hy with rfl | hy
   ·exact hj z hz (hzx x List.mem_cons_self)
   ·exact hzx y (List.mem_cons_of_mem _ hy)
  ·rename_i hb
   have hb : unr t x := (uC ht hx hR).1 (by simpa using hb)
   refine ⟨List.pairwise_cons.2 ⟨fun y hy => i2 x hx p1 hb.symm y hy, i1⟩, fun z hz hzx hzt y hy => ?_⟩
   rcases List.mem_cons.1 hy with rfl | hy
   ·exact hzx y List.mem_cons_self
   ·exact i2 z hz (fun w hw => hzx w (List.mem_cons_of_mem _ hw)) hzt y hy
theorem m8 {P : Rat → Prop} {t : Tm} (ht : P t.q) : ∀ {cl : List Tm}, (∀ x ∈ cl, P x.q) → ∀ x ∈ W1 cl t, P x.q
 | [], _, x, hx => by rw [List.mem_singleton.1 hx]; exact ht
 | y :: r, h, x, hx => by
  rw [xu] at hx
  split at hx
  ·rcases List.mem_cons.1 hx with rfl | hx
   ·rcases pH (x := y) (t := t) with e | e
    ·rw [e]; exact h y List.mem_cons_self
    ·rw [e]; exact ht
   ·exact h x (List.mem_cons_of_mem _ hx)
  ·rcases List.mem_cons.1 hx with rfl | hx
   ·exact h _ List.mem_cons_self
   ·exact m8 ht (fun z hz => h z (List.mem_cons_of_mem _ hz)) x hx
theorem Ry {t : Tm} : ∀ {cl : List Tm}, (W1 cl t).length ≤ cl.length + 1
 | [] => by simp [W1]
 | x :: r => by
  rw [xu]
  split
  ·simp
  ·simpa using Ry (t := t) (cl := r)
theorem T2 {R : Nat} (hR : R < 18446744073709551616) {P : Rat → Prop} : ∀ (n : Nat) {V : List Tm}, V.length = n → (∀ t ∈ V, ZG R t) → (∀ t ∈ V, P t.q) →
  (wq V).Pairwise unr ∧ (∀ x ∈ wq V, ZG R x) ∧ (∀ x ∈ wq V, P x.q) ∧ (wq V).length ≤ n ∧ ∀ f, R7 f → ev f (wq V) = ev f V
 | 0, V, hn, _, _ => by
  obtain rfl := List.eq_nil_of_length_eq_zero hn
  exact ⟨List.Pairwise.nil, (fun x hx => by cases hx), (fun x hx => by cases hx), Nat.le_refl _, fun f _ => rfl⟩
 | n + 1, V, hn, h, hP => by
  obtain ⟨W, t, rfl⟩ : ∃ W t, V = W ++ [t] := by
   have hne : V ≠ [] := fun e => by rw [e] at hn; cases hn
   exact ⟨V.dropLast, V.getLast hne, (List.dropLast_concat_getLast hne).symm⟩
  rw [List.length_append] at hn
  have hl : W.length = n := by simpa using hn
  obtain ⟨a1, a2, a3, a4, a5⟩ := T2 hR (P := P) n hl (fun x hx => h x (List.mem_append_left _ hx)) (fun x hx => hP x (List.mem_append_left _ hx))
  have ht := h t (List.mem_append_right _ List.mem_cons_self)
  have hPt := hP t (List.mem_append_right _ List.mem_cons_self)
  rw [Tf]
  refine ⟨(qZ ht hR a2 a1).1, (SZ (f := fun _ => 0) (fun _ _ => by simp) ht hR a2).2, m8 hPt a3, Nat.le_trans Ry (by omega), fun f hf => ?_⟩
  rw [(SZ hf ht hR a2).1, a5 f hf, VL, yW, YH, Rat.add_zero]
def OV (t : Tm) : List Tm → List Tm
 | [] => [t]
 | x :: r => if x.q < t.q then x :: OV t r else t :: x :: r
def Wq : List Tm → List Tm
 | [] => []
 | t :: r => OV t (Wq r)
theorem VU (t : Tm) : ∀ l : List Tm, (OV t l).Perm (t :: l)
 | [] => List.Perm.refl _
 | x :: r => by
  unfold OV
  split
  ·exact ((VU t r).cons x).trans (List.Perm.swap t x r)
  ·exact List.Perm.refl _
theorem Xv : ∀ l : List Tm, (Wq l).Perm l
 | [] => List.Perm.refl _
 | t :: r => (VU t (Wq r)).trans ((Xv r).cons t)
def jC (x y : Tm) : Prop := x.q ≤ y.q
theorem PC (t : Tm) : ∀ {l : List Tm}, l.Pairwise jC → (OV t l).Pairwise jC
 | [], _ => List.pairwise_singleton _ _
 | x :: r, h => by
  obtain ⟨h1, h2⟩ := List.pairwise_cons.1 h
  unfold OV
  split
  ·rename_i hlt
   refine List.pairwise_cons.2 ⟨fun y hy => ?_, PC t h2⟩
   rcases List.mem_cons.1 ((VU t r).mem_iff.1 hy) with rfl | hy
   ·exact Rat.le_of_lt hlt
   ·exact h1 y hy
  ·rename_i hge
   have hge : t.q ≤ x.q := Rat.not_lt.1 hge
   refine List.pairwise_cons.2 ⟨fun y hy => ?_, h⟩
   rcases List.mem_cons.1 hy with rfl | hy
   ·exact hge
   ·exact Rat.le_trans hge (h1 y hy)
theorem UQ : ∀ l : List Tm, (Wq l).Pairwise jC
 | [] => List.Pairwise.nil
 | t :: r => PC t (UQ r)
theorem nD {R : Nat} {x y : Tm} (hx : ZG R x) (h : unr x y) : x.q ≠ y.q := fun e => by
 have := h (mQ x.q)
 rw [← e] at this
 exact this rfl
theorem pL {R : Nat} {l p : List Tm} (hn : ∀ x ∈ l, ZG R x) (hu : l.Pairwise unr) (h1 : p.Perm l) (h2 : p.Pairwise jC) : p = Wq l := by
 have hs := Xv l
 have hu2 : p.Pairwise unr := h1.symm.pairwise hu fun h => h.symm
 have hu3 : (Wq l).Pairwise unr := hs.symm.pairwise hu fun h => h.symm
 refine List.Perm.eq_of_pairwise (le := jC) (fun a b ha hb hab hba => ?_) h2 (UQ l) (h1.trans hs.symm)
 have e : a.q = b.q := Rat.le_antisymm hab hba
 have ha' : a ∈ l := h1.mem_iff.1 ha
 have hb' : b ∈ l := hs.mem_iff.1 hb
 refine Decidable.byContradiction fun hne => ?_
 have : ∀ {l : List Tm}, l.Pairwise unr → a ∈ l → b ∈ l → unr a b := by
  intro l hu ha hb
  induction l with
  | nil => cases ha
  | cons x r ih =>
   obtain ⟨q1, q2⟩ := List.pairwise_cons.1 hu
   rcases List.mem_cons.1 ha with ea | ha <;> rcases List.mem_cons.1 hb with eb | hb
   ·exact absurd (ea.trans eb.symm) hne
   ·rw [ea]; exact q1 b hb
   ·rw [eb]; exact (q1 a ha).symm
   ·exact ih q2 ha hb
 exact nD (hn a ha') (this hu ha' hb') e
def Y7 (l : List Tm) : List Tm := (wq (xY l)).filter fun t => decide (t.c ≠ 0)
def YQ (l : List Tm) : List Tm := Wq (Y7 l)
def fR (r n : Nat) : Rat := if ZE (n * r) * ZE (n * r) = n * r then (ZE (n * r) : Rat) else 0
theorem KX (k : Nat) : ZE (k * k) = k := (PO (Nat.le_refl _) (by grind)).symm
theorem Rv {r n k : Nat} (h : n * r = k * k) : fR r n = (k : Rat) := by unfold fR; rw [h, KX, if_pos rfl]
theorem qT {r n : Nat} (h : ∀ k, n * r ≠ k * k) : fR r n = 0 := by unfold fR; rw [if_neg fun e => h _ e.symm]
theorem Ir (r : Nat) : R7 (fR r) := by
 intro k n
 by_cases hk : k = 0
 ·subst hk
  rw [Rv (k := 0) (by simp)]
  simp
 by_cases h : ∃ m, n * r = m * m
 ·obtain ⟨m, hm⟩ := h
  rw [Rv hm, Rv (k := k * m) (by rw [show k * k * n * r = k * k * (n * r) by grind, hm]; grind)]
  exact Rat.natCast_mul k m
 ·have h : ∀ m, n * r ≠ m * m := fun m hm => h ⟨m, hm⟩
  rw [qT h, qT fun m hm => ?_, Rat.mul_zero]
  obtain ⟨j, hj, _⟩ := Wd (c := k) (l := n * r) (k := m) (by omega) (by rw [← hm]; grind)
  exact h j hj
theorem kq {R : Nat} {t : Tm} (h : ZG R t) (r : Nat) : fQ (fR r) t.q = fR r (mQ t.q) := by
 obtain ⟨e, _, _⟩ := h.mQ
 conv => lhs; rw [e]
 exact we _ _
theorem ko {R r : Nat} {S : List Tm} (hn : ∀ x ∈ S, ZG R x) (h : ∀ x ∈ S, ∀ k, mQ x.q * r ≠ k * k) : ev (fR r) S = 0 := by
 induction S with
 | nil => rfl
 | cons x S ih =>
  simp only [yW, YH]
  rw [kq (hn x List.mem_cons_self), qT (h x List.mem_cons_self), Rat.mul_zero, Rat.zero_add]
  exact ih (fun y hy => hn y (List.mem_cons_of_mem _ hy)) fun y hy => h y (List.mem_cons_of_mem _ hy)
theorem Na {R : Nat} {x : Tm} : ∀ {S : List Tm}, (∀ y ∈ S, ZG R y) → S.Pairwise unr → x ∈ S → ev (fR (mQ x.q)) S = x.c * (mQ x.q : Rat)
 | y :: S, hn, hu, hx => by
  obtain ⟨u1, u2⟩ := List.pairwise_cons.1 hu
  have hS := fun z hz => hn z (List.mem_cons_of_mem y hz)
  simp only [yW, YH]
  rcases List.mem_cons.1 hx with rfl | hx
  ·rw [kq (hn x List.mem_cons_self), Rv rfl, ko hS fun z hz k hk => u1 z hz k (by rw [Nat.mul_comm]; exact hk), Rat.add_zero]
  ·rw [kq (hn y List.mem_cons_self), qT fun k hk => u1 x hx k hk, Rat.mul_zero, Rat.zero_add]
   exact Na hS u2 hx
end Go.Ar

namespace Go.Ar
open Go Go.Lib
set_option maxRecDepth 100000
structure gS (R : Nat) (s : List Tm) : Prop where
 nat : ∀ x ∈ s, ZG R x
 ne : ∀ x ∈ s, x.c ≠ 0
 nrm : ∀ x ∈ s, nrm (mQ x.q) = (1, mQ x.q)
 unr : s.Pairwise unr
 le : s.Pairwise jC
def inT (R : Nat) (l : List Tm) : Prop := ∀ t ∈ l, 0 ≤ t.q ∧ (nrm (mQ t.q)).2 ≤ R
theorem Pp {R : Nat} {l : List Tm} (h : inT R l) : (∀ t ∈ xY l, ZG R t) ∧ ∀ t ∈ xY l, nrm (mQ t.q) = (1, mQ t.q) := by
 have key : ∀ t ∈ xY l, ZG R t ∧ nrm (mQ t.q) = (1, mQ t.q) := fun t ht => by
  unfold xY at ht
  obtain ⟨u, hu, rfl⟩ := List.mem_map.1 ht
  obtain ⟨hu1, hu2⟩ := List.mem_filter.1 hu
  rw [Bool.and_eq_true, decide_eq_true_iff, decide_eq_true_iff] at hu2
  obtain ⟨h0, h1⟩ := h u hu1
  obtain ⟨n1, n2, n3, n4⟩ := XF (tM (Rat.lt_of_le_of_ne h0 (Ne.symm hu2.2)))
  have hq : (XP u).q = (((Ar.nrm (mQ u.q)).2 : Nat) : Rat) := rfl
  rw [hq, WX]
  exact ⟨⟨_, hq, n3, h1⟩, n4⟩
 exact ⟨fun t ht => (key t ht).1, fun t ht => (key t ht).2⟩
theorem Qu (f : Nat → Rat) : ∀ l : List Tm, ev f (l.filter fun t => decide (t.c ≠ 0)) = ev f l
 | [] => rfl
 | t :: l => by
  rw [List.filter_cons]
  split
  ·simp only [yW, YH]; rw [Qu f l]
  ·rename_i h
   have h : t.c = 0 := by simpa using h
   rw [Qu f l]
   conv => rhs; rw [yW]
   rw [h, Rat.zero_mul, Rat.zero_add]
theorem tj {R : Nat} (hR : R < 18446744073709551616) {l : List Tm} (h : inT R l) :
  (wq (xY l)).Pairwise unr ∧ (∀ x ∈ wq (xY l), ZG R x) ∧ (∀ x ∈ wq (xY l), nrm (mQ x.q) = (1, mQ x.q)) ∧ (wq (xY l)).length ≤ l.length ∧ ∀ f, R7 f → ev f (wq (xY l)) = ev f l := by
 obtain ⟨v1, v2⟩ := Pp h
 obtain ⟨a1, a2, a3, a4, a5⟩ := T2 hR (P := fun q => nrm (mQ q) = (1, mQ q)) _ rfl v1 v2
 refine ⟨a1, a2, a3, Nat.le_trans a4 ?_, fun f hf => ?_⟩
 ·unfold xY
  rw [List.length_map]
  exact List.length_filter_le _ _
 ·rw [a5 f hf, P4 hf fun t ht => (h t ht).1]
theorem UE {R : Nat} (hR : R < 18446744073709551616) {l : List Tm} (h : inT R l) : gS R (YQ l) ∧ (YQ l).length ≤ l.length ∧ ∀ f, R7 f → ev f (YQ l) = ev f l := by
 obtain ⟨a1, a2, a3, a4, a5⟩ := tj hR h
 have hp := Xv (Y7 l)
 have hm : ∀ x, x ∈ YQ l → x ∈ wq (xY l) ∧ x.c ≠ 0 := fun x hx => by
  obtain ⟨b1, b2⟩ := List.mem_filter.1 (hp.mem_iff.1 hx)
  exact ⟨b1, by simpa using b2⟩
 refine ⟨⟨fun x hx => a2 x (hm x hx).1, fun x hx => (hm x hx).2, fun x hx => a3 x (hm x hx).1, hp.symm.pairwise (a1.filter _) fun h => h.symm, UQ _⟩, ?_, fun f hf => ?_⟩
 ·show (Wq (Y7 l)).length ≤ _
  rw [hp.length_eq]
  exact Nat.le_trans (List.length_filter_le _ _) a4
 ·show ev f (Wq (Y7 l)) = _
  rw [kK hp]
  show ev f ((wq (xY l)).filter _) = _
  rw [Qu, a5 f hf]
theorem L4 {R : Nat} {s : List Tm} (h : gS R s) (he : ∀ f, R7 f → ev f s = 0) : s = [] := by
 cases s with
 | nil => rfl
 | cons x r =>
  have h1 := Na h.nat h.unr (x := x) List.mem_cons_self
  rw [he _ (Ir _)] at h1
  obtain ⟨_, hp, _⟩ := (h.nat x List.mem_cons_self).mQ
  rcases Rat.mul_eq_zero.1 h1.symm with e | e
  ·exact absurd e (h.ne x List.mem_cons_self)
  ·have := Rat.natCast_eq_zero_iff.1 e
   omega
def yS (k : Rat) (l : List Tm) : List Tm := l.map fun t => ⟨t.c * k, t.q⟩
theorem M4 (f : Nat → Rat) (k : Rat) : ∀ l : List Tm, ev f (yS k l) = ev f l * k
 | [] => by simp [yS, ev]
 | t :: l => by
  have := M4 f k l
  unfold yS at this ⊢
  rw [List.map_cons]
  simp only [yW, YH]
  rw [this]
  grind
theorem qD {R : Nat} {a b : List Tm} (ha : inT R a) (hb : inT R b) : inT R (a ++ b) := fun t ht => by
 rcases List.mem_append.1 ht with h | h
 ·exact ha t h
 ·exact hb t h
theorem L3 {R : Nat} {k : Rat} {a : List Tm} (ha : inT R a) : inT R (yS k a) := fun t ht => by
 obtain ⟨u, hu, rfl⟩ := List.mem_map.1 ht
 exact ha u hu
theorem rS {R : Nat} {t : Tm} (h : ZG R t) : 0 ≤ t.q ∧ (nrm (mQ t.q)).2 ≤ R := by
 obtain ⟨e, h0, h1⟩ := h.mQ
 refine ⟨?_, Nat.le_trans (Uu h0).2.1 h1⟩
 rw [e]
 exact Rat.natCast_nonneg
theorem gS.inT {R : Nat} {s : List Tm} (h : gS R s) : inT R s := fun t ht => rS (h.nat t ht)
theorem sub_zero {R : Nat} (hR : R < 18446744073709551616) {s t : List Tm} (hs : inT R s) (ht : inT R t) (h : ∀ f, R7 f → ev f s = ev f t) : YQ (s ++ yS (-1) t) = [] := by
 obtain ⟨h1, _, h3⟩ := UE hR (qD hs (L3 (k := -1) ht))
 refine L4 h1 fun f hf => ?_
 rw [h3 f hf, VL, M4, h f hf]
 grind
def Xo (a b : Tm) : Tm := ⟨a.c * b.c, a.q * b.q⟩
def y7 (s t : List Tm) : List Tm := s.flatMap fun a => t.map (Xo a)
def bi (f : Nat → Rat) : List Tm → List Tm → Rat
 | [], _ => 0
 | a :: s, t => a.c * ev (fun n => f (mQ a.q * n)) t + bi f s t
theorem Kr {R Q : Nat} {a b : Tm} (ha : ZG R a) (hb : ZG Q b) : ZG (R * Q) (Xo a b) ∧ mQ (Xo a b).q = mQ a.q * mQ b.q := by
 obtain ⟨r, hr, r0, r1⟩ := ha
 obtain ⟨s, hs, s0, s1⟩ := hb
 have e : (Xo a b).q = ((r * s : Nat) : Rat) := by
  show a.q * b.q = _
  rw [hr, hs, Rat.natCast_mul]
 refine ⟨⟨r * s, e, Nat.mul_pos r0 s0, Nat.mul_le_mul r1 s1⟩, ?_⟩
 rw [e, hr, hs, WX, WX, WX]
theorem Nn (s t : List Tm) : (y7 s t).length = s.length * t.length := by
 unfold y7
 induction s with
 | nil => simp
 | cons a s ih => rw [List.flatMap_cons, List.length_append, ih, List.length_map, List.length_cons]; grind
def pg (L B : Nat) (V : List Tm) : Prop := ∀ r k : Nat, 0 < r → ∃ z : Int, ev (fR r) (V.take k) * (L : Rat) = (z : Rat) ∧ z.natAbs ≤ B * r
theorem pg.mono {L B C : Nat} {V : List Tm} (h : pg L B V) (hc : B ≤ C) : pg L C V := fun r k hr => by
 obtain ⟨z, h1, h2⟩ := h r k hr
 exact ⟨z, h1, Nat.le_trans h2 (Nat.mul_le_mul_right _ hc)⟩
theorem hZ {R r n : Nat} (hr : 0 < r) (hn : n ≤ R) : ∃ m : Nat, fR r n = (m : Rat) ∧ m ≤ R * r := by
 by_cases h : ∃ m, n * r = m * m
 ·obtain ⟨m, hm⟩ := h
  refine ⟨m, Rv hm, ?_⟩
  have h1 : n * r ≤ R * r := Nat.mul_le_mul_right _ hn
  have h2 : m ≤ m * m := by
   cases m with
   | zero => omega
   | succ m => exact Nat.le_mul_of_pos_left _ (by omega)
  omega
 ·exact ⟨0, qT fun m hm => h ⟨m, hm⟩, Nat.zero_le _⟩
theorem jN {R L D : Nat} : ∀ {V : List Tm}, (∀ t ∈ V, ZG R t) → (∀ t ∈ V, ∃ z : Int, t.c * (L : Rat) = (z : Rat) ∧ z.natAbs ≤ D) → pg L (V.length * (D * R)) V
 | [], _, _ => fun r k _ => ⟨0, by rw [List.take_nil]; simp only [yW, YH]; rw [Rat.zero_mul]; rfl, Nat.zero_le _⟩
 | t :: V, h, g => fun r k hr => by
  match k with
  | 0 => exact ⟨0, by rw [List.take_zero]; simp only [yW, YH]; rw [Rat.zero_mul]; rfl, Nat.zero_le _⟩
  | k + 1 =>
   obtain ⟨z, h1, h2⟩ := jN (fun x hx => h x (List.mem_cons_of_mem _ hx)) (fun x hx => g x (List.mem_cons_of_mem _ hx)) r k hr
   obtain ⟨y, g1, g2⟩ := g t List.mem_cons_self
   have ht := h t List.mem_cons_self
   obtain ⟨m, m1, m2⟩ := hZ (r := r) hr ht.mQ.2.2
   refine ⟨y * m + z, ?_, ?_⟩
   ·rw [List.take_succ_cons]
    simp only [yW, YH]
    rw [kq ht, m1, Rat.intCast_add, ← h1, Rat.intCast_mul, ← g1, Rat.intCast_natCast]
    grind
   ·have a1 := Int.natAbs_add_le (y * m) z
    have a2 : (y * m).natAbs ≤ D * (R * r) := by rw [Int.natAbs_mul, Int.natAbs_natCast]; exact Nat.mul_le_mul g2 m2
    rw [List.length_cons, Nat.add_mul, Nat.add_mul]
    rw [← Nat.mul_assoc] at a2
    rw [Nat.one_mul]
    exact Nat.le_trans a1 (Nat.le_trans (Nat.add_le_add a2 h2) (Nat.le_of_eq (Nat.add_comm _ _)))
end Go.Ar
