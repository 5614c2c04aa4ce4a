/- Sums of roots: what surd.Make makes of terms, and what it keeps. -/
import Derived.Test.YtgpbohfbhfbelaaGreatDoorArW
import Derived.Test.YtgpbohfbhfbelaaGreatDoorArZ
set_option linter.unusedSimpArgs false
set_option linter.unusedVariables false
namespace Go.Ar
open Go Go.Lib
set_option maxRecDepth 100000
structure Tm where
 c : Rat
 q : Rat
deriving DecidableEq
def NC (f : Nat → Rat) : Prop := ∀ k n : Nat, f (k * k * n) = (k : Rat) * f n
def mQ (q : Rat) : Nat := q.num.toNat * q.den
def fQ (f : Nat → Rat) (q : Rat) : Rat := f (mQ q) / (q.den : Rat)
def ev (f : Nat → Rat) : List Tm → Rat
 | [] => 0
 | t :: l => t.c * fQ f t.q + ev f l
theorem Xt (f : Nat → Rat) : ev f [] = 0 := rfl
theorem yn (f : Nat → Rat) (t : Tm) (l : List Tm) : ev f (t :: l) = t.c * fQ f t.q + ev f l := rfl
theorem V2 (f : Nat → Rat) : ∀ a b : List Tm, ev f (a ++ b) = ev f a + ev f b
 | [], b => by simp [ev, Rat.zero_add]
 | t :: a, b => by
  rw [List.cons_append]
  simp only [yn, Xt]
  rw [V2 f a b, Rat.add_assoc]
theorem kE {f : Nat → Rat} {a b : List Tm} (h : a.Perm b) : ev f a = ev f b := by
 induction h with
 | nil => rfl
 | cons x _ ih => rw [yn, yn, ih]
 | swap x y l => simp only [yn]; grind
 | trans _ _ h1 h2 => rw [h1, h2]
def L1 (t : Tm) : Tm := ⟨t.c * mkRat (Xc (mQ t.q)).1 t.q.den, ((Xc (mQ t.q)).2 : Rat)⟩
def vP (l : List Tm) : List Tm := (l.filter fun t => decide (t.c ≠ 0) && decide (t.q ≠ 0)).map L1
theorem PK (r : Nat) : mQ (r : Rat) = r := by
 unfold mQ
 rw [Rat.num_natCast, Rat.den_natCast, Nat.mul_one, Int.toNat_natCast]
theorem uR (f : Nat → Rat) (r : Nat) : fQ f (r : Rat) = f r := by
 unfold fQ
 rw [PK, Rat.den_natCast]
 show f r / 1 = f r
 grind
theorem mf {f : Nat → Rat} (hf : NC f) : f 0 = 0 := by
 have := hf 0 0
 simpa using this
theorem LY {q : Rat} (h : 0 < q) : 0 < mQ q := by
 unfold mQ
 have : 0 < q.num := by
  have := Rat.num_nonneg.2 (Rat.le_of_lt h)
  have h2 : q.num ≠ 0 := fun e => (Rat.ne_of_gt h) (Rat.num_eq_zero.1 e)
  omega
 exact Nat.mul_pos (by omega) q.den_pos
theorem kq {f : Nat → Rat} (hf : NC f) {t : Tm} (h : 0 < t.q) : (L1 t).c * fQ f (L1 t).q = t.c * fQ f t.q := by
 obtain ⟨h1, h2, h3, h4⟩ := U9 (LY h)
 unfold L1
 simp only [uR]
 unfold fQ
 conv => rhs; rw [← h1, hf]
 rw [Rat.mkRat_eq_div]
 have hd : (t.q.den : Rat) ≠ 0 := by
  intro e
  have := t.q.den_pos
  have e := Rat.natCast_eq_zero_iff.1 e
  omega
 rw [Rat.intCast_natCast]
 generalize ((Ar.Xc (mQ t.q)).1 : Rat) = x at *
 generalize (t.q.den : Rat) = d at *
 generalize f (Ar.Xc (mQ t.q)).2 = y at *
 grind
theorem oB {f : Nat → Rat} (hf : NC f) : ∀ {l : List Tm}, (∀ t ∈ l, 0 ≤ t.q) → ev f (vP l) = ev f l
 | [], _ => rfl
 | t :: l, h => by
  have ih := oB hf (l := l) fun t ht => h t (List.mem_cons_of_mem _ ht)
  have h0 := h t List.mem_cons_self
  unfold vP at ih ⊢
  rw [List.filter_cons]
  by_cases hc : t.c = 0
  ·rw [if_neg (by simp [hc]), ih]
   simp only [yn, Xt]
   rw [hc, Rat.zero_mul, Rat.zero_add]
  by_cases hq : t.q = 0
  ·rw [if_neg (by simp [hq]), ih]
   conv => rhs; rw [yn]
   have : fQ f t.q = 0 := by
    rw [hq]
    show f (0 * 1) / 1 = 0
    rw [Nat.zero_mul, mf hf]
    grind
   rw [this, Rat.mul_zero, Rat.zero_add]
  ·rw [if_pos (by simp [hc, hq]), List.map_cons]
   simp only [yn, Xt]
   rw [ih, kq hf (Rat.lt_of_le_of_ne h0 (Ne.symm hq))]
def Fx (x : Rat) : Bool := Nat.beq (u6 x.num.toNat * u6 x.num.toNat) x.num.toNat && Nat.beq (u6 x.den * u6 x.den) x.den
def EU (x : Rat) : Rat := mkRat (u6 x.num.toNat) (u6 x.den)
def ux (p q : Rat) : Bool := Fx (p / q)
def mo (p q : Rat) : Rat := EU (p / q)
theorem p9 {r s : Nat} (hr : 0 < r) (hs : 0 < s) (h : ux (r : Rat) (s : Rat) = true) : ∃ u v : Nat, 0 < u ∧ 0 < v ∧ r * (v * v) = s * (u * u) ∧ mo (r : Rat) (s : Rat) = mkRat u v := by
 unfold ux Fx at h
 rw [Bool.and_eq_true, Nat.beq_eq, Nat.beq_eq] at h
 obtain ⟨h1, h2⟩ := h
 have e : ((r : Rat) / (s : Rat)) = mkRat (r : Int) s := by rw [Rat.mkRat_eq_div]; rfl
 unfold mo EU
 rw [e] at h1 h2 ⊢
 rw [Rat.num_mkRat, if_neg (by omega)] at h1 ⊢
 rw [Rat.den_mkRat, if_neg (by omega)] at h2 ⊢
 rw [Int.natAbs_natCast] at h1 h2 ⊢
 have hg : 0 < Nat.gcd s r := Nat.gcd_pos_of_pos_left _ hs
 obtain ⟨a, ha⟩ := Nat.gcd_dvd_right s r
 obtain ⟨b, hb⟩ := Nat.gcd_dvd_left s r
 generalize Nat.gcd s r = g at *
 subst ha hb
 have e1 : (((g * a : Nat) : Int) / (g : Int)).toNat = a := by
  rw [← Int.natCast_ediv, Nat.mul_div_cancel_left _ hg, Int.toNat_natCast]
 have e2 : g * b / g = b := Nat.mul_div_cancel_left _ hg
 rw [e1] at h1 ⊢
 rw [e2] at h2 ⊢
 have ha0 : 0 < a := Nat.pos_of_mul_pos_left hr
 have hb0 : 0 < b := Nat.pos_of_mul_pos_left hs
 refine ⟨u6 a, u6 b, Nat.pos_of_ne_zero fun e => by rw [e] at h1; omega, Nat.pos_of_ne_zero fun e => by rw [e] at h2; omega, ?_, rfl⟩
 rw [h1, h2]
 grind
theorem lc {f : Nat → Rat} (hf : NC f) {r s : Nat} (hr : 0 < r) (hs : 0 < s) (h : ux (r : Rat) (s : Rat) = true) : f r = mo (r : Rat) (s : Rat) * f s := by
 obtain ⟨u, v, hu, hv, e, e2⟩ := p9 hr hs h
 rw [e2, Rat.mkRat_eq_div]
 have h1 : (v : Rat) * f r = (u : Rat) * f s := by
  rw [← hf, ← hf, Nat.mul_comm (v * v), Nat.mul_comm (u * u), e]
 have hd : (v : Rat) ≠ 0 := fun e => by
  have e := Rat.natCast_eq_zero_iff.1 e
  omega
 have h2 : ((u : Int) : Rat) = (u : Rat) := Rat.intCast_natCast u
 rw [h2]
 grind
theorem mw {r s : Nat} (hr : 0 < r) (hs : 0 < s) (br : r < 18446744073709551616) (bs : s < 18446744073709551616) (h : ux (r : Rat) (s : Rat) = false) : ∀ k : Nat, r * s ≠ k * k := by
 intro k hk
 have e : ((r : Rat) / (s : Rat)) = mkRat (r : Int) s := by rw [Rat.mkRat_eq_div]; rfl
 unfold ux Fx at h
 rw [e, Rat.num_mkRat, if_neg (by omega), Rat.den_mkRat, if_neg (by omega), Int.natAbs_natCast] at h
 have hg : 0 < Nat.gcd s r := Nat.gcd_pos_of_pos_left _ hs
 have hc := Nat.coprime_div_gcd_div_gcd hg
 obtain ⟨a, ha⟩ := Nat.gcd_dvd_right s r
 obtain ⟨b, hb⟩ := Nat.gcd_dvd_left s r
 generalize Nat.gcd s r = g at *
 subst ha hb
 have e1 : (((g * a : Nat) : Int) / (g : Int)).toNat = a := by
  rw [← Int.natCast_ediv, Nat.mul_div_cancel_left _ hg, Int.toNat_natCast]
 have e2 : g * b / g = b := Nat.mul_div_cancel_left _ hg
 have e3 : g * a / g = a := Nat.mul_div_cancel_left _ hg
 rw [e1, e2] at h
 rw [e2, e3] at hc
 have ha0 : 0 < a := Nat.pos_of_mul_pos_left hr
 have hb0 : 0 < b := Nat.pos_of_mul_pos_left hs
 have hla : a ≤ g * a := Nat.le_mul_of_pos_left _ hg
 have hlb : b ≤ g * b := Nat.le_mul_of_pos_left _ hg
 -- a * b is a square, too
 have hgk : g ∣ k := by
  refine sQ (a := g) (b := k) ?_
  rw [← hk]
  exact ⟨a * b, by grind⟩
 obtain ⟨m, rfl⟩ := hgk
 have hab : a * b = m * m := by
  have h1 : (g * g) * (a * b) = (g * g) * (m * m) := by grind
  exact Nat.eq_of_mul_eq_mul_left (Nat.mul_pos hg hg) h1
 have key : ∀ x y : Nat, 0 < x → Nat.Coprime y x → x * y = m * m → Nat.gcd x m * Nat.gcd x m = x := by
  intro x y hx hco hxy
  have h1 : Nat.gcd x m * Nat.gcd x m = Nat.gcd (x * x) (m * m) := by
   have := Nat.pow_gcd_pow (k := 2) (n := x) (m := m)
   rw [Nat.pow_two, Nat.pow_two, Nat.pow_two] at this
   exact this.symm
  rw [h1, ← hxy, Nat.gcd_mul_left]
  rw [show Nat.gcd x y = 1 from Nat.gcd_comm x y ▸ hco, Nat.mul_one]
 have ka := key a b ha0 hc hab
 have kb := key b a hb0 (Nat.Coprime.symm hc) (by rw [Nat.mul_comm]; exact hab)
 have q1 : u6 a * u6 a = a := by
  have := mU (k := Nat.gcd a m) (by omega)
  rw [ka] at this
  rw [this, ka]
 have q2 : u6 b * u6 b = b := by
  have := mU (k := Nat.gcd b m) (by omega)
  rw [kb] at this
  rw [this, kb]
 generalize u6 a = x at *
 generalize u6 b = y at *
 rw [q1, q2] at h
 rw [Nat.beq_refl, Nat.beq_refl] at h
 cases h
def vk (x t : Tm) : Tm := if t.q < x.q then ⟨t.c + x.c * mo x.q t.q, t.q⟩ else ⟨x.c + t.c * mo t.q x.q, x.q⟩
def uK : List Tm → Tm → List Tm
 | [], t => [t]
 | x :: r, t => if ux t.q x.q then vk x t :: r else x :: uK r t
theorem vu (x : Tm) (r : List Tm) (t : Tm) : uK (x :: r) t = if ux t.q x.q then vk x t :: r else x :: uK r t := rfl
def WF (l : List Tm) : List Tm := l.foldl uK []
theorem Oc (l : List Tm) (t : Tm) : WF (l ++ [t]) = uK (WF l) t := by unfold WF; rw [List.foldl_append]; rfl
def Yr (R : Nat) (t : Tm) : Prop := ∃ r : Nat, t.q = (r : Rat) ∧ 0 < r ∧ r ≤ R
theorem oz {x t : Tm} : (vk x t).q = x.q ∨ (vk x t).q = t.q := by
 unfold vk
 split
 ·exact .inr rfl
 ·exact .inl rfl
theorem O8 {R : Nat} {x t : Tm} (hx : Yr R x) (ht : Yr R t) : Yr R (vk x t) := by
 unfold Yr
 rcases oz (x := x) (t := t) with e | e <;> rw [e] <;> assumption
theorem Km {f : Nat → Rat} (hf : NC f) {R : Nat} {x t : Tm} (hx : Yr R x) (ht : Yr R t) (hR : R < 18446744073709551616) (h : ux t.q x.q = true) :
  (vk x t).c * fQ f (vk x t).q = x.c * fQ f x.q + t.c * fQ f t.q := by
 obtain ⟨r, hr, hr0, hrR⟩ := hx
 obtain ⟨s, hs, hs0, hsR⟩ := ht
 have h' : ux x.q t.q = true := by
  rw [hr, hs] at h ⊢
  cases hb : ux (r : Rat) (s : Rat) with
  | true => rfl
  | false =>
   obtain ⟨u, v, hu, hv, e, _⟩ := p9 hs0 hr0 h
   have := mw hr0 hs0 (by omega) (by omega) hb
   -- r * s is the square of r * u / v
   have h1 : (r * s) * (v * v) = (r * u) * (r * u) := by grind
   obtain ⟨j, hj, _⟩ := V7 (c := v) (l := r * s) (k := r * u) hv (by rw [← h1, Nat.mul_comm])
   exact absurd hj (this j)
 unfold vk
 split
 ·simp only
  rw [hs, hr, uR, uR]
  rw [hs, hr] at h'
  rw [lc hf hr0 hs0 h']
  grind
 ·simp only
  rw [hs, hr, uR, uR]
  rw [hs, hr] at h
  rw [lc hf hs0 hr0 h]
  grind
theorem rx {f : Nat → Rat} (hf : NC f) {R : Nat} {t : Tm} (ht : Yr R t) (hR : R < 18446744073709551616) : ∀ {cl : List Tm}, (∀ x ∈ cl, Yr R x) → ev f (uK cl t) = ev f cl + t.c * fQ f t.q ∧ ∀ x ∈ uK cl t, Yr R x
 | [], _ => by
  refine ⟨by simp only [uK, yn, Xt]; grind, fun x hx => ?_⟩
  rw [List.mem_singleton.1 hx]; exact ht
 | x :: r, h => by
  obtain ⟨ih1, ih2⟩ := rx hf ht hR (cl := r) fun x hx => h x (List.mem_cons_of_mem _ hx)
  have hx := h x List.mem_cons_self
  rw [vu]
  split
  ·rename_i hb
   refine ⟨?_, fun y hy => ?_⟩
   ·simp only [yn, Xt]
    rw [Km hf hx ht hR hb]
    grind
   ·rcases List.mem_cons.1 hy with rfl | hy
    ·exact O8 hx ht
    ·exact h y (List.mem_cons_of_mem _ hy)
  ·refine ⟨?_, fun y hy => ?_⟩
   ·simp only [yn, Xt]
    rw [ih1]
    grind
   ·rcases List.mem_cons.1 hy with rfl | hy
    ·exact hx
    ·exact ih2 y hy
end Go.Ar

namespace Go.Ar
open Go Go.Lib
set_option maxRecDepth 100000
def unr (x y : Tm) : Prop := ∀ k : Nat, mQ x.q * mQ y.q ≠ k * k
theorem unr.symm {x y : Tm} (h : unr x y) : unr y x := fun k => by rw [Nat.mul_comm]; exact h k
theorem Yr.mQ {R : Nat} {t : Tm} (h : Yr R t) : t.q = ((mQ t.q : Nat) : Rat) ∧ 0 < mQ t.q ∧ mQ t.q ≤ R := by
 obtain ⟨r, hr, h0, h1⟩ := h
 rw [hr, PK]
 exact ⟨rfl, h0, h1⟩
theorem SQ {a b r : Nat} (hr : 0 < r) (h : a * (r * r) = b * b) : ∃ k, a = k * k := by
 obtain ⟨j, hj, _⟩ := V7 (c := r) (l := a) (k := b) hr (by rw [← h, Nat.mul_comm])
 exact ⟨j, hj⟩
theorem lP {R : Nat} {x y : Tm} (hx : Yr R x) (hy : Yr R y) (h : ux x.q y.q = true) : ∃ k, mQ x.q * mQ y.q = k * k := by
 obtain ⟨e1, p1, _⟩ := hx.mQ
 obtain ⟨e2, p2, _⟩ := hy.mQ
 rw [e1, e2] at h
 obtain ⟨u, v, hu, hv, e, _⟩ := p9 p1 p2 h
 exact SQ (r := v) (b := mQ y.q * u) hv (by grind)
theorem KF {R : Nat} {x y : Tm} (hx : Yr R x) (hy : Yr R y) (hR : R < 18446744073709551616) : ux x.q y.q = false ↔ unr x y := by
 obtain ⟨e1, p1, b1⟩ := hx.mQ
 obtain ⟨e2, p2, b2⟩ := hy.mQ
 constructor
 ·intro h
  rw [e1, e2] at h
  exact mw p1 p2 (by omega) (by omega) h
 ·intro h
  refine Bool.eq_false_iff.2 fun e => ?_
  obtain ⟨k, hk⟩ := lP hx hy e
  exact h k hk
theorem KU {R : Nat} {x y z : Tm} (hx : Yr R x) (hy : Yr R y) (h : ∃ k, mQ x.q * mQ y.q = k * k) (hz : unr x z) : unr y z := fun k hk => by
 obtain ⟨j, hj⟩ := h
 obtain ⟨_, p2, _⟩ := hy.mQ
 obtain ⟨m, hm⟩ := SQ (a := mQ x.q * mQ z.q) (b := j * k) p2 (by
  have e1 : mQ x.q * mQ z.q * (mQ y.q * mQ y.q) = (mQ x.q * mQ y.q) * (mQ y.q * mQ z.q) := by grind
  rw [e1, hj, hk]; grind)
 exact hz m hm
theorem Qq {R : Nat} {t : Tm} (ht : Yr R t) (hR : R < 18446744073709551616) : ∀ {cl : List Tm}, (∀ x ∈ cl, Yr R x) → cl.Pairwise unr → (uK cl t).Pairwise unr ∧
  ∀ z : Tm, Yr R z → (∀ x ∈ cl, unr z x) → unr z t → ∀ x ∈ uK cl t, unr z x
 | [], _, _ => ⟨List.pairwise_singleton _ _, fun z _ _ h x hx => by
  rw [List.mem_singleton.1 hx]; exact h⟩
 | x :: r, h, hp => by
  have hx := h x List.mem_cons_self
  have hr := fun y hy => h y (List.mem_cons_of_mem x hy)
  obtain ⟨p1, p2⟩ := List.pairwise_cons.1 hp
  obtain ⟨i1, i2⟩ := Qq ht hR hr p2
  rw [vu]
  split
  ·rename_i hb
   have hs := lP ht hx hb
   have hj : ∀ z : Tm, Yr R z → unr z x → unr z (vk x t) := fun z hz hzx => by
    rcases oz (x := x) (t := t) with e | e
    ·intro k; rw [e]; exact hzx k
    ·have := KU hx ht (by obtain ⟨k, hk⟩ := hs; exact ⟨k, by rw [Nat.mul_comm]; exact hk⟩) hzx.symm
     intro k; rw [e]; exact this.symm k
   refine ⟨List.pairwise_cons.2 ⟨fun y hy => (hj y (hr y hy) (p1 y hy).symm).symm, p2⟩, fun z hz hzx hzt y hy => ?_⟩
   rcases List.mem_cons.1 hy with rfl | hy
   ·exact hj z hz (hzx x List.mem_cons_self)
   ·exact hzx y (List.mem_cons_of_mem _ hy)
  ·rename_i hb
   have hb : unr t x := (KF ht hx hR).1 (by simpa using hb)
   refine ⟨List.pairwise_cons.2 ⟨fun y hy => i2 x hx p1 hb.symm y hy, i1⟩, fun z hz hzx hzt y hy => ?_⟩
   rcases List.mem_cons.1 hy with rfl | hy
   ·exact hzx y List.mem_cons_self
   ·exact i2 z hz (fun w hw => hzx w (List.mem_cons_of_mem _ hw)) hzt y hy
theorem mM {P : Rat → Prop} {t : Tm} (ht : P t.q) : ∀ {cl : List Tm}, (∀ x ∈ cl, P x.q) → ∀ x ∈ uK cl t, P x.q
 | [], _, x, hx => by rw [List.mem_singleton.1 hx]; exact ht
 | y :: r, h, x, hx => by
  rw [vu] at hx
  split at hx
  ·rcases List.mem_cons.1 hx with rfl | hx
   ·rcases oz (x := y) (t := t) with e | e
    ·rw [e]; exact h y List.mem_cons_self
    ·rw [e]; exact ht
   ·exact h x (List.mem_cons_of_mem _ hx)
  ·rcases List.mem_cons.1 hx with rfl | hx
   ·exact h _ List.mem_cons_self
   ·exact mM ht (fun z hz => h z (List.mem_cons_of_mem _ hz)) x hx
theorem Qo {t : Tm} : ∀ {cl : List Tm}, (uK cl t).length ≤ cl.length + 1
 | [] => by simp [uK]
 | x :: r => by
  rw [vu]
  split
  ·simp
  ·simpa using Qo (t := t) (cl := r)
theorem sJ {R : Nat} (hR : R < 18446744073709551616) {P : Rat → Prop} : ∀ (n : Nat) {V : List Tm}, V.length = n → (∀ t ∈ V, Yr R t) → (∀ t ∈ V, P t.q) →
  (WF V).Pairwise unr ∧ (∀ x ∈ WF V, Yr R x) ∧ (∀ x ∈ WF V, P x.q) ∧ (WF V).length ≤ n ∧ ∀ f, NC f → ev f (WF V) = ev f V
 | 0, V, hn, _, _ => by
  obtain rfl := List.eq_nil_of_length_eq_zero hn
  exact ⟨List.Pairwise.nil, (fun x hx => by cases hx), (fun x hx => by cases hx), Nat.le_refl _, fun f _ => rfl⟩
 | n + 1, V, hn, h, hP => by
  obtain ⟨W, t, rfl⟩ : ∃ W t, V = W ++ [t] := by
   have hne : V ≠ [] := fun e => by rw [e] at hn; cases hn
   exact ⟨V.dropLast, V.getLast hne, (List.dropLast_concat_getLast hne).symm⟩
  rw [List.length_append] at hn
  have hl : W.length = n := by simpa using hn
  obtain ⟨a1, a2, a3, a4, a5⟩ := sJ hR (P := P) n hl (fun x hx => h x (List.mem_append_left _ hx)) (fun x hx => hP x (List.mem_append_left _ hx))
  have ht := h t (List.mem_append_right _ List.mem_cons_self)
  have hPt := hP t (List.mem_append_right _ List.mem_cons_self)
  rw [Oc]
  refine ⟨(Qq ht hR a2 a1).1, (rx (f := fun _ => 0) (fun _ _ => by simp) ht hR a2).2, mM hPt a3, Nat.le_trans Qo (by omega), fun f hf => ?_⟩
  rw [(rx hf ht hR a2).1, a5 f hf, V2, yn, Xt, Rat.add_zero]
def O9 (t : Tm) : List Tm → List Tm
 | [] => [t]
 | x :: r => if x.q < t.q then x :: O9 t r else t :: x :: r
def TX : List Tm → List Tm
 | [] => []
 | t :: r => O9 t (TX r)
theorem uv (t : Tm) : ∀ l : List Tm, (O9 t l).Perm (t :: l)
 | [] => List.Perm.refl _
 | x :: r => by
  unfold O9
  split
  ·exact ((uv t r).cons x).trans (List.Perm.swap t x r)
  ·exact List.Perm.refl _
theorem TT : ∀ l : List Tm, (TX l).Perm l
 | [] => List.Perm.refl _
 | t :: r => (uv t (TX r)).trans ((TT r).cons t)
def fD (x y : Tm) : Prop := x.q ≤ y.q
theorem oD (t : Tm) : ∀ {l : List Tm}, l.Pairwise fD → (O9 t l).Pairwise fD
 | [], _ => List.pairwise_singleton _ _
 | x :: r, h => by
  obtain ⟨h1, h2⟩ := List.pairwise_cons.1 h
  unfold O9
  split
  ·rename_i hlt
   refine List.pairwise_cons.2 ⟨fun y hy => ?_, oD t h2⟩
   rcases List.mem_cons.1 ((uv t r).mem_iff.1 hy) with rfl | hy
   ·exact Rat.le_of_lt hlt
   ·exact h1 y hy
  ·rename_i hge
   have hge : t.q ≤ x.q := Rat.not_lt.1 hge
   refine List.pairwise_cons.2 ⟨fun y hy => ?_, h⟩
   rcases List.mem_cons.1 hy with rfl | hy
   ·exact hge
   ·exact Rat.le_trans hge (h1 y hy)
theorem qc : ∀ l : List Tm, (TX l).Pairwise fD
 | [] => List.Pairwise.nil
 | t :: r => oD t (qc r)
def Kw (l : List Tm) : List Tm := (WF (vP l)).filter fun t => decide (t.c ≠ 0)
def JL (l : List Tm) : List Tm := TX (Kw l)
def fR (r n : Nat) : Rat := if Yk (n * r) * Yk (n * r) = n * r then (Yk (n * r) : Rat) else 0
theorem Kd (k : Nat) : Yk (k * k) = k := (rF (Nat.le_refl _) (by grind)).symm
theorem od {r n k : Nat} (h : n * r = k * k) : fR r n = (k : Rat) := by unfold fR; rw [h, Kd, if_pos rfl]
theorem ON {r n : Nat} (h : ∀ k, n * r ≠ k * k) : fR r n = 0 := by unfold fR; rw [if_neg fun e => h _ e.symm]
theorem HB (r : Nat) : NC (fR r) := by
 intro k n
 by_cases hk : k = 0
 ·subst hk
  rw [od (k := 0) (by simp)]
  simp
 by_cases h : ∃ m, n * r = m * m
 ·obtain ⟨m, hm⟩ := h
  rw [od hm, od (k := k * m) (by rw [show k * k * n * r = k * k * (n * r) by grind, hm]; grind)]
  exact Rat.natCast_mul k m
 ·have h : ∀ m, n * r ≠ m * m := fun m hm => h ⟨m, hm⟩
  rw [ON h, ON fun m hm => ?_, Rat.mul_zero]
  obtain ⟨j, hj, _⟩ := V7 (c := k) (l := n * r) (k := m) (by omega) (by rw [← hm]; grind)
  exact h j hj
theorem Ip {R : Nat} {t : Tm} (h : Yr R t) (r : Nat) : fQ (fR r) t.q = fR r (mQ t.q) := by
 obtain ⟨e, _, _⟩ := h.mQ
 conv => lhs; rw [e]
 exact uR _ _
theorem KR {R r : Nat} {S : List Tm} (hn : ∀ x ∈ S, Yr R x) (h : ∀ x ∈ S, ∀ k, mQ x.q * r ≠ k * k) : ev (fR r) S = 0 := by
 induction S with
 | nil => rfl
 | cons x S ih =>
  simp only [yn, Xt]
  rw [Ip (hn x List.mem_cons_self), ON (h x List.mem_cons_self), Rat.mul_zero, Rat.zero_add]
  exact ih (fun y hy => hn y (List.mem_cons_of_mem _ hy)) fun y hy => h y (List.mem_cons_of_mem _ hy)
theorem m7 {R : Nat} {x : Tm} : ∀ {S : List Tm}, (∀ y ∈ S, Yr R y) → S.Pairwise unr → x ∈ S → ev (fR (mQ x.q)) S = x.c * (mQ x.q : Rat)
 | y :: S, hn, hu, hx => by
  obtain ⟨u1, u2⟩ := List.pairwise_cons.1 hu
  have hS := fun z hz => hn z (List.mem_cons_of_mem y hz)
  simp only [yn, Xt]
  rcases List.mem_cons.1 hx with rfl | hx
  ·rw [Ip (hn x List.mem_cons_self), od rfl, KR hS fun z hz k hk => u1 z hz k (by rw [Nat.mul_comm]; exact hk), Rat.add_zero]
  ·rw [Ip (hn y List.mem_cons_self), ON fun k hk => u1 x hx k hk, Rat.mul_zero, Rat.zero_add]
   exact m7 hS u2 hx
end Go.Ar

namespace Go.Ar
open Go Go.Lib
set_option maxRecDepth 100000
structure gS (R : Nat) (s : List Tm) : Prop where
 nat : ∀ x ∈ s, Yr R x
 ne : ∀ x ∈ s, x.c ≠ 0
 Xc : ∀ x ∈ s, Xc (mQ x.q) = (1, mQ x.q)
 unr : s.Pairwise unr
 le : s.Pairwise fD
def inT (R : Nat) (l : List Tm) : Prop := ∀ t ∈ l, 0 ≤ t.q ∧ (Xc (mQ t.q)).2 ≤ R
theorem kh {R : Nat} {l : List Tm} (h : inT R l) : (∀ t ∈ vP l, Yr R t) ∧ ∀ t ∈ vP l, Xc (mQ t.q) = (1, mQ t.q) := by
 have key : ∀ t ∈ vP l, Yr R t ∧ Xc (mQ t.q) = (1, mQ t.q) := fun t ht => by
  unfold vP at ht
  obtain ⟨u, hu, rfl⟩ := List.mem_map.1 ht
  obtain ⟨hu1, hu2⟩ := List.mem_filter.1 hu
  rw [Bool.and_eq_true, decide_eq_true_iff, decide_eq_true_iff] at hu2
  obtain ⟨h0, h1⟩ := h u hu1
  obtain ⟨n1, n2, n3, n4⟩ := U9 (LY (Rat.lt_of_le_of_ne h0 (Ne.symm hu2.2)))
  have hq : (L1 u).q = (((Ar.Xc (mQ u.q)).2 : Nat) : Rat) := rfl
  rw [hq, PK]
  exact ⟨⟨_, hq, n3, h1⟩, n4⟩
 exact ⟨fun t ht => (key t ht).1, fun t ht => (key t ht).2⟩
theorem Q7 (f : Nat → Rat) : ∀ l : List Tm, ev f (l.filter fun t => decide (t.c ≠ 0)) = ev f l
 | [] => rfl
 | t :: l => by
  rw [List.filter_cons]
  split
  ·simp only [yn, Xt]; rw [Q7 f l]
  ·rename_i h
   have h : t.c = 0 := by simpa using h
   rw [Q7 f l]
   conv => rhs; rw [yn]
   rw [h, Rat.zero_mul, Rat.zero_add]
theorem ky {R : Nat} (hR : R < 18446744073709551616) {l : List Tm} (h : inT R l) :
  (WF (vP l)).Pairwise unr ∧ (∀ x ∈ WF (vP l), Yr R x) ∧ (∀ x ∈ WF (vP l), Xc (mQ x.q) = (1, mQ x.q)) ∧ (WF (vP l)).length ≤ l.length ∧ ∀ f, NC f → ev f (WF (vP l)) = ev f l := by
 obtain ⟨v1, v2⟩ := kh h
 obtain ⟨a1, a2, a3, a4, a5⟩ := sJ hR (P := fun q => Xc (mQ q) = (1, mQ q)) _ rfl v1 v2
 refine ⟨a1, a2, a3, Nat.le_trans a4 ?_, fun f hf => ?_⟩
 ·unfold vP
  rw [List.length_map]
  exact List.length_filter_le _ _
 ·rw [a5 f hf, oB hf fun t ht => (h t ht).1]
theorem LW {R : Nat} (hR : R < 18446744073709551616) {l : List Tm} (h : inT R l) : gS R (JL l) ∧ (JL l).length ≤ l.length ∧ ∀ f, NC f → ev f (JL l) = ev f l := by
 obtain ⟨a1, a2, a3, a4, a5⟩ := ky hR h
 have hp := TT (Kw l)
 have hm : ∀ x, x ∈ JL l → x ∈ WF (vP l) ∧ x.c ≠ 0 := fun x hx => by
  obtain ⟨b1, b2⟩ := List.mem_filter.1 (hp.mem_iff.1 hx)
  exact ⟨b1, by simpa using b2⟩
 refine ⟨⟨fun x hx => a2 x (hm x hx).1, fun x hx => (hm x hx).2, fun x hx => a3 x (hm x hx).1, hp.symm.pairwise (a1.filter _) fun h => h.symm, qc _⟩, ?_, fun f hf => ?_⟩
 ·show (TX (Kw l)).length ≤ _
  rw [hp.length_eq]
  exact Nat.le_trans (List.length_filter_le _ _) a4
 ·show ev f (TX (Kw l)) = _
  rw [kE hp]
  show ev f ((WF (vP l)).filter _) = _
  rw [Q7, a5 f hf]
theorem jE {R : Nat} {s : List Tm} (h : gS R s) (he : ∀ f, NC f → ev f s = 0) : s = [] := by
 cases s with
 | nil => rfl
 | cons x r =>
  have h1 := m7 h.nat h.unr (x := x) List.mem_cons_self
  rw [he _ (HB _)] at h1
  obtain ⟨_, hp, _⟩ := (h.nat x List.mem_cons_self).mQ
  rcases Rat.mul_eq_zero.1 h1.symm with e | e
  ·exact absurd e (h.ne x List.mem_cons_self)
  ·have := Rat.natCast_eq_zero_iff.1 e
   omega
def Rl (k : Rat) (l : List Tm) : List Tm := l.map fun t => ⟨t.c * k, t.q⟩
theorem L0 (f : Nat → Rat) (k : Rat) : ∀ l : List Tm, ev f (Rl k l) = ev f l * k
 | [] => by simp [Rl, ev]
 | t :: l => by
  have := L0 f k l
  unfold Rl at this ⊢
  rw [List.map_cons]
  simp only [yn, Xt]
  rw [this]
  grind
theorem PQ {R : Nat} {a b : List Tm} (ha : inT R a) (hb : inT R b) : inT R (a ++ b) := fun t ht => by
 rcases List.mem_append.1 ht with h | h
 ·exact ha t h
 ·exact hb t h
theorem kG {R : Nat} {k : Rat} {a : List Tm} (ha : inT R a) : inT R (Rl k a) := fun t ht => by
 obtain ⟨u, hu, rfl⟩ := List.mem_map.1 ht
 exact ha u hu
theorem kj {R : Nat} {t : Tm} (h : Yr R t) : 0 ≤ t.q ∧ (Xc (mQ t.q)).2 ≤ R := by
 obtain ⟨e, h0, h1⟩ := h.mQ
 refine ⟨?_, Nat.le_trans (IF h0).2.1 h1⟩
 rw [e]
 exact Rat.natCast_nonneg
theorem gS.inT {R : Nat} {s : List Tm} (h : gS R s) : inT R s := fun t ht => kj (h.nat t ht)
theorem sub_zero {R : Nat} (hR : R < 18446744073709551616) {s t : List Tm} (hs : inT R s) (ht : inT R t) (h : ∀ f, NC f → ev f s = ev f t) : JL (s ++ Rl (-1) t) = [] := by
 obtain ⟨h1, _, h3⟩ := LW hR (PQ hs (kG (k := -1) ht))
 refine jE h1 fun f hf => ?_
 rw [h3 f hf, V2, L0, h f hf]
 grind
def bi (f : Nat → Rat) : List Tm → List Tm → Rat
 | [], _ => 0
 | a :: s, t => a.c * ev (fun n => f (mQ a.q * n)) t + bi f s t
def pg (L B : Nat) (V : List Tm) : Prop := ∀ r k : Nat, 0 < r → ∃ z : Int, ev (fR r) (V.take k) * (L : Rat) = (z : Rat) ∧ z.natAbs ≤ B * r
theorem pg.mono {L B C : Nat} {V : List Tm} (h : pg L B V) (hc : B ≤ C) : pg L C V := fun r k hr => by
 obtain ⟨z, h1, h2⟩ := h r k hr
 exact ⟨z, h1, Nat.le_trans h2 (Nat.mul_le_mul_right _ hc)⟩
end Go.Ar
