/- Sums of roots, nearly: roots as rationals that take squares out; how near to 0 a sum of up to three roots can be. -/
import Derived.Test.YthbpnknhfokadaaGreatDoorArZ
set_option linter.unusedSimpArgs false
set_option linter.unusedVariables false
namespace Go.Ar
open Go Go.Lib
set_option maxRecDepth 100000
theorem mF (P : Nat → Prop) (h1 : P 1) : ∀ N, 1 ≤ N → ∃ k, P k ∧ 1 ≤ k ∧ ∀ j, j ≤ N → P j → j ≤ k
 | 0, h => absurd h (by decide)
 | 1, _ => ⟨1, h1, Nat.le_refl _, fun _ h _ => h⟩
 | N + 2, _ => by
  by_cases h : P (N + 2)
  ·exact ⟨N + 2, h, by omega, fun _ h _ => h⟩
  ·obtain ⟨k, a, c, b⟩ := mF P h1 (N + 1) (by omega)
   refine ⟨k, a, c, fun j hj hp => b j ?_ hp⟩
   have : j ≠ N + 2 := fun e => h (e ▸ hp)
   omega
theorem m7 {n : Nat} (hn : 0 < n) : ∃ k, 1 ≤ k ∧ k * k ∣ n ∧ ∀ j, j * j ∣ n → j ≤ k := by
 obtain ⟨k, a, c, b⟩ := mF (fun k => k * k ∣ n) (Nat.one_dvd n) n hn
 refine ⟨k, c, a, fun j hj => b j ?_ hj⟩
 have h1 := Nat.le_of_dvd hn hj
 rcases Nat.eq_zero_or_pos j with h | h
 ·omega
 ·exact Nat.le_trans (Nat.le_mul_of_pos_left _ h) h1
open Classical in
noncomputable def uS (n : Nat) : Nat := if h : 0 < n then Classical.choose (m7 h) else 0
theorem tw {n : Nat} (h : 0 < n) : 1 ≤ uS n ∧ uS n * uS n ∣ n ∧ ∀ j, j * j ∣ n → j ≤ uS n := by
 unfold uS
 rw [dif_pos h]
 exact Classical.choose_spec (m7 h)
theorem Lx {k n : Nat} (hk : 0 < k) (hn : 0 < n) : uS (k * k * n) = k * uS n := by
 have hkn : 0 < k * k * n := Nat.mul_pos (Nat.mul_pos hk hk) hn
 obtain ⟨a1, ⟨r, hr⟩, a3⟩ := tw hn
 obtain ⟨b1, ⟨s, hs⟩, b3⟩ := tw hkn
 generalize uS (k * k * n) = b at *
 generalize uS n = a at *
 refine Nat.le_antisymm ?_ (b3 _ ⟨r, by rw [hr]; grind⟩)
 have hka : 0 < k * a := Nat.mul_pos hk a1
 have hg : 0 < Nat.gcd b (k * a) := Nat.gcd_pos_of_pos_right _ hka
 have hc := Nat.coprime_div_gcd_div_gcd hg
 obtain ⟨b', hb⟩ := Nat.gcd_dvd_left b (k * a)
 obtain ⟨c', hc'⟩ := Nat.gcd_dvd_right b (k * a)
 generalize Nat.gcd b (k * a) = g at *
 have e1 : b / g = b' := by rw [hb]; exact Nat.mul_div_cancel_left _ hg
 have e2 : k * a / g = c' := by rw [hc']; exact Nat.mul_div_cancel_left _ hg
 rw [e1, e2] at hc
 have h1 : (g * g) * (b' * b' * s) = (g * g) * (c' * c' * r) := by
  have : b * b * s = (k * a) * (k * a) * r := by rw [← hs, hr]; grind
  rw [hb, hc'] at this
  grind
 have h2 := Nat.eq_of_mul_eq_mul_left (Nat.mul_pos hg hg) h1
 have h3 : b' * b' ∣ r := by
  have : Nat.Coprime (b' * b') (c' * c') := Nat.Coprime.mul_left (hc.mul_right hc) (hc.mul_right hc)
  exact this.dvd_of_dvd_mul_left ⟨s, h2.symm⟩
 obtain ⟨w, hw⟩ := h3
 have h4 := a3 (a * b') ⟨w, by rw [hr, hw]; grind⟩
 have h5 : b' ≤ 1 := by
  refine Nat.le_of_not_lt fun h => ?_
  have : a * 2 ≤ a * b' := Nat.mul_le_mul_left _ h
  omega
 have h6 : g ≤ k * a := Nat.le_of_dvd hka ⟨c', hc'⟩
 calc b = g * b' := hb
  _ ≤ g * 1 := Nat.mul_le_mul_left _ h5
  _ ≤ k * a := by omega
noncomputable def fM (K n : Nat) : Rat := if n = 0 then 0 else (uS n : Rat) * ((ZE (n / (uS n * uS n) * (K * K)) : Nat) : Rat) / (K : Rat)
theorem iy (K : Nat) : R7 (fM K) := fun k n => by
 unfold fM
 by_cases hn : n = 0
 ·rw [hn, Nat.mul_zero, if_pos rfl, Rat.mul_zero]
 by_cases hk : k = 0
 ·rw [hk, Nat.mul_zero, Nat.zero_mul, if_pos rfl, show ((0 : Nat) : Rat) = 0 from rfl, Rat.zero_mul]
 have hk0 : 0 < k := Nat.pos_of_ne_zero hk
 have hn0 : 0 < n := Nat.pos_of_ne_zero hn
 have h0 : k * k * n ≠ 0 := Nat.ne_of_gt (Nat.mul_pos (Nat.mul_pos hk0 hk0) hn0)
 rw [if_neg hn, if_neg h0, Lx hk0 hn0]
 have e : k * k * n / (k * uS n * (k * uS n)) = n / (uS n * uS n) := by
  have : k * uS n * (k * uS n) = k * k * (uS n * uS n) := by grind
  rw [this]
  exact Nat.mul_div_mul_left _ _ (Nat.mul_pos hk0 hk0)
 rw [e, Rat.natCast_mul]
 generalize ((ZE (n / (uS n * uS n) * (K * K)) : Nat) : Rat) = x
 grind
structure gU (N : Nat) (ε : Rat) (f : Nat → Rat) : Prop where
 R7 : R7 f
 one : f 1 = 1
 p0 : ∀ n, 0 ≤ f n
 lo : ∀ n, f n * f n ≤ (n : Rat)
 hi : ∀ n, n ≤ N → (n : Rat) ≤ f n * f n + ε
theorem VZ {a b c : Rat} (hc : 0 < c) (h : a * c ≤ b * c) : a ≤ b := Rat.le_of_mul_le_mul_right h hc
theorem s9 {K n : Nat} (hK : 0 < K) (hn : 0 < n) : ∃ a r t : Nat, n = a * a * r ∧ t * t ≤ r * (K * K) ∧ r * (K * K) < (t + 1) * (t + 1) ∧ fM K n * (K : Rat) = ((a * t : Nat) : Rat) := by
 obtain ⟨a1, ⟨r, hr⟩, _⟩ := tw hn
 have e : n / (uS n * uS n) = r := by
  conv => lhs; lhs; rw [hr]
  exact Nat.mul_div_cancel_left _ (Nat.mul_pos a1 a1)
 refine ⟨uS n, r, ZE (r * (K * K)), hr, (YO _).1, (YO _).2, ?_⟩
 unfold fM
 rw [if_neg (by omega), e, Rat.natCast_mul]
 have hk : (K : Rat) ≠ 0 := fun e => by have := Rat.natCast_eq_zero_iff.1 e; omega
 generalize (K : Rat) = k at *
 generalize ((ZE (r * (K * K)) : Nat) : Rat) = x
 grind
theorem Jd (N E : Nat) (hN : 0 < N) (hE : 0 < E) : ∃ f, gU N (1 / (E : Rat)) f := by
 have hK : 0 < 2 * N * E := Nat.mul_pos (Nat.mul_pos (by decide) hN) hE
 have hk : (0 : Rat) < ((2 * N * E : Nat) : Rat) := Rat.natCast_pos.2 hK
 refine ⟨fM (2 * N * E), iy _, ?_, fun n => ?_, fun n => ?_, fun n hn => ?_⟩
 ·obtain ⟨a, r, t, h1, h2, h3, h4⟩ := s9 hK (n := 1) (by decide)
  have ha : a = 1 := by
   have : a * a = 1 := Nat.eq_one_of_mul_eq_one_right h1.symm
   exact Nat.eq_one_of_mul_eq_one_right this
  subst ha
  have hr : r = 1 := by omega
  subst hr
  have ht : t = 2 * N * E := by
   generalize 2 * N * E = K at *
   have g1 := xj (a := K) (b := t + 1) (by omega)
   have g3 : (K + 1) * (K + 1) = K * K + 2 * K + 1 := by grind
   have g2 := xj (a := t) (b := K + 1) (by omega)
   omega
  subst ht
  rw [Nat.one_mul] at h4
  generalize ((2 * N * E : Nat) : Rat) = k at *
  have k0 := Rat.ne_of_gt hk
  have : (fM (2 * N * E) 1 - 1) * k = 0 := by grind
  rcases Rat.mul_eq_zero.1 this with h | h
  ·grind
  ·exact absurd h k0
 ·rcases Nat.eq_zero_or_pos n with rfl | hn
  ·unfold fM; rw [if_pos rfl]; exact Rat.le_refl
  ·obtain ⟨a, r, t, h1, h2, h3, h4⟩ := s9 hK hn
   refine VZ hk ?_
   rw [h4, Rat.zero_mul]
   exact Rat.natCast_nonneg
 ·rcases Nat.eq_zero_or_pos n with rfl | hn
  ·unfold fM; rw [if_pos rfl]; decide +kernel
  ·obtain ⟨a, r, t, h1, h2, h3, h4⟩ := s9 hK hn
   refine VZ (Rat.mul_pos hk hk) ?_
   have e : fM (2 * N * E) n * fM (2 * N * E) n * (((2 * N * E : Nat) : Rat) * ((2 * N * E : Nat) : Rat)) = (((a * t) * (a * t) : Nat) : Rat) := by
    rw [Rat.natCast_mul (a * t), ← h4]
    grind
   rw [e, ← Rat.natCast_mul, ← Rat.natCast_mul]
   refine Rat.natCast_le_natCast.2 ?_
   generalize 2 * N * E = K at *
   rw [h1]
   have := Nat.mul_le_mul_left (a * a) h2
   calc a * t * (a * t) = a * a * (t * t) := by grind
    _ ≤ _ := this
    _ = _ := by grind
 ·have hEr : (0 : Rat) < (E : Rat) := Rat.natCast_pos.2 hE
  rcases Nat.eq_zero_or_pos n with rfl | hn0
  ·have h1 : (0 : Rat) ≤ 1 / (E : Rat) := by
    refine VZ hEr ?_
    have : (E : Rat) ≠ 0 := Rat.ne_of_gt hEr
    generalize (E : Rat) = x at *
    grind
   unfold fM; rw [if_pos rfl, Rat.zero_mul]
   grind
  ·obtain ⟨a, r, t, h1, h2, h3, h4⟩ := s9 hK hn0
   -- n K K ≤ (a t)^2 + 2 n K, and 2 n K E ≤ K K
   have g : n * ((2 * N * E) * (2 * N * E)) * E ≤ (a * t) * (a * t) * E + (2 * N * E) * (2 * N * E) := by
    have t1 : t ≤ r * (2 * N * E) := by
     rcases Nat.eq_zero_or_pos r with h | h
     ·rw [h] at h2
      have : t * t = 0 := by omega
      rcases Nat.mul_eq_zero.1 this with h | h <;> omega
     ·have := xj (a := t) (b := r * (2 * N * E) + 1) (by
       have e : (r * (2 * N * E) + 1) * (r * (2 * N * E) + 1) = r * r * ((2 * N * E) * (2 * N * E)) + 2 * (r * (2 * N * E)) + 1 := by grind
       have e2 : r * ((2 * N * E) * (2 * N * E)) ≤ r * r * ((2 * N * E) * (2 * N * E)) := Nat.mul_le_mul_right _ (Nat.le_mul_of_pos_left _ h)
       omega)
      omega
    have t2 : r * ((2 * N * E) * (2 * N * E)) ≤ t * t + 2 * (r * (2 * N * E)) := by
     have e : (t + 1) * (t + 1) = t * t + 2 * t + 1 := by grind
     omega
    have t3 := Nat.mul_le_mul_left (a * a) t2
    have t4 : 2 * n * (2 * N * E) * E ≤ (2 * N * E) * (2 * N * E) := by
     have := Nat.mul_le_mul_left (2 * (2 * N * E) * E) hn
     calc 2 * n * (2 * N * E) * E = 2 * (2 * N * E) * E * n := by grind
      _ ≤ _ := this
      _ = _ := by grind
    have t5 := Nat.mul_le_mul_right E t3
    have e5 : a * a * (r * (2 * N * E * (2 * N * E))) * E = n * ((2 * N * E) * (2 * N * E)) * E := by rw [h1]; grind
    have e6 : a * a * (t * t + 2 * (r * (2 * N * E))) * E = (a * t) * (a * t) * E + 2 * n * (2 * N * E) * E := by rw [h1]; grind
    omega
   have g2 := Rat.natCast_le_natCast.2 g
   rw [Rat.natCast_add, Rat.natCast_mul (n * _), Rat.natCast_mul n, Rat.natCast_mul (a * t * (a * t)), Rat.natCast_mul (a * t), ← h4, Rat.natCast_mul (2 * N * E)] at g2
   generalize ((2 * N * E : Nat) : Rat) = k at *
   generalize fM (2 * N * E) n = F at *
   refine VZ (Rat.mul_pos (Rat.mul_pos hk hk) hEr) ?_
   have hE0 : (E : Rat) ≠ 0 := Rat.ne_of_gt hEr
   have e : (F * F + 1 / (E : Rat)) * (k * k * (E : Rat)) = F * k * (F * k) * (E : Rat) + k * k := by
    generalize (E : Rat) = x at *
    grind
   rw [e]
   grind
def ab (d x : Rat) : Prop := -d ≤ x ∧ x ≤ d
def far (d x : Rat) : Prop := d ≤ x ∨ x ≤ -d
def sg (x : Rat) : Int := if 0 < x then 1 else if x < 0 then -1 else 0
end Go.Ar

namespace Go.Ar
open Go Go.Lib
set_option maxRecDepth 100000
theorem IB {x b : Rat} (hb : 0 ≤ b) (h : x * x ≤ b * b) : ab b x := by
 constructor
 ·refine Rat.not_lt.1 fun h1 => ?_
  have := Rat.mul_nonneg (a := -x - b) (b := b) (by grind) hb
  have := Rat.mul_pos (a := -x - b) (b := -x) (by grind) (by grind)
  grind
 ·refine Rat.not_lt.1 fun h1 => ?_
  have := Rat.mul_nonneg (a := x - b) (b := b) (by grind) hb
  have := Rat.mul_pos (a := x - b) (b := x) (by grind) (by grind)
  grind
theorem VN (x : Rat) : 0 ≤ x * x := by
 rcases Rat.le_total (a := 0) (b := x) with h | h
 ·exact Rat.mul_nonneg h h
 ·have := Rat.mul_nonneg (a := -x) (b := -x) (by grind) (by grind)
  grind
def HR (t : Tm) : Rat := t.c * t.c * t.q
def tR (f : Nat → Rat) (t : Tm) : Rat := t.c * fQ f t.q
theorem Sb {R : Nat} {t : Tm} (h : ZG R t) (f : Nat → Rat) : fQ f t.q = f (mQ t.q) := by
 conv => lhs; rw [h.mQ.1]
 rw [we]
theorem mS {R N : Nat} {ε : Rat} {f : Nat → Rat} {t : Tm} (hf : gU N ε f) (h : ZG R t) (hR : R ≤ N) : tR f t * tR f t ≤ HR t ∧ HR t ≤ tR f t * tR f t + t.c * t.c * ε := by
 obtain ⟨e, h0, h1⟩ := h.mQ
 have lo := hf.lo (mQ t.q)
 have hi := hf.hi (mQ t.q) (Nat.le_trans h1 hR)
 rw [← e] at lo hi
 unfold tR HR
 rw [Sb h]
 generalize f (mQ t.q) = F at *
 have c0 := VN t.c
 have a := Rat.mul_le_mul_of_nonneg_left lo c0
 have b := Rat.mul_le_mul_of_nonneg_left hi c0
 constructor <;> grind
end Go.Ar
