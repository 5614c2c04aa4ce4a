/- Sums of roots, nearly: roots as rationals that take squares out; how near to 0 a sum of up to three roots can be. -/
import Derived.Test.YthbpnknhfokadaaGreatDoorArZ
set_option linter.unusedSimpArgs false
set_option linter.unusedVariables false
namespace Go.Ar
open Go Go.Lib
set_option maxRecDepth 100000
theorem mJ (P : Nat → Prop) (h1 : P 1) : ∀ N, 1 ≤ N → ∃ k, P k ∧ 1 ≤ k ∧ ∀ j, j ≤ N → P j → j ≤ k
 | 0, h => absurd h (by decide)
 | 1, _ => ⟨1, h1, Nat.le_refl _, fun _ h _ => h⟩
 | N + 2, _ => by
  by_cases h : P (N + 2)
  ·exact ⟨N + 2, h, by omega, fun _ h _ => h⟩
  ·obtain ⟨k, a, c, b⟩ := mJ P h1 (N + 1) (by omega)
   refine ⟨k, a, c, fun j hj hp => b j ?_ hp⟩
   have : j ≠ N + 2 := fun e => h (e ▸ hp)
   omega
theorem M8 {n : Nat} (hn : 0 < n) : ∃ k, 1 ≤ k ∧ k * k ∣ n ∧ ∀ j, j * j ∣ n → j ≤ k := by
 obtain ⟨k, a, c, b⟩ := mJ (fun k => k * k ∣ n) (Nat.one_dvd n) n hn
 refine ⟨k, c, a, fun j hj => b j ?_ hj⟩
 have h1 := Nat.le_of_dvd hn hj
 rcases Nat.eq_zero_or_pos j with h | h
 ·omega
 ·exact Nat.le_trans (Nat.le_mul_of_pos_left _ h) h1
open Classical in
noncomputable def uO (n : Nat) : Nat := if h : 0 < n then Classical.choose (M8 h) else 0
theorem u6 {n : Nat} (h : 0 < n) : 1 ≤ uO n ∧ uO n * uO n ∣ n ∧ ∀ j, j * j ∣ n → j ≤ uO n := by
 unfold uO
 rw [dif_pos h]
 exact Classical.choose_spec (M8 h)
theorem Lx {k n : Nat} (hk : 0 < k) (hn : 0 < n) : uO (k * k * n) = k * uO n := by
 have hkn : 0 < k * k * n := Nat.mul_pos (Nat.mul_pos hk hk) hn
 obtain ⟨a1, ⟨r, hr⟩, a3⟩ := u6 hn
 obtain ⟨b1, ⟨s, hs⟩, b3⟩ := u6 hkn
 generalize uO (k * k * n) = b at *
 generalize uO n = a at *
 refine Nat.le_antisymm ?_ (b3 _ ⟨r, by rw [hr]; grind⟩)
 have hka : 0 < k * a := Nat.mul_pos hk a1
 have hg : 0 < Nat.gcd b (k * a) := Nat.gcd_pos_of_pos_right _ hka
 have hc := Nat.coprime_div_gcd_div_gcd hg
 obtain ⟨b', hb⟩ := Nat.gcd_dvd_left b (k * a)
 obtain ⟨c', hc'⟩ := Nat.gcd_dvd_right b (k * a)
 generalize Nat.gcd b (k * a) = g at *
 have e1 : b / g = b' := by rw [hb]; exact Nat.mul_div_cancel_left _ hg
 have e2 : k * a / g = c' := by rw [hc']; exact Nat.mul_div_cancel_left _ hg
 rw [e1, e2] at hc
 have h1 : (g * g) * (b' * b' * s) = (g * g) * (c' * c' * r) := by
  have : b * b * s = (k * a) * (k * a) * r := by rw [← hs, hr]; grind
  rw [hb, hc'] at this
  grind
 have h2 := Nat.eq_of_mul_eq_mul_left (Nat.mul_pos hg hg) h1
 have h3 : b' * b' ∣ r := by
  have : Nat.Coprime (b' * b') (c' * c') := Nat.Coprime.mul_left (hc.mul_right hc) (hc.mul_right hc)
  exact this.dvd_of_dvd_mul_left ⟨s, h2.symm⟩
 obtain ⟨w, hw⟩ := h3
 have h4 := a3 (a * b') ⟨w, by rw [hr, hw]; grind⟩
 have h5 : b' ≤ 1 := by
  refine Nat.le_of_not_lt fun h => ?_
  have : a * 2 ≤ a * b' := Nat.mul_le_mul_left _ h
  omega
 have h6 : g ≤ k * a := Nat.le_of_dvd hka ⟨c', hc'⟩
 calc b = g * b' := hb
  _ ≤ g * 1 := Nat.mul_le_mul_left _ h5
  _ ≤ k * a := by omega
noncomputable def fM (K n : Nat) : Rat := if n = 0 then 0 else (uO n : Rat) * ((ZJ (n / (uO n * uO n) * (K * K)) : Nat) : Rat) / (K : Rat)
theorem ig (K : Nat) : hom (fM K) := fun k n => by
 unfold fM
 by_cases hn : n = 0
 ·rw [hn, Nat.mul_zero, if_pos rfl, Rat.mul_zero]
 by_cases hk : k = 0
 ·rw [hk, Nat.mul_zero, Nat.zero_mul, if_pos rfl, show ((0 : Nat) : Rat) = 0 from rfl, Rat.zero_mul]
 have hk0 : 0 < k := Nat.pos_of_ne_zero hk
 have hn0 : 0 < n := Nat.pos_of_ne_zero hn
 have h0 : k * k * n ≠ 0 := Nat.ne_of_gt (Nat.mul_pos (Nat.mul_pos hk0 hk0) hn0)
 rw [if_neg hn, if_neg h0, Lx hk0 hn0]
 have e : k * k * n / (k * uO n * (k * uO n)) = n / (uO n * uO n) := by
  have : k * uO n * (k * uO n) = k * k * (uO n * uO n) := by grind
  rw [this]
  exact Nat.mul_div_mul_left _ _ (Nat.mul_pos hk0 hk0)
 rw [e, Rat.natCast_mul]
 generalize ((ZJ (n / (uO n * uO n) * (K * K)) : Nat) : Rat) = x
 grind
structure OC (N : Nat) (ε : Rat) (f : Nat → Rat) : Prop where
 hom : hom f
 one : f 1 = 1
 p0 : ∀ n, 0 ≤ f n
 lo : ∀ n, f n * f n ≤ (n : Rat)
 hi : ∀ n, n ≤ N → (n : Rat) ≤ f n * f n + ε
theorem xe {a b c : Rat} (hc : 0 < c) (h : a * c ≤ b * c) : a ≤ b := Rat.le_of_mul_le_mul_right h hc
theorem sQ {K n : Nat} (hK : 0 < K) (hn : 0 < n) : ∃ a r t : Nat, n = a * a * r ∧ t * t ≤ r * (K * K) ∧ r * (K * K) < (t + 1) * (t + 1) ∧ fM K n * (K : Rat) = ((a * t : Nat) : Rat) := by
 obtain ⟨a1, ⟨r, hr⟩, _⟩ := u6 hn
 have e : n / (uO n * uO n) = r := by
  conv => lhs; lhs; rw [hr]
  exact Nat.mul_div_cancel_left _ (Nat.mul_pos a1 a1)
 refine ⟨uO n, r, ZJ (r * (K * K)), hr, (yH _).1, (yH _).2, ?_⟩
 unfold fM
 rw [if_neg (by omega), e, Rat.natCast_mul]
 have hk : (K : Rat) ≠ 0 := fun e => by have := Rat.natCast_eq_zero_iff.1 e; omega
 generalize (K : Rat) = k at *
 generalize ((ZJ (r * (K * K)) : Nat) : Rat) = x
 grind
theorem Is (N E : Nat) (hN : 0 < N) (hE : 0 < E) : ∃ f, OC N (1 / (E : Rat)) f := by
 have hK : 0 < 2 * N * E := Nat.mul_pos (Nat.mul_pos (by decide) hN) hE
 have hk : (0 : Rat) < ((2 * N * E : Nat) : Rat) := Rat.natCast_pos.2 hK
 refine ⟨fM (2 * N * E), ig _, ?_, fun n => ?_, fun n => ?_, fun n hn => ?_⟩
 ·obtain ⟨a, r, t, h1, h2, h3, h4⟩ := sQ hK (n := 1) (by decide)
  have ha : a = 1 := by
   have : a * a = 1 := Nat.eq_one_of_mul_eq_one_right h1.symm
   exact Nat.eq_one_of_mul_eq_one_right this
  subst ha
  have hr : r = 1 := by omega
  subst hr
  have ht : t = 2 * N * E := by
   generalize 2 * N * E = K at *
   have g1 := xR (a := K) (b := t + 1) (by omega)
   have g3 : (K + 1) * (K + 1) = K * K + 2 * K + 1 := by grind
   have g2 := xR (a := t) (b := K + 1) (by omega)
   omega
  subst ht
  rw [Nat.one_mul] at h4
  generalize ((2 * N * E : Nat) : Rat) = k at *
  have k0 := Rat.ne_of_gt hk
  have : (fM (2 * N * E) 1 - 1) * k = 0 := by grind
  rcases Rat.mul_eq_zero.1 this with h | h
  ·grind
  ·exact absurd h k0
 ·rcases Nat.eq_zero_or_pos n with rfl | hn
  ·unfold fM; rw [if_pos rfl]; exact Rat.le_refl
  ·obtain ⟨a, r, t, h1, h2, h3, h4⟩ := sQ hK hn
   refine xe hk ?_
   rw [h4, Rat.zero_mul]
   exact Rat.natCast_nonneg
 ·rcases Nat.eq_zero_or_pos n with rfl | hn
  ·unfold fM; rw [if_pos rfl]; decide +kernel
  ·obtain ⟨a, r, t, h1, h2, h3, h4⟩ := sQ hK hn
   refine xe (Rat.mul_pos hk hk) ?_
   have e : fM (2 * N * E) n * fM (2 * N * E) n * (((2 * N * E : Nat) : Rat) * ((2 * N * E : Nat) : Rat)) = (((a * t) * (a * t) : Nat) : Rat) := by
    rw [Rat.natCast_mul (a * t), ← h4]
    grind
   rw [e, ← Rat.natCast_mul, ← Rat.natCast_mul]
   refine Rat.natCast_le_natCast.2 ?_
   generalize 2 * N * E = K at *
   rw [h1]
   have := Nat.mul_le_mul_left (a * a) h2
   calc a * t * (a * t) = a * a * (t * t) := by grind
    _ ≤ _ := this
    _ = _ := by grind
 ·have hEr : (0 : Rat) < (E : Rat) := Rat.natCast_pos.2 hE
  rcases Nat.eq_zero_or_pos n with rfl | hn0
  ·have h1 : (0 : Rat) ≤ 1 / (E : Rat) := by
    refine xe hEr ?_
    have : (E : Rat) ≠ 0 := Rat.ne_of_gt hEr
    generalize (E : Rat) = x at *
    grind
   unfold fM; rw [if_pos rfl, Rat.zero_mul]
   grind
  ·obtain ⟨a, r, t, h1, h2, h3, h4⟩ := sQ hK hn0
   -- n K K ≤ (a t)^2 + 2 n K, and 2 n K E ≤ K K
   have g : n * ((2 * N * E) * (2 * N * E)) * E ≤ (a * t) * (a * t) * E + (2 * N * E) * (2 * N * E) := by
    have t1 : t ≤ r * (2 * N * E) := by
     rcases Nat.eq_zero_or_pos r with h | h
     ·rw [h] at h2
      have : t * t = 0 := by omega
      rcases Nat.mul_eq_zero.1 this with h | h <;> omega
     ·have := xR (a := t) (b := r * (2 * N * E) + 1) (by
       have e : (r * (2 * N * E) + 1) * (r * (2 * N * E) + 1) = r * r * ((2 * N * E) * (2 * N * E)) + 2 * (r * (2 * N * E)) + 1 := by grind
       have e2 : r * ((2 * N * E) * (2 * N * E)) ≤ r * r * ((2 * N * E) * (2 * N * E)) := Nat.mul_le_mul_right _ (Nat.le_mul_of_pos_left _ h)
       omega)
      omega
    have t2 : r * ((2 * N * E) * (2 * N * E)) ≤ t * t + 2 * (r * (2 * N * E)) := by
     have e : (t + 1) * (t + 1) = t * t + 2 * t + 1 := by grind
     omega
    have t3 := Nat.mul_le_mul_left (a * a) t2
    have t4 : 2 * n * (2 * N * E) * E ≤ (2 * N * E) * (2 * N * E) := by
     have := Nat.mul_le_mul_left (2 * (2 * N * E) * E) hn
     calc 2 * n * (2 * N * E) * E = 2 * (2 * N * E) * E * n := by grind
      _ ≤ _ := this
      _ = _ := by grind
    have t5 := Nat.mul_le_mul_right E t3
    have e5 : a * a * (r * (2 * N * E * (2 * N * E))) * E = n * ((2 * N * E) * (2 * N * E)) * E := by rw [h1]; grind
    have e6 : a * a * (t * t + 2 * (r * (2 * N * E))) * E = (a * t) * (a * t) * E + 2 * n * (2 * N * E) * E := by rw [h1]; grind
    omega
   have g2 := Rat.natCast_le_natCast.2 g
   rw [Rat.natCast_add, Rat.natCast_mul (n * _), Rat.natCast_mul n, Rat.natCast_mul (a * t * (a * t)), Rat.natCast_mul (a * t), ← h4, Rat.natCast_mul (2 * N * E)] at g2
   generalize ((2 * N * E : Nat) : Rat) = k at *
   generalize fM (2 * N * E) n = F at *
   refine xe (Rat.mul_pos (Rat.mul_pos hk hk) hEr) ?_
   have hE0 : (E : Rat) ≠ 0 := Rat.ne_of_gt hEr
   have e : (F * F + 1 / (E : Rat)) * (k * k * (E : Rat)) = F * k * (F * k) * (E : Rat) + k * k := by
    generalize (E : Rat) = x at *
    grind
   rw [e]
   grind
def ab (d x : Rat) : Prop := -d ≤ x ∧ x ≤ d
theorem YT {d e x y : Rat} (hx : ab d x) (hy : ab e y) : ab (d * e) (x * y) := by
 obtain ⟨x1, x2⟩ := hx
 obtain ⟨y1, y2⟩ := hy
 have h1 := Rat.mul_nonneg (a := d + x) (b := e + y) (by grind) (by grind)
 have h2 := Rat.mul_nonneg (a := d - x) (b := e - y) (by grind) (by grind)
 have h3 := Rat.mul_nonneg (a := d + x) (b := e - y) (by grind) (by grind)
 have h4 := Rat.mul_nonneg (a := d - x) (b := e + y) (by grind) (by grind)
 constructor <;> grind
theorem XM {d e x y : Rat} (hx : ab d x) (hy : ab e y) : ab (d + e) (x + y) := by
 obtain ⟨x1, x2⟩ := hx
 obtain ⟨y1, y2⟩ := hy
 constructor <;> grind
theorem Vt {d e x : Rat} (hx : ab d x) (h : d ≤ e) : ab e x := by
 obtain ⟨x1, x2⟩ := hx
 constructor <;> grind
theorem rt {d e x y : Rat} (hx : ab d x) (hy : ab e y) : ab (d + e) (x - y) := by
 obtain ⟨x1, x2⟩ := hx
 obtain ⟨y1, y2⟩ := hy
 constructor <;> grind
def far (d x : Rat) : Prop := d ≤ x ∨ x ≤ -d
def sg (x : Rat) : Int := if 0 < x then 1 else if x < 0 then -1 else 0
theorem ja {x y z d e : Rat} (hd : 0 < d) (hx : far d x) (hy : far d y) (he : e < d * d) (hz : ab e (z - x * y)) : sg z = sg x * sg y ∧ far (d * d - e) z := by
 obtain ⟨z1, z2⟩ := hz
 have hdd := Rat.mul_pos hd hd
 rcases hx with hx | hx <;> rcases hy with hy | hy
 ·have h := Rat.mul_nonneg (a := x - d) (b := y - d) (by grind) (by grind)
  have h2 := Rat.mul_nonneg (a := x - d) (b := d) (by grind) (by grind)
  have h3 := Rat.mul_nonneg (a := d) (b := y - d) (by grind) (by grind)
  refine ⟨?_, .inl (by grind)⟩
  unfold sg
  rw [if_pos (show 0 < z by grind), if_pos (show 0 < x by grind), if_pos (show 0 < y by grind)]
  rfl
 ·have h := Rat.mul_nonneg (a := x - d) (b := -y - d) (by grind) (by grind)
  have h2 := Rat.mul_nonneg (a := x - d) (b := d) (by grind) (by grind)
  have h3 := Rat.mul_nonneg (a := d) (b := -y - d) (by grind) (by grind)
  refine ⟨?_, .inr (by grind)⟩
  unfold sg
  rw [if_neg (show ¬0 < z by grind), if_pos (show z < 0 by grind), if_pos (show 0 < x by grind), if_neg (show ¬0 < y by grind), if_pos (show y < 0 by grind)]
  rfl
 ·have h := Rat.mul_nonneg (a := -x - d) (b := y - d) (by grind) (by grind)
  have h2 := Rat.mul_nonneg (a := -x - d) (b := d) (by grind) (by grind)
  have h3 := Rat.mul_nonneg (a := d) (b := y - d) (by grind) (by grind)
  refine ⟨?_, .inr (by grind)⟩
  unfold sg
  rw [if_neg (show ¬0 < z by grind), if_pos (show z < 0 by grind), if_neg (show ¬0 < x by grind), if_pos (show x < 0 by grind), if_pos (show 0 < y by grind)]
  rfl
 ·have h := Rat.mul_nonneg (a := -x - d) (b := -y - d) (by grind) (by grind)
  have h2 := Rat.mul_nonneg (a := -x - d) (b := d) (by grind) (by grind)
  have h3 := Rat.mul_nonneg (a := d) (b := -y - d) (by grind) (by grind)
  refine ⟨?_, .inl (by grind)⟩
  unfold sg
  rw [if_pos (show 0 < z by grind), if_neg (show ¬0 < x by grind), if_pos (show x < 0 by grind), if_neg (show ¬0 < y by grind), if_pos (show y < 0 by grind)]
  rfl
def jY (P Q R : Rat) : Rat := P * P + Q * Q + R * R - 2 * (P * Q) - 2 * (P * R) - 2 * (Q * R)
theorem NO {X Y Z P Q R B δ : Rat} (hX : ab δ (X - P)) (hY : ab δ (Y - Q)) (hZ : ab δ (Z - R)) (bX : ab B X) (bY : ab B Y) (bZ : ab B Z) (bP : ab B P) (bQ : ab B Q) (bR : ab B R) : ab (18 * (δ * B)) (jY X Y Z - jY P Q R) := by
 have a1 := YT hX (XM bX bP)
 have a2 := YT hY (XM bY bQ)
 have a3 := YT hZ (XM bZ bR)
 have a4 := XM (YT hX bY) (YT hY bP)
 have a5 := XM (YT hX bZ) (YT hZ bP)
 have a6 := XM (YT hY bZ) (YT hZ bQ)
 unfold ab jY at *
 constructor <;> grind
theorem Qa {x y z P Q R B b δ g w : Rat} (hX : ab δ (x * x - P)) (hY : ab δ (y * y - Q)) (hZ : ab δ (z * z - R)) (bx : ab b x) (by_ : ab b y) (bz : ab b z) (bP : ab B P) (bQ : ab B Q) (bR : ab B R) (hb : b * b ≤ B) (hg : far g (jY P Q R)) (hw : w * (27 * (b * b * b)) + 18 * (δ * B) < g) : far w (x + y + z) := by
 have hn := NO hX hY hZ (Vt (YT bx bx) hb) (Vt (YT by_ by_) hb) (Vt (YT bz bz) hb) bP bQ bR
 have hk := YT (rt (XM bx by_) bz) (YT (XM (rt bx by_) bz) (rt (rt bx by_) bz))
 have e : (x + y + z) * ((x + y - z) * ((x - y + z) * (x - y - z))) = jY (x * x) (y * y) (z * z) := by unfold jY; grind
 have ek : (b + b + b) * ((b + b + b) * (b + b + b)) = 27 * (b * b * b) := by grind
 rw [ek] at hk
 generalize (x + y - z) * ((x - y + z) * (x - y - z)) = k at *
 generalize 27 * (b * b * b) = K at *
 generalize x + y + z = v at *
 rcases Classical.em (far w v) with h | h
 ·exact h
 ·exfalso
  have hv : ab w v := by
   unfold far at h
   constructor <;> grind
  have h2 := YT hv hk
  rw [e] at h2
  obtain ⟨n1, n2⟩ := hn
  obtain ⟨m1, m2⟩ := h2
  rcases hg with hg | hg <;> grind
end Go.Ar

namespace Go.Ar
open Go Go.Lib
set_option maxRecDepth 100000
theorem pf {x b : Rat} (hb : 0 ≤ b) (h : x * x ≤ b * b) : ab b x := by
 constructor
 ·refine Rat.not_lt.1 fun h1 => ?_
  have := Rat.mul_nonneg (a := -x - b) (b := b) (by grind) hb
  have := Rat.mul_pos (a := -x - b) (b := -x) (by grind) (by grind)
  grind
 ·refine Rat.not_lt.1 fun h1 => ?_
  have := Rat.mul_nonneg (a := x - b) (b := b) (by grind) hb
  have := Rat.mul_pos (a := x - b) (b := x) (by grind) (by grind)
  grind
theorem xZ (x : Rat) : 0 ≤ x * x := by
 rcases Rat.le_total (a := 0) (b := x) with h | h
 ·exact Rat.mul_nonneg h h
 ·have := Rat.mul_nonneg (a := -x) (b := -x) (by grind) (by grind)
  grind
def PO (t : Tm) : Rat := t.c * t.c * t.q
def Vx (f : Nat → Rat) (t : Tm) : Rat := t.c * fQ f t.q
theorem vJ {R : Nat} {t : Tm} (h : Zw R t) (f : Nat → Rat) : fQ f t.q = f (mQ t.q) := by
 conv => lhs; rw [h.mQ.1]
 rw [XK]
theorem MI {R : Nat} {t : Tm} (h : Zw R t) : 1 ≤ t.q := by
 obtain ⟨e, h0, _⟩ := h.mQ
 rw [e]
 exact Rat.natCast_le_natCast.2 (show 1 ≤ mQ t.q from h0)
theorem NN {R N : Nat} {ε : Rat} {f : Nat → Rat} {t : Tm} (hf : OC N ε f) (h : Zw R t) (hR : R ≤ N) : Vx f t * Vx f t ≤ PO t ∧ PO t ≤ Vx f t * Vx f t + t.c * t.c * ε := by
 obtain ⟨e, h0, h1⟩ := h.mQ
 have lo := hf.lo (mQ t.q)
 have hi := hf.hi (mQ t.q) (Nat.le_trans h1 hR)
 rw [← e] at lo hi
 unfold Vx PO
 rw [vJ h]
 generalize f (mQ t.q) = F at *
 have c0 := xZ t.c
 have a := Rat.mul_le_mul_of_nonneg_left lo c0
 have b := Rat.mul_le_mul_of_nonneg_left hi c0
 constructor <;> grind
theorem GT {R : Nat} {t : Tm} (h : Zw R t) : t.c * t.c ≤ PO t := by
 have := Rat.mul_le_mul_of_nonneg_left (MI h) (xZ t.c)
 unfold PO
 grind
abbrev PB : Rat := 37601280
theorem X1 {R N : Nat} {ε : Rat} {f : Nat → Rat} {t : Tm} (hf : OC N ε f) (h0 : 0 ≤ ε) (h : Zw R t) (hR : R ≤ N) (hb : PO t ≤ PB) : ab (PB * ε) (Vx f t * Vx f t - PO t) ∧ ab 6144 (Vx f t) ∧ ab PB (PO t) ∧ ab 6144 t.c := by
 obtain ⟨a, b⟩ := NN hf h hR
 have c := GT h
 have c0 := xZ t.c
 have d := Rat.mul_le_mul_of_nonneg_right (Rat.le_trans c hb) h0
 have pb : PB ≤ 6144 * 6144 := by decide +kernel
 refine ⟨⟨by grind, by have := Rat.mul_nonneg c0 h0; grind⟩, pf (by decide +kernel) (by grind), ⟨by grind, hb⟩, pf (by decide +kernel) (by grind)⟩
theorem SY {x : Rat} {m M : Nat} {z : Int} (h : x * (m : Rat) = (z : Rat)) (hz : z ≠ 0) (h0 : 0 < m) (hm : m ≤ M) : far (1 / (M : Rat)) x := by
 have m0 : (0 : Rat) < (m : Rat) := Rat.natCast_pos.2 h0
 have M0 : (0 : Rat) < (M : Rat) := Rat.natCast_pos.2 (Nat.lt_of_lt_of_le h0 hm)
 have mM : (m : Rat) ≤ (M : Rat) := Rat.natCast_le_natCast.2 hm
 have e : 1 / (M : Rat) * (M : Rat) = 1 := by
  have := Rat.ne_of_gt M0
  generalize (M : Rat) = a at *
  grind
 rcases Int.lt_or_lt_of_ne hz with hn | hp
 ·refine .inr (xe M0 ?_)
  have h1 : (z : Rat) ≤ -1 := Rat.intCast_le_intCast.2 (show z ≤ -1 by omega)
  have hx : x ≤ 0 := by
   refine xe m0 ?_
   grind
  have := Rat.mul_le_mul_of_nonneg_left mM (show 0 ≤ -x by grind)
  grind
 ·refine .inl (xe M0 ?_)
  have h1 : 1 ≤ (z : Rat) := Rat.intCast_le_intCast.2 (show 1 ≤ z by omega)
  have hx : 0 ≤ x := by
   refine xe m0 ?_
   grind
  have := Rat.mul_le_mul_of_nonneg_left mM hx
  grind
def IR (p q r : Int) : Int := p * p + q * q + r * r - 2 * (p * q) - 2 * (p * r) - 2 * (q * r)
theorem nG {m n : Int} {a b : Nat} {r : Int} (hm : m ≠ 0) (hn : n ≠ 0) (h : ∀ k : Nat, a * b ≠ k * k) : IR (m * m * a) (n * n * b) r ≠ 0 := by
 intro e
 have h1 : (m * m * a + n * n * b - r) * (m * m * a + n * n * b - r) = (2 * (m * n)) * (2 * (m * n)) * ((a * b : Nat) : Int) := by
  unfold IR at e
  rw [Int.natCast_mul]
  grind
 have h2 := congrArg Int.natAbs h1
 rw [Int.natAbs_mul, Int.natAbs_mul, Int.natAbs_mul, Int.natAbs_natCast] at h2
 have h3 : 0 < (2 * (m * n)).natAbs := by
  have : m * n ≠ 0 := Int.mul_ne_zero hm hn
  omega
 obtain ⟨j, hj, _⟩ := Wq h3 h2.symm
 exact h j hj
theorem SQ {P Q R : Rat} {p q r : Int} {L : Nat} (hP : P * ((L * L : Nat) : Rat) = (p : Rat)) (hQ : Q * ((L * L : Nat) : Rat) = (q : Rat)) (hR : R * ((L * L : Nat) : Rat) = (r : Rat)) : jY P Q R * ((L * L * (L * L) : Nat) : Rat) = ((IR p q r : Int) : Rat) := by
 unfold jY IR
 rw [Rat.natCast_mul (L * L)]
 simp only [Rat.intCast_sub, Rat.intCast_add, Rat.intCast_mul]
 rw [← hP, ← hQ, ← hR]
 have : ((2 : Int) : Rat) = 2 := rfl
 rw [this]
 grind
theorem wZ {R L : Nat} {t : Tm} (h : Zw R t) {z : Int} (hz : t.c * (L : Rat) = (z : Rat)) : PO t * ((L * L : Nat) : Rat) = ((z * z * (mQ t.q : Nat) : Int) : Rat) := by
 have e := h.mQ.1
 rw [Rat.intCast_mul, Rat.intCast_mul, Rat.intCast_natCast, ← e, ← hz, Rat.natCast_mul]
 unfold PO
 grind
abbrev WF : Nat := 60000000000000000000000000000
theorem gj {L : Nat} {ε : Rat} {f : Nat → Rat} {s : List Tm} (hL : 0 < L) (hL2 : L ≤ 8000) (hf : OC 65025 ε f) (hε : 0 ≤ ε) (hε2 : ε ≤ 1 / ((10 ^ 100 : Nat) : Rat)) (hg : gS 255 s) (hl : s.length ≤ 3) (hne : s ≠ []) (hm : ∀ t ∈ s, ∃ z : Int, t.c * (L : Rat) = (z : Rat)) (hb : ∀ t ∈ s, PO t ≤ PB) : far (1 / (WF : Rat)) (ev f s) := by
 have hR : 255 ≤ 65025 := by decide +kernel
 have hLL : 0 < L * L * (L * L) := Nat.mul_pos (Nat.mul_pos hL hL) (Nat.mul_pos hL hL)
 have hL3 : L * L * (L * L) ≤ 8000 * 8000 * (8000 * 8000) := Nat.mul_le_mul (Nat.mul_le_mul hL2 hL2) (Nat.mul_le_mul hL2 hL2)
 have hw : 1 / (WF : Rat) * (27 * (6144 * 6144 * 6144)) + 18 * (PB * ε * PB) < 1 / ((8000 * 8000 * (8000 * 8000) : Nat) : Rat) := by
  have h1 : 1 / (WF : Rat) * (27 * (6144 * 6144 * 6144)) + 18 * (PB * PB) * (1 / ((10 ^ 100 : Nat) : Rat)) < 1 / ((8000 * 8000 * (8000 * 8000) : Nat) : Rat) := by decide +kernel
  have h2 := Rat.mul_le_mul_of_nonneg_left hε2 (show (0 : Rat) ≤ 18 * (PB * PB) by decide +kernel)
  grind
 have bB : (6144 : Rat) * 6144 ≤ 6144 * 6144 := Rat.le_refl
 have z1 : ab (PB * ε) ((0 : Rat) * 0 - 0) := by
  have := Rat.mul_nonneg (a := PB) (b := ε) (by decide +kernel) hε
  constructor <;> grind
 have z2 : ab 6144 (0 : Rat) := ⟨by decide +kernel, by decide +kernel⟩
 have z3 : ab (6144 * 6144) (0 : Rat) := ⟨by decide +kernel, by decide +kernel⟩
 have z4 : (0 : Rat) * ((L * L : Nat) : Rat) = ((0 : Int) : Rat) := by rw [Rat.zero_mul]; rfl
 have up : ∀ {x : Rat}, ab PB x → ab (6144 * 6144) x := fun h => Vt h (by decide +kernel)
 have hw' : 1 / (WF : Rat) * (27 * (6144 * 6144 * 6144)) + 18 * (PB * ε * (6144 * 6144)) < 1 / ((8000 * 8000 * (8000 * 8000) : Nat) : Rat) := by
  have h1 : 1 / (WF : Rat) * (27 * (6144 * 6144 * 6144)) + 18 * (PB * (6144 * 6144)) * (1 / ((10 ^ 100 : Nat) : Rat)) < 1 / ((8000 * 8000 * (8000 * 8000) : Nat) : Rat) := by decide +kernel
  have h2 := Rat.mul_le_mul_of_nonneg_left hε2 (show (0 : Rat) ≤ 18 * (PB * (6144 * 6144)) by decide +kernel)
  grind
 match s, hl, hne with
 | [a], _, _ =>
  have ha := hg.nat a List.mem_cons_self
  obtain ⟨m, hm1⟩ := hm a List.mem_cons_self
  obtain ⟨a1, a2, a3, _⟩ := X1 hf hε ha hR (hb a List.mem_cons_self)
  have m0 : m ≠ 0 := fun e => by
   rw [e] at hm1
   rcases Rat.mul_eq_zero.1 (show a.c * (L : Rat) = 0 from hm1) with h | h
   ·exact hg.ne a List.mem_cons_self h
   ·have := Rat.natCast_eq_zero_iff.1 h; omega
  have n0 : IR (m * m * (mQ a.q : Nat)) 0 0 ≠ 0 := by
   have h1 : m * m * (mQ a.q : Nat) ≠ 0 := Int.mul_ne_zero (Int.mul_ne_zero m0 m0) (by have := ha.mQ.2.1; omega)
   have h2 := Int.mul_ne_zero h1 h1
   unfold IR
   grind
  have hg := SY (SQ (wZ ha hm1) z4 z4) n0 hLL hL3
  have := Qa a1 z1 z1 a2 z2 z2 (up a3) z3 z3 bB hg hw'
  have e : ev f [a] = Vx f a + 0 + 0 := by
   show a.c * fQ f a.q + 0 = _
   unfold Vx; grind
  rw [e]
  exact this
 | [a, b], _, _ =>
  have ha := hg.nat a (by simp)
  have hb' := hg.nat b (by simp)
  obtain ⟨m, hm1⟩ := hm a (by simp)
  obtain ⟨n, hm2⟩ := hm b (by simp)
  obtain ⟨a1, a2, a3, _⟩ := X1 hf hε ha hR (hb a (by simp))
  obtain ⟨b1, b2, b3, _⟩ := X1 hf hε hb' hR (hb b (by simp))
  have nz : ∀ {t : Tm} {z : Int}, t.c ≠ 0 → t.c * (L : Rat) = (z : Rat) → z ≠ 0 := fun h0 h e => by
   rw [e] at h
   rcases Rat.mul_eq_zero.1 (show _ = (0 : Rat) from h) with h | h
   ·exact h0 h
   ·have := Rat.natCast_eq_zero_iff.1 h; omega
  have n0 := nG (r := 0) (nz (hg.ne a (by simp)) hm1) (nz (hg.ne b (by simp)) hm2) ((List.pairwise_cons.1 hg.unr).1 b (by simp))
  have hg := SY (SQ (wZ ha hm1) (wZ hb' hm2) z4) n0 hLL hL3
  have := Qa a1 b1 z1 a2 b2 z2 (up a3) (up b3) z3 bB hg hw'
  have e : ev f [a, b] = Vx f a + Vx f b + 0 := by
   show a.c * fQ f a.q + (b.c * fQ f b.q + 0) = _
   unfold Vx; grind
  rw [e]
  exact this
 | [a, b, c], _, _ =>
  have ha := hg.nat a (by simp)
  have hb' := hg.nat b (by simp)
  have hc' := hg.nat c (by simp)
  obtain ⟨m, hm1⟩ := hm a (by simp)
  obtain ⟨n, hm2⟩ := hm b (by simp)
  obtain ⟨k, hm3⟩ := hm c (by simp)
  obtain ⟨a1, a2, a3, _⟩ := X1 hf hε ha hR (hb a (by simp))
  obtain ⟨b1, b2, b3, _⟩ := X1 hf hε hb' hR (hb b (by simp))
  obtain ⟨c1, c2, c3, _⟩ := X1 hf hε hc' hR (hb c (by simp))
  have nz : ∀ {t : Tm} {z : Int}, t.c ≠ 0 → t.c * (L : Rat) = (z : Rat) → z ≠ 0 := fun h0 h e => by
   rw [e] at h
   rcases Rat.mul_eq_zero.1 (show _ = (0 : Rat) from h) with h | h
   ·exact h0 h
   ·have := Rat.natCast_eq_zero_iff.1 h; omega
  have n0 := nG (r := k * k * (mQ c.q : Nat)) (nz (hg.ne a (by simp)) hm1) (nz (hg.ne b (by simp)) hm2) ((List.pairwise_cons.1 hg.unr).1 b (by simp))
  have hg := SY (SQ (wZ ha hm1) (wZ hb' hm2) (wZ hc' hm3)) n0 hLL hL3
  have := Qa a1 b1 c1 a2 b2 c2 (up a3) (up b3) (up c3) bB hg hw'
  have e : ev f [a, b, c] = Vx f a + Vx f b + Vx f c := by
   show a.c * fQ f a.q + (b.c * fQ f b.q + (c.c * fQ f c.q + 0)) = _
   unfold Vx; grind
  rw [e]
  exact this
theorem P5 {ε : Rat} {f : Nat → Rat} (hf : OC 65025 ε f) (h0 : 0 ≤ ε) (h1 : ε ≤ 1 / 4) {n m : Nat} (hn : n ≤ 255) (hm : m ≤ 255) : ab (1024 * ε) (f (n * m) - f n * f m) := by
 have f0 := rC hf.hom
 have triv : ab (1024 * ε) (0 : Rat) := by constructor <;> grind
 rcases Nat.eq_zero_or_pos n with rfl | hn0
 ·rw [Nat.zero_mul, f0, Rat.zero_mul, Rat.sub_self]; exact triv
 rcases Nat.eq_zero_or_pos m with rfl | hm0
 ·rw [Nat.mul_zero, f0, Rat.mul_zero, Rat.sub_self]; exact triv
 have hnm : n * m ≤ 65025 := Nat.mul_le_mul hn hm
 have n1 := hf.lo n
 have n2 := hf.hi n (by omega)
 have m1 := hf.lo m
 have m2 := hf.hi m (by omega)
 have v1 := hf.lo (n * m)
 have v2 := hf.hi (n * m) hnm
 have p1 := hf.p0 n
 have p2 := hf.p0 m
 have p3 := hf.p0 (n * m)
 have c1 : (n : Rat) ≤ 255 := Rat.natCast_le_natCast.2 hn
 have c2 : (m : Rat) ≤ 255 := Rat.natCast_le_natCast.2 hm
 have c3 : (1 : Rat) ≤ n := Rat.natCast_le_natCast.2 hn0
 have c4 : (1 : Rat) ≤ m := Rat.natCast_le_natCast.2 hm0
 rw [Rat.natCast_mul] at v1 v2
 generalize f (n * m) = v at *
 generalize f n = x at *
 generalize f m = y at *
 generalize (n : Rat) = N at *
 generalize (m : Rat) = M at *
 have x0 := xZ x
 have y0 := xZ y
 have hu : 0 ≤ x * y := Rat.mul_nonneg p1 p2
 have uu : (x * y) * (x * y) ≤ N * M := by
  have a := Rat.mul_le_mul_of_nonneg_left m1 x0
  have b := Rat.mul_le_mul_of_nonneg_right n1 (show (0 : Rat) ≤ M by grind)
  grind
 have ul : N * M - 510 * ε ≤ (x * y) * (x * y) := by
  have a := Rat.mul_le_mul_of_nonneg_left m2 (show 0 ≤ N by grind)
  have b := Rat.mul_le_mul_of_nonneg_right n2 y0
  have c := Rat.mul_le_mul_of_nonneg_right c1 h0
  have d := Rat.mul_le_mul_of_nonneg_right (Rat.le_trans m1 c2) h0
  grind
 have nm1 : 1 ≤ N * M := by
  have := Rat.mul_nonneg (a := N - 1) (b := M - 1) (by grind) (by grind)
  grind
 have vh : 1 / 2 ≤ v := by
  refine Rat.not_lt.1 fun h => ?_
  have a := Rat.mul_nonneg (a := 1 / 2 - v) (b := v) (by grind) p3
  grind
 have e : (v - x * y) * (v + x * y) = v * v - (x * y) * (x * y) := by grind
 generalize x * y = u at *
 constructor
 ·refine Rat.not_lt.1 fun h => ?_
  have a := Rat.mul_nonneg (a := u - v) (b := v + u - 1 / 2) (by grind) (by grind)
  grind
 ·refine Rat.not_lt.1 fun h => ?_
  have a := Rat.mul_nonneg (a := v - u) (b := v + u - 1 / 2) (by grind) (by grind)
  grind
theorem pF {ε C : Rat} {f : Nat → Rat} (hf : OC 65025 ε f) (h0 : 0 ≤ ε) (h1 : ε ≤ 1 / 4) {m : Nat} (hm : m ≤ 255) : ∀ {t : List Tm}, (∀ x ∈ t, Zw 255 x) → (∀ x ∈ t, ab C x.c) → ab ((t.length : Rat) * (C * (1024 * ε))) (ev (fun n => f (m * n)) t - f m * ev f t)
 | [], _, _ => by
  rw [yz, yz, Rat.mul_zero, Rat.sub_self, show (([] : List Tm).length : Rat) = 0 from rfl, Rat.zero_mul]
  constructor <;> decide +kernel
 | x :: t, hn, hc => by
  have ih := pF hf h0 h1 hm (t := t) (fun y hy => hn y (List.mem_cons_of_mem _ hy)) fun y hy => hc y (List.mem_cons_of_mem _ hy)
  have hx := hn x List.mem_cons_self
  have h2 := YT (hc x List.mem_cons_self) (P5 hf h0 h1 hm hx.mQ.2.2)
  have h3 := XM h2 ih
  rw [Zk, Zk, vJ hx, vJ hx, List.length_cons, Rat.natCast_add]
  show ab (((t.length : Rat) + 1) * _) _
  have e1 : ((t.length : Rat) + 1) * (C * (1024 * ε)) = C * (1024 * ε) + (t.length : Rat) * (C * (1024 * ε)) := by grind
  have e2 : x.c * f (m * mQ x.q) + ev (fun n => f (m * n)) t - f m * (x.c * f (mQ x.q) + ev f t) = x.c * (f (m * mQ x.q) - f m * f (mQ x.q)) + (ev (fun n => f (m * n)) t - f m * ev f t) := by grind
  rw [e1, e2]
  exact h3
theorem Ph {ε C : Rat} {f : Nat → Rat} (hf : OC 65025 ε f) (h0 : 0 ≤ ε) (h1 : ε ≤ 1 / 4) {t : List Tm} (ht : ∀ x ∈ t, Zw 255 x) (hc : ∀ x ∈ t, ab C x.c) : ∀ {s : List Tm}, (∀ x ∈ s, Zw 255 x) → (∀ x ∈ s, ab C x.c) → ab ((s.length : Rat) * (C * ((t.length : Rat) * (C * (1024 * ε))))) (bi f s t - ev f s * ev f t)
 | [], _, _ => by
  rw [G0, yz, Rat.zero_mul, Rat.sub_self, show (([] : List Tm).length : Rat) = 0 from rfl, Rat.zero_mul]
  constructor <;> decide +kernel
 | x :: s, hn, hs => by
  have ih := Ph hf h0 h1 ht hc (s := s) (fun y hy => hn y (List.mem_cons_of_mem _ hy)) fun y hy => hs y (List.mem_cons_of_mem _ hy)
  have hx := hn x List.mem_cons_self
  have h2 := YT (hs x List.mem_cons_self) (pF hf h0 h1 hx.mQ.2.2 ht hc)
  have h3 := XM h2 ih
  rw [Gb, Zk, vJ hx, List.length_cons, Rat.natCast_add]
  show ab (((s.length : Rat) + 1) * _) _
  generalize C * ((t.length : Rat) * (C * (1024 * ε))) = K at *
  have e1 : ((s.length : Rat) + 1) * K = K + (s.length : Rat) * K := by grind
  rw [e1]
  have e2 : x.c * ev (fun n => f (mQ x.q * n)) t + bi f s t - (x.c * f (mQ x.q) + ev f s) * ev f t = x.c * (ev (fun n => f (mQ x.q * n)) t - f (mQ x.q) * ev f t) + (bi f s t - ev f s * ev f t) := by grind
  rw [e2]
  exact h3
end Go.Ar
