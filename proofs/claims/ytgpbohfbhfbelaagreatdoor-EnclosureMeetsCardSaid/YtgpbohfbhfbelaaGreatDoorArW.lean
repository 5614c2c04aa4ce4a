/- Integer roots by Newton's way, and the normal form of a root over small primes. -/
import Derived.Test.YtgpbohfbhfbelaaGreatDoorArA
set_option linter.unusedSimpArgs false
set_option linter.unusedVariables false
namespace Go.Ar
set_option maxRecDepth 100000
def Xa : Nat → Nat → Nat
 | 0, _ => 0
 | k + 1, n => if (2 * Xa k (n / 4) + 1) * (2 * Xa k (n / 4) + 1) ≤ n then 2 * Xa k (n / 4) + 1 else 2 * Xa k (n / 4)
def u6 (n : Nat) : Nat := Xa 32 n
theorem Wd : ∀ (k n : Nat), n < 4 ^ k → Xa k n * Xa k n ≤ n ∧ n < (Xa k n + 1) * (Xa k n + 1)
 | 0, n, h => by
  have : n = 0 := by simpa using h
  subst this; decide
 | k + 1, n, h => by
  have h4 : n / 4 < 4 ^ k := by rw [Nat.pow_succ] at h; omega
  obtain ⟨h1, h2⟩ := Wd k (n / 4) h4
  unfold Xa
  generalize Xa k (n / 4) = s at *
  have e1 : 2 * s * (2 * s) = 4 * (s * s) := by grind
  have e2 : (2 * s + 1 + 1) * (2 * s + 1 + 1) = 4 * ((s + 1) * (s + 1)) := by grind
  split
  ·exact ⟨‹_›, by omega⟩
  ·exact ⟨by omega, by omega⟩
theorem Nb {n : Nat} (h : n < 18446744073709551616) : u6 n * u6 n ≤ n ∧ n < (u6 n + 1) * (u6 n + 1) := Wd 32 n h
theorem QQ {a b : Nat} (h : a * a < b * b) : a < b := Nat.lt_of_not_le fun hb => by have := Nat.mul_le_mul hb hb; omega
theorem HS {n r : Nat} (h : n < 18446744073709551616) (h1 : r * r ≤ n) (h2 : n < (r + 1) * (r + 1)) : r = u6 n := by
 obtain ⟨s1, s2⟩ := Nb h
 have a := QQ (a := r) (b := u6 n + 1) (by omega)
 have b := QQ (a := u6 n) (b := r + 1) (by omega)
 omega
theorem mU {k : Nat} (h : k * k < 18446744073709551616) : u6 (k * k) = k := (HS h (Nat.le_refl _) (by grind)).symm
theorem ku {n r s : Nat} (hr : 0 < r) (hs : s * s ≤ n) : s ≤ (r + n / r) / 2 := by
 have key : 2 * s - r ≤ n / r := by
  rw [Nat.le_div_iff_mul_le hr]
  refine Nat.le_trans ?_ hs
  rcases Nat.le_total r s with h | h
  ·obtain ⟨d, rfl⟩ := Nat.exists_eq_add_of_le h
   rw [show 2 * (r + d) - r = r + 2 * d by omega]
   grind
  ·rcases Nat.le_total r (2 * s) with h' | h'
   ·obtain ⟨d, rfl⟩ := Nat.exists_eq_add_of_le h
    obtain ⟨e, rfl⟩ : ∃ e, s = d + e := ⟨s - d, by omega⟩
    rw [show 2 * (d + e) - (d + e + d) = e by omega]
    grind
   ·rw [show 2 * s - r = 0 by omega, Nat.zero_mul]; exact Nat.zero_le _
 omega
theorem NT {n r : Nat} (hr : 0 < r) (h : r ≤ (r + n / r) / 2) : r * r ≤ n := by
 have : r ≤ n / r := by omega
 exact (Nat.le_div_iff_mul_le hr).1 this
def wk (p : Nat) : Nat → Nat → Nat → Nat × Nat
 | 0, c, l => (c, l)
 | k + 1, c, l => if l % (p * p) = 0 then wk p k (c * p) (l / (p * p)) else (c, l)
theorem uG {p l : Nat} (hp : 2 ≤ p) (hl : 0 < l) : l / (p * p) < l := Nat.div_lt_self hl (by have := Nat.mul_le_mul hp hp; omega)
theorem Uc {p : Nat} (hp : 2 ≤ p) : ∀ (k j c l : Nat), 0 < l → l ≤ k → l ≤ j → wk p k c l = wk p j c l
 | 0, _, _, _, h, hk, _ => by omega
 | _ + 1, 0, _, _, h, _, hj => by omega
 | k + 1, j + 1, c, l, h, hk, hj => by
  unfold wk
  split
  ·rename_i hm
   have h1 := uG hp h
   have hpp : 0 < p * p := Nat.mul_pos (by omega) (by omega)
   have h2 : 0 < l / (p * p) := Nat.div_pos (Nat.le_of_dvd h (Nat.dvd_of_mod_eq_zero hm)) hpp
   exact Uc hp k j _ _ h2 (by omega) (by omega)
  ·rfl
def strip (p : Nat) (s : Nat × Nat) : Nat × Nat := wk p s.2 s.1 s.2
theorem LR {p c l : Nat} (hp : 2 ≤ p) (hl : 0 < l) (h : l % (p * p) = 0) : strip p (c, l) = strip p (c * p, l / (p * p)) := by
 have hpp : 0 < p * p := Nat.mul_pos (by omega) (by omega)
 have h2 : 0 < l / (p * p) := Nat.div_pos (Nat.le_of_dvd hl (Nat.dvd_of_mod_eq_zero h)) hpp
 have h1 := uG hp hl
 obtain ⟨m, rfl⟩ : ∃ m, l = m + 1 := ⟨l - 1, by omega⟩
 show wk p (m + 1) c (m + 1) = _
 unfold wk
 rw [if_pos h]
 exact Uc hp _ _ _ _ h2 (by omega) (Nat.le_refl _)
theorem LA {p c l : Nat} (h : ¬ l % (p * p) = 0) : strip p (c, l) = (c, l) := by
 show wk p l c l = _
 cases l with
 | zero => rfl
 | succ m => unfold wk; rw [if_neg h]
structure H3 (s t : Nat × Nat) : Prop where
 val : t.1 * t.1 * t.2 = s.1 * s.1 * s.2
 pos : 0 < t.1 ∧ 0 < t.2
 dvd : t.2 ∣ s.2
theorem s9 {p : Nat} (hp : 2 ≤ p) : ∀ (k c l : Nat), 0 < c → 0 < l → l ≤ k → H3 (c, l) (strip p (c, l)) ∧ ¬ (strip p (c, l)).2 % (p * p) = 0
 | 0, _, _, _, h, hk => by omega
 | k + 1, c, l, hc, hl, hk => by
  by_cases h : l % (p * p) = 0
  ·have hpp : 0 < p * p := Nat.mul_pos (by omega) (by omega)
   have hd := Nat.dvd_of_mod_eq_zero h
   have h2 : 0 < l / (p * p) := Nat.div_pos (Nat.le_of_dvd hl hd) hpp
   have h1 := uG hp hl
   obtain ⟨⟨v, q, d⟩, e⟩ := s9 hp k (c * p) (l / (p * p)) (Nat.mul_pos hc (by omega)) h2 (by omega)
   rw [LR hp hl h]
   refine ⟨⟨?_, q, Nat.dvd_trans d (Nat.div_dvd_of_dvd hd)⟩, e⟩
   rw [v]
   obtain ⟨m, rfl⟩ := hd
   simp only
   rw [Nat.mul_div_cancel_left _ hpp]
   grind
  ·rw [LA h]
   exact ⟨⟨rfl, ⟨hc, hl⟩, Nat.dvd_refl _⟩, h⟩
theorem H3.trans {a b c : Nat × Nat} (h : H3 a b) (g : H3 b c) : H3 a c := ⟨g.val.trans h.val, g.pos, Nat.dvd_trans g.dvd h.dvd⟩
def VM : List Nat := [2, 3, 5, 7, 11, 13, 17, 19, 23, 29, 31, 37, 41, 43, 47, 53, 59, 61, 67, 71, 73, 79, 83, 89, 97]
def xG : List Nat → Nat × Nat → Nat × Nat
 | [], s => s
 | p :: r, s => xG r (strip p s)
theorem Vu : ∀ (ps : List Nat) (s : Nat × Nat), (∀ p ∈ ps, 2 ≤ p) → 0 < s.1 → 0 < s.2 → H3 s (xG ps s) ∧ ∀ p ∈ ps, ¬ (xG ps s).2 % (p * p) = 0
 | [], _, _, hc, hl => ⟨⟨rfl, ⟨hc, hl⟩, Nat.dvd_refl _⟩, fun _ hp => by cases hp⟩
 | p :: r, s, h, hc, hl => by
  obtain ⟨n1, n2⟩ := s9 (h p List.mem_cons_self) s.2 s.1 s.2 hc hl (Nat.le_refl _)
  obtain ⟨m1, m2⟩ := Vu r (strip p s) (fun q hq => h q (List.mem_cons_of_mem _ hq)) n1.pos.1 n1.pos.2
  refine ⟨n1.trans m1, fun q hq hm => ?_⟩
  rcases List.mem_cons.1 hq with rfl | hq
  ·exact n2 (Nat.mod_eq_zero_of_dvd (Nat.dvd_trans (Nat.dvd_of_mod_eq_zero hm) m1.dvd))
  ·exact m2 q hq hm
theorem vn : ∀ (ps : List Nat) (c l : Nat), (∀ p ∈ ps, ¬ l % (p * p) = 0) → xG ps (c, l) = (c, l)
 | [], _, _, _ => rfl
 | p :: r, c, l, h => by
  show xG r (strip p (c, l)) = _
  rw [LA (h p List.mem_cons_self)]
  exact vn r c l fun q hq => h q (List.mem_cons_of_mem _ hq)
theorem KH : ∀ p ∈ VM, 2 ≤ p := by decide
def iz (s : Nat × Nat) : Nat × Nat := if u6 s.2 * u6 s.2 = s.2 then (s.1 * u6 s.2, 1) else s
def Xc (m : Nat) : Nat × Nat := iz (xG VM (1, m))
theorem U9 {m : Nat} (h : 0 < m) : (Xc m).1 * (Xc m).1 * (Xc m).2 = m ∧ 0 < (Xc m).1 ∧ 0 < (Xc m).2 ∧ Xc (Xc m).2 = (1, (Xc m).2) := by
 obtain ⟨⟨v, ⟨q1, q2⟩, _⟩, e⟩ := Vu VM (1, m) KH Nat.one_pos h
 unfold Xc
 generalize xG VM (1, m) = s at *
 simp only [Nat.one_mul] at v
 unfold iz
 split
 ·rename_i hs
  refine ⟨?_, Nat.mul_pos q1 (Nat.pos_of_ne_zero fun h0 => by rw [h0] at hs; omega), Nat.one_pos, ?_⟩
  ·simp only
   rw [← v]
   conv => rhs; rw [← hs]
   generalize u6 s.2 = i
   grind
  ·show Xc 1 = (1, 1)
   decide
 ·rename_i hs
  refine ⟨v, q1, q2, ?_⟩
  rw [vn VM 1 s.2 e]
  exact if_neg hs
theorem sQ {a b : Nat} (h : a * a ∣ b * b) : a ∣ b := by
 rcases Nat.eq_zero_or_pos b with rfl | hb
 ·exact Nat.dvd_zero _
 have : a ^ 2 ∣ b ^ 2 := by rw [Nat.pow_two, Nat.pow_two]; exact h
 exact (Nat.pow_dvd_pow_iff (by decide)).1 this
theorem V7 {c l k : Nat} (hc : 0 < c) (h : c * c * l = k * k) : ∃ j, l = j * j ∧ c * j = k := by
 obtain ⟨j, rfl⟩ := sQ (a := c) (b := k) ⟨l, h.symm⟩
 refine ⟨j, ?_, rfl⟩
 have : c * c * l = c * c * (j * j) := by rw [h]; grind
 exact Nat.eq_of_mul_eq_mul_left (Nat.mul_pos hc hc) this
theorem IF {m : Nat} (h : 0 < m) : (Xc m).1 * (Xc m).1 ≤ m ∧ (Xc m).2 ≤ m ∧ (Xc m).1 ≤ m := by
 obtain ⟨h1, h2, h3, _⟩ := U9 h
 have a : (Xc m).1 * (Xc m).1 * 1 ≤ (Xc m).1 * (Xc m).1 * (Xc m).2 := Nat.mul_le_mul_left _ h3
 have b : 1 * (Xc m).2 ≤ (Xc m).1 * (Xc m).1 * (Xc m).2 := Nat.mul_le_mul_right _ (Nat.mul_pos h2 h2)
 have c : (Xc m).1 * 1 ≤ (Xc m).1 * (Xc m).1 := Nat.mul_le_mul_left _ h2
 omega
end Go.Ar

namespace Go.Ar
open Go Go.Sx Go.Lib
set_option maxRecDepth 100000
def xR (n d : Int) : zL := bif zH d 0 then yY (-n) (-d).toNat else yY n d.toNat
def k1 (r : zL) : Nat := (Xc ((zJ r).toNat * zP r)).1
def l1 (r : zL) : Nat := (Xc ((zJ r).toNat * zP r)).2
end Go.Ar

namespace Go.Ar
open Go Go.Lib
set_option maxRecDepth 100000
def YA (q : Rat) : zL := wV q.num q.den
def ZP (a : zL) : Rat := mkRat (zJ a) (zP a)
theorem Xn (n : Int) {d : Nat} (hd : 0 < d) : yY n d = YA (mkRat n d) := by
 unfold yY YA
 rw [Rat.num_mkRat, Rat.den_mkRat, if_neg (by omega), if_neg (by omega), Nat.gcd_comm]
theorem v8 (q : Rat) : zJ (YA q) = q.num ∧ zP (YA q) = q.den := by
 obtain ⟨_, h1, h2, _⟩ := Qw q.num q.den_pos
 exact ⟨h1, h2⟩
theorem Tt (q : Rat) : ZP (YA q) = q := by
 unfold ZP
 rw [(v8 q).1, (v8 q).2]
 exact Rat.mkRat_self q
theorem tu {a : zL} (h : zN a = 0) : YA (ZP a) = a := by
 unfold ZP
 rw [← Xn _ (yc (ZJ.1 h).1), QF h]
theorem Z6 {a : zL} (h : zN a = 0) : (ZP a).num = zJ a ∧ (ZP a).den = zP a := by
 have h1 := v8 (ZP a)
 rw [tu h] at h1
 exact ⟨h1.1.symm, h1.2.symm⟩
structure bq (k : Nat) (q : Rat) : Prop where
 num : q.num.natAbs < 10 ^ k
 den : q.den < 10 ^ k
theorem bq.mono {j k : Nat} {q : Rat} (h : bq j q) (hk : j ≤ k) : bq k q :=
 ⟨Nat.lt_of_lt_of_le h.1 (Nat.pow_le_pow_right (by omega) hk), Nat.lt_of_lt_of_le h.2 (Nat.pow_le_pow_right (by omega) hk)⟩
theorem wG {a b j k : Nat} (ha : a < 10 ^ j) (hb : b < 10 ^ k) : a * b < 10 ^ (j + k) := by
 rw [Nat.pow_add]
 exact Nat.mul_lt_mul'' ha hb
structure Xl (k : Nat) (a : zL) : Prop where
 ok : zN a = 0
 bq : bq k (ZP a)
theorem Xl.mono {j k : Nat} {a : zL} (h : Xl j a) (hk : j ≤ k) : Xl k a := ⟨h.1, h.2.mono hk⟩
theorem Xl.parts {k : Nat} {a : zL} (h : Xl k a) : (zJ a).natAbs < 10 ^ k ∧ zP a < 10 ^ k ∧ 0 < zP a := by
 have h1 := h.2.1
 have h2 := h.2.2
 rw [(Z6 h.1).1] at h1
 rw [(Z6 h.1).2] at h2
 exact ⟨h1, h2, yc (ZJ.1 h.1).1⟩
theorem jz {a b : zL} (ha : 0 < zP a) (hb : 0 < zP b) : mkRat (zJ a * (zP b : Int) + zJ b * (zP a : Int)) (zP a * zP b) = ZP a + ZP b :=
 (Rat.mkRat_add_mkRat _ _ (by omega) (by omega)).symm
theorem j8 (a b : zL) : mkRat (zJ a * zJ b) (zP a * zP b) = ZP a * ZP b := (Rat.mkRat_mul_mkRat _ _ _ _).symm
theorem K9 {a b : zL} (ha : 0 < zP a) (hb : 0 < zP b) : mkRat (zJ a * (zP b : Int) - zJ b * (zP a : Int)) (zP a * zP b) = ZP a - ZP b := by
 rw [Rat.sub_eq_add_neg]
 unfold ZP
 rw [Rat.neg_mkRat, Rat.mkRat_add_mkRat _ _ (by omega) (by omega)]
 congr 1
 rw [Int.neg_mul]; rfl
end Go.Ar
