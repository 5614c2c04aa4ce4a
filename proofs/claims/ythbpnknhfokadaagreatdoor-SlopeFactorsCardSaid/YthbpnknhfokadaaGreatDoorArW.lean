/- Integer roots by Newton's way, and the normal form of a root over small primes. -/
import Derived.Test.YthbpnknhfokadaaGreatDoorArA
set_option linter.unusedSimpArgs false
set_option linter.unusedVariables false
namespace Go.Ar
set_option maxRecDepth 100000
def uS : Nat → Nat → Nat
 | 0, _ => 0
 | k + 1, n => if (2 * uS k (n / 4) + 1) * (2 * uS k (n / 4) + 1) ≤ n then 2 * uS k (n / 4) + 1 else 2 * uS k (n / 4)
def yB (n : Nat) : Nat := uS 32 n
theorem VF : ∀ (k n : Nat), n < 4 ^ k → uS k n * uS k n ≤ n ∧ n < (uS k n + 1) * (uS k n + 1)
 | 0, n, h => by
  have : n = 0 := by simpa using h
  subst this; decide
 | k + 1, n, h => by
  have h4 : n / 4 < 4 ^ k := by rw [Nat.pow_succ] at h; omega
  obtain ⟨h1, h2⟩ := VF k (n / 4) h4
  unfold uS
  generalize uS k (n / 4) = s at *
  have e1 : 2 * s * (2 * s) = 4 * (s * s) := by grind
  have e2 : (2 * s + 1 + 1) * (2 * s + 1 + 1) = 4 * ((s + 1) * (s + 1)) := by grind
  split
  ·exact ⟨‹_›, by omega⟩
  ·exact ⟨by omega, by omega⟩
theorem xO {n : Nat} (h : n < 18446744073709551616) : yB n * yB n ≤ n ∧ n < (yB n + 1) * (yB n + 1) := VF 32 n h
theorem xj {a b : Nat} (h : a * a < b * b) : a < b := Nat.lt_of_not_le fun hb => by have := Nat.mul_le_mul hb hb; omega
theorem lQ {n r : Nat} (h : n < 18446744073709551616) (h1 : r * r ≤ n) (h2 : n < (r + 1) * (r + 1)) : r = yB n := by
 obtain ⟨s1, s2⟩ := xO h
 have a := xj (a := r) (b := yB n + 1) (by omega)
 have b := xj (a := yB n) (b := r + 1) (by omega)
 omega
theorem QP {k : Nat} (h : k * k < 18446744073709551616) : yB (k * k) = k := (lQ h (Nat.le_refl _) (by grind)).symm
theorem PS {n r s : Nat} (hr : 0 < r) (hs : s * s ≤ n) : s ≤ (r + n / r) / 2 := by
 have key : 2 * s - r ≤ n / r := by
  rw [Nat.le_div_iff_mul_le hr]
  refine Nat.le_trans ?_ hs
  rcases Nat.le_total r s with h | h
  ·obtain ⟨d, rfl⟩ := Nat.exists_eq_add_of_le h
   rw [show 2 * (r + d) - r = r + 2 * d by omega]
   grind
  ·rcases Nat.le_total r (2 * s) with h' | h'
   ·obtain ⟨d, rfl⟩ := Nat.exists_eq_add_of_le h
    obtain ⟨e, rfl⟩ : ∃ e, s = d + e := ⟨s - d, by omega⟩
    rw [show 2 * (d + e) - (d + e + d) = e by omega]
    grind
   ·rw [show 2 * s - r = 0 by omega, Nat.zero_mul]; exact Nat.zero_le _
 omega
theorem TC {n r : Nat} (hr : 0 < r) (h : r ≤ (r + n / r) / 2) : r * r ≤ n := by
 have : r ≤ n / r := by omega
 exact (Nat.le_div_iff_mul_le hr).1 this
def wT (p : Nat) : Nat → Nat → Nat → Nat × Nat
 | 0, c, l => (c, l)
 | k + 1, c, l => if l % (p * p) = 0 then wT p k (c * p) (l / (p * p)) else (c, l)
theorem WF {p l : Nat} (hp : 2 ≤ p) (hl : 0 < l) : l / (p * p) < l := Nat.div_lt_self hl (by have := Nat.mul_le_mul hp hp; omega)
theorem tz {p : Nat} (hp : 2 ≤ p) : ∀ (k j c l : Nat), 0 < l → l ≤ k → l ≤ j → wT p k c l = wT p j c l
 | 0, _, _, _, h, hk, _ => by omega
 | _ + 1, 0, _, _, h, _, hj => by omega
 | k + 1, j + 1, c, l, h, hk, hj => by
  unfold wT
  split
  ·rename_i hm
   have h1 := WF hp h
   have hpp : 0 < p * p := Nat.mul_pos (by omega) (by omega)
   have h2 : 0 < l / (p * p) := Nat.div_pos (Nat.le_of_dvd h (Nat.dvd_of_mod_eq_zero hm)) hpp
   exact tz hp k j _ _ h2 (by omega) (by omega)
  ·rfl
def strip (p : Nat) (s : Nat × Nat) : Nat × Nat := wT p s.2 s.1 s.2
theorem Rk {p c l : Nat} (hp : 2 ≤ p) (hl : 0 < l) (h : l % (p * p) = 0) : strip p (c, l) = strip p (c * p, l / (p * p)) := by
 have hpp : 0 < p * p := Nat.mul_pos (by omega) (by omega)
 have h2 : 0 < l / (p * p) := Nat.div_pos (Nat.le_of_dvd hl (Nat.dvd_of_mod_eq_zero h)) hpp
 have h1 := WF hp hl
 obtain ⟨m, rfl⟩ : ∃ m, l = m + 1 := ⟨l - 1, by omega⟩
 show wT p (m + 1) c (m + 1) = _
 unfold wT
 rw [if_pos h]
 exact tz hp _ _ _ _ h2 (by omega) (Nat.le_refl _)
theorem pL {p c l : Nat} (h : ¬ l % (p * p) = 0) : strip p (c, l) = (c, l) := by
 show wT p l c l = _
 cases l with
 | zero => rfl
 | succ m => unfold wT; rw [if_neg h]
structure Im (s t : Nat × Nat) : Prop where
 val : t.1 * t.1 * t.2 = s.1 * s.1 * s.2
 pos : 0 < t.1 ∧ 0 < t.2
 dvd : t.2 ∣ s.2
theorem Tr {p : Nat} (hp : 2 ≤ p) : ∀ (k c l : Nat), 0 < c → 0 < l → l ≤ k → Im (c, l) (strip p (c, l)) ∧ ¬ (strip p (c, l)).2 % (p * p) = 0
 | 0, _, _, _, h, hk => by omega
 | k + 1, c, l, hc, hl, hk => by
  by_cases h : l % (p * p) = 0
  ·have hpp : 0 < p * p := Nat.mul_pos (by omega) (by omega)
   have hd := Nat.dvd_of_mod_eq_zero h
   have h2 : 0 < l / (p * p) := Nat.div_pos (Nat.le_of_dvd hl hd) hpp
   have h1 := WF hp hl
   obtain ⟨⟨v, q, d⟩, e⟩ := Tr hp k (c * p) (l / (p * p)) (Nat.mul_pos hc (by omega)) h2 (by omega)
   rw [Rk hp hl h]
   refine ⟨⟨?_, q, Nat.dvd_trans d (Nat.div_dvd_of_dvd hd)⟩, e⟩
   rw [v]
   obtain ⟨m, rfl⟩ := hd
   simp only
   rw [Nat.mul_div_cancel_left _ hpp]
   grind
  ·rw [pL h]
   exact ⟨⟨rfl, ⟨hc, hl⟩, Nat.dvd_refl _⟩, h⟩
theorem Im.trans {a b c : Nat × Nat} (h : Im a b) (g : Im b c) : Im a c := ⟨g.val.trans h.val, g.pos, Nat.dvd_trans g.dvd h.dvd⟩
def ZH : List Nat := [2, 3, 5, 7, 11, 13, 17, 19, 23, 29, 31, 37, 41, 43, 47, 53, 59, 61, 67, 71, 73, 79, 83, 89, 97]
def yr : List Nat → Nat × Nat → Nat × Nat
 | [], s => s
 | p :: r, s => yr r (strip p s)
theorem Y4 : ∀ (ps : List Nat) (s : Nat × Nat), (∀ p ∈ ps, 2 ≤ p) → 0 < s.1 → 0 < s.2 → Im s (yr ps s) ∧ ∀ p ∈ ps, ¬ (yr ps s).2 % (p * p) = 0
 | [], _, _, hc, hl => ⟨⟨rfl, ⟨hc, hl⟩, Nat.dvd_refl _⟩, fun _ hp => by cases hp⟩
 | p :: r, s, h, hc, hl => by
  obtain ⟨n1, n2⟩ := Tr (h p List.mem_cons_self) s.2 s.1 s.2 hc hl (Nat.le_refl _)
  obtain ⟨m1, m2⟩ := Y4 r (strip p s) (fun q hq => h q (List.mem_cons_of_mem _ hq)) n1.pos.1 n1.pos.2
  refine ⟨n1.trans m1, fun q hq hm => ?_⟩
  rcases List.mem_cons.1 hq with rfl | hq
  ·exact n2 (Nat.mod_eq_zero_of_dvd (Nat.dvd_trans (Nat.dvd_of_mod_eq_zero hm) m1.dvd))
  ·exact m2 q hq hm
theorem W3 : ∀ (ps : List Nat) (c l : Nat), (∀ p ∈ ps, ¬ l % (p * p) = 0) → yr ps (c, l) = (c, l)
 | [], _, _, _ => rfl
 | p :: r, c, l, h => by
  show yr r (strip p (c, l)) = _
  rw [pL (h p List.mem_cons_self)]
  exact W3 r c l fun q hq => h q (List.mem_cons_of_mem _ hq)
theorem WA : ∀ (ps : List Nat) (p : Nat) (s : Nat × Nat), yr (ps ++ [p]) s = strip p (yr ps s)
 | [], _, _ => rfl
 | _ :: r, p, s => WA r p _
theorem XN : ∀ p ∈ ZH, 2 ≤ p := by decide
def sX (s : Nat × Nat) : Nat × Nat := if yB s.2 * yB s.2 = s.2 then (s.1 * yB s.2, 1) else s
def nrm (m : Nat) : Nat × Nat := sX (yr ZH (1, m))
theorem XG {m : Nat} (h : 0 < m) : (nrm m).1 * (nrm m).1 * (nrm m).2 = m ∧ 0 < (nrm m).1 ∧ 0 < (nrm m).2 ∧ nrm (nrm m).2 = (1, (nrm m).2) := by
 obtain ⟨⟨v, ⟨q1, q2⟩, _⟩, e⟩ := Y4 ZH (1, m) XN Nat.one_pos h
 unfold nrm
 generalize yr ZH (1, m) = s at *
 simp only [Nat.one_mul] at v
 unfold sX
 split
 ·rename_i hs
  refine ⟨?_, Nat.mul_pos q1 (Nat.pos_of_ne_zero fun h0 => by rw [h0] at hs; omega), Nat.one_pos, ?_⟩
  ·simp only
   rw [← v]
   conv => rhs; rw [← hs]
   generalize yB s.2 = i
   grind
  ·show nrm 1 = (1, 1)
   decide
 ·rename_i hs
  refine ⟨v, q1, q2, ?_⟩
  rw [W3 ZH 1 s.2 e]
  exact if_neg hs
theorem T1 {a b : Nat} (h : a * a ∣ b * b) : a ∣ b := by
 rcases Nat.eq_zero_or_pos b with rfl | hb
 ·exact Nat.dvd_zero _
 have : a ^ 2 ∣ b ^ 2 := by rw [Nat.pow_two, Nat.pow_two]; exact h
 exact (Nat.pow_dvd_pow_iff (by decide)).1 this
theorem Wg {c l k : Nat} (hc : 0 < c) (h : c * c * l = k * k) : ∃ j, l = j * j ∧ c * j = k := by
 obtain ⟨j, rfl⟩ := T1 (a := c) (b := k) ⟨l, h.symm⟩
 refine ⟨j, ?_, rfl⟩
 have : c * c * l = c * c * (j * j) := by rw [h]; grind
 exact Nat.eq_of_mul_eq_mul_left (Nat.mul_pos hc hc) this
theorem jC {k : Nat} (hk : 0 < k) (hb : k * k < 18446744073709551616) : nrm (k * k) = (k, 1) := by
 obtain ⟨⟨v, ⟨q1, q2⟩, d⟩, _⟩ := Y4 ZH (1, k * k) XN Nat.one_pos (Nat.mul_pos hk hk)
 unfold nrm
 generalize yr ZH (1, k * k) = s at *
 simp only [Nat.one_mul] at v d
 obtain ⟨j, h1, h2⟩ := Wg q1 v
 have hj : yB s.2 = j := by
  rw [h1]
  refine QP ?_
  rw [← h1]
  exact Nat.lt_of_le_of_lt (Nat.le_of_dvd (Nat.mul_pos hk hk) d) hb
 unfold sX
 rw [hj, if_pos h1.symm, h2]
theorem U3 {m : Nat} (h : 0 < m) : (nrm m).1 * (nrm m).1 ≤ m ∧ (nrm m).2 ≤ m ∧ (nrm m).1 ≤ m := by
 obtain ⟨h1, h2, h3, _⟩ := XG h
 have a : (nrm m).1 * (nrm m).1 * 1 ≤ (nrm m).1 * (nrm m).1 * (nrm m).2 := Nat.mul_le_mul_left _ h3
 have b : 1 * (nrm m).2 ≤ (nrm m).1 * (nrm m).1 * (nrm m).2 := Nat.mul_le_mul_right _ (Nat.mul_pos h2 h2)
 have c : (nrm m).1 * 1 ≤ (nrm m).1 * (nrm m).1 := Nat.mul_le_mul_left _ h2
 omega
theorem qW {m : Nat} (h : 0 < m) : ∀ p ∈ ZH, ¬ (nrm m).2 % (p * p) = 0 := by
 obtain ⟨_, e⟩ := Y4 ZH (1, m) XN Nat.one_pos h
 unfold nrm
 generalize yr ZH (1, m) = s at *
 unfold sX
 split
 ·intro p hp
  have := Nat.mul_le_mul (XN p hp) (XN p hp)
  rw [Nat.mod_eq_of_lt (by omega)]
  exact Nat.one_ne_zero
 ·exact e
theorem rX : ∀ p ∈ ZH, ∀ d ∈ List.range 98, p % d = 0 → d = 1 ∨ d = p := by decide
theorem OH : ∀ p ∈ ZH, p < 98 := by decide
theorem Om {p d : Nat} (hp : p ∈ ZH) (h : d ∣ p) : d = 1 ∨ d = p := by
 have h2 := XN p hp
 have := Nat.le_of_dvd (by omega) h
 exact rX p hp d (List.mem_range.2 (by have := OH p hp; omega)) (Nat.mod_eq_zero_of_dvd h)
theorem TX {p t l : Nat} (hp : p ∈ ZH) (h : p * p ∣ t * t * l) (hf : ¬ l % (p * p) = 0) : p ∣ t := by
 rcases Om hp (Nat.gcd_dvd_left p t) with hg | hg
 ·exfalso
  have c : Nat.Coprime p t := hg
  have c2 : Nat.Coprime (p * p) (t * t) := Nat.Coprime.mul_left (c.mul_right c) (c.mul_right c)
  exact hf (Nat.mod_eq_zero_of_dvd (c2.dvd_of_dvd_mul_left h))
 ·rw [← hg]; exact Nat.gcd_dvd_right p t
theorem RL : ∀ a ∈ List.range 49, 2 ≤ a → ∃ p ∈ ZH, a % p = 0 := by decide
theorem J8 : ∀ (n a t l Z : Nat), a ≤ n → 0 < a → a ≤ 48 → (∀ p ∈ ZH, ¬ l % (p * p) = 0) → t * t * l = a * a * Z → ∃ s, t = a * s ∧ s * s * l = Z
 | 0, _, _, _, _, h, h0, _, _, _ => by omega
 | n + 1, a, t, l, Z, hn, h0, h48, hf, h => by
  by_cases h1 : a = 1
  ·subst h1
   exact ⟨t, by omega, by rw [h]; omega⟩
  obtain ⟨p, hp, hd⟩ := RL a (List.mem_range.2 (by omega)) (by omega)
  have hp2 := XN p hp
  obtain ⟨b, rfl⟩ := Nat.dvd_of_mod_eq_zero hd
  have hb : 0 < b := Nat.pos_of_ne_zero fun e => by rw [e] at h0; omega
  have hbl : b < p * b := by have := Nat.mul_le_mul_right b hp2; omega
  obtain ⟨u, rfl⟩ := TX (t := t) hp ⟨b * b * Z, by rw [h]; grind⟩ (hf p hp)
  have e : u * u * l = b * b * Z := by
   have : p * p * (u * u * l) = p * p * (b * b * Z) := by
    have e1 : p * u * (p * u) * l = p * p * (u * u * l) := by grind
    rw [← e1, h]; grind
   exact Nat.eq_of_mul_eq_mul_left (Nat.mul_pos (by omega) (by omega)) this
  obtain ⟨s, hs, hz⟩ := J8 n b u l Z (by omega) hb (by omega) hf e
  exact ⟨s, by rw [hs, Nat.mul_assoc], hz⟩
theorem jW {a b t l Z : Nat} (ha : 0 < a ∧ a ≤ 48) (hb : 0 < b ∧ b ≤ 48) (hf : ∀ p ∈ ZH, ¬ l % (p * p) = 0) (h : t * t * l = a * b * (a * b) * Z) : ∃ s, t = a * b * s ∧ s * s * l = Z := by
 obtain ⟨u, h1, h2⟩ := J8 a a t l (b * b * Z) (Nat.le_refl _) ha.1 ha.2 hf (by rw [h]; grind)
 obtain ⟨s, h3, h4⟩ := J8 b b u l Z (Nat.le_refl _) hb.1 hb.2 hf h2
 exact ⟨s, by rw [h1, h3, Nat.mul_assoc], h4⟩
theorem ng {A B g X a b : Nat} (ha : 0 < a ∧ a ≤ 48) (hb : 0 < b ∧ b ≤ 48) (hA : 0 < A) (h1 : A * g = X) (h2 : B * g = a * b * (a * b)) :
  ∃ s, 0 < s ∧ s * s * (nrm (A * B)).2 = X ∧ (nrm (A * B)).1 * (a * b) = s * B := by
 have hab : 0 < a * b * (a * b) := Nat.mul_pos (Nat.mul_pos ha.1 hb.1) (Nat.mul_pos ha.1 hb.1)
 have hB : 0 < B := Nat.pos_of_ne_zero fun e => by rw [e] at h2; omega
 have hg : 0 < g := Nat.pos_of_ne_zero fun e => by rw [e] at h2; omega
 obtain ⟨v, v1, v2, _⟩ := XG (Nat.mul_pos hA hB)
 have hf := qW (Nat.mul_pos hA hB)
 generalize nrm (A * B) = q at *
 obtain ⟨k, l⟩ := q
 simp only at *
 obtain ⟨s, e1, e2⟩ := jW (t := k * g) (l := l) (Z := X) ha hb hf (by
  rw [← h1, ← h2]
  have : k * g * (k * g) * l = k * k * l * (g * g) := by grind
  rw [this, v]; grind)
 refine ⟨s, Nat.pos_of_ne_zero fun e => ?_, e2, ?_⟩
 ·rw [e] at e1
  have := Nat.mul_pos v1 hg
  omega
 ·refine Nat.eq_of_mul_eq_mul_right hg ?_
  have : k * (a * b) * g = k * g * (a * b) := by grind
  rw [this, e1, Nat.mul_assoc s B g, h2]; grind
theorem Oi {A B g Y a b : Nat} (ha : 0 < a ∧ a ≤ 48) (hb : 0 < b ∧ b ≤ 48) (hB : 0 < B) (h1 : A * g = a * b * (a * b)) (h2 : B * g = Y) :
  ∃ s, 0 < s ∧ s * s * (nrm (A * B)).2 = Y ∧ (nrm (A * B)).1 * (s * (nrm (A * B)).2) = a * b * B := by
 have hab : 0 < a * b * (a * b) := Nat.mul_pos (Nat.mul_pos ha.1 hb.1) (Nat.mul_pos ha.1 hb.1)
 have hA : 0 < A := Nat.pos_of_ne_zero fun e => by rw [e] at h1; omega
 have hg : 0 < g := Nat.pos_of_ne_zero fun e => by rw [e] at h1; omega
 obtain ⟨v, v1, v2, _⟩ := XG (Nat.mul_pos hA hB)
 have hf := qW (Nat.mul_pos hA hB)
 generalize nrm (A * B) = q at *
 obtain ⟨k, l⟩ := q
 simp only at *
 obtain ⟨s, e1, e2⟩ := jW (t := k * g) (l := l) (Z := Y) ha hb hf (by
  rw [← h1, ← h2]
  have : k * g * (k * g) * l = k * k * l * (g * g) := by grind
  rw [this, v]; grind)
 refine ⟨s, Nat.pos_of_ne_zero fun e => ?_, e2, ?_⟩
 ·rw [e] at e1
  have := Nat.mul_pos v1 hg
  omega
 ·refine Nat.eq_of_mul_eq_mul_right hg ?_
  have e3 : k * (s * l) * g = k * g * (s * l) := by grind
  have e4 : a * b * s * (s * l) = a * b * (s * s * l) := by grind
  rw [e3, e1, e4, e2, ← h2, Nat.mul_assoc (a * b) B g]
end Go.Ar

namespace Go.Ar
open Go Go.Sx Go.Lib
set_option maxRecDepth 100000
def xU (n d : Int) : zj := bif zG d 0 then Zj (-n) (-d).toNat else Zj n d.toNat
def k1 (r : zj) : Nat := (nrm ((zK r).toNat * zn r)).1
def l1 (r : zj) : Nat := (nrm ((zK r).toNat * zn r)).2
theorem nY {n : Int} : Zj n 1 = itoa n := by
 unfold Zj Ye
 rw [Nat.gcd_one_right]
 simp
theorem mg (n : Int) : zK (itoa n) = n ∧ zn (itoa n) = 1 ∧ zi (itoa n) = false ∧ zH (itoa n) = bif Nat.blt 300 (x9 n) then 4 else 0 := by
 obtain ⟨h1, h2⟩ := zC n
 have hs : zi (itoa n) = false := Ul (VS h1)
 obtain ⟨c1, c2⟩ := Xu hs
 have hn : zK (itoa n) = n := by unfold zK; rw [c1]; exact h2
 have hd : zn (itoa n) = 1 := by unfold zn; rw [hs]; rfl
 have hl := wt h1
 rw [h2] at hl
 refine ⟨hn, hd, hs, ?_⟩
 have hf : Zl (itoa n) = true := by rw [vy hs]; exact h1
 cases hb : Nat.blt 300 (x9 n) with
 | false =>
  refine ZR.2 ⟨hf, ?_, ?_, ?_⟩
  ·rw [c1, hl]
   have : ¬ 300 < x9 n := fun e => by rw [(Zw _ _).2 e] at hb; cases hb
   omega
  ·rw [c2]; exact Nat.zero_le _
  ·rw [hd, Nat.gcd_one_right]
 | true =>
  have h3 : 300 < x9 n := (Zw _ _).1 hb
  unfold zH
  rw [hf, c1, hl, hb]
  rfl
end Go.Ar

namespace Go.Ar
open Go Go.Lib
set_option maxRecDepth 100000
def zW (q : Rat) : zj := Ye q.num q.den
def zo (a : zj) : Rat := mkRat (zK a) (zn a)
theorem YG (n : Int) {d : Nat} (hd : 0 < d) : Zj n d = zW (mkRat n d) := by
 unfold Zj zW
 rw [Rat.num_mkRat, Rat.den_mkRat, if_neg (by omega), if_neg (by omega), Nat.gcd_comm]
theorem wZ (q : Rat) : zK (zW q) = q.num ∧ zn (zW q) = q.den := by
 obtain ⟨_, h1, h2, _⟩ := WW q.num q.den_pos
 exact ⟨h1, h2⟩
theorem zS (q : Rat) : zo (zW q) = q := by
 unfold zo
 rw [(wZ q).1, (wZ q).2]
 exact Rat.mkRat_self q
theorem Xt {p q : Rat} (h : zW p = zW q) : p = q := by rw [← zS p, h, zS]
theorem qY {a : zj} (h : zH a = 0) : zW (zo a) = a := by
 unfold zo
 rw [← YG _ (ye (ZR.1 h).1), Qk h]
theorem Z2 {a : zj} (h : zH a = 0) : (zo a).num = zK a ∧ (zo a).den = zn a := by
 have h1 := wZ (zo a)
 rw [qY h] at h1
 exact ⟨h1.1.symm, h1.2.symm⟩
structure bq (k : Nat) (q : Rat) : Prop where
 num : q.num.natAbs < 10 ^ k
 den : q.den < 10 ^ k
theorem bq.mono {j k : Nat} {q : Rat} (h : bq j q) (hk : j ≤ k) : bq k q :=
 ⟨Nat.lt_of_lt_of_le h.1 (Nat.pow_le_pow_right (by omega) hk), Nat.lt_of_lt_of_le h.2 (Nat.pow_le_pow_right (by omega) hk)⟩
theorem V2 {k : Nat} {n : Int} {d : Nat} (hd : 0 < d) (h1 : n.natAbs < 10 ^ k) (h2 : d < 10 ^ k) : bq k (mkRat n d) := by
 refine ⟨?_, by rw [Rat.den_mkRat, if_neg (by omega)]; exact Nat.lt_of_le_of_lt (Nat.div_le_self _ _) h2⟩
 rw [Rat.num_mkRat, if_neg (by omega)]
 have hnv : ((Nat.gcd d n.natAbs : Nat) : Int) ∣ n := Int.ofNat_dvd_left.2 (Nat.gcd_dvd_right _ _)
 rw [← Int.tdiv_eq_ediv_of_dvd hnv]
 exact Nat.lt_of_le_of_lt (Int.natAbs_tdiv_le_natAbs n _) h1
theorem YR {a b j k : Nat} (ha : a < 10 ^ j) (hb : b < 10 ^ k) : a * b < 10 ^ (j + k) := by
 rw [Nat.pow_add]
 exact Nat.mul_lt_mul'' ha hb
theorem sE {j k : Nat} {p q : Rat} (hp : bq j p) (hq : bq k q) : bq (j + k) (p * q) := by
 rw [Rat.mul_def']
 exact V2 (Nat.mul_pos p.den_pos q.den_pos) (by rw [Int.natAbs_mul]; exact YR hp.1 hq.1) (YR hp.2 hq.2)
theorem j6 {k : Nat} {q : Rat} (h : bq k q) : bq k (-q) := ⟨by rw [Rat.neg_num, Int.natAbs_neg]; exact h.1, h.2⟩
theorem PD {q : Rat} {k : Nat} (hk : 0 < k) (h : bq k q) (hk2 : k ≤ 300) : zH (zW q) = 0 := by
 obtain ⟨s1, s2, s3, s4, s5⟩ := WW q.num q.den_pos
 have a1 : x9 q.num ≤ k := xt hk h.1
 have a2 : nDigits q.den ≤ k := (z8 hk).2 h.2
 refine ZR.2 ⟨s1, ?_, ?_, ?_⟩
 ·show XH (zm (Ye _ _)) ≤ 300
  rw [s4]; omega
 ·show (zB (Ye _ _)).length ≤ 300
  rw [s5]; split <;> omega
 ·show Nat.gcd (zK (Ye _ _)).natAbs (zn (Ye _ _)) = 1
  rw [s2, s3]; exact q.reduced
structure Yx (k : Nat) (a : zj) : Prop where
 ok : zH a = 0
 bq : bq k (zo a)
theorem Zk {q : Rat} {k : Nat} (hk : 0 < k) (hk2 : k ≤ 300) : Yx k (zW q) ↔ bq k q := by
 have e := zS q
 exact ⟨fun h => e ▸ h.2, fun h => ⟨PD hk h hk2, e.symm ▸ h⟩⟩
theorem Yx.mono {j k : Nat} {a : zj} (h : Yx j a) (hk : j ≤ k) : Yx k a := ⟨h.1, h.2.mono hk⟩
theorem Yx.parts {k : Nat} {a : zj} (h : Yx k a) : (zK a).natAbs < 10 ^ k ∧ zn a < 10 ^ k ∧ 0 < zn a := by
 have h1 := h.2.1
 have h2 := h.2.2
 rw [(Z2 h.1).1] at h1
 rw [(Z2 h.1).2] at h2
 exact ⟨h1, h2, ye (ZR.1 h.1).1⟩
theorem Kl {a b : zj} (ha : 0 < zn a) (hb : 0 < zn b) : mkRat (zK a * (zn b : Int) + zK b * (zn a : Int)) (zn a * zn b) = zo a + zo b :=
 (Rat.mkRat_add_mkRat _ _ (by omega) (by omega)).symm
theorem Ll (a b : zj) : mkRat (zK a * zK b) (zn a * zn b) = zo a * zo b := (Rat.mkRat_mul_mkRat _ _ _ _).symm
theorem Mv (n : Int) : zW (n : Rat) = itoa n := by
 show itoa n ++ (bif Nat.beq 1 1 then [] else _) = itoa n
 exact List.append_nil _
theorem x8 {q : Rat} : (zW q == [48]) = decide (q = 0) := by
 have e : zW 0 = [48] := by decide +kernel
 rw [← e, Bool.eq_iff_iff, beq_iff_eq, decide_eq_true_iff]
 exact ⟨Xt, fun h => by rw [h]⟩
theorem Ux {q : Rat} : (zW q == [49]) = decide (q = 1) := by
 have e : zW 1 = [49] := by decide +kernel
 rw [← e, Bool.eq_iff_iff, beq_iff_eq, decide_eq_true_iff]
 exact ⟨Xt, fun h => by rw [h]⟩
end Go.Ar
