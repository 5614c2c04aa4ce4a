/- Integer roots by Newton's way, and the normal form of a root over small primes. -/
import Derived.Test.YthbpnknhfokadaaGreatDoorArA
set_option linter.unusedSimpArgs false
set_option linter.unusedVariables false
namespace Go.Ar
set_option maxRecDepth 100000
def uU : Nat → Nat → Nat
 | 0, _ => 0
 | k + 1, n => if (2 * uU k (n / 4) + 1) * (2 * uU k (n / 4) + 1) ≤ n then 2 * uU k (n / 4) + 1 else 2 * uU k (n / 4)
def yC (n : Nat) : Nat := uU 32 n
theorem VJ : ∀ (k n : Nat), n < 4 ^ k → uU k n * uU k n ≤ n ∧ n < (uU k n + 1) * (uU k n + 1)
 | 0, n, h => by
  have : n = 0 := by simpa using h
  subst this; decide
 | k + 1, n, h => by
  have h4 : n / 4 < 4 ^ k := by rw [Nat.pow_succ] at h; omega
  obtain ⟨h1, h2⟩ := VJ k (n / 4) h4
  unfold uU
  generalize uU k (n / 4) = s at *
  have e1 : 2 * s * (2 * s) = 4 * (s * s) := by grind
  have e2 : (2 * s + 1 + 1) * (2 * s + 1 + 1) = 4 * ((s + 1) * (s + 1)) := by grind
  split
  ·exact ⟨‹_›, by omega⟩
  ·exact ⟨by omega, by omega⟩
theorem xn {n : Nat} (h : n < 18446744073709551616) : yC n * yC n ≤ n ∧ n < (yC n + 1) * (yC n + 1) := VJ 32 n h
theorem xj {a b : Nat} (h : a * a < b * b) : a < b := Nat.lt_of_not_le fun hb => by have := Nat.mul_le_mul hb hb; omega
theorem My {n r : Nat} (h : n < 18446744073709551616) (h1 : r * r ≤ n) (h2 : n < (r + 1) * (r + 1)) : r = yC n := by
 obtain ⟨s1, s2⟩ := xn h
 have a := xj (a := r) (b := yC n + 1) (by omega)
 have b := xj (a := yC n) (b := r + 1) (by omega)
 omega
theorem Qq {k : Nat} (h : k * k < 18446744073709551616) : yC (k * k) = k := (My h (Nat.le_refl _) (by grind)).symm
theorem PZ {n r s : Nat} (hr : 0 < r) (hs : s * s ≤ n) : s ≤ (r + n / r) / 2 := by
 have key : 2 * s - r ≤ n / r := by
  rw [Nat.le_div_iff_mul_le hr]
  refine Nat.le_trans ?_ hs
  rcases Nat.le_total r s with h | h
  ·obtain ⟨d, rfl⟩ := Nat.exists_eq_add_of_le h
   rw [show 2 * (r + d) - r = r + 2 * d by omega]
   grind
  ·rcases Nat.le_total r (2 * s) with h' | h'
   ·obtain ⟨d, rfl⟩ := Nat.exists_eq_add_of_le h
    obtain ⟨e, rfl⟩ : ∃ e, s = d + e := ⟨s - d, by omega⟩
    rw [show 2 * (d + e) - (d + e + d) = e by omega]
    grind
   ·rw [show 2 * s - r = 0 by omega, Nat.zero_mul]; exact Nat.zero_le _
 omega
theorem T9 {n r : Nat} (hr : 0 < r) (h : r ≤ (r + n / r) / 2) : r * r ≤ n := by
 have : r ≤ n / r := by omega
 exact (Nat.le_div_iff_mul_le hr).1 this
def wW (p : Nat) : Nat → Nat → Nat → Nat × Nat
 | 0, c, l => (c, l)
 | k + 1, c, l => if l % (p * p) = 0 then wW p k (c * p) (l / (p * p)) else (c, l)
theorem WO {p l : Nat} (hp : 2 ≤ p) (hl : 0 < l) : l / (p * p) < l := Nat.div_lt_self hl (by have := Nat.mul_le_mul hp hp; omega)
theorem tL {p : Nat} (hp : 2 ≤ p) : ∀ (k j c l : Nat), 0 < l → l ≤ k → l ≤ j → wW p k c l = wW p j c l
 | 0, _, _, _, h, hk, _ => by omega
 | _ + 1, 0, _, _, h, _, hj => by omega
 | k + 1, j + 1, c, l, h, hk, hj => by
  unfold wW
  split
  ·rename_i hm
   have h1 := WO hp h
   have hpp : 0 < p * p := Nat.mul_pos (by omega) (by omega)
   have h2 : 0 < l / (p * p) := Nat.div_pos (Nat.le_of_dvd h (Nat.dvd_of_mod_eq_zero hm)) hpp
   exact tL hp k j _ _ h2 (by omega) (by omega)
  ·rfl
def strip (p : Nat) (s : Nat × Nat) : Nat × Nat := wW p s.2 s.1 s.2
theorem RS {p c l : Nat} (hp : 2 ≤ p) (hl : 0 < l) (h : l % (p * p) = 0) : strip p (c, l) = strip p (c * p, l / (p * p)) := by
 have hpp : 0 < p * p := Nat.mul_pos (by omega) (by omega)
 have h2 : 0 < l / (p * p) := Nat.div_pos (Nat.le_of_dvd hl (Nat.dvd_of_mod_eq_zero h)) hpp
 have h1 := WO hp hl
 obtain ⟨m, rfl⟩ : ∃ m, l = m + 1 := ⟨l - 1, by omega⟩
 show wW p (m + 1) c (m + 1) = _
 unfold wW
 rw [if_pos h]
 exact tL hp _ _ _ _ h2 (by omega) (Nat.le_refl _)
theorem Qg {p c l : Nat} (h : ¬ l % (p * p) = 0) : strip p (c, l) = (c, l) := by
 show wW p l c l = _
 cases l with
 | zero => rfl
 | succ m => unfold wW; rw [if_neg h]
structure JL (s t : Nat × Nat) : Prop where
 val : t.1 * t.1 * t.2 = s.1 * s.1 * s.2
 pos : 0 < t.1 ∧ 0 < t.2
 dvd : t.2 ∣ s.2
theorem TH {p : Nat} (hp : 2 ≤ p) : ∀ (k c l : Nat), 0 < c → 0 < l → l ≤ k → JL (c, l) (strip p (c, l)) ∧ ¬ (strip p (c, l)).2 % (p * p) = 0
 | 0, _, _, _, h, hk => by omega
 | k + 1, c, l, hc, hl, hk => by
  by_cases h : l % (p * p) = 0
  ·have hpp : 0 < p * p := Nat.mul_pos (by omega) (by omega)
   have hd := Nat.dvd_of_mod_eq_zero h
   have h2 : 0 < l / (p * p) := Nat.div_pos (Nat.le_of_dvd hl hd) hpp
   have h1 := WO hp hl
   obtain ⟨⟨v, q, d⟩, e⟩ := TH hp k (c * p) (l / (p * p)) (Nat.mul_pos hc (by omega)) h2 (by omega)
   rw [RS hp hl h]
   refine ⟨⟨?_, q, Nat.dvd_trans d (Nat.div_dvd_of_dvd hd)⟩, e⟩
   rw [v]
   obtain ⟨m, rfl⟩ := hd
   simp only
   rw [Nat.mul_div_cancel_left _ hpp]
   grind
  ·rw [Qg h]
   exact ⟨⟨rfl, ⟨hc, hl⟩, Nat.dvd_refl _⟩, h⟩
theorem JL.trans {a b c : Nat × Nat} (h : JL a b) (g : JL b c) : JL a c := ⟨g.val.trans h.val, g.pos, Nat.dvd_trans g.dvd h.dvd⟩
def ZJ : List Nat := [2, 3, 5, 7, 11, 13, 17, 19, 23, 29, 31, 37, 41, 43, 47, 53, 59, 61, 67, 71, 73, 79, 83, 89, 97]
def yq : List Nat → Nat × Nat → Nat × Nat
 | [], s => s
 | p :: r, s => yq r (strip p s)
theorem Yb : ∀ (ps : List Nat) (s : Nat × Nat), (∀ p ∈ ps, 2 ≤ p) → 0 < s.1 → 0 < s.2 → JL s (yq ps s) ∧ ∀ p ∈ ps, ¬ (yq ps s).2 % (p * p) = 0
 | [], _, _, hc, hl => ⟨⟨rfl, ⟨hc, hl⟩, Nat.dvd_refl _⟩, fun _ hp => by cases hp⟩
 | p :: r, s, h, hc, hl => by
  obtain ⟨n1, n2⟩ := TH (h p List.mem_cons_self) s.2 s.1 s.2 hc hl (Nat.le_refl _)
  obtain ⟨m1, m2⟩ := Yb r (strip p s) (fun q hq => h q (List.mem_cons_of_mem _ hq)) n1.pos.1 n1.pos.2
  refine ⟨n1.trans m1, fun q hq hm => ?_⟩
  rcases List.mem_cons.1 hq with rfl | hq
  ·exact n2 (Nat.mod_eq_zero_of_dvd (Nat.dvd_trans (Nat.dvd_of_mod_eq_zero hm) m1.dvd))
  ·exact m2 q hq hm
theorem W4 : ∀ (ps : List Nat) (c l : Nat), (∀ p ∈ ps, ¬ l % (p * p) = 0) → yq ps (c, l) = (c, l)
 | [], _, _, _ => rfl
 | p :: r, c, l, h => by
  show yq r (strip p (c, l)) = _
  rw [Qg (h p List.mem_cons_self)]
  exact W4 r c l fun q hq => h q (List.mem_cons_of_mem _ hq)
theorem W5 : ∀ (ps : List Nat) (p : Nat) (s : Nat × Nat), yq (ps ++ [p]) s = strip p (yq ps s)
 | [], _, _ => rfl
 | _ :: r, p, s => W5 r p _
theorem Xn : ∀ p ∈ ZJ, 2 ≤ p := by decide
def T8 (s : Nat × Nat) : Nat × Nat := if yC s.2 * yC s.2 = s.2 then (s.1 * yC s.2, 1) else s
def nrm (m : Nat) : Nat × Nat := T8 (yq ZJ (1, m))
theorem XF {m : Nat} (h : 0 < m) : (nrm m).1 * (nrm m).1 * (nrm m).2 = m ∧ 0 < (nrm m).1 ∧ 0 < (nrm m).2 ∧ nrm (nrm m).2 = (1, (nrm m).2) := by
 obtain ⟨⟨v, ⟨q1, q2⟩, _⟩, e⟩ := Yb ZJ (1, m) Xn Nat.one_pos h
 unfold nrm
 generalize yq ZJ (1, m) = s at *
 simp only [Nat.one_mul] at v
 unfold T8
 split
 ·rename_i hs
  refine ⟨?_, Nat.mul_pos q1 (Nat.pos_of_ne_zero fun h0 => by rw [h0] at hs; omega), Nat.one_pos, ?_⟩
  ·simp only
   rw [← v]
   conv => rhs; rw [← hs]
   generalize yC s.2 = i
   grind
  ·show nrm 1 = (1, 1)
   decide
 ·rename_i hs
  refine ⟨v, q1, q2, ?_⟩
  rw [W4 ZJ 1 s.2 e]
  exact if_neg hs
theorem Tt {a b : Nat} (h : a * a ∣ b * b) : a ∣ b := by
 rcases Nat.eq_zero_or_pos b with rfl | hb
 ·exact Nat.dvd_zero _
 have : a ^ 2 ∣ b ^ 2 := by rw [Nat.pow_two, Nat.pow_two]; exact h
 exact (Nat.pow_dvd_pow_iff (by decide)).1 this
theorem Wd {c l k : Nat} (hc : 0 < c) (h : c * c * l = k * k) : ∃ j, l = j * j ∧ c * j = k := by
 obtain ⟨j, rfl⟩ := Tt (a := c) (b := k) ⟨l, h.symm⟩
 refine ⟨j, ?_, rfl⟩
 have : c * c * l = c * c * (j * j) := by rw [h]; grind
 exact Nat.eq_of_mul_eq_mul_left (Nat.mul_pos hc hc) this
theorem Jl {k : Nat} (hk : 0 < k) (hb : k * k < 18446744073709551616) : nrm (k * k) = (k, 1) := by
 obtain ⟨⟨v, ⟨q1, q2⟩, d⟩, _⟩ := Yb ZJ (1, k * k) Xn Nat.one_pos (Nat.mul_pos hk hk)
 unfold nrm
 generalize yq ZJ (1, k * k) = s at *
 simp only [Nat.one_mul] at v d
 obtain ⟨j, h1, h2⟩ := Wd q1 v
 have hj : yC s.2 = j := by
  rw [h1]
  refine Qq ?_
  rw [← h1]
  exact Nat.lt_of_le_of_lt (Nat.le_of_dvd (Nat.mul_pos hk hk) d) hb
 unfold T8
 rw [hj, if_pos h1.symm, h2]
theorem Uu {m : Nat} (h : 0 < m) : (nrm m).1 * (nrm m).1 ≤ m ∧ (nrm m).2 ≤ m ∧ (nrm m).1 ≤ m := by
 obtain ⟨h1, h2, h3, _⟩ := XF h
 have a : (nrm m).1 * (nrm m).1 * 1 ≤ (nrm m).1 * (nrm m).1 * (nrm m).2 := Nat.mul_le_mul_left _ h3
 have b : 1 * (nrm m).2 ≤ (nrm m).1 * (nrm m).1 * (nrm m).2 := Nat.mul_le_mul_right _ (Nat.mul_pos h2 h2)
 have c : (nrm m).1 * 1 ≤ (nrm m).1 * (nrm m).1 := Nat.mul_le_mul_left _ h2
 omega
theorem Rm {m : Nat} (h : 0 < m) : ∀ p ∈ ZJ, ¬ (nrm m).2 % (p * p) = 0 := by
 obtain ⟨_, e⟩ := Yb ZJ (1, m) Xn Nat.one_pos h
 unfold nrm
 generalize yq ZJ (1, m) = s at *
 unfold T8
 split
 ·intro p hp
  have := Nat.mul_le_mul (Xn p hp) (Xn p hp)
  rw [Nat.mod_eq_of_lt (by omega)]
  exact Nat.one_ne_zero
 ·exact e
theorem ru : ∀ p ∈ ZJ, ∀ d ∈ List.range 98, p % d = 0 → d = 1 ∨ d = p := by decide
theorem od : ∀ p ∈ ZJ, p < 98 := by decide
theorem O2 {p d : Nat} (hp : p ∈ ZJ) (h : d ∣ p) : d = 1 ∨ d = p := by
 have h2 := Xn p hp
 have := Nat.le_of_dvd (by omega) h
 exact ru p hp d (List.mem_range.2 (by have := od p hp; omega)) (Nat.mod_eq_zero_of_dvd h)
theorem t8 {p t l : Nat} (hp : p ∈ ZJ) (h : p * p ∣ t * t * l) (hf : ¬ l % (p * p) = 0) : p ∣ t := by
 rcases O2 hp (Nat.gcd_dvd_left p t) with hg | hg
 ·exfalso
  have c : Nat.Coprime p t := hg
  have c2 : Nat.Coprime (p * p) (t * t) := Nat.Coprime.mul_left (c.mul_right c) (c.mul_right c)
  exact hf (Nat.mod_eq_zero_of_dvd (c2.dvd_of_dvd_mul_left h))
 ·rw [← hg]; exact Nat.gcd_dvd_right p t
theorem rB : ∀ a ∈ List.range 49, 2 ≤ a → ∃ p ∈ ZJ, a % p = 0 := by decide
theorem jB : ∀ (n a t l Z : Nat), a ≤ n → 0 < a → a ≤ 48 → (∀ p ∈ ZJ, ¬ l % (p * p) = 0) → t * t * l = a * a * Z → ∃ s, t = a * s ∧ s * s * l = Z
 | 0, _, _, _, _, h, h0, _, _, _ => by omega
 | n + 1, a, t, l, Z, hn, h0, h48, hf, h => by
  by_cases h1 : a = 1
  ·subst h1
   exact ⟨t, by omega, by rw [h]; omega⟩
  obtain ⟨p, hp, hd⟩ := rB a (List.mem_range.2 (by omega)) (by omega)
  have hp2 := Xn p hp
  obtain ⟨b, rfl⟩ := Nat.dvd_of_mod_eq_zero hd
  have hb : 0 < b := Nat.pos_of_ne_zero fun e => by rw [e] at h0; omega
  have hbl : b < p * b := by have := Nat.mul_le_mul_right b hp2; omega
  obtain ⟨u, rfl⟩ := t8 (t := t) hp ⟨b * b * Z, by rw [h]; grind⟩ (hf p hp)
  have e : u * u * l = b * b * Z := by
   have : p * p * (u * u * l) = p * p * (b * b * Z) := by
    have e1 : p * u * (p * u) * l = p * p * (u * u * l) := by grind
    rw [← e1, h]; grind
   exact Nat.eq_of_mul_eq_mul_left (Nat.mul_pos (by omega) (by omega)) this
  obtain ⟨s, hs, hz⟩ := jB n b u l Z (by omega) hb (by omega) hf e
  exact ⟨s, by rw [hs, Nat.mul_assoc], hz⟩
theorem jW {a b t l Z : Nat} (ha : 0 < a ∧ a ≤ 48) (hb : 0 < b ∧ b ≤ 48) (hf : ∀ p ∈ ZJ, ¬ l % (p * p) = 0) (h : t * t * l = a * b * (a * b) * Z) : ∃ s, t = a * b * s ∧ s * s * l = Z := by
 obtain ⟨u, h1, h2⟩ := jB a a t l (b * b * Z) (Nat.le_refl _) ha.1 ha.2 hf (by rw [h]; grind)
 obtain ⟨s, h3, h4⟩ := jB b b u l Z (Nat.le_refl _) hb.1 hb.2 hf h2
 exact ⟨s, by rw [h1, h3, Nat.mul_assoc], h4⟩
theorem mc {A B g X a b : Nat} (ha : 0 < a ∧ a ≤ 48) (hb : 0 < b ∧ b ≤ 48) (hA : 0 < A) (h1 : A * g = X) (h2 : B * g = a * b * (a * b)) :
  ∃ s, 0 < s ∧ s * s * (nrm (A * B)).2 = X ∧ (nrm (A * B)).1 * (a * b) = s * B := by
 have hab : 0 < a * b * (a * b) := Nat.mul_pos (Nat.mul_pos ha.1 hb.1) (Nat.mul_pos ha.1 hb.1)
 have hB : 0 < B := Nat.pos_of_ne_zero fun e => by rw [e] at h2; omega
 have hg : 0 < g := Nat.pos_of_ne_zero fun e => by rw [e] at h2; omega
 obtain ⟨v, v1, v2, _⟩ := XF (Nat.mul_pos hA hB)
 have hf := Rm (Nat.mul_pos hA hB)
 generalize nrm (A * B) = q at *
 obtain ⟨k, l⟩ := q
 simp only at *
 obtain ⟨s, e1, e2⟩ := jW (t := k * g) (l := l) (Z := X) ha hb hf (by
  rw [← h1, ← h2]
  have : k * g * (k * g) * l = k * k * l * (g * g) := by grind
  rw [this, v]; grind)
 refine ⟨s, Nat.pos_of_ne_zero fun e => ?_, e2, ?_⟩
 ·rw [e] at e1
  have := Nat.mul_pos v1 hg
  omega
 ·refine Nat.eq_of_mul_eq_mul_right hg ?_
  have : k * (a * b) * g = k * g * (a * b) := by grind
  rw [this, e1, Nat.mul_assoc s B g, h2]; grind
theorem oe {A B g Y a b : Nat} (ha : 0 < a ∧ a ≤ 48) (hb : 0 < b ∧ b ≤ 48) (hB : 0 < B) (h1 : A * g = a * b * (a * b)) (h2 : B * g = Y) :
  ∃ s, 0 < s ∧ s * s * (nrm (A * B)).2 = Y ∧ (nrm (A * B)).1 * (s * (nrm (A * B)).2) = a * b * B := by
 have hab : 0 < a * b * (a * b) := Nat.mul_pos (Nat.mul_pos ha.1 hb.1) (Nat.mul_pos ha.1 hb.1)
 have hA : 0 < A := Nat.pos_of_ne_zero fun e => by rw [e] at h1; omega
 have hg : 0 < g := Nat.pos_of_ne_zero fun e => by rw [e] at h1; omega
 obtain ⟨v, v1, v2, _⟩ := XF (Nat.mul_pos hA hB)
 have hf := Rm (Nat.mul_pos hA hB)
 generalize nrm (A * B) = q at *
 obtain ⟨k, l⟩ := q
 simp only at *
 obtain ⟨s, e1, e2⟩ := jW (t := k * g) (l := l) (Z := Y) ha hb hf (by
  rw [← h1, ← h2]
  have : k * g * (k * g) * l = k * k * l * (g * g) := by grind
  rw [this, v]; grind)
 refine ⟨s, Nat.pos_of_ne_zero fun e => ?_, e2, ?_⟩
 ·rw [e] at e1
  have := Nat.mul_pos v1 hg
  omega
 ·refine Nat.eq_of_mul_eq_mul_right hg ?_
  have e3 : k * (s * l) * g = k * g * (s * l) := by grind
  have e4 : a * b * s * (s * l) = a * b * (s * s * l) := by grind
  rw [e3, e1, e4, e2, ← h2, Nat.mul_assoc (a * b) B g]
end Go.Ar

namespace Go.Ar
open Go Go.Sx Go.Lib
set_option maxRecDepth 100000
def xx (n d : Int) : zj := bif zG d 0 then ZL (-n) (-d).toNat else ZL n d.toNat
def k1 (r : zj) : Nat := (nrm ((zK r).toNat * zn r)).1
def l1 (r : zj) : Nat := (nrm ((zK r).toNat * zn r)).2
theorem OC {n : Int} : ZL n 1 = itoa n := by
 unfold ZL Yd
 rw [Nat.gcd_one_right]
 simp
theorem Ml (n : Int) : zK (itoa n) = n ∧ zn (itoa n) = 1 ∧ zi (itoa n) = false ∧ zH (itoa n) = bif Nat.blt 300 (XZ n) then 4 else 0 := by
 obtain ⟨h1, h2⟩ := zb n
 have hs : zi (itoa n) = false := tk (VB h1)
 obtain ⟨c1, c2⟩ := XX hs
 have hn : zK (itoa n) = n := by unfold zK; rw [c1]; exact h2
 have hd : zn (itoa n) = 1 := by unfold zn; rw [hs]; rfl
 have hl := wR h1
 rw [h2] at hl
 refine ⟨hn, hd, hs, ?_⟩
 have hf : ZM (itoa n) = true := by rw [vz hs]; exact h1
 cases hb : Nat.blt 300 (XZ n) with
 | false =>
  refine Zq.2 ⟨hf, ?_, ?_, ?_⟩
  ·rw [c1, hl]
   have : ¬ 300 < XZ n := fun e => by rw [(ZX _ _).2 e] at hb; cases hb
   omega
  ·rw [c2]; exact Nat.zero_le _
  ·rw [hd, Nat.gcd_one_right]
 | true =>
  have h3 : 300 < XZ n := (ZX _ _).1 hb
  unfold zH
  rw [hf, c1, hl, hb]
  rfl
end Go.Ar

namespace Go.Ar
open Go Go.Lib
set_option maxRecDepth 100000
def zW (q : Rat) : zj := Yd q.num q.den
def zo (a : zj) : Rat := mkRat (zK a) (zn a)
theorem Yg (n : Int) {d : Nat} (hd : 0 < d) : ZL n d = zW (mkRat n d) := by
 unfold ZL zW
 rw [Rat.num_mkRat, Rat.den_mkRat, if_neg (by omega), if_neg (by omega), Nat.gcd_comm]
theorem X8 (q : Rat) : zK (zW q) = q.num ∧ zn (zW q) = q.den := by
 obtain ⟨_, h1, h2, _⟩ := Wp q.num q.den_pos
 exact ⟨h1, h2⟩
theorem zS (q : Rat) : zo (zW q) = q := by
 unfold zo
 rw [(X8 q).1, (X8 q).2]
 exact Rat.mkRat_self q
theorem XW {p q : Rat} (h : zW p = zW q) : p = q := by rw [← zS p, h, zS]
theorem qY {a : zj} (h : zH a = 0) : zW (zo a) = a := by
 unfold zo
 rw [← Yg _ (yG (Zq.1 h).1), QA h]
theorem Z3 {a : zj} (h : zH a = 0) : (zo a).num = zK a ∧ (zo a).den = zn a := by
 have h1 := X8 (zo a)
 rw [qY h] at h1
 exact ⟨h1.1.symm, h1.2.symm⟩
structure bq (k : Nat) (q : Rat) : Prop where
 num : q.num.natAbs < 10 ^ k
 den : q.den < 10 ^ k
theorem bq.mono {j k : Nat} {q : Rat} (h : bq j q) (hk : j ≤ k) : bq k q :=
 ⟨Nat.lt_of_lt_of_le h.1 (Nat.pow_le_pow_right (by omega) hk), Nat.lt_of_lt_of_le h.2 (Nat.pow_le_pow_right (by omega) hk)⟩
theorem UN {k : Nat} {n : Int} {d : Nat} (hd : 0 < d) (h1 : n.natAbs < 10 ^ k) (h2 : d < 10 ^ k) : bq k (mkRat n d) := by
 refine ⟨?_, by rw [Rat.den_mkRat, if_neg (by omega)]; exact Nat.lt_of_le_of_lt (Nat.div_le_self _ _) h2⟩
 rw [Rat.num_mkRat, if_neg (by omega)]
 have hnv : ((Nat.gcd d n.natAbs : Nat) : Int) ∣ n := Int.ofNat_dvd_left.2 (Nat.gcd_dvd_right _ _)
 rw [← Int.tdiv_eq_ediv_of_dvd hnv]
 exact Nat.lt_of_le_of_lt (Int.natAbs_tdiv_le_natAbs n _) h1
theorem Yv {a b j k : Nat} (ha : a < 10 ^ j) (hb : b < 10 ^ k) : a * b < 10 ^ (j + k) := by
 rw [Nat.pow_add]
 exact Nat.mul_lt_mul'' ha hb
theorem Sl {j k : Nat} {p q : Rat} (hp : bq j p) (hq : bq k q) : bq (j + k) (p * q) := by
 rw [Rat.mul_def']
 exact UN (Nat.mul_pos p.den_pos q.den_pos) (by rw [Int.natAbs_mul]; exact Yv hp.1 hq.1) (Yv hp.2 hq.2)
theorem PP {q : Rat} {k : Nat} (hk : 0 < k) (h : bq k q) (hk2 : k ≤ 300) : zH (zW q) = 0 := by
 obtain ⟨s1, s2, s3, s4, s5⟩ := Wp q.num q.den_pos
 have a1 : XZ q.num ≤ k := xf hk h.1
 have a2 : nDigits q.den ≤ k := (Zw hk).2 h.2
 refine Zq.2 ⟨s1, ?_, ?_, ?_⟩
 ·show X2 (zm (Yd _ _)) ≤ 300
  rw [s4]; omega
 ·show (zB (Yd _ _)).length ≤ 300
  rw [s5]; split <;> omega
 ·show Nat.gcd (zK (Yd _ _)).natAbs (zn (Yd _ _)) = 1
  rw [s2, s3]; exact q.reduced
structure YZ (k : Nat) (a : zj) : Prop where
 ok : zH a = 0
 bq : bq k (zo a)
theorem Zh {q : Rat} {k : Nat} (hk : 0 < k) (hk2 : k ≤ 300) : YZ k (zW q) ↔ bq k q := by
 have e := zS q
 exact ⟨fun h => e ▸ h.2, fun h => ⟨PP hk h hk2, e.symm ▸ h⟩⟩
theorem YZ.mono {j k : Nat} {a : zj} (h : YZ j a) (hk : j ≤ k) : YZ k a := ⟨h.1, h.2.mono hk⟩
theorem YZ.parts {k : Nat} {a : zj} (h : YZ k a) : (zK a).natAbs < 10 ^ k ∧ zn a < 10 ^ k ∧ 0 < zn a := by
 have h1 := h.2.1
 have h2 := h.2.2
 rw [(Z3 h.1).1] at h1
 rw [(Z3 h.1).2] at h2
 exact ⟨h1, h2, yG (Zq.1 h.1).1⟩
theorem LC {a b : zj} (ha : 0 < zn a) (hb : 0 < zn b) : mkRat (zK a * (zn b : Int) + zK b * (zn a : Int)) (zn a * zn b) = zo a + zo b :=
 (Rat.mkRat_add_mkRat _ _ (by omega) (by omega)).symm
theorem Ky (a b : zj) : mkRat (zK a * zK b) (zn a * zn b) = zo a * zo b := (Rat.mkRat_mul_mkRat _ _ _ _).symm
theorem mI (n : Int) : zW (n : Rat) = itoa n := by
 show itoa n ++ (bif Nat.beq 1 1 then [] else _) = itoa n
 exact List.append_nil _
theorem x4 {q : Rat} : (zW q == [48]) = decide (q = 0) := by
 have e : zW 0 = [48] := by decide +kernel
 rw [← e, Bool.eq_iff_iff, beq_iff_eq, decide_eq_true_iff]
 exact ⟨XW, fun h => by rw [h]⟩
theorem u4 {q : Rat} : (zW q == [49]) = decide (q = 1) := by
 have e : zW 1 = [49] := by decide +kernel
 rw [← e, Bool.eq_iff_iff, beq_iff_eq, decide_eq_true_iff]
 exact ⟨XW, fun h => by rw [h]⟩
end Go.Ar
