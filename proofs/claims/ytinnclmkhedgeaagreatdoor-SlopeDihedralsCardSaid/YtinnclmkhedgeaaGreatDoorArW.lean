/- Integer roots by Newton's way, and the normal form of a root over small primes. -/
import Derived.Test.YtinnclmkhedgeaaGreatDoorArA
set_option linter.unusedSimpArgs false
set_option linter.unusedVariables false
namespace Go.Ar
set_option maxRecDepth 100000
def Wq : Nat → Nat → Nat
 | 0, _ => 0
 | k + 1, n => if (2 * Wq k (n / 4) + 1) * (2 * Wq k (n / 4) + 1) ≤ n then 2 * Wq k (n / 4) + 1 else 2 * Wq k (n / 4)
def Xg (n : Nat) : Nat := Wq 32 n
theorem Vu : ∀ (k n : Nat), n < 4 ^ k → Wq k n * Wq k n ≤ n ∧ n < (Wq k n + 1) * (Wq k n + 1)
 | 0, n, h => by
  have : n = 0 := by simpa using h
  subst this; decide
 | k + 1, n, h => by
  have h4 : n / 4 < 4 ^ k := by rw [Nat.pow_succ] at h; omega
  obtain ⟨h1, h2⟩ := Vu k (n / 4) h4
  unfold Wq
  generalize Wq k (n / 4) = s at *
  have e1 : 2 * s * (2 * s) = 4 * (s * s) := by grind
  have e2 : (2 * s + 1 + 1) * (2 * s + 1 + 1) = 4 * ((s + 1) * (s + 1)) := by grind
  split
  ·exact ⟨‹_›, by omega⟩
  ·exact ⟨by omega, by omega⟩
theorem Wu {n : Nat} (h : n < 18446744073709551616) : Xg n * Xg n ≤ n ∧ n < (Xg n + 1) * (Xg n + 1) := Vu 32 n h
theorem v7 {a b : Nat} (h : a * a < b * b) : a < b := Nat.lt_of_not_le fun hb => by have := Nat.mul_le_mul hb hb; omega
theorem Rc {n r : Nat} (h : n < 18446744073709551616) (h1 : r * r ≤ n) (h2 : n < (r + 1) * (r + 1)) : r = Xg n := by
 obtain ⟨s1, s2⟩ := Wu h
 have a := v7 (a := r) (b := Xg n + 1) (by omega)
 have b := v7 (a := Xg n) (b := r + 1) (by omega)
 omega
theorem P4 {k : Nat} (h : k * k < 18446744073709551616) : Xg (k * k) = k := (Rc h (Nat.le_refl _) (by grind)).symm
theorem qg {n r s : Nat} (hr : 0 < r) (hs : s * s ≤ n) : s ≤ (r + n / r) / 2 := by
 have key : 2 * s - r ≤ n / r := by
  rw [Nat.le_div_iff_mul_le hr]
  refine Nat.le_trans ?_ hs
  rcases Nat.le_total r s with h | h
  ·obtain ⟨d, rfl⟩ := Nat.exists_eq_add_of_le h
   rw [show 2 * (r + d) - r = r + 2 * d by omega]
   grind
  ·rcases Nat.le_total r (2 * s) with h' | h'
   ·obtain ⟨d, rfl⟩ := Nat.exists_eq_add_of_le h
    obtain ⟨e, rfl⟩ : ∃ e, s = d + e := ⟨s - d, by omega⟩
    rw [show 2 * (d + e) - (d + e + d) = e by omega]
    grind
   ·rw [show 2 * s - r = 0 by omega, Nat.zero_mul]; exact Nat.zero_le _
 omega
theorem s0 {n r : Nat} (hr : 0 < r) (h : r ≤ (r + n / r) / 2) : r * r ≤ n := by
 have : r ≤ n / r := by omega
 exact (Nat.le_div_iff_mul_le hr).1 this
def Yb (p : Nat) : Nat → Nat → Nat → Nat × Nat
 | 0, c, l => (c, l)
 | k + 1, c, l => if l % (p * p) = 0 then Yb p k (c * p) (l / (p * p)) else (c, l)
theorem xI {p l : Nat} (hp : 2 ≤ p) (hl : 0 < l) : l / (p * p) < l := Nat.div_lt_self hl (by have := Nat.mul_le_mul hp hp; omega)
theorem W5 {p : Nat} (hp : 2 ≤ p) : ∀ (k j c l : Nat), 0 < l → l ≤ k → l ≤ j → Yb p k c l = Yb p j c l
 | 0, _, _, _, h, hk, _ => by omega
 | _ + 1, 0, _, _, h, _, hj => by omega
 | k + 1, j + 1, c, l, h, hk, hj => by
  unfold Yb
  split
  ·rename_i hm
   have h1 := xI hp h
   have hpp : 0 < p * p := Nat.mul_pos (by omega) (by omega)
   have h2 : 0 < l / (p * p) := Nat.div_pos (Nat.le_of_dvd h (Nat.dvd_of_mod_eq_zero hm)) hpp
   exact W5 hp k j _ _ h2 (by omega) (by omega)
  ·rfl
def strip (p : Nat) (s : Nat × Nat) : Nat × Nat := Yb p s.2 s.1 s.2
theorem U0 {p c l : Nat} (hp : 2 ≤ p) (hl : 0 < l) (h : l % (p * p) = 0) : strip p (c, l) = strip p (c * p, l / (p * p)) := by
 have hpp : 0 < p * p := Nat.mul_pos (by omega) (by omega)
 have h2 : 0 < l / (p * p) := Nat.div_pos (Nat.le_of_dvd hl (Nat.dvd_of_mod_eq_zero h)) hpp
 have h1 := xI hp hl
 obtain ⟨m, rfl⟩ : ∃ m, l = m + 1 := ⟨l - 1, by omega⟩
 show Yb p (m + 1) c (m + 1) = _
 unfold Yb
 rw [if_pos h]
 exact W5 hp _ _ _ _ h2 (by omega) (Nat.le_refl _)
theorem wq {p c l : Nat} (h : ¬ l % (p * p) = 0) : strip p (c, l) = (c, l) := by
 show Yb p l c l = _
 cases l with
 | zero => rfl
 | succ m => unfold Yb; rw [if_neg h]
structure Pr (s t : Nat × Nat) : Prop where
 val : t.1 * t.1 * t.2 = s.1 * s.1 * s.2
 pos : 0 < t.1 ∧ 0 < t.2
 dvd : t.2 ∣ s.2
theorem Vz {p : Nat} (hp : 2 ≤ p) : ∀ (k c l : Nat), 0 < c → 0 < l → l ≤ k → Pr (c, l) (strip p (c, l)) ∧ ¬ (strip p (c, l)).2 % (p * p) = 0
 | 0, _, _, _, h, hk => by omega
 | k + 1, c, l, hc, hl, hk => by
  by_cases h : l % (p * p) = 0
  ·have hpp : 0 < p * p := Nat.mul_pos (by omega) (by omega)
   have hd := Nat.dvd_of_mod_eq_zero h
   have h2 : 0 < l / (p * p) := Nat.div_pos (Nat.le_of_dvd hl hd) hpp
   have h1 := xI hp hl
   obtain ⟨⟨v, q, d⟩, e⟩ := Vz hp k (c * p) (l / (p * p)) (Nat.mul_pos hc (by omega)) h2 (by omega)
   rw [U0 hp hl h]
   refine ⟨⟨?_, q, Nat.dvd_trans d (Nat.div_dvd_of_dvd hd)⟩, e⟩
   rw [v]
   obtain ⟨m, rfl⟩ := hd
   simp only
   rw [Nat.mul_div_cancel_left _ hpp]
   grind
  ·rw [wq h]
   exact ⟨⟨rfl, ⟨hc, hl⟩, Nat.dvd_refl _⟩, h⟩
theorem Pr.trans {a b c : Nat × Nat} (h : Pr a b) (g : Pr b c) : Pr a c := ⟨g.val.trans h.val, g.pos, Nat.dvd_trans g.dvd h.dvd⟩
def zB : List Nat := [2, 3, 5, 7, 11, 13, 17, 19, 23, 29, 31, 37, 41, 43, 47, 53, 59, 61, 67, 71, 73, 79, 83, 89, 97]
def ZO : List Nat → Nat × Nat → Nat × Nat
 | [], s => s
 | p :: r, s => ZO r (strip p s)
theorem yq : ∀ (ps : List Nat) (s : Nat × Nat), (∀ p ∈ ps, 2 ≤ p) → 0 < s.1 → 0 < s.2 → Pr s (ZO ps s) ∧ ∀ p ∈ ps, ¬ (ZO ps s).2 % (p * p) = 0
 | [], _, _, hc, hl => ⟨⟨rfl, ⟨hc, hl⟩, Nat.dvd_refl _⟩, fun _ hp => by cases hp⟩
 | p :: r, s, h, hc, hl => by
  obtain ⟨n1, n2⟩ := Vz (h p List.mem_cons_self) s.2 s.1 s.2 hc hl (Nat.le_refl _)
  obtain ⟨m1, m2⟩ := yq r (strip p s) (fun q hq => h q (List.mem_cons_of_mem _ hq)) n1.pos.1 n1.pos.2
  refine ⟨n1.trans m1, fun q hq hm => ?_⟩
  rcases List.mem_cons.1 hq with rfl | hq
  ·exact n2 (Nat.mod_eq_zero_of_dvd (Nat.dvd_trans (Nat.dvd_of_mod_eq_zero hm) m1.dvd))
  ·exact m2 q hq hm
theorem XX : ∀ (ps : List Nat) (c l : Nat), (∀ p ∈ ps, ¬ l % (p * p) = 0) → ZO ps (c, l) = (c, l)
 | [], _, _, _ => rfl
 | p :: r, c, l, h => by
  show ZO r (strip p (c, l)) = _
  rw [wq (h p List.mem_cons_self)]
  exact XX r c l fun q hq => h q (List.mem_cons_of_mem _ hq)
theorem Xx : ∀ (ps : List Nat) (p : Nat) (s : Nat × Nat), ZO (ps ++ [p]) s = strip p (ZO ps s)
 | [], _, _ => rfl
 | _ :: r, p, s => Xx r p _
theorem YP : ∀ p ∈ zB, 2 ≤ p := by decide
def Vw (s : Nat × Nat) : Nat × Nat := if Xg s.2 * Xg s.2 = s.2 then (s.1 * Xg s.2, 1) else s
def yt (m : Nat) : Nat × Nat := Vw (ZO zB (1, m))
theorem Yy {m : Nat} (h : 0 < m) : (yt m).1 * (yt m).1 * (yt m).2 = m ∧ 0 < (yt m).1 ∧ 0 < (yt m).2 ∧ yt (yt m).2 = (1, (yt m).2) := by
 obtain ⟨⟨v, ⟨q1, q2⟩, _⟩, e⟩ := yq zB (1, m) YP Nat.one_pos h
 unfold yt
 generalize ZO zB (1, m) = s at *
 simp only [Nat.one_mul] at v
 unfold Vw
 split
 ·rename_i hs
  refine ⟨?_, Nat.mul_pos q1 (Nat.pos_of_ne_zero fun h0 => by rw [h0] at hs; omega), Nat.one_pos, ?_⟩
  ·simp only
   rw [← v]
   conv => rhs; rw [← hs]
   generalize Xg s.2 = i
   grind
  ·show yt 1 = (1, 1)
   decide
 ·rename_i hs
  refine ⟨v, q1, q2, ?_⟩
  rw [XX zB 1 s.2 e]
  exact if_neg hs
theorem Se {a b : Nat} (h : a * a ∣ b * b) : a ∣ b := by
 rcases Nat.eq_zero_or_pos b with rfl | hb
 ·exact Nat.dvd_zero _
 have : a ^ 2 ∣ b ^ 2 := by rw [Nat.pow_two, Nat.pow_two]; exact h
 exact (Nat.pow_dvd_pow_iff (by decide)).1 this
theorem Vn {c l k : Nat} (hc : 0 < c) (h : c * c * l = k * k) : ∃ j, l = j * j ∧ c * j = k := by
 obtain ⟨j, rfl⟩ := Se (a := c) (b := k) ⟨l, h.symm⟩
 refine ⟨j, ?_, rfl⟩
 have : c * c * l = c * c * (j * j) := by rw [h]; grind
 exact Nat.eq_of_mul_eq_mul_left (Nat.mul_pos hc hc) this
theorem TP {k : Nat} (hk : 0 < k) (hb : k * k < 18446744073709551616) : yt (k * k) = (k, 1) := by
 obtain ⟨⟨v, ⟨q1, q2⟩, d⟩, _⟩ := yq zB (1, k * k) YP Nat.one_pos (Nat.mul_pos hk hk)
 unfold yt
 generalize ZO zB (1, k * k) = s at *
 simp only [Nat.one_mul] at v d
 obtain ⟨j, h1, h2⟩ := Vn q1 v
 have hj : Xg s.2 = j := by
  rw [h1]
  refine P4 ?_
  rw [← h1]
  exact Nat.lt_of_le_of_lt (Nat.le_of_dvd (Nat.mul_pos hk hk) d) hb
 unfold Vw
 rw [hj, if_pos h1.symm, h2]
theorem U2 {m : Nat} (h : 0 < m) : ∀ p ∈ zB, ¬ (yt m).2 % (p * p) = 0 := by
 obtain ⟨_, e⟩ := yq zB (1, m) YP Nat.one_pos h
 unfold yt
 generalize ZO zB (1, m) = s at *
 unfold Vw
 split
 ·intro p hp
  have := Nat.mul_le_mul (YP p hp) (YP p hp)
  rw [Nat.mod_eq_of_lt (by omega)]
  exact Nat.one_ne_zero
 ·exact e
theorem u9 : ∀ p ∈ zB, ∀ d ∈ List.range 98, p % d = 0 → d = 1 ∨ d = p := by decide
theorem SS : ∀ p ∈ zB, p < 98 := by decide
theorem SQ {p d : Nat} (hp : p ∈ zB) (h : d ∣ p) : d = 1 ∨ d = p := by
 have h2 := YP p hp
 have := Nat.le_of_dvd (by omega) h
 exact u9 p hp d (List.mem_range.2 (by have := SS p hp; omega)) (Nat.mod_eq_zero_of_dvd h)
theorem vH {p t l : Nat} (hp : p ∈ zB) (h : p * p ∣ t * t * l) (hf : ¬ l % (p * p) = 0) : p ∣ t := by
 rcases SQ hp (Nat.gcd_dvd_left p t) with hg | hg
 ·exfalso
  have c : Nat.Coprime p t := hg
  have c2 : Nat.Coprime (p * p) (t * t) := Nat.Coprime.mul_left (c.mul_right c) (c.mul_right c)
  exact hf (Nat.mod_eq_zero_of_dvd (c2.dvd_of_dvd_mul_left h))
 ·rw [← hg]; exact Nat.gcd_dvd_right p t
theorem UN : ∀ a ∈ List.range 49, 2 ≤ a → ∃ p ∈ zB, a % p = 0 := by decide
theorem PP : ∀ (n a t l Z : Nat), a ≤ n → 0 < a → a ≤ 48 → (∀ p ∈ zB, ¬ l % (p * p) = 0) → t * t * l = a * a * Z → ∃ s, t = a * s ∧ s * s * l = Z
 | 0, _, _, _, _, h, h0, _, _, _ => by omega
 | n + 1, a, t, l, Z, hn, h0, h48, hf, h => by
  by_cases h1 : a = 1
  ·subst h1
   exact ⟨t, by omega, by rw [h]; omega⟩
  obtain ⟨p, hp, hd⟩ := UN a (List.mem_range.2 (by omega)) (by omega)
  have hp2 := YP p hp
  obtain ⟨b, rfl⟩ := Nat.dvd_of_mod_eq_zero hd
  have hb : 0 < b := Nat.pos_of_ne_zero fun e => by rw [e] at h0; omega
  have hbl : b < p * b := by have := Nat.mul_le_mul_right b hp2; omega
  obtain ⟨u, rfl⟩ := vH (t := t) hp ⟨b * b * Z, by rw [h]; grind⟩ (hf p hp)
  have e : u * u * l = b * b * Z := by
   have : p * p * (u * u * l) = p * p * (b * b * Z) := by
    have e1 : p * u * (p * u) * l = p * p * (u * u * l) := by grind
    rw [← e1, h]; grind
   exact Nat.eq_of_mul_eq_mul_left (Nat.mul_pos (by omega) (by omega)) this
  obtain ⟨s, hs, hz⟩ := PP n b u l Z (by omega) hb (by omega) hf e
  exact ⟨s, by rw [hs, Nat.mul_assoc], hz⟩
theorem pr {a b t l Z : Nat} (ha : 0 < a ∧ a ≤ 48) (hb : 0 < b ∧ b ≤ 48) (hf : ∀ p ∈ zB, ¬ l % (p * p) = 0) (h : t * t * l = a * b * (a * b) * Z) : ∃ s, t = a * b * s ∧ s * s * l = Z := by
 obtain ⟨u, h1, h2⟩ := PP a a t l (b * b * Z) (Nat.le_refl _) ha.1 ha.2 hf (by rw [h]; grind)
 obtain ⟨s, h3, h4⟩ := PP b b u l Z (Nat.le_refl _) hb.1 hb.2 hf h2
 exact ⟨s, by rw [h1, h3, Nat.mul_assoc], h4⟩
theorem rA {A B g X a b : Nat} (ha : 0 < a ∧ a ≤ 48) (hb : 0 < b ∧ b ≤ 48) (hA : 0 < A) (h1 : A * g = X) (h2 : B * g = a * b * (a * b)) :
  ∃ s, 0 < s ∧ s * s * (yt (A * B)).2 = X ∧ (yt (A * B)).1 * (a * b) = s * B := by
 have hab : 0 < a * b * (a * b) := Nat.mul_pos (Nat.mul_pos ha.1 hb.1) (Nat.mul_pos ha.1 hb.1)
 have hB : 0 < B := Nat.pos_of_ne_zero fun e => by rw [e] at h2; omega
 have hg : 0 < g := Nat.pos_of_ne_zero fun e => by rw [e] at h2; omega
 obtain ⟨v, v1, v2, _⟩ := Yy (Nat.mul_pos hA hB)
 have hf := U2 (Nat.mul_pos hA hB)
 generalize yt (A * B) = q at *
 obtain ⟨k, l⟩ := q
 simp only at *
 obtain ⟨s, e1, e2⟩ := pr (t := k * g) (l := l) (Z := X) ha hb hf (by
  rw [← h1, ← h2]
  have : k * g * (k * g) * l = k * k * l * (g * g) := by grind
  rw [this, v]; grind)
 refine ⟨s, Nat.pos_of_ne_zero fun e => ?_, e2, ?_⟩
 ·rw [e] at e1
  have := Nat.mul_pos v1 hg
  omega
 ·refine Nat.eq_of_mul_eq_mul_right hg ?_
  have : k * (a * b) * g = k * g * (a * b) := by grind
  rw [this, e1, Nat.mul_assoc s B g, h2]; grind
theorem sA {A B g Y a b : Nat} (ha : 0 < a ∧ a ≤ 48) (hb : 0 < b ∧ b ≤ 48) (hB : 0 < B) (h1 : A * g = a * b * (a * b)) (h2 : B * g = Y) :
  ∃ s, 0 < s ∧ s * s * (yt (A * B)).2 = Y ∧ (yt (A * B)).1 * (s * (yt (A * B)).2) = a * b * B := by
 have hab : 0 < a * b * (a * b) := Nat.mul_pos (Nat.mul_pos ha.1 hb.1) (Nat.mul_pos ha.1 hb.1)
 have hA : 0 < A := Nat.pos_of_ne_zero fun e => by rw [e] at h1; omega
 have hg : 0 < g := Nat.pos_of_ne_zero fun e => by rw [e] at h1; omega
 obtain ⟨v, v1, v2, _⟩ := Yy (Nat.mul_pos hA hB)
 have hf := U2 (Nat.mul_pos hA hB)
 generalize yt (A * B) = q at *
 obtain ⟨k, l⟩ := q
 simp only at *
 obtain ⟨s, e1, e2⟩ := pr (t := k * g) (l := l) (Z := Y) ha hb hf (by
  rw [← h1, ← h2]
  have : k * g * (k * g) * l = k * k * l * (g * g) := by grind
  rw [this, v]; grind)
 refine ⟨s, Nat.pos_of_ne_zero fun e => ?_, e2, ?_⟩
 ·rw [e] at e1
  have := Nat.mul_pos v1 hg
  omega
 ·refine Nat.eq_of_mul_eq_mul_right hg ?_
  have e3 : k * (s * l) * g = k * g * (s * l) := by grind
  have e4 : a * b * s * (s * l) = a * b * (s * s * l) := by grind
  rw [e3, e1, e4, e2, ← h2, Nat.mul_assoc (a * b) B g]
end Go.Ar

namespace Go.Ar
open Go Go.Sx Go.Lib
set_option maxRecDepth 100000
def z7 (a b : zK) : zK := zY (zv a * (zU b : Int) + zv b * (zU a : Int)) (zU a * zU b)
def zM (a b : zK) : zK := zY (zv a * zv b) (zU a * zU b)
def vJ (n d : Int) : zK := bif zA d 0 then zY (-n) (-d).toNat else zY n d.toNat
def zI (a b : zK) : zK := vJ (zv a * (zU b : Int)) ((zU a : Int) * zv b)
theorem WV (n : Int) {d : Nat} (hd : 0 < d) : vJ n (d : Int) = zY n d := by
 unfold vJ
 rw [show zA (d : Int) 0 = false from Bool.eq_false_iff.2 fun e => by have := (zl _ _).1 e; omega]
 rfl
theorem qD (n : Int) {d : Nat} (hd : 0 < d) : vJ n (-(d : Int)) = zY (-n) d := by
 unfold vJ
 rw [(zl _ _).2 (show -(d : Int) < 0 by omega), Int.neg_neg]
 rfl
theorem ZX (n : Int) {d : Nat} (hd : 0 < d) : 0 < zU (zY n d) := by
 obtain ⟨_, _, p3, _⟩ := Zf n hd
 rw [p3]
 exact (xh (n := n) hd).2.1
theorem ZD {n m : Int} {d e : Nat} (hd : 0 < d) (he : 0 < e) : zM (zY n d) (zY m e) = zY (n * m) (d * e) := by
 have a := ZP n hd
 have b := ZP m he
 refine (Z2 (Nat.mul_pos (ZX n hd) (ZX m he)) (Nat.mul_pos hd he)).2 ?_
 generalize zv (zY n d) = N1 at *
 generalize zv (zY m e) = N2 at *
 generalize zU (zY n d) = D1 at *
 generalize zU (zY m e) = D2 at *
 rw [Int.natCast_mul, Int.natCast_mul]
 have h : N1 * N2 * ((d : Int) * (e : Int)) = (N1 * d) * (N2 * e) := by grind
 rw [h, a, b]
 grind
theorem x6 {n m : Int} {d e : Nat} (hd : 0 < d) (he : 0 < e) : z7 (zY n d) (zY m e) = zY (n * e + m * d) (d * e) := by
 have a := ZP n hd
 have b := ZP m he
 refine (Z2 (Nat.mul_pos (ZX n hd) (ZX m he)) (Nat.mul_pos hd he)).2 ?_
 generalize zv (zY n d) = N1 at *
 generalize zv (zY m e) = N2 at *
 generalize zU (zY n d) = D1 at *
 generalize zU (zY m e) = D2 at *
 rw [Int.natCast_mul, Int.natCast_mul]
 have h : (N1 * (D2 : Int) + N2 * (D1 : Int)) * ((d : Int) * (e : Int)) = (N1 * d) * (D2 * e) + (N2 * e) * (D1 * d) := by grind
 rw [h, a, b]
 grind
theorem yK {m e : Nat} (hm : 0 < m) (he : 0 < e) : 0 < zv (zY (m : Int) e) := by
 have b := ZP (m : Int) he
 have p := ZX (m : Int) he
 refine Int.pos_of_mul_pos_left (b := (e : Int)) ?_ (by omega)
 rw [b]
 exact Int.mul_pos (by omega) (by omega)
theorem Yz {n : Int} {m d e : Nat} (hd : 0 < d) (he : 0 < e) (hm : 0 < m) : zI (zY n d) (zY (m : Int) e) = zY (n * e) (d * m) := by
 have a := ZP n hd
 have b := ZP (m : Int) he
 have p := yK hm he
 have q := ZX n hd
 obtain ⟨M, hM⟩ : ∃ M : Nat, zv (zY (m : Int) e) = M := ⟨(zv (zY (m : Int) e)).toNat, by omega⟩
 unfold zI
 rw [hM] at b p ⊢
 rw [← Int.natCast_mul, WV _ (Nat.mul_pos q (by omega))]
 refine (Z2 (Nat.mul_pos q (by omega)) (Nat.mul_pos hd hm)).2 ?_
 rw [Int.natCast_mul, Int.natCast_mul]
 generalize zv (zY n d) = N1 at *
 generalize zU (zY n d) = D1 at *
 generalize zU (zY (m : Int) e) = D2 at *
 have h : N1 * (D2 : Int) * ((d : Int) * (m : Int)) = (N1 * d) * (m * D2) := by grind
 rw [h, a, ← b]
 grind
theorem VK (n : Int) (d : Nat) (hd : 0 < d) : zv (zY (-n) d) = -zv (zY n d) ∧ zU (zY (-n) d) = zU (zY n d) := by
 obtain ⟨_, a2, a3, a4⟩ := Zf n hd
 obtain ⟨_, b2, b3, b4⟩ := Zf (-n) hd
 have a := ZP n hd
 have b := ZP (-n) hd
 refine rX (ZX _ hd) (ZX _ hd) b4 (by rw [Int.natAbs_neg]; exact a4) ?_
 have e : (d : Int) ≠ 0 := by omega
 refine Int.eq_of_mul_eq_mul_right e ?_
 generalize zv (zY n d) = N1 at *
 generalize zU (zY n d) = D1 at *
 generalize zv (zY (-n) d) = N2 at *
 generalize zU (zY (-n) d) = D2 at *
 have h1 : N2 * (D1 : Int) * d = (N2 * d) * D1 := by grind
 have h2 : -N1 * (D2 : Int) * d = -(N1 * d) * D2 := by grind
 rw [h1, h2, a, b]
 grind
theorem rU {n : Int} {m d e : Nat} (hd : 0 < d) (he : 0 < e) (hm : 0 < m) : zI (zY n d) (zY (-(m : Int)) e) = zY (-n * e) (d * m) := by
 obtain ⟨p1, p2⟩ := VK (m : Int) e he
 obtain ⟨q1, q2⟩ := VK n d hd
 have key := Yz (n := -n) hd he hm
 rw [← key]
 have p := yK hm he
 have q := ZX n hd
 obtain ⟨M, hM⟩ : ∃ M : Nat, zv (zY (m : Int) e) = M := ⟨(zv (zY (m : Int) e)).toNat, by omega⟩
 unfold zI
 rw [p1, p2, q1, q2, hM, Int.mul_neg, ← Int.natCast_mul, qD _ (Nat.mul_pos q (by omega)), WV _ (Nat.mul_pos q (by omega)), Int.neg_mul]
theorem VW {n d : Nat} (hn : 0 < n) (hd : 0 < d) : ∃ A g : Nat, zv (zY (n : Int) d) = A ∧ 0 < A ∧ A * g = n ∧ zU (zY (n : Int) d) * g = d := by
 obtain ⟨_, p2, p3, _⟩ := Zf (n : Int) hd
 rw [Int.natAbs_natCast] at p2 p3
 have hg : 0 < Nat.gcd n d := Nat.gcd_pos_of_pos_left _ hn
 refine ⟨n / Nat.gcd n d, Nat.gcd n d, by rw [p2, Int.natCast_ediv], Nat.div_pos (Nat.le_of_dvd hn (Nat.gcd_dvd_left _ _)) hg, Nat.div_mul_cancel (Nat.gcd_dvd_left _ _), by rw [p3]; exact Nat.div_mul_cancel (Nat.gcd_dvd_right _ _)⟩
def k1 (r : zK) : Nat := (yt ((zv r).toNat * zU r)).1
def l1 (r : zK) : Nat := (yt ((zv r).toNat * zU r)).2
theorem SH {X a b : Nat} (hX : 0 < X) (ha : 0 < a ∧ a ≤ 48) (hb : 0 < b ∧ b ≤ 48) : ∃ s, 0 < s ∧ s * s * l1 (zY (X : Int) (a * b * (a * b))) = X ∧
  zY (k1 (zY (X : Int) (a * b * (a * b))) : Int) (zU (zY (X : Int) (a * b * (a * b)))) = zY (s : Int) (a * b) := by
 have hab : 0 < a * b := Nat.mul_pos ha.1 hb.1
 obtain ⟨A, g, h1, h2, h3, h4⟩ := VW hX (Nat.mul_pos hab hab)
 have hp := ZX (X : Int) (Nat.mul_pos hab hab)
 obtain ⟨s, s1, s2, s3⟩ := rA ha hb h2 h3 h4
 unfold k1 l1
 rw [h1, Int.toNat_natCast]
 refine ⟨s, s1, s2, (Z2 hp hab).2 ?_⟩
 exact_mod_cast s3
theorem Tv {Y a b : Nat} (hY : 0 < Y) (ha : 0 < a ∧ a ≤ 48) (hb : 0 < b ∧ b ≤ 48) : ∃ s, 0 < s ∧ s * s * l1 (zY ((a * b * (a * b) : Nat) : Int) Y) = Y ∧
  zY (k1 (zY ((a * b * (a * b) : Nat) : Int) Y) : Int) (zU (zY ((a * b * (a * b) : Nat) : Int) Y)) = zY ((a * b : Nat) : Int) (s * l1 (zY ((a * b * (a * b) : Nat) : Int) Y)) := by
 have hab : 0 < a * b := Nat.mul_pos ha.1 hb.1
 obtain ⟨A, g, h1, h2, h3, h4⟩ := VW (Nat.mul_pos hab hab) hY
 have hp := ZX ((a * b * (a * b) : Nat) : Int) hY
 obtain ⟨s, s1, s2, s3⟩ := sA ha hb hp h3 h4
 unfold k1 l1
 rw [h1, Int.toNat_natCast]
 refine ⟨s, s1, s2, (Z2 hp (Nat.mul_pos s1 (Nat.pos_of_ne_zero fun e => by rw [e] at s2; omega))).2 ?_⟩
 exact_mod_cast s3
theorem Ze {n : Int} : zY n 1 = itoa n := by
 unfold zY ye
 rw [Nat.gcd_one_right]
 simp
theorem Yh (n : Int) : zv (itoa n) = n ∧ zU (itoa n) = 1 ∧ zT (itoa n) = false ∧ Zr (itoa n) = bif Nat.blt 300 (vk n) then 4 else 0 := by
 obtain ⟨h1, h2⟩ := y7 n
 have hs : zT (itoa n) = false := WJ (wM h1)
 obtain ⟨c1, c2⟩ := yx hs
 have hn : zv (itoa n) = n := by unfold zv; rw [c1]; exact h2
 have hd : zU (itoa n) = 1 := by unfold zU; rw [hs]; rfl
 have hl := uo h1
 rw [h2] at hl
 refine ⟨hn, hd, hs, ?_⟩
 have hf : Zy (itoa n) = true := by rw [XO hs]; exact h1
 cases hb : Nat.blt 300 (vk n) with
 | false =>
  refine Zn.2 ⟨hf, ?_, ?_, ?_⟩
  ·rw [c1, hl]
   have : ¬ 300 < vk n := fun e => by rw [(zF _ _).2 e] at hb; cases hb
   omega
  ·rw [c2]; exact Nat.zero_le _
  ·rw [hd, Nat.gcd_one_right]
 | true =>
  have h3 : 300 < vk n := (zF _ _).1 hb
  unfold Zr
  rw [hf, c1, hl, hb]
  rfl
theorem Wy {r : zK} (hn : 0 < zv r) (hd : 0 < zU r) : 0 < k1 r ∧ 0 < l1 r ∧ k1 r * k1 r * l1 r = (zv r).toNat * zU r ∧ yt (l1 r) = (1, l1 r) := by
 obtain ⟨h1, h2, h3, h4⟩ := Yy (Nat.mul_pos (show 0 < (zv r).toNat by omega) hd)
 exact ⟨h2, h3, h1, h4⟩
theorem TK (m : Nat) : k1 (itoa (m : Int)) = (yt m).1 ∧ l1 (itoa (m : Int)) = (yt m).2 := by
 obtain ⟨h1, h2, _⟩ := Yh (m : Int)
 unfold k1 l1
 rw [h1, h2, Int.toNat_natCast, Nat.mul_one]
 exact ⟨rfl, rfl⟩
theorem vM (a b : Int) : zM (itoa a) (itoa b) = itoa (a * b) := by
 rw [← Ze, ← Ze, ZD (by omega) (by omega), Ze]
def ZG (c r : zK) : zK := zM c (zY (k1 r : Int) (zU r))
end Go.Ar
