/- Integer roots by Newton's way, and the normal form of a root over small primes. -/
import Derived.Test.YthbpnknhfokadaaGreatDoorArA
set_option linter.unusedSimpArgs false
set_option linter.unusedVariables false
namespace Go.Ar
set_option maxRecDepth 100000
def uz : Nat → Nat → Nat
 | 0, _ => 0
 | k + 1, n => if (2 * uz k (n / 4) + 1) * (2 * uz k (n / 4) + 1) ≤ n then 2 * uz k (n / 4) + 1 else 2 * uz k (n / 4)
def yA (n : Nat) : Nat := uz 32 n
theorem VL : ∀ (k n : Nat), n < 4 ^ k → uz k n * uz k n ≤ n ∧ n < (uz k n + 1) * (uz k n + 1)
 | 0, n, h => by
  have : n = 0 := by simpa using h
  subst this; decide
 | k + 1, n, h => by
  have h4 : n / 4 < 4 ^ k := by rw [Nat.pow_succ] at h; omega
  obtain ⟨h1, h2⟩ := VL k (n / 4) h4
  unfold uz
  generalize uz k (n / 4) = s at *
  have e1 : 2 * s * (2 * s) = 4 * (s * s) := by grind
  have e2 : (2 * s + 1 + 1) * (2 * s + 1 + 1) = 4 * ((s + 1) * (s + 1)) := by grind
  split
  ·exact ⟨‹_›, by omega⟩
  ·exact ⟨by omega, by omega⟩
theorem xO {n : Nat} (h : n < 18446744073709551616) : yA n * yA n ≤ n ∧ n < (yA n + 1) * (yA n + 1) := VL 32 n h
theorem X2 {a b : Nat} (h : a * a < b * b) : a < b := Nat.lt_of_not_le fun hb => by have := Nat.mul_le_mul hb hb; omega
theorem mc {n r : Nat} (h : n < 18446744073709551616) (h1 : r * r ≤ n) (h2 : n < (r + 1) * (r + 1)) : r = yA n := by
 obtain ⟨s1, s2⟩ := xO h
 have a := X2 (a := r) (b := yA n + 1) (by omega)
 have b := X2 (a := yA n) (b := r + 1) (by omega)
 omega
theorem Mx {k : Nat} (h : k * k < 18446744073709551616) : yA (k * k) = k := (mc h (Nat.le_refl _) (by grind)).symm
theorem Pz {n r s : Nat} (hr : 0 < r) (hs : s * s ≤ n) : s ≤ (r + n / r) / 2 := by
 have key : 2 * s - r ≤ n / r := by
  rw [Nat.le_div_iff_mul_le hr]
  refine Nat.le_trans ?_ hs
  rcases Nat.le_total r s with h | h
  ·obtain ⟨d, rfl⟩ := Nat.exists_eq_add_of_le h
   rw [show 2 * (r + d) - r = r + 2 * d by omega]
   grind
  ·rcases Nat.le_total r (2 * s) with h' | h'
   ·obtain ⟨d, rfl⟩ := Nat.exists_eq_add_of_le h
    obtain ⟨e, rfl⟩ : ∃ e, s = d + e := ⟨s - d, by omega⟩
    rw [show 2 * (d + e) - (d + e + d) = e by omega]
    grind
   ·rw [show 2 * s - r = 0 by omega, Nat.zero_mul]; exact Nat.zero_le _
 omega
theorem Tx {n r : Nat} (hr : 0 < r) (h : r ≤ (r + n / r) / 2) : r * r ≤ n := by
 have : r ≤ n / r := by omega
 exact (Nat.le_div_iff_mul_le hr).1 this
def wz (p : Nat) : Nat → Nat → Nat → Nat × Nat
 | 0, c, l => (c, l)
 | k + 1, c, l => if l % (p * p) = 0 then wz p k (c * p) (l / (p * p)) else (c, l)
theorem Wm {p l : Nat} (hp : 2 ≤ p) (hl : 0 < l) : l / (p * p) < l := Nat.div_lt_self hl (by have := Nat.mul_le_mul hp hp; omega)
theorem U6 {p : Nat} (hp : 2 ≤ p) : ∀ (k j c l : Nat), 0 < l → l ≤ k → l ≤ j → wz p k c l = wz p j c l
 | 0, _, _, _, h, hk, _ => by omega
 | _ + 1, 0, _, _, h, _, hj => by omega
 | k + 1, j + 1, c, l, h, hk, hj => by
  unfold wz
  split
  ·rename_i hm
   have h1 := Wm hp h
   have hpp : 0 < p * p := Nat.mul_pos (by omega) (by omega)
   have h2 : 0 < l / (p * p) := Nat.div_pos (Nat.le_of_dvd h (Nat.dvd_of_mod_eq_zero hm)) hpp
   exact U6 hp k j _ _ h2 (by omega) (by omega)
  ·rfl
def strip (p : Nat) (s : Nat × Nat) : Nat × Nat := wz p s.2 s.1 s.2
theorem rG {p c l : Nat} (hp : 2 ≤ p) (hl : 0 < l) (h : l % (p * p) = 0) : strip p (c, l) = strip p (c * p, l / (p * p)) := by
 have hpp : 0 < p * p := Nat.mul_pos (by omega) (by omega)
 have h2 : 0 < l / (p * p) := Nat.div_pos (Nat.le_of_dvd hl (Nat.dvd_of_mod_eq_zero h)) hpp
 have h1 := Wm hp hl
 obtain ⟨m, rfl⟩ : ∃ m, l = m + 1 := ⟨l - 1, by omega⟩
 show wz p (m + 1) c (m + 1) = _
 unfold wz
 rw [if_pos h]
 exact U6 hp _ _ _ _ h2 (by omega) (Nat.le_refl _)
theorem Qj {p c l : Nat} (h : ¬ l % (p * p) = 0) : strip p (c, l) = (c, l) := by
 show wz p l c l = _
 cases l with
 | zero => rfl
 | succ m => unfold wz; rw [if_neg h]
structure JG (s t : Nat × Nat) : Prop where
 val : t.1 * t.1 * t.2 = s.1 * s.1 * s.2
 pos : 0 < t.1 ∧ 0 < t.2
 dvd : t.2 ∣ s.2
theorem T4 {p : Nat} (hp : 2 ≤ p) : ∀ (k c l : Nat), 0 < c → 0 < l → l ≤ k → JG (c, l) (strip p (c, l)) ∧ ¬ (strip p (c, l)).2 % (p * p) = 0
 | 0, _, _, _, h, hk => by omega
 | k + 1, c, l, hc, hl, hk => by
  by_cases h : l % (p * p) = 0
  ·have hpp : 0 < p * p := Nat.mul_pos (by omega) (by omega)
   have hd := Nat.dvd_of_mod_eq_zero h
   have h2 : 0 < l / (p * p) := Nat.div_pos (Nat.le_of_dvd hl hd) hpp
   have h1 := Wm hp hl
   obtain ⟨⟨v, q, d⟩, e⟩ := T4 hp k (c * p) (l / (p * p)) (Nat.mul_pos hc (by omega)) h2 (by omega)
   rw [rG hp hl h]
   refine ⟨⟨?_, q, Nat.dvd_trans d (Nat.div_dvd_of_dvd hd)⟩, e⟩
   rw [v]
   obtain ⟨m, rfl⟩ := hd
   simp only
   rw [Nat.mul_div_cancel_left _ hpp]
   grind
  ·rw [Qj h]
   exact ⟨⟨rfl, ⟨hc, hl⟩, Nat.dvd_refl _⟩, h⟩
theorem JG.trans {a b c : Nat × Nat} (h : JG a b) (g : JG b c) : JG a c := ⟨g.val.trans h.val, g.pos, Nat.dvd_trans g.dvd h.dvd⟩
def y5 : List Nat := [2, 3, 5, 7, 11, 13, 17, 19, 23, 29, 31, 37, 41, 43, 47, 53, 59, 61, 67, 71, 73, 79, 83, 89, 97]
def ye : List Nat → Nat × Nat → Nat × Nat
 | [], s => s
 | p :: r, s => ye r (strip p s)
theorem wt : ∀ (ps : List Nat) (s : Nat × Nat), (∀ p ∈ ps, 2 ≤ p) → 0 < s.1 → 0 < s.2 → JG s (ye ps s) ∧ ∀ p ∈ ps, ¬ (ye ps s).2 % (p * p) = 0
 | [], _, _, hc, hl => ⟨⟨rfl, ⟨hc, hl⟩, Nat.dvd_refl _⟩, fun _ hp => by cases hp⟩
 | p :: r, s, h, hc, hl => by
  obtain ⟨n1, n2⟩ := T4 (h p List.mem_cons_self) s.2 s.1 s.2 hc hl (Nat.le_refl _)
  obtain ⟨m1, m2⟩ := wt r (strip p s) (fun q hq => h q (List.mem_cons_of_mem _ hq)) n1.pos.1 n1.pos.2
  refine ⟨n1.trans m1, fun q hq hm => ?_⟩
  rcases List.mem_cons.1 hq with rfl | hq
  ·exact n2 (Nat.mod_eq_zero_of_dvd (Nat.dvd_trans (Nat.dvd_of_mod_eq_zero hm) m1.dvd))
  ·exact m2 q hq hm
theorem WG : ∀ (ps : List Nat) (c l : Nat), (∀ p ∈ ps, ¬ l % (p * p) = 0) → ye ps (c, l) = (c, l)
 | [], _, _, _ => rfl
 | p :: r, c, l, h => by
  show ye r (strip p (c, l)) = _
  rw [Qj (h p List.mem_cons_self)]
  exact WG r c l fun q hq => h q (List.mem_cons_of_mem _ hq)
theorem Wi : ∀ (ps : List Nat) (p : Nat) (s : Nat × Nat), ye (ps ++ [p]) s = strip p (ye ps s)
 | [], _, _ => rfl
 | _ :: r, p, s => Wi r p _
theorem pn : ∀ p ∈ y5, 2 ≤ p := by decide
def pD (s : Nat × Nat) : Nat × Nat := if yA s.2 * yA s.2 = s.2 then (s.1 * yA s.2, 1) else s
def nrm (m : Nat) : Nat × Nat := pD (ye y5 (1, m))
theorem Uo {m : Nat} (h : 0 < m) : (nrm m).1 * (nrm m).1 * (nrm m).2 = m ∧ 0 < (nrm m).1 ∧ 0 < (nrm m).2 ∧ nrm (nrm m).2 = (1, (nrm m).2) := by
 obtain ⟨⟨v, ⟨q1, q2⟩, _⟩, e⟩ := wt y5 (1, m) pn Nat.one_pos h
 unfold nrm
 generalize ye y5 (1, m) = s at *
 simp only [Nat.one_mul] at v
 unfold pD
 split
 ·rename_i hs
  refine ⟨?_, Nat.mul_pos q1 (Nat.pos_of_ne_zero fun h0 => by rw [h0] at hs; omega), Nat.one_pos, ?_⟩
  ·simp only
   rw [← v]
   conv => rhs; rw [← hs]
   generalize yA s.2 = i
   grind
  ·show nrm 1 = (1, 1)
   decide
 ·rename_i hs
  refine ⟨v, q1, q2, ?_⟩
  rw [WG y5 1 s.2 e]
  exact if_neg hs
theorem tB {a b : Nat} (h : a * a ∣ b * b) : a ∣ b := by
 rcases Nat.eq_zero_or_pos b with rfl | hb
 ·exact Nat.dvd_zero _
 have : a ^ 2 ∣ b ^ 2 := by rw [Nat.pow_two, Nat.pow_two]; exact h
 exact (Nat.pow_dvd_pow_iff (by decide)).1 this
theorem VU {c l k : Nat} (hc : 0 < c) (h : c * c * l = k * k) : ∃ j, l = j * j ∧ c * j = k := by
 obtain ⟨j, rfl⟩ := tB (a := c) (b := k) ⟨l, h.symm⟩
 refine ⟨j, ?_, rfl⟩
 have : c * c * l = c * c * (j * j) := by rw [h]; grind
 exact Nat.eq_of_mul_eq_mul_left (Nat.mul_pos hc hc) this
theorem qx {m : Nat} (h : 0 < m) : (nrm m).1 * (nrm m).1 ≤ m ∧ (nrm m).2 ≤ m ∧ (nrm m).1 ≤ m := by
 obtain ⟨h1, h2, h3, _⟩ := Uo h
 have a : (nrm m).1 * (nrm m).1 * 1 ≤ (nrm m).1 * (nrm m).1 * (nrm m).2 := Nat.mul_le_mul_left _ h3
 have b : 1 * (nrm m).2 ≤ (nrm m).1 * (nrm m).1 * (nrm m).2 := Nat.mul_le_mul_right _ (Nat.mul_pos h2 h2)
 have c : (nrm m).1 * 1 ≤ (nrm m).1 * (nrm m).1 := Nat.mul_le_mul_left _ h2
 omega
end Go.Ar

namespace Go.Ar
open Go Go.Sx Go.Lib
set_option maxRecDepth 100000
def xX (n d : Int) : zj := bif zg d 0 then ZX (-n) (-d).toNat else ZX n d.toNat
def k1 (r : zj) : Nat := (nrm ((zL r).toNat * zP r)).1
def l1 (r : zj) : Nat := (nrm ((zL r).toNat * zP r)).2
theorem Ou {n : Int} : ZX n 1 = itoa n := by
 unfold ZX Yn
 rw [Nat.gcd_one_right]
 simp
theorem mh (n : Int) : zL (itoa n) = n ∧ zP (itoa n) = 1 ∧ zJ (itoa n) = false ∧ zh (itoa n) = bif Nat.blt 300 (x5 n) then 4 else 0 := by
 obtain ⟨h1, h2⟩ := zC n
 have hs : zJ (itoa n) = false := Uk (VW h1)
 obtain ⟨c1, c2⟩ := XX hs
 have hn : zL (itoa n) = n := by unfold zL; rw [c1]; exact h2
 have hd : zP (itoa n) = 1 := by unfold zP; rw [hs]; rfl
 have hl := X6 h1
 rw [h2] at hl
 refine ⟨hn, hd, hs, ?_⟩
 have hf : ZO (itoa n) = true := by rw [vZ hs]; exact h1
 cases hb : Nat.blt 300 (x5 n) with
 | false =>
  refine Zr.2 ⟨hf, ?_, ?_, ?_⟩
  ·rw [c1, hl]
   have : ¬ 300 < x5 n := fun e => by rw [(ZY _ _).2 e] at hb; cases hb
   omega
  ·rw [c2]; exact Nat.zero_le _
  ·rw [hd, Nat.gcd_one_right]
 | true =>
  have h3 : 300 < x5 n := (ZY _ _).1 hb
  unfold zh
  rw [hf, c1, hl, hb]
  rfl
end Go.Ar

namespace Go.Ar
open Go Go.Lib
set_option maxRecDepth 100000
def zT (q : Rat) : zj := Yn q.num q.den
def ze (a : zj) : Rat := mkRat (zL a) (zP a)
theorem Yi (n : Int) {d : Nat} (hd : 0 < d) : ZX n d = zT (mkRat n d) := by
 unfold ZX zT
 rw [Rat.num_mkRat, Rat.den_mkRat, if_neg (by omega), if_neg (by omega), Nat.gcd_comm]
theorem wY (q : Rat) : zL (zT q) = q.num ∧ zP (zT q) = q.den := by
 obtain ⟨_, h1, h2, _⟩ := Xp q.num q.den_pos
 exact ⟨h1, h2⟩
theorem zm (q : Rat) : ze (zT q) = q := by
 unfold ze
 rw [(wY q).1, (wY q).2]
 exact Rat.mkRat_self q
theorem RX {p q : Rat} (h : zT p = zT q) : p = q := by rw [← zm p, h, zm]
theorem nE {a : zj} (h : zh a = 0) : zT (ze a) = a := by
 unfold ze
 rw [← Yi _ (yo (Zr.1 h).1), R8 h]
theorem Z0 {a : zj} (h : zh a = 0) : (ze a).num = zL a ∧ (ze a).den = zP a := by
 have h1 := wY (ze a)
 rw [nE h] at h1
 exact ⟨h1.1.symm, h1.2.symm⟩
structure bq (k : Nat) (q : Rat) : Prop where
 num : q.num.natAbs < 10 ^ k
 den : q.den < 10 ^ k
theorem bq.mono {j k : Nat} {q : Rat} (h : bq j q) (hk : j ≤ k) : bq k q :=
 ⟨Nat.lt_of_lt_of_le h.1 (Nat.pow_le_pow_right (by omega) hk), Nat.lt_of_lt_of_le h.2 (Nat.pow_le_pow_right (by omega) hk)⟩
theorem Tj {k : Nat} {n : Int} {d : Nat} (hd : 0 < d) (h1 : n.natAbs < 10 ^ k) (h2 : d < 10 ^ k) : bq k (mkRat n d) := by
 refine ⟨?_, by rw [Rat.den_mkRat, if_neg (by omega)]; exact Nat.lt_of_le_of_lt (Nat.div_le_self _ _) h2⟩
 rw [Rat.num_mkRat, if_neg (by omega)]
 have hnv : ((Nat.gcd d n.natAbs : Nat) : Int) ∣ n := Int.ofNat_dvd_left.2 (Nat.gcd_dvd_right _ _)
 rw [← Int.tdiv_eq_ediv_of_dvd hnv]
 exact Nat.lt_of_le_of_lt (Int.natAbs_tdiv_le_natAbs n _) h1
theorem Yr {a b j k : Nat} (ha : a < 10 ^ j) (hb : b < 10 ^ k) : a * b < 10 ^ (j + k) := by
 rw [Nat.pow_add]
 exact Nat.mul_lt_mul'' ha hb
theorem qc {j k : Nat} {p q : Rat} (hp : bq j p) (hq : bq k q) : bq (j + k) (p * q) := by
 rw [Rat.mul_def']
 exact Tj (Nat.mul_pos p.den_pos q.den_pos) (by rw [Int.natAbs_mul]; exact Yr hp.1 hq.1) (Yr hp.2 hq.2)
theorem jm {k : Nat} {q : Rat} (h : bq k q) : bq k (-q) := ⟨by rw [Rat.neg_num, Int.natAbs_neg]; exact h.1, h.2⟩
theorem pS {q : Rat} {k : Nat} (hk : 0 < k) (h : bq k q) (hk2 : k ≤ 300) : zh (zT q) = 0 := by
 obtain ⟨s1, s2, s3, s4, s5⟩ := Xp q.num q.den_pos
 have a1 : x5 q.num ≤ k := xM hk h.1
 have a2 : nDigits q.den ≤ k := (Zx hk).2 h.2
 refine Zr.2 ⟨s1, ?_, ?_, ?_⟩
 ·show X0 (zn (Yn _ _)) ≤ 300
  rw [s4]; omega
 ·show (zB (Yn _ _)).length ≤ 300
  rw [s5]; split <;> omega
 ·show Nat.gcd (zL (Yn _ _)).natAbs (zP (Yn _ _)) = 1
  rw [s2, s3]; exact q.reduced
structure Yo (k : Nat) (a : zj) : Prop where
 ok : zh a = 0
 bq : bq k (ze a)
theorem ZH {q : Rat} {k : Nat} (hk : 0 < k) (hk2 : k ≤ 300) : Yo k (zT q) ↔ bq k q := by
 have e := zm q
 exact ⟨fun h => e ▸ h.2, fun h => ⟨pS hk h hk2, e.symm ▸ h⟩⟩
theorem Yo.mono {j k : Nat} {a : zj} (h : Yo j a) (hk : j ≤ k) : Yo k a := ⟨h.1, h.2.mono hk⟩
theorem Yo.parts {k : Nat} {a : zj} (h : Yo k a) : (zL a).natAbs < 10 ^ k ∧ zP a < 10 ^ k ∧ 0 < zP a := by
 have h1 := h.2.1
 have h2 := h.2.2
 rw [(Z0 h.1).1] at h1
 rw [(Z0 h.1).2] at h2
 exact ⟨h1, h2, yo (Zr.1 h.1).1⟩
theorem Kz {a b : zj} (ha : 0 < zP a) (hb : 0 < zP b) : mkRat (zL a * (zP b : Int) + zL b * (zP a : Int)) (zP a * zP b) = ze a + ze b :=
 (Rat.mkRat_add_mkRat _ _ (by omega) (by omega)).symm
theorem LL (a b : zj) : mkRat (zL a * zL b) (zP a * zP b) = ze a * ze b := (Rat.mkRat_mul_mkRat _ _ _ _).symm
theorem UB (n : Int) : zT (n : Rat) = itoa n := by
 show itoa n ++ (bif Nat.beq 1 1 then [] else _) = itoa n
 exact List.append_nil _
theorem XE {q : Rat} : (zT q == [48]) = decide (q = 0) := by
 have e : zT 0 = [48] := by decide +kernel
 rw [← e, Bool.eq_iff_iff, beq_iff_eq, decide_eq_true_iff]
 exact ⟨RX, fun h => by rw [h]⟩
theorem vg {q : Rat} : (zT q == [49]) = decide (q = 1) := by
 have e : zT 1 = [49] := by decide +kernel
 rw [← e, Bool.eq_iff_iff, beq_iff_eq, decide_eq_true_iff]
 exact ⟨RX, fun h => by rw [h]⟩
end Go.Ar
