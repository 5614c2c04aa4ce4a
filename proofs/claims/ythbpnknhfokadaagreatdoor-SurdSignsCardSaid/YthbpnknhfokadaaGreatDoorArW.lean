/- Integer roots by Newton's way, and the normal form of a root over small primes. -/
import Derived.Test.YthbpnknhfokadaaGreatDoorArA
set_option linter.unusedSimpArgs false
set_option linter.unusedVariables false
namespace Go.Ar
set_option maxRecDepth 100000
def uN : Nat → Nat → Nat
 | 0, _ => 0
 | k + 1, n => if (2 * uN k (n / 4) + 1) * (2 * uN k (n / 4) + 1) ≤ n then 2 * uN k (n / 4) + 1 else 2 * uN k (n / 4)
def y7 (n : Nat) : Nat := uN 32 n
theorem Vs : ∀ (k n : Nat), n < 4 ^ k → uN k n * uN k n ≤ n ∧ n < (uN k n + 1) * (uN k n + 1)
 | 0, n, h => by
  have : n = 0 := by simpa using h
  subst this; decide
 | k + 1, n, h => by
  have h4 : n / 4 < 4 ^ k := by rw [Nat.pow_succ] at h; omega
  obtain ⟨h1, h2⟩ := Vs k (n / 4) h4
  unfold uN
  generalize uN k (n / 4) = s at *
  have e1 : 2 * s * (2 * s) = 4 * (s * s) := by grind
  have e2 : (2 * s + 1 + 1) * (2 * s + 1 + 1) = 4 * ((s + 1) * (s + 1)) := by grind
  split
  ·exact ⟨‹_›, by omega⟩
  ·exact ⟨by omega, by omega⟩
theorem xM {n : Nat} (h : n < 18446744073709551616) : y7 n * y7 n ≤ n ∧ n < (y7 n + 1) * (y7 n + 1) := Vs 32 n h
theorem xR {a b : Nat} (h : a * a < b * b) : a < b := Nat.lt_of_not_le fun hb => by have := Nat.mul_le_mul hb hb; omega
theorem nQ {n r : Nat} (h : n < 18446744073709551616) (h1 : r * r ≤ n) (h2 : n < (r + 1) * (r + 1)) : r = y7 n := by
 obtain ⟨s1, s2⟩ := xM h
 have a := xR (a := r) (b := y7 n + 1) (by omega)
 have b := xR (a := y7 n) (b := r + 1) (by omega)
 omega
theorem Mn {k : Nat} (h : k * k < 18446744073709551616) : y7 (k * k) = k := (nQ h (Nat.le_refl _) (by grind)).symm
theorem Pd {n r s : Nat} (hr : 0 < r) (hs : s * s ≤ n) : s ≤ (r + n / r) / 2 := by
 have key : 2 * s - r ≤ n / r := by
  rw [Nat.le_div_iff_mul_le hr]
  refine Nat.le_trans ?_ hs
  rcases Nat.le_total r s with h | h
  ·obtain ⟨d, rfl⟩ := Nat.exists_eq_add_of_le h
   rw [show 2 * (r + d) - r = r + 2 * d by omega]
   grind
  ·rcases Nat.le_total r (2 * s) with h' | h'
   ·obtain ⟨d, rfl⟩ := Nat.exists_eq_add_of_le h
    obtain ⟨e, rfl⟩ : ∃ e, s = d + e := ⟨s - d, by omega⟩
    rw [show 2 * (d + e) - (d + e + d) = e by omega]
    grind
   ·rw [show 2 * s - r = 0 by omega, Nat.zero_mul]; exact Nat.zero_le _
 omega
theorem ss {n r : Nat} (hr : 0 < r) (h : r ≤ (r + n / r) / 2) : r * r ≤ n := by
 have : r ≤ n / r := by omega
 exact (Nat.le_div_iff_mul_le hr).1 this
def wt (p : Nat) : Nat → Nat → Nat → Nat × Nat
 | 0, c, l => (c, l)
 | k + 1, c, l => if l % (p * p) = 0 then wt p k (c * p) (l / (p * p)) else (c, l)
theorem Wn {p l : Nat} (hp : 2 ≤ p) (hl : 0 < l) : l / (p * p) < l := Nat.div_lt_self hl (by have := Nat.mul_le_mul hp hp; omega)
theorem tk {p : Nat} (hp : 2 ≤ p) : ∀ (k j c l : Nat), 0 < l → l ≤ k → l ≤ j → wt p k c l = wt p j c l
 | 0, _, _, _, h, hk, _ => by omega
 | _ + 1, 0, _, _, h, _, hj => by omega
 | k + 1, j + 1, c, l, h, hk, hj => by
  unfold wt
  split
  ·rename_i hm
   have h1 := Wn hp h
   have hpp : 0 < p * p := Nat.mul_pos (by omega) (by omega)
   have h2 : 0 < l / (p * p) := Nat.div_pos (Nat.le_of_dvd h (Nat.dvd_of_mod_eq_zero hm)) hpp
   exact tk hp k j _ _ h2 (by omega) (by omega)
  ·rfl
def strip (p : Nat) (s : Nat × Nat) : Nat × Nat := wt p s.2 s.1 s.2
theorem rG {p c l : Nat} (hp : 2 ≤ p) (hl : 0 < l) (h : l % (p * p) = 0) : strip p (c, l) = strip p (c * p, l / (p * p)) := by
 have hpp : 0 < p * p := Nat.mul_pos (by omega) (by omega)
 have h2 : 0 < l / (p * p) := Nat.div_pos (Nat.le_of_dvd hl (Nat.dvd_of_mod_eq_zero h)) hpp
 have h1 := Wn hp hl
 obtain ⟨m, rfl⟩ : ∃ m, l = m + 1 := ⟨l - 1, by omega⟩
 show wt p (m + 1) c (m + 1) = _
 unfold wt
 rw [if_pos h]
 exact tk hp _ _ _ _ h2 (by omega) (Nat.le_refl _)
theorem Qx {p c l : Nat} (h : ¬ l % (p * p) = 0) : strip p (c, l) = (c, l) := by
 show wt p l c l = _
 cases l with
 | zero => rfl
 | succ m => unfold wt; rw [if_neg h]
structure Jz (s t : Nat × Nat) : Prop where
 val : t.1 * t.1 * t.2 = s.1 * s.1 * s.2
 pos : 0 < t.1 ∧ 0 < t.2
 dvd : t.2 ∣ s.2
theorem TQ {p : Nat} (hp : 2 ≤ p) : ∀ (k c l : Nat), 0 < c → 0 < l → l ≤ k → Jz (c, l) (strip p (c, l)) ∧ ¬ (strip p (c, l)).2 % (p * p) = 0
 | 0, _, _, _, h, hk => by omega
 | k + 1, c, l, hc, hl, hk => by
  by_cases h : l % (p * p) = 0
  ·have hpp : 0 < p * p := Nat.mul_pos (by omega) (by omega)
   have hd := Nat.dvd_of_mod_eq_zero h
   have h2 : 0 < l / (p * p) := Nat.div_pos (Nat.le_of_dvd hl hd) hpp
   have h1 := Wn hp hl
   obtain ⟨⟨v, q, d⟩, e⟩ := TQ hp k (c * p) (l / (p * p)) (Nat.mul_pos hc (by omega)) h2 (by omega)
   rw [rG hp hl h]
   refine ⟨⟨?_, q, Nat.dvd_trans d (Nat.div_dvd_of_dvd hd)⟩, e⟩
   rw [v]
   obtain ⟨m, rfl⟩ := hd
   simp only
   rw [Nat.mul_div_cancel_left _ hpp]
   grind
  ·rw [Qx h]
   exact ⟨⟨rfl, ⟨hc, hl⟩, Nat.dvd_refl _⟩, h⟩
theorem Jz.trans {a b c : Nat × Nat} (h : Jz a b) (g : Jz b c) : Jz a c := ⟨g.val.trans h.val, g.pos, Nat.dvd_trans g.dvd h.dvd⟩
def y8 : List Nat := [2, 3, 5, 7, 11, 13, 17, 19, 23, 29, 31, 37, 41, 43, 47, 53, 59, 61, 67, 71, 73, 79, 83, 89, 97]
def yE : List Nat → Nat × Nat → Nat × Nat
 | [], s => s
 | p :: r, s => yE r (strip p s)
theorem wy : ∀ (ps : List Nat) (s : Nat × Nat), (∀ p ∈ ps, 2 ≤ p) → 0 < s.1 → 0 < s.2 → Jz s (yE ps s) ∧ ∀ p ∈ ps, ¬ (yE ps s).2 % (p * p) = 0
 | [], _, _, hc, hl => ⟨⟨rfl, ⟨hc, hl⟩, Nat.dvd_refl _⟩, fun _ hp => by cases hp⟩
 | p :: r, s, h, hc, hl => by
  obtain ⟨n1, n2⟩ := TQ (h p List.mem_cons_self) s.2 s.1 s.2 hc hl (Nat.le_refl _)
  obtain ⟨m1, m2⟩ := wy r (strip p s) (fun q hq => h q (List.mem_cons_of_mem _ hq)) n1.pos.1 n1.pos.2
  refine ⟨n1.trans m1, fun q hq hm => ?_⟩
  rcases List.mem_cons.1 hq with rfl | hq
  ·exact n2 (Nat.mod_eq_zero_of_dvd (Nat.dvd_trans (Nat.dvd_of_mod_eq_zero hm) m1.dvd))
  ·exact m2 q hq hm
theorem WA : ∀ (ps : List Nat) (c l : Nat), (∀ p ∈ ps, ¬ l % (p * p) = 0) → yE ps (c, l) = (c, l)
 | [], _, _, _ => rfl
 | p :: r, c, l, h => by
  show yE r (strip p (c, l)) = _
  rw [Qx (h p List.mem_cons_self)]
  exact WA r c l fun q hq => h q (List.mem_cons_of_mem _ hq)
theorem WB : ∀ (ps : List Nat) (p : Nat) (s : Nat × Nat), yE (ps ++ [p]) s = strip p (yE ps s)
 | [], _, _ => rfl
 | _ :: r, p, s => WB r p _
theorem pG : ∀ p ∈ y8, 2 ≤ p := by decide
def pj (s : Nat × Nat) : Nat × Nat := if y7 s.2 * y7 s.2 = s.2 then (s.1 * y7 s.2, 1) else s
def nrm (m : Nat) : Nat × Nat := pj (yE y8 (1, m))
theorem UZ {m : Nat} (h : 0 < m) : (nrm m).1 * (nrm m).1 * (nrm m).2 = m ∧ 0 < (nrm m).1 ∧ 0 < (nrm m).2 ∧ nrm (nrm m).2 = (1, (nrm m).2) := by
 obtain ⟨⟨v, ⟨q1, q2⟩, _⟩, e⟩ := wy y8 (1, m) pG Nat.one_pos h
 unfold nrm
 generalize yE y8 (1, m) = s at *
 simp only [Nat.one_mul] at v
 unfold pj
 split
 ·rename_i hs
  refine ⟨?_, Nat.mul_pos q1 (Nat.pos_of_ne_zero fun h0 => by rw [h0] at hs; omega), Nat.one_pos, ?_⟩
  ·simp only
   rw [← v]
   conv => rhs; rw [← hs]
   generalize y7 s.2 = i
   grind
  ·show nrm 1 = (1, 1)
   decide
 ·rename_i hs
  refine ⟨v, q1, q2, ?_⟩
  rw [WA y8 1 s.2 e]
  exact if_neg hs
theorem Tq {a b : Nat} (h : a * a ∣ b * b) : a ∣ b := by
 rcases Nat.eq_zero_or_pos b with rfl | hb
 ·exact Nat.dvd_zero _
 have : a ^ 2 ∣ b ^ 2 := by rw [Nat.pow_two, Nat.pow_two]; exact h
 exact (Nat.pow_dvd_pow_iff (by decide)).1 this
theorem Wq {c l k : Nat} (hc : 0 < c) (h : c * c * l = k * k) : ∃ j, l = j * j ∧ c * j = k := by
 obtain ⟨j, rfl⟩ := Tq (a := c) (b := k) ⟨l, h.symm⟩
 refine ⟨j, ?_, rfl⟩
 have : c * c * l = c * c * (j * j) := by rw [h]; grind
 exact Nat.eq_of_mul_eq_mul_left (Nat.mul_pos hc hc) this
theorem qC {m : Nat} (h : 0 < m) : (nrm m).1 * (nrm m).1 ≤ m ∧ (nrm m).2 ≤ m ∧ (nrm m).1 ≤ m := by
 obtain ⟨h1, h2, h3, _⟩ := UZ h
 have a : (nrm m).1 * (nrm m).1 * 1 ≤ (nrm m).1 * (nrm m).1 * (nrm m).2 := Nat.mul_le_mul_left _ h3
 have b : 1 * (nrm m).2 ≤ (nrm m).1 * (nrm m).1 * (nrm m).2 := Nat.mul_le_mul_right _ (Nat.mul_pos h2 h2)
 have c : (nrm m).1 * 1 ≤ (nrm m).1 * (nrm m).1 := Nat.mul_le_mul_left _ h2
 omega
end Go.Ar

namespace Go.Ar
open Go Go.Sx Go.Lib
set_option maxRecDepth 100000
def Y5 (n d : Int) : zj := bif zg d 0 then ZW (-n) (-d).toNat else ZW n d.toNat
def k1 (r : zj) : Nat := (nrm ((zM r).toNat * zP r)).1
def l1 (r : zj) : Nat := (nrm ((zM r).toNat * zP r)).2
theorem OG {n : Int} : ZW n 1 = itoa n := by
 unfold ZW YM
 rw [Nat.gcd_one_right]
 simp
theorem Mo (n : Int) : zM (itoa n) = n ∧ zP (itoa n) = 1 ∧ zJ (itoa n) = false ∧ zh (itoa n) = bif Nat.blt 300 (Xx n) then 4 else 0 := by
 obtain ⟨h1, h2⟩ := zC n
 have hs : zJ (itoa n) = false := U8 (VS h1)
 obtain ⟨c1, c2⟩ := XS hs
 have hn : zM (itoa n) = n := by unfold zM; rw [c1]; exact h2
 have hd : zP (itoa n) = 1 := by unfold zP; rw [hs]; rfl
 have hl := wY h1
 rw [h2] at hl
 refine ⟨hn, hd, hs, ?_⟩
 have hf : Zn (itoa n) = true := by rw [vV hs]; exact h1
 cases hb : Nat.blt 300 (Xx n) with
 | false =>
  refine Zq.2 ⟨hf, ?_, ?_, ?_⟩
  ·rw [c1, hl]
   have : ¬ 300 < Xx n := fun e => by rw [(Zx _ _).2 e] at hb; cases hb
   omega
  ·rw [c2]; exact Nat.zero_le _
  ·rw [hd, Nat.gcd_one_right]
 | true =>
  have h3 : 300 < Xx n := (Zx _ _).1 hb
  unfold zh
  rw [hf, c1, hl, hb]
  rfl
end Go.Ar

namespace Go.Ar
open Go Go.Lib
set_option maxRecDepth 100000
def zt (q : Rat) : zj := YM q.num q.den
def zF (a : zj) : Rat := mkRat (zM a) (zP a)
theorem Yg (n : Int) {d : Nat} (hd : 0 < d) : ZW n d = zt (mkRat n d) := by
 unfold ZW zt
 rw [Rat.num_mkRat, Rat.den_mkRat, if_neg (by omega), if_neg (by omega), Nat.gcd_comm]
theorem wx (q : Rat) : zM (zt q) = q.num ∧ zP (zt q) = q.den := by
 obtain ⟨_, h1, h2, _⟩ := Xo q.num q.den_pos
 exact ⟨h1, h2⟩
theorem zk (q : Rat) : zF (zt q) = q := by
 unfold zF
 rw [(wx q).1, (wx q).2]
 exact Rat.mkRat_self q
theorem Ry {p q : Rat} (h : zt p = zt q) : p = q := by rw [← zk p, h, zk]
theorem mw {a : zj} (h : zh a = 0) : zt (zF a) = a := by
 unfold zF
 rw [← Yg _ (yn (Zq.1 h).1), qP h]
theorem ZA {a : zj} (h : zh a = 0) : (zF a).num = zM a ∧ (zF a).den = zP a := by
 have h1 := wx (zF a)
 rw [mw h] at h1
 exact ⟨h1.1.symm, h1.2.symm⟩
structure bq (k : Nat) (q : Rat) : Prop where
 num : q.num.natAbs < 10 ^ k
 den : q.den < 10 ^ k
theorem bq.mono {j k : Nat} {q : Rat} (h : bq j q) (hk : j ≤ k) : bq k q :=
 ⟨Nat.lt_of_lt_of_le h.1 (Nat.pow_le_pow_right (by omega) hk), Nat.lt_of_lt_of_le h.2 (Nat.pow_le_pow_right (by omega) hk)⟩
theorem T4 {k : Nat} {n : Int} {d : Nat} (hd : 0 < d) (h1 : n.natAbs < 10 ^ k) (h2 : d < 10 ^ k) : bq k (mkRat n d) := by
 refine ⟨?_, by rw [Rat.den_mkRat, if_neg (by omega)]; exact Nat.lt_of_le_of_lt (Nat.div_le_self _ _) h2⟩
 rw [Rat.num_mkRat, if_neg (by omega)]
 have hnv : ((Nat.gcd d n.natAbs : Nat) : Int) ∣ n := Int.ofNat_dvd_left.2 (Nat.gcd_dvd_right _ _)
 rw [← Int.tdiv_eq_ediv_of_dvd hnv]
 exact Nat.lt_of_le_of_lt (Int.natAbs_tdiv_le_natAbs n _) h1
theorem Ys {a b j k : Nat} (ha : a < 10 ^ j) (hb : b < 10 ^ k) : a * b < 10 ^ (j + k) := by
 rw [Nat.pow_add]
 exact Nat.mul_lt_mul'' ha hb
theorem Qz {j k : Nat} {p q : Rat} (hp : bq j p) (hq : bq k q) : bq (j + k) (p * q) := by
 rw [Rat.mul_def']
 exact T4 (Nat.mul_pos p.den_pos q.den_pos) (by rw [Int.natAbs_mul]; exact Ys hp.1 hq.1) (Ys hp.2 hq.2)
theorem Pr {q : Rat} {k : Nat} (hk : 0 < k) (h : bq k q) (hk2 : k ≤ 300) : zh (zt q) = 0 := by
 obtain ⟨s1, s2, s3, s4, s5⟩ := Xo q.num q.den_pos
 have a1 : Xx q.num ≤ k := xK hk h.1
 have a2 : nDigits q.den ≤ k := (ZX hk).2 h.2
 refine Zq.2 ⟨s1, ?_, ?_, ?_⟩
 ·show XB (zO (YM _ _)) ≤ 300
  rw [s4]; omega
 ·show (zb (YM _ _)).length ≤ 300
  rw [s5]; split <;> omega
 ·show Nat.gcd (zM (YM _ _)).natAbs (zP (YM _ _)) = 1
  rw [s2, s3]; exact q.reduced
structure Ym (k : Nat) (a : zj) : Prop where
 ok : zh a = 0
 bq : bq k (zF a)
theorem ZI {q : Rat} {k : Nat} (hk : 0 < k) (hk2 : k ≤ 300) : Ym k (zt q) ↔ bq k q := by
 have e := zk q
 exact ⟨fun h => e ▸ h.2, fun h => ⟨Pr hk h hk2, e.symm ▸ h⟩⟩
theorem Ym.mono {j k : Nat} {a : zj} (h : Ym j a) (hk : j ≤ k) : Ym k a := ⟨h.1, h.2.mono hk⟩
theorem Ym.parts {k : Nat} {a : zj} (h : Ym k a) : (zM a).natAbs < 10 ^ k ∧ zP a < 10 ^ k ∧ 0 < zP a := by
 have h1 := h.2.1
 have h2 := h.2.2
 rw [(ZA h.1).1] at h1
 rw [(ZA h.1).2] at h2
 exact ⟨h1, h2, yn (Zq.1 h.1).1⟩
theorem Ko {a b : zj} (ha : 0 < zP a) (hb : 0 < zP b) : mkRat (zM a * (zP b : Int) + zM b * (zP a : Int)) (zP a * zP b) = zF a + zF b :=
 (Rat.mkRat_add_mkRat _ _ (by omega) (by omega)).symm
theorem kW (a b : zj) : mkRat (zM a * zM b) (zP a * zP b) = zF a * zF b := (Rat.mkRat_mul_mkRat _ _ _ _).symm
theorem UC (n : Int) : zt (n : Rat) = itoa n := by
 show itoa n ++ (bif Nat.beq 1 1 then [] else _) = itoa n
 exact List.append_nil _
theorem Xe {q : Rat} : (zt q == [48]) = decide (q = 0) := by
 have e : zt 0 = [48] := by decide +kernel
 rw [← e, Bool.eq_iff_iff, beq_iff_eq, decide_eq_true_iff]
 exact ⟨Ry, fun h => by rw [h]⟩
theorem Rp {q : Rat} : (zt q == [49]) = decide (q = 1) := by
 have e : zt 1 = [49] := by decide +kernel
 rw [← e, Bool.eq_iff_iff, beq_iff_eq, decide_eq_true_iff]
 exact ⟨Ry, fun h => by rw [h]⟩
end Go.Ar
