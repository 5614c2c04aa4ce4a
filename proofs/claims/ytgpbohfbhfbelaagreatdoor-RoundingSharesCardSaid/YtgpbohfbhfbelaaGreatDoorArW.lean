/- Integer roots by Newton's way, and the normal form of a root over small primes. -/
import Derived.Test.YtgpbohfbhfbelaaGreatDoorArA
set_option linter.unusedSimpArgs false
set_option linter.unusedVariables false
namespace Go.Ar
set_option maxRecDepth 100000
def XH : Nat → Nat → Nat
 | 0, _ => 0
 | k + 1, n => if (2 * XH k (n / 4) + 1) * (2 * XH k (n / 4) + 1) ≤ n then 2 * XH k (n / 4) + 1 else 2 * XH k (n / 4)
def Yx (n : Nat) : Nat := XH 32 n
theorem vw : ∀ (k n : Nat), n < 4 ^ k → XH k n * XH k n ≤ n ∧ n < (XH k n + 1) * (XH k n + 1)
 | 0, n, h => by
  have : n = 0 := by simpa using h
  subst this; decide
 | k + 1, n, h => by
  have h4 : n / 4 < 4 ^ k := by rw [Nat.pow_succ] at h; omega
  obtain ⟨h1, h2⟩ := vw k (n / 4) h4
  unfold XH
  generalize XH k (n / 4) = s at *
  have e1 : 2 * s * (2 * s) = 4 * (s * s) := by grind
  have e2 : (2 * s + 1 + 1) * (2 * s + 1 + 1) = 4 * ((s + 1) * (s + 1)) := by grind
  split
  ·exact ⟨‹_›, by omega⟩
  ·exact ⟨by omega, by omega⟩
theorem xG {n : Nat} (h : n < 18446744073709551616) : Yx n * Yx n ≤ n ∧ n < (Yx n + 1) * (Yx n + 1) := vw 32 n h
theorem X7 {a b : Nat} (h : a * a < b * b) : a < b := Nat.lt_of_not_le fun hb => by have := Nat.mul_le_mul hb hb; omega
theorem LZ {n r : Nat} (h : n < 18446744073709551616) (h1 : r * r ≤ n) (h2 : n < (r + 1) * (r + 1)) : r = Yx n := by
 obtain ⟨s1, s2⟩ := xG h
 have a := X7 (a := r) (b := Yx n + 1) (by omega)
 have b := X7 (a := Yx n) (b := r + 1) (by omega)
 omega
theorem LV {k : Nat} (h : k * k < 18446744073709551616) : Yx (k * k) = k := (LZ h (Nat.le_refl _) (by grind)).symm
theorem oG {n r s : Nat} (hr : 0 < r) (hs : s * s ≤ n) : s ≤ (r + n / r) / 2 := by
 have key : 2 * s - r ≤ n / r := by
  rw [Nat.le_div_iff_mul_le hr]
  refine Nat.le_trans ?_ hs
  rcases Nat.le_total r s with h | h
  ·obtain ⟨d, rfl⟩ := Nat.exists_eq_add_of_le h
   rw [show 2 * (r + d) - r = r + 2 * d by omega]
   grind
  ·rcases Nat.le_total r (2 * s) with h' | h'
   ·obtain ⟨d, rfl⟩ := Nat.exists_eq_add_of_le h
    obtain ⟨e, rfl⟩ : ∃ e, s = d + e := ⟨s - d, by omega⟩
    rw [show 2 * (d + e) - (d + e + d) = e by omega]
    grind
   ·rw [show 2 * s - r = 0 by omega, Nat.zero_mul]; exact Nat.zero_le _
 omega
theorem sF {n r : Nat} (hr : 0 < r) (h : r ≤ (r + n / r) / 2) : r * r ≤ n := by
 have : r ≤ n / r := by omega
 exact (Nat.le_div_iff_mul_le hr).1 this
def wI (p : Nat) : Nat → Nat → Nat → Nat × Nat
 | 0, c, l => (c, l)
 | k + 1, c, l => if l % (p * p) = 0 then wI p k (c * p) (l / (p * p)) else (c, l)
theorem vz {p l : Nat} (hp : 2 ≤ p) (hl : 0 < l) : l / (p * p) < l := Nat.div_lt_self hl (by have := Nat.mul_le_mul hp hp; omega)
theorem ta {p : Nat} (hp : 2 ≤ p) : ∀ (k j c l : Nat), 0 < l → l ≤ k → l ≤ j → wI p k c l = wI p j c l
 | 0, _, _, _, h, hk, _ => by omega
 | _ + 1, 0, _, _, h, _, hj => by omega
 | k + 1, j + 1, c, l, h, hk, hj => by
  unfold wI
  split
  ·rename_i hm
   have h1 := vz hp h
   have hpp : 0 < p * p := Nat.mul_pos (by omega) (by omega)
   have h2 : 0 < l / (p * p) := Nat.div_pos (Nat.le_of_dvd h (Nat.dvd_of_mod_eq_zero hm)) hpp
   exact ta hp k j _ _ h2 (by omega) (by omega)
  ·rfl
def strip (p : Nat) (s : Nat × Nat) : Nat × Nat := wI p s.2 s.1 s.2
theorem qF {p c l : Nat} (hp : 2 ≤ p) (hl : 0 < l) (h : l % (p * p) = 0) : strip p (c, l) = strip p (c * p, l / (p * p)) := by
 have hpp : 0 < p * p := Nat.mul_pos (by omega) (by omega)
 have h2 : 0 < l / (p * p) := Nat.div_pos (Nat.le_of_dvd hl (Nat.dvd_of_mod_eq_zero h)) hpp
 have h1 := vz hp hl
 obtain ⟨m, rfl⟩ : ∃ m, l = m + 1 := ⟨l - 1, by omega⟩
 show wI p (m + 1) c (m + 1) = _
 unfold wI
 rw [if_pos h]
 exact ta hp _ _ _ _ h2 (by omega) (Nat.le_refl _)
theorem PY {p c l : Nat} (h : ¬ l % (p * p) = 0) : strip p (c, l) = (c, l) := by
 show wI p l c l = _
 cases l with
 | zero => rfl
 | succ m => unfold wI; rw [if_neg h]
structure Hb (s t : Nat × Nat) : Prop where
 val : t.1 * t.1 * t.2 = s.1 * s.1 * s.2
 pos : 0 < t.1 ∧ 0 < t.2
 dvd : t.2 ∣ s.2
theorem sA {p : Nat} (hp : 2 ≤ p) : ∀ (k c l : Nat), 0 < c → 0 < l → l ≤ k → Hb (c, l) (strip p (c, l)) ∧ ¬ (strip p (c, l)).2 % (p * p) = 0
 | 0, _, _, _, h, hk => by omega
 | k + 1, c, l, hc, hl, hk => by
  by_cases h : l % (p * p) = 0
  ·have hpp : 0 < p * p := Nat.mul_pos (by omega) (by omega)
   have hd := Nat.dvd_of_mod_eq_zero h
   have h2 : 0 < l / (p * p) := Nat.div_pos (Nat.le_of_dvd hl hd) hpp
   have h1 := vz hp hl
   obtain ⟨⟨v, q, d⟩, e⟩ := sA hp k (c * p) (l / (p * p)) (Nat.mul_pos hc (by omega)) h2 (by omega)
   rw [qF hp hl h]
   refine ⟨⟨?_, q, Nat.dvd_trans d (Nat.div_dvd_of_dvd hd)⟩, e⟩
   rw [v]
   obtain ⟨m, rfl⟩ := hd
   simp only
   rw [Nat.mul_div_cancel_left _ hpp]
   grind
  ·rw [PY h]
   exact ⟨⟨rfl, ⟨hc, hl⟩, Nat.dvd_refl _⟩, h⟩
theorem Hb.trans {a b c : Nat × Nat} (h : Hb a b) (g : Hb b c) : Hb a c := ⟨g.val.trans h.val, g.pos, Nat.dvd_trans g.dvd h.dvd⟩
def YW : List Nat := [2, 3, 5, 7, 11, 13, 17, 19, 23, 29, 31, 37, 41, 43, 47, 53, 59, 61, 67, 71, 73, 79, 83, 89, 97]
def y8 : List Nat → Nat × Nat → Nat × Nat
 | [], s => s
 | p :: r, s => y8 r (strip p s)
theorem wB : ∀ (ps : List Nat) (s : Nat × Nat), (∀ p ∈ ps, 2 ≤ p) → 0 < s.1 → 0 < s.2 → Hb s (y8 ps s) ∧ ∀ p ∈ ps, ¬ (y8 ps s).2 % (p * p) = 0
 | [], _, _, hc, hl => ⟨⟨rfl, ⟨hc, hl⟩, Nat.dvd_refl _⟩, fun _ hp => by cases hp⟩
 | p :: r, s, h, hc, hl => by
  obtain ⟨n1, n2⟩ := sA (h p List.mem_cons_self) s.2 s.1 s.2 hc hl (Nat.le_refl _)
  obtain ⟨m1, m2⟩ := wB r (strip p s) (fun q hq => h q (List.mem_cons_of_mem _ hq)) n1.pos.1 n1.pos.2
  refine ⟨n1.trans m1, fun q hq hm => ?_⟩
  rcases List.mem_cons.1 hq with rfl | hq
  ·exact n2 (Nat.mod_eq_zero_of_dvd (Nat.dvd_trans (Nat.dvd_of_mod_eq_zero hm) m1.dvd))
  ·exact m2 q hq hm
theorem vk : ∀ (ps : List Nat) (c l : Nat), (∀ p ∈ ps, ¬ l % (p * p) = 0) → y8 ps (c, l) = (c, l)
 | [], _, _, _ => rfl
 | p :: r, c, l, h => by
  show y8 r (strip p (c, l)) = _
  rw [PY (h p List.mem_cons_self)]
  exact vk r c l fun q hq => h q (List.mem_cons_of_mem _ hq)
theorem vL : ∀ (ps : List Nat) (p : Nat) (s : Nat × Nat), y8 (ps ++ [p]) s = strip p (y8 ps s)
 | [], _, _ => rfl
 | _ :: r, p, s => vL r p _
theorem oC : ∀ p ∈ YW, 2 ≤ p := by decide
def OW (s : Nat × Nat) : Nat × Nat := if Yx s.2 * Yx s.2 = s.2 then (s.1 * Yx s.2, 1) else s
def nrm (m : Nat) : Nat × Nat := OW (y8 YW (1, m))
theorem tW {m : Nat} (h : 0 < m) : (nrm m).1 * (nrm m).1 * (nrm m).2 = m ∧ 0 < (nrm m).1 ∧ 0 < (nrm m).2 ∧ nrm (nrm m).2 = (1, (nrm m).2) := by
 obtain ⟨⟨v, ⟨q1, q2⟩, _⟩, e⟩ := wB YW (1, m) oC Nat.one_pos h
 unfold nrm
 generalize y8 YW (1, m) = s at *
 simp only [Nat.one_mul] at v
 unfold OW
 split
 ·rename_i hs
  refine ⟨?_, Nat.mul_pos q1 (Nat.pos_of_ne_zero fun h0 => by rw [h0] at hs; omega), Nat.one_pos, ?_⟩
  ·simp only
   rw [← v]
   conv => rhs; rw [← hs]
   generalize Yx s.2 = i
   grind
  ·show nrm 1 = (1, 1)
   decide
 ·rename_i hs
  refine ⟨v, q1, q2, ?_⟩
  rw [vk YW 1 s.2 e]
  exact if_neg hs
theorem Sp {a b : Nat} (h : a * a ∣ b * b) : a ∣ b := by
 rcases Nat.eq_zero_or_pos b with rfl | hb
 ·exact Nat.dvd_zero _
 have : a ^ 2 ∣ b ^ 2 := by rw [Nat.pow_two, Nat.pow_two]; exact h
 exact (Nat.pow_dvd_pow_iff (by decide)).1 this
theorem uO {c l k : Nat} (hc : 0 < c) (h : c * c * l = k * k) : ∃ j, l = j * j ∧ c * j = k := by
 obtain ⟨j, rfl⟩ := Sp (a := c) (b := k) ⟨l, h.symm⟩
 refine ⟨j, ?_, rfl⟩
 have : c * c * l = c * c * (j * j) := by rw [h]; grind
 exact Nat.eq_of_mul_eq_mul_left (Nat.mul_pos hc hc) this
theorem MI {m : Nat} (h : 0 < m) : (nrm m).1 * (nrm m).1 ≤ m ∧ (nrm m).2 ≤ m ∧ (nrm m).1 ≤ m := by
 obtain ⟨h1, h2, h3, _⟩ := tW h
 have a : (nrm m).1 * (nrm m).1 * 1 ≤ (nrm m).1 * (nrm m).1 * (nrm m).2 := Nat.mul_le_mul_left _ h3
 have b : 1 * (nrm m).2 ≤ (nrm m).1 * (nrm m).1 * (nrm m).2 := Nat.mul_le_mul_right _ (Nat.mul_pos h2 h2)
 have c : (nrm m).1 * 1 ≤ (nrm m).1 * (nrm m).1 := Nat.mul_le_mul_left _ h2
 omega
end Go.Ar

namespace Go.Ar
open Go Go.Sx Go.Lib
set_option maxRecDepth 100000
def xw (n d : Int) : zj := bif zM d 0 then ZI (-n) (-d).toNat else ZI n d.toNat
def k1 (r : zj) : Nat := (nrm ((zL r).toNat * zo r)).1
def l1 (r : zj) : Nat := (nrm ((zL r).toNat * zo r)).2
theorem nC {n : Int} : ZI n 1 = itoa n := by
 unfold ZI YP
 rw [Nat.gcd_one_right]
 simp
theorem Mv (n : Int) : zL (itoa n) = n ∧ zo (itoa n) = 1 ∧ zg (itoa n) = false ∧ zH (itoa n) = bif Nat.blt 300 (Xu n) then 4 else 0 := by
 obtain ⟨h1, h2⟩ := za n
 have hs : zg (itoa n) = false := tq (V0 h1)
 obtain ⟨c1, c2⟩ := Xm hs
 have hn : zL (itoa n) = n := by unfold zL; rw [c1]; exact h2
 have hd : zo (itoa n) = 1 := by unfold zo; rw [hs]; rfl
 have hl := wo h1
 rw [h2] at hl
 refine ⟨hn, hd, hs, ?_⟩
 have hf : ZO (itoa n) = true := by rw [vI hs]; exact h1
 cases hb : Nat.blt 300 (Xu n) with
 | false =>
  refine Zr.2 ⟨hf, ?_, ?_, ?_⟩
  ·rw [c1, hl]
   have : ¬ 300 < Xu n := fun e => by rw [(Zx _ _).2 e] at hb; cases hb
   omega
  ·rw [c2]; exact Nat.zero_le _
  ·rw [hd, Nat.gcd_one_right]
 | true =>
  have h3 : 300 < Xu n := (Zx _ _).1 hb
  unfold zH
  rw [hf, c1, hl, hb]
  rfl
end Go.Ar

namespace Go.Ar
open Go Go.Lib
set_option maxRecDepth 100000
def zu (q : Rat) : zj := YP q.num q.den
def zP (a : zj) : Rat := mkRat (zL a) (zo a)
theorem xn (n : Int) {d : Nat} (hd : 0 < d) : ZI n d = zu (mkRat n d) := by
 unfold ZI zu
 rw [Rat.num_mkRat, Rat.den_mkRat, if_neg (by omega), if_neg (by omega), Nat.gcd_comm]
theorem w6 (q : Rat) : zL (zu q) = q.num ∧ zo (zu q) = q.den := by
 obtain ⟨_, h1, h2, _⟩ := Wm q.num q.den_pos
 exact ⟨h1, h2⟩
theorem zn (q : Rat) : zP (zu q) = q := by
 unfold zP
 rw [(w6 q).1, (w6 q).2]
 exact Rat.mkRat_self q
theorem RF {p q : Rat} (h : zu p = zu q) : p = q := by rw [← zn p, h, zn]
theorem mE {a : zj} (h : zH a = 0) : zu (zP a) = a := by
 unfold zP
 rw [← xn _ (Yz (Zr.1 h).1), PT h]
theorem ZE {a : zj} (h : zH a = 0) : (zP a).num = zL a ∧ (zP a).den = zo a := by
 have h1 := w6 (zP a)
 rw [mE h] at h1
 exact ⟨h1.1.symm, h1.2.symm⟩
structure bq (k : Nat) (q : Rat) : Prop where
 num : q.num.natAbs < 10 ^ k
 den : q.den < 10 ^ k
theorem bq.mono {j k : Nat} {q : Rat} (h : bq j q) (hk : j ≤ k) : bq k q :=
 ⟨Nat.lt_of_lt_of_le h.1 (Nat.pow_le_pow_right (by omega) hk), Nat.lt_of_lt_of_le h.2 (Nat.pow_le_pow_right (by omega) hk)⟩
theorem sr {k : Nat} {n : Int} {d : Nat} (hd : 0 < d) (h1 : n.natAbs < 10 ^ k) (h2 : d < 10 ^ k) : bq k (mkRat n d) := by
 refine ⟨?_, by rw [Rat.den_mkRat, if_neg (by omega)]; exact Nat.lt_of_le_of_lt (Nat.div_le_self _ _) h2⟩
 rw [Rat.num_mkRat, if_neg (by omega)]
 have hnv : ((Nat.gcd d n.natAbs : Nat) : Int) ∣ n := Int.ofNat_dvd_left.2 (Nat.gcd_dvd_right _ _)
 rw [← Int.tdiv_eq_ediv_of_dvd hnv]
 exact Nat.lt_of_le_of_lt (Int.natAbs_tdiv_le_natAbs n _) h1
theorem YV {a b j k : Nat} (ha : a < 10 ^ j) (hb : b < 10 ^ k) : a * b < 10 ^ (j + k) := by
 rw [Nat.pow_add]
 exact Nat.mul_lt_mul'' ha hb
theorem PH {j k : Nat} {p q : Rat} (hp : bq j p) (hq : bq k q) : bq (j + k) (p * q) := by
 rw [Rat.mul_def']
 exact sr (Nat.mul_pos p.den_pos q.den_pos) (by rw [Int.natAbs_mul]; exact YV hp.1 hq.1) (YV hp.2 hq.2)
theorem oU {q : Rat} {k : Nat} (hk : 0 < k) (h : bq k q) (hk2 : k ≤ 300) : zH (zu q) = 0 := by
 obtain ⟨s1, s2, s3, s4, s5⟩ := Wm q.num q.den_pos
 have a1 : Xu q.num ≤ k := x5 hk h.1
 have a2 : nDigits q.den ≤ k := (ZX hk).2 h.2
 refine Zr.2 ⟨s1, ?_, ?_, ?_⟩
 ·show X3 (zm (YP _ _)) ≤ 300
  rw [s4]; omega
 ·show (z6 (YP _ _)).length ≤ 300
  rw [s5]; split <;> omega
 ·show Nat.gcd (zL (YP _ _)).natAbs (zo (YP _ _)) = 1
  rw [s2, s3]; exact q.reduced
structure yX (k : Nat) (a : zj) : Prop where
 ok : zH a = 0
 bq : bq k (zP a)
theorem Zm {q : Rat} {k : Nat} (hk : 0 < k) (hk2 : k ≤ 300) : yX k (zu q) ↔ bq k q := by
 have e := zn q
 exact ⟨fun h => e ▸ h.2, fun h => ⟨oU hk h hk2, e.symm ▸ h⟩⟩
theorem yX.mono {j k : Nat} {a : zj} (h : yX j a) (hk : j ≤ k) : yX k a := ⟨h.1, h.2.mono hk⟩
theorem yX.parts {k : Nat} {a : zj} (h : yX k a) : (zL a).natAbs < 10 ^ k ∧ zo a < 10 ^ k ∧ 0 < zo a := by
 have h1 := h.2.1
 have h2 := h.2.2
 rw [(ZE h.1).1] at h1
 rw [(ZE h.1).2] at h2
 exact ⟨h1, h2, Yz (Zr.1 h.1).1⟩
theorem kK {a b : zj} (ha : 0 < zo a) (hb : 0 < zo b) : mkRat (zL a * (zo b : Int) + zL b * (zo a : Int)) (zo a * zo b) = zP a + zP b :=
 (Rat.mkRat_add_mkRat _ _ (by omega) (by omega)).symm
theorem Kt (a b : zj) : mkRat (zL a * zL b) (zo a * zo b) = zP a * zP b := (Rat.mkRat_mul_mkRat _ _ _ _).symm
theorem j6 {a b : zj} (ha : 0 < zo a) (hb : 0 < zo b) : mkRat (zL a * (zo b : Int) - zL b * (zo a : Int)) (zo a * zo b) = zP a - zP b := by
 rw [Rat.sub_eq_add_neg]
 unfold zP
 rw [Rat.neg_mkRat, Rat.mkRat_add_mkRat _ _ (by omega) (by omega)]
 congr 1
 rw [Int.neg_mul]; rfl
theorem qD (n : Int) : zu (n : Rat) = itoa n := by
 show itoa n ++ (bif Nat.beq 1 1 then [] else _) = itoa n
 exact List.append_nil _
theorem ws {q : Rat} : (zu q == [48]) = decide (q = 0) := by
 have e : zu 0 = [48] := by decide +kernel
 rw [← e, Bool.eq_iff_iff, beq_iff_eq, decide_eq_true_iff]
 exact ⟨RF, fun h => by rw [h]⟩
theorem qM {q : Rat} : (zu q == [49]) = decide (q = 1) := by
 have e : zu 1 = [49] := by decide +kernel
 rw [← e, Bool.eq_iff_iff, beq_iff_eq, decide_eq_true_iff]
 exact ⟨RF, fun h => by rw [h]⟩
end Go.Ar
