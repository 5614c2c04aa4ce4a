/- Integer roots by Newton's way, and the normal form of a root over small primes. -/
import Derived.Test.YtinnclmkhedgeaaGreatDoorArA
set_option linter.unusedSimpArgs false
set_option linter.unusedVariables false
namespace Go.Ar
set_option maxRecDepth 100000
def w5 : Nat → Nat → Nat
 | 0, _ => 0
 | k + 1, n => if (2 * w5 k (n / 4) + 1) * (2 * w5 k (n / 4) + 1) ≤ n then 2 * w5 k (n / 4) + 1 else 2 * w5 k (n / 4)
def XM (n : Nat) : Nat := w5 32 n
theorem vu : ∀ (k n : Nat), n < 4 ^ k → w5 k n * w5 k n ≤ n ∧ n < (w5 k n + 1) * (w5 k n + 1)
 | 0, n, h => by
  have : n = 0 := by simpa using h
  subst this; decide
 | k + 1, n, h => by
  have h4 : n / 4 < 4 ^ k := by rw [Nat.pow_succ] at h; omega
  obtain ⟨h1, h2⟩ := vu k (n / 4) h4
  unfold w5
  generalize w5 k (n / 4) = s at *
  have e1 : 2 * s * (2 * s) = 4 * (s * s) := by grind
  have e2 : (2 * s + 1 + 1) * (2 * s + 1 + 1) = 4 * ((s + 1) * (s + 1)) := by grind
  split
  ·exact ⟨‹_›, by omega⟩
  ·exact ⟨by omega, by omega⟩
theorem wG {n : Nat} (h : n < 18446744073709551616) : XM n * XM n ≤ n ∧ n < (XM n + 1) * (XM n + 1) := vu 32 n h
theorem vi {a b : Nat} (h : a * a < b * b) : a < b := Nat.lt_of_not_le fun hb => by have := Nat.mul_le_mul hb hb; omega
theorem qd {n r : Nat} (h : n < 18446744073709551616) (h1 : r * r ≤ n) (h2 : n < (r + 1) * (r + 1)) : r = XM n := by
 obtain ⟨s1, s2⟩ := wG h
 have a := vi (a := r) (b := XM n + 1) (by omega)
 have b := vi (a := XM n) (b := r + 1) (by omega)
 omega
theorem rG {n r s : Nat} (hr : 0 < r) (hs : s * s ≤ n) : s ≤ (r + n / r) / 2 := by
 have key : 2 * s - r ≤ n / r := by
  rw [Nat.le_div_iff_mul_le hr]
  refine Nat.le_trans ?_ hs
  rcases Nat.le_total r s with h | h
  ·obtain ⟨d, rfl⟩ := Nat.exists_eq_add_of_le h
   rw [show 2 * (r + d) - r = r + 2 * d by omega]
   grind
  ·rcases Nat.le_total r (2 * s) with h' | h'
   ·obtain ⟨d, rfl⟩ := Nat.exists_eq_add_of_le h
    obtain ⟨e, rfl⟩ : ∃ e, s = d + e := ⟨s - d, by omega⟩
    rw [show 2 * (d + e) - (d + e + d) = e by omega]
    grind
   ·rw [show 2 * s - r = 0 by omega, Nat.zero_mul]; exact Nat.zero_le _
 omega
theorem TT {n r : Nat} (hr : 0 < r) (h : r ≤ (r + n / r) / 2) : r * r ≤ n := by
 have : r ≤ n / r := by omega
 exact (Nat.le_div_iff_mul_le hr).1 this
def YK (p : Nat) : Nat → Nat → Nat → Nat × Nat
 | 0, c, l => (c, l)
 | k + 1, c, l => if l % (p * p) = 0 then YK p k (c * p) (l / (p * p)) else (c, l)
theorem xN {p l : Nat} (hp : 2 ≤ p) (hl : 0 < l) : l / (p * p) < l := Nat.div_lt_self hl (by have := Nat.mul_le_mul hp hp; omega)
theorem wK {p : Nat} (hp : 2 ≤ p) : ∀ (k j c l : Nat), 0 < l → l ≤ k → l ≤ j → YK p k c l = YK p j c l
 | 0, _, _, _, h, hk, _ => by omega
 | _ + 1, 0, _, _, h, _, hj => by omega
 | k + 1, j + 1, c, l, h, hk, hj => by
  unfold YK
  split
  ·rename_i hm
   have h1 := xN hp h
   have hpp : 0 < p * p := Nat.mul_pos (by omega) (by omega)
   have h2 : 0 < l / (p * p) := Nat.div_pos (Nat.le_of_dvd h (Nat.dvd_of_mod_eq_zero hm)) hpp
   exact wK hp k j _ _ h2 (by omega) (by omega)
  ·rfl
def strip (p : Nat) (s : Nat × Nat) : Nat × Nat := YK p s.2 s.1 s.2
theorem um {p c l : Nat} (hp : 2 ≤ p) (hl : 0 < l) (h : l % (p * p) = 0) : strip p (c, l) = strip p (c * p, l / (p * p)) := by
 have hpp : 0 < p * p := Nat.mul_pos (by omega) (by omega)
 have h2 : 0 < l / (p * p) := Nat.div_pos (Nat.le_of_dvd hl (Nat.dvd_of_mod_eq_zero h)) hpp
 have h1 := xN hp hl
 obtain ⟨m, rfl⟩ : ∃ m, l = m + 1 := ⟨l - 1, by omega⟩
 show YK p (m + 1) c (m + 1) = _
 unfold YK
 rw [if_pos h]
 exact wK hp _ _ _ _ h2 (by omega) (Nat.le_refl _)
theorem XH {p c l : Nat} (h : ¬ l % (p * p) = 0) : strip p (c, l) = (c, l) := by
 show YK p l c l = _
 cases l with
 | zero => rfl
 | succ m => unfold YK; rw [if_neg h]
structure Q2 (s t : Nat × Nat) : Prop where
 val : t.1 * t.1 * t.2 = s.1 * s.1 * s.2
 pos : 0 < t.1 ∧ 0 < t.2
 dvd : t.2 ∣ s.2
theorem vl {p : Nat} (hp : 2 ≤ p) : ∀ (k c l : Nat), 0 < c → 0 < l → l ≤ k → Q2 (c, l) (strip p (c, l)) ∧ ¬ (strip p (c, l)).2 % (p * p) = 0
 | 0, _, _, _, h, hk => by omega
 | k + 1, c, l, hc, hl, hk => by
  by_cases h : l % (p * p) = 0
  ·have hpp : 0 < p * p := Nat.mul_pos (by omega) (by omega)
   have hd := Nat.dvd_of_mod_eq_zero h
   have h2 : 0 < l / (p * p) := Nat.div_pos (Nat.le_of_dvd hl hd) hpp
   have h1 := xN hp hl
   obtain ⟨⟨v, q, d⟩, e⟩ := vl hp k (c * p) (l / (p * p)) (Nat.mul_pos hc (by omega)) h2 (by omega)
   rw [um hp hl h]
   refine ⟨⟨?_, q, Nat.dvd_trans d (Nat.div_dvd_of_dvd hd)⟩, e⟩
   rw [v]
   obtain ⟨m, rfl⟩ := hd
   simp only
   rw [Nat.mul_div_cancel_left _ hpp]
   grind
  ·rw [XH h]
   exact ⟨⟨rfl, ⟨hc, hl⟩, Nat.dvd_refl _⟩, h⟩
theorem Q2.trans {a b c : Nat × Nat} (h : Q2 a b) (g : Q2 b c) : Q2 a c := ⟨g.val.trans h.val, g.pos, Nat.dvd_trans g.dvd h.dvd⟩
def Zk : List Nat := [2, 3, 5, 7, 11, 13, 17, 19, 23, 29, 31, 37, 41, 43, 47, 53, 59, 61, 67, 71, 73, 79, 83, 89, 97]
def Zl : List Nat → Nat × Nat → Nat × Nat
 | [], s => s
 | p :: r, s => Zl r (strip p s)
theorem YO : ∀ (ps : List Nat) (s : Nat × Nat), (∀ p ∈ ps, 2 ≤ p) → 0 < s.1 → 0 < s.2 → Q2 s (Zl ps s) ∧ ∀ p ∈ ps, ¬ (Zl ps s).2 % (p * p) = 0
 | [], _, _, hc, hl => ⟨⟨rfl, ⟨hc, hl⟩, Nat.dvd_refl _⟩, fun _ hp => by cases hp⟩
 | p :: r, s, h, hc, hl => by
  obtain ⟨n1, n2⟩ := vl (h p List.mem_cons_self) s.2 s.1 s.2 hc hl (Nat.le_refl _)
  obtain ⟨m1, m2⟩ := YO r (strip p s) (fun q hq => h q (List.mem_cons_of_mem _ hq)) n1.pos.1 n1.pos.2
  refine ⟨n1.trans m1, fun q hq hm => ?_⟩
  rcases List.mem_cons.1 hq with rfl | hq
  ·exact n2 (Nat.mod_eq_zero_of_dvd (Nat.dvd_trans (Nat.dvd_of_mod_eq_zero hm) m1.dvd))
  ·exact m2 q hq hm
theorem xI : ∀ (ps : List Nat) (c l : Nat), (∀ p ∈ ps, ¬ l % (p * p) = 0) → Zl ps (c, l) = (c, l)
 | [], _, _, _ => rfl
 | p :: r, c, l, h => by
  show Zl r (strip p (c, l)) = _
  rw [XH (h p List.mem_cons_self)]
  exact xI r c l fun q hq => h q (List.mem_cons_of_mem _ hq)
theorem xg : ∀ (ps : List Nat) (p : Nat) (s : Nat × Nat), Zl (ps ++ [p]) s = strip p (Zl ps s)
 | [], _, _ => rfl
 | _ :: r, p, s => xg r p _
theorem tf : ∀ p ∈ Zk, 2 ≤ p := by decide
def tC (s : Nat × Nat) : Nat × Nat := if XM s.2 * XM s.2 = s.2 then (s.1 * XM s.2, 1) else s
def wv (m : Nat) : Nat × Nat := tC (Zl Zk (1, m))
theorem sN {m : Nat} (h : 0 < m) : (wv m).1 * (wv m).1 * (wv m).2 = m ∧ 0 < (wv m).1 ∧ 0 < (wv m).2 ∧ wv (wv m).2 = (1, (wv m).2) := by
 obtain ⟨⟨v, ⟨q1, q2⟩, _⟩, e⟩ := YO Zk (1, m) tf Nat.one_pos h
 unfold wv
 generalize Zl Zk (1, m) = s at *
 simp only [Nat.one_mul] at v
 unfold tC
 split
 ·rename_i hs
  refine ⟨?_, Nat.mul_pos q1 (Nat.pos_of_ne_zero fun h0 => by rw [h0] at hs; omega), Nat.one_pos, ?_⟩
  ·simp only
   rw [← v]
   conv => rhs; rw [← hs]
   generalize XM s.2 = i
   grind
  ·show wv 1 = (1, 1)
   decide
 ·rename_i hs
  refine ⟨v, q1, q2, ?_⟩
  rw [xI Zk 1 s.2 e]
  exact if_neg hs
end Go.Ar

namespace Go.Ar
open Go Go.Sx Go.Lib
set_option maxRecDepth 100000
def za (a b : zL) : zL := zt (zU a * (zS b : Int) + zU b * (zS a : Int)) (zS a * zS b)
def z7 (a b : zL) : zL := zt (zU a * zU b) (zS a * zS b)
def Vs (n d : Int) : zL := bif Zz d 0 then zt (-n) (-d).toNat else zt n d.toNat
def zh (a b : zL) : zL := Vs (zU a * (zS b : Int)) ((zS a : Int) * zU b)
theorem Vj (n : Int) {d : Nat} (hd : 0 < d) : Vs n (d : Int) = zt n d := by
 unfold Vs
 rw [show Zz (d : Int) 0 = false from Bool.eq_false_iff.2 fun e => by have := (zm _ _).1 e; omega]
 rfl
theorem Z1 (n : Int) {d : Nat} (hd : 0 < d) : 0 < zS (zt n d) := by
 obtain ⟨_, _, p3, _⟩ := yQ n hd
 rw [p3]
 exact (xR (n := n) hd).2.1
theorem Yq {n m : Int} {d e : Nat} (hd : 0 < d) (he : 0 < e) : z7 (zt n d) (zt m e) = zt (n * m) (d * e) := by
 have a := ZJ n hd
 have b := ZJ m he
 refine (XP (Nat.mul_pos (Z1 n hd) (Z1 m he)) (Nat.mul_pos hd he)).2 ?_
 generalize zU (zt n d) = N1 at *
 generalize zU (zt m e) = N2 at *
 generalize zS (zt n d) = D1 at *
 generalize zS (zt m e) = D2 at *
 rw [Int.natCast_mul, Int.natCast_mul]
 have h : N1 * N2 * ((d : Int) * (e : Int)) = (N1 * d) * (N2 * e) := by grind
 rw [h, a, b]
 grind
theorem Xd {n m : Int} {d e : Nat} (hd : 0 < d) (he : 0 < e) : za (zt n d) (zt m e) = zt (n * e + m * d) (d * e) := by
 have a := ZJ n hd
 have b := ZJ m he
 refine (XP (Nat.mul_pos (Z1 n hd) (Z1 m he)) (Nat.mul_pos hd he)).2 ?_
 generalize zU (zt n d) = N1 at *
 generalize zU (zt m e) = N2 at *
 generalize zS (zt n d) = D1 at *
 generalize zS (zt m e) = D2 at *
 rw [Int.natCast_mul, Int.natCast_mul]
 have h : (N1 * (D2 : Int) + N2 * (D1 : Int)) * ((d : Int) * (e : Int)) = (N1 * d) * (D2 * e) + (N2 * e) * (D1 * d) := by grind
 rw [h, a, b]
 grind
theorem xe {m e : Nat} (hm : 0 < m) (he : 0 < e) : 0 < zU (zt (m : Int) e) := by
 have b := ZJ (m : Int) he
 have p := Z1 (m : Int) he
 refine Int.pos_of_mul_pos_left (b := (e : Int)) ?_ (by omega)
 rw [b]
 exact Int.mul_pos (by omega) (by omega)
theorem Yv {n : Int} {m d e : Nat} (hd : 0 < d) (he : 0 < e) (hm : 0 < m) : zh (zt n d) (zt (m : Int) e) = zt (n * e) (d * m) := by
 have a := ZJ n hd
 have b := ZJ (m : Int) he
 have p := xe hm he
 have q := Z1 n hd
 obtain ⟨M, hM⟩ : ∃ M : Nat, zU (zt (m : Int) e) = M := ⟨(zU (zt (m : Int) e)).toNat, by omega⟩
 unfold zh
 rw [hM] at b p ⊢
 rw [← Int.natCast_mul, Vj _ (Nat.mul_pos q (by omega))]
 refine (XP (Nat.mul_pos q (by omega)) (Nat.mul_pos hd hm)).2 ?_
 rw [Int.natCast_mul, Int.natCast_mul]
 generalize zU (zt n d) = N1 at *
 generalize zS (zt n d) = D1 at *
 generalize zS (zt (m : Int) e) = D2 at *
 have h : N1 * (D2 : Int) * ((d : Int) * (m : Int)) = (N1 * d) * (m * D2) := by grind
 rw [h, a, ← b]
 grind
def k1 (r : zL) : Nat := (wv ((zU r).toNat * zS r)).1
def l1 (r : zL) : Nat := (wv ((zU r).toNat * zS r)).2
theorem W6 {n : Int} : zt n 1 = itoa n := by
 unfold zt yq
 rw [Nat.gcd_one_right]
 simp
theorem SP (n : Int) : zU (itoa n) = n ∧ zS (itoa n) = 1 ∧ zr (itoa n) = false ∧ Zj (itoa n) = bif Nat.blt 300 (Wd n) then 4 else 0 := by
 obtain ⟨h1, h2⟩ := yh n
 have hs : zr (itoa n) = false := wM (Xm h1)
 obtain ⟨c1, c2⟩ := Z6 hs
 have hn : zU (itoa n) = n := by unfold zU; rw [c1]; exact h2
 have hd : zS (itoa n) = 1 := by unfold zS; rw [hs]; rfl
 have hl := vF h1
 rw [h2] at hl
 refine ⟨hn, hd, hs, ?_⟩
 have hf : z6 (itoa n) = true := by rw [xD hs]; exact h1
 cases hb : Nat.blt 300 (Wd n) with
 | false =>
  refine ZR.2 ⟨hf, ?_, ?_, ?_⟩
  ·rw [c1, hl]
   have : ¬ 300 < Wd n := fun e => by rw [(zf _ _).2 e] at hb; cases hb
   omega
  ·rw [c2]; exact Nat.zero_le _
  ·rw [hd, Nat.gcd_one_right]
 | true =>
  have h3 : 300 < Wd n := (zf _ _).1 hb
  unfold Zj
  rw [hf, c1, hl, hb]
  rfl
theorem tB {r : zL} (hn : 0 < zU r) (hd : 0 < zS r) : 0 < k1 r ∧ 0 < l1 r ∧ k1 r * k1 r * l1 r = (zU r).toNat * zS r ∧ wv (l1 r) = (1, l1 r) := by
 obtain ⟨h1, h2, h3, h4⟩ := sN (Nat.mul_pos (show 0 < (zU r).toNat by omega) hd)
 exact ⟨h2, h3, h1, h4⟩
def Yf (c r : zL) : zL := z7 c (zt (k1 r : Int) (zS r))
end Go.Ar
