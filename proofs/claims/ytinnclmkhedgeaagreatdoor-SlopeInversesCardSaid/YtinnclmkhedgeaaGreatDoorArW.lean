/- Integer roots by Newton's way, and the normal form of a root over small primes. -/
import Derived.Test.YtinnclmkhedgeaaGreatDoorArA
set_option linter.unusedSimpArgs false
set_option linter.unusedVariables false
namespace Go.Ar
set_option maxRecDepth 100000
def Wo : Nat → Nat → Nat
 | 0, _ => 0
 | k + 1, n => if (2 * Wo k (n / 4) + 1) * (2 * Wo k (n / 4) + 1) ≤ n then 2 * Wo k (n / 4) + 1 else 2 * Wo k (n / 4)
def Xx (n : Nat) : Nat := Wo 32 n
theorem vG : ∀ (k n : Nat), n < 4 ^ k → Wo k n * Wo k n ≤ n ∧ n < (Wo k n + 1) * (Wo k n + 1)
 | 0, n, h => by
  have : n = 0 := by simpa using h
  subst this; decide
 | k + 1, n, h => by
  have h4 : n / 4 < 4 ^ k := by rw [Nat.pow_succ] at h; omega
  obtain ⟨h1, h2⟩ := vG k (n / 4) h4
  unfold Wo
  generalize Wo k (n / 4) = s at *
  have e1 : 2 * s * (2 * s) = 4 * (s * s) := by grind
  have e2 : (2 * s + 1 + 1) * (2 * s + 1 + 1) = 4 * ((s + 1) * (s + 1)) := by grind
  split
  ·exact ⟨‹_›, by omega⟩
  ·exact ⟨by omega, by omega⟩
theorem WO {n : Nat} (h : n < 18446744073709551616) : Xx n * Xx n ≤ n ∧ n < (Xx n + 1) * (Xx n + 1) := vG 32 n h
theorem vu {a b : Nat} (h : a * a < b * b) : a < b := Nat.lt_of_not_le fun hb => by have := Nat.mul_le_mul hb hb; omega
theorem Sd {n r : Nat} (h : n < 18446744073709551616) (h1 : r * r ≤ n) (h2 : n < (r + 1) * (r + 1)) : r = Xx n := by
 obtain ⟨s1, s2⟩ := WO h
 have a := vu (a := r) (b := Xx n + 1) (by omega)
 have b := vu (a := Xx n) (b := r + 1) (by omega)
 omega
theorem pG {k : Nat} (h : k * k < 18446744073709551616) : Xx (k * k) = k := (Sd h (Nat.le_refl _) (by grind)).symm
theorem qv {n r s : Nat} (hr : 0 < r) (hs : s * s ≤ n) : s ≤ (r + n / r) / 2 := by
 have key : 2 * s - r ≤ n / r := by
  rw [Nat.le_div_iff_mul_le hr]
  refine Nat.le_trans ?_ hs
  rcases Nat.le_total r s with h | h
  ·obtain ⟨d, rfl⟩ := Nat.exists_eq_add_of_le h
   rw [show 2 * (r + d) - r = r + 2 * d by omega]
   grind
  ·rcases Nat.le_total r (2 * s) with h' | h'
   ·obtain ⟨d, rfl⟩ := Nat.exists_eq_add_of_le h
    obtain ⟨e, rfl⟩ : ∃ e, s = d + e := ⟨s - d, by omega⟩
    rw [show 2 * (d + e) - (d + e + d) = e by omega]
    grind
   ·rw [show 2 * s - r = 0 by omega, Nat.zero_mul]; exact Nat.zero_le _
 omega
theorem sR {n r : Nat} (hr : 0 < r) (h : r ≤ (r + n / r) / 2) : r * r ≤ n := by
 have : r ≤ n / r := by omega
 exact (Nat.le_div_iff_mul_le hr).1 this
def YF (p : Nat) : Nat → Nat → Nat → Nat × Nat
 | 0, c, l => (c, l)
 | k + 1, c, l => if l % (p * p) = 0 then YF p k (c * p) (l / (p * p)) else (c, l)
theorem xK {p l : Nat} (hp : 2 ≤ p) (hl : 0 < l) : l / (p * p) < l := Nat.div_lt_self hl (by have := Nat.mul_le_mul hp hp; omega)
theorem WB {p : Nat} (hp : 2 ≤ p) : ∀ (k j c l : Nat), 0 < l → l ≤ k → l ≤ j → YF p k c l = YF p j c l
 | 0, _, _, _, h, hk, _ => by omega
 | _ + 1, 0, _, _, h, _, hj => by omega
 | k + 1, j + 1, c, l, h, hk, hj => by
  unfold YF
  split
  ·rename_i hm
   have h1 := xK hp h
   have hpp : 0 < p * p := Nat.mul_pos (by omega) (by omega)
   have h2 : 0 < l / (p * p) := Nat.div_pos (Nat.le_of_dvd h (Nat.dvd_of_mod_eq_zero hm)) hpp
   exact WB hp k j _ _ h2 (by omega) (by omega)
  ·rfl
def strip (p : Nat) (s : Nat × Nat) : Nat × Nat := YF p s.2 s.1 s.2
theorem UZ {p c l : Nat} (hp : 2 ≤ p) (hl : 0 < l) (h : l % (p * p) = 0) : strip p (c, l) = strip p (c * p, l / (p * p)) := by
 have hpp : 0 < p * p := Nat.mul_pos (by omega) (by omega)
 have h2 : 0 < l / (p * p) := Nat.div_pos (Nat.le_of_dvd hl (Nat.dvd_of_mod_eq_zero h)) hpp
 have h1 := xK hp hl
 obtain ⟨m, rfl⟩ : ∃ m, l = m + 1 := ⟨l - 1, by omega⟩
 show YF p (m + 1) c (m + 1) = _
 unfold YF
 rw [if_pos h]
 exact WB hp _ _ _ _ h2 (by omega) (Nat.le_refl _)
theorem tJ {p c l : Nat} (h : ¬ l % (p * p) = 0) : strip p (c, l) = (c, l) := by
 show YF p l c l = _
 cases l with
 | zero => rfl
 | succ m => unfold YF; rw [if_neg h]
structure pE (s t : Nat × Nat) : Prop where
 val : t.1 * t.1 * t.2 = s.1 * s.1 * s.2
 pos : 0 < t.1 ∧ 0 < t.2
 dvd : t.2 ∣ s.2
theorem vQ {p : Nat} (hp : 2 ≤ p) : ∀ (k c l : Nat), 0 < c → 0 < l → l ≤ k → pE (c, l) (strip p (c, l)) ∧ ¬ (strip p (c, l)).2 % (p * p) = 0
 | 0, _, _, _, h, hk => by omega
 | k + 1, c, l, hc, hl, hk => by
  by_cases h : l % (p * p) = 0
  ·have hpp : 0 < p * p := Nat.mul_pos (by omega) (by omega)
   have hd := Nat.dvd_of_mod_eq_zero h
   have h2 : 0 < l / (p * p) := Nat.div_pos (Nat.le_of_dvd hl hd) hpp
   have h1 := xK hp hl
   obtain ⟨⟨v, q, d⟩, e⟩ := vQ hp k (c * p) (l / (p * p)) (Nat.mul_pos hc (by omega)) h2 (by omega)
   rw [UZ hp hl h]
   refine ⟨⟨?_, q, Nat.dvd_trans d (Nat.div_dvd_of_dvd hd)⟩, e⟩
   rw [v]
   obtain ⟨m, rfl⟩ := hd
   simp only
   rw [Nat.mul_div_cancel_left _ hpp]
   grind
  ·rw [tJ h]
   exact ⟨⟨rfl, ⟨hc, hl⟩, Nat.dvd_refl _⟩, h⟩
theorem pE.trans {a b c : Nat × Nat} (h : pE a b) (g : pE b c) : pE a c := ⟨g.val.trans h.val, g.pos, Nat.dvd_trans g.dvd h.dvd⟩
def Zo : List Nat := [2, 3, 5, 7, 11, 13, 17, 19, 23, 29, 31, 37, 41, 43, 47, 53, 59, 61, 67, 71, 73, 79, 83, 89, 97]
def ZO : List Nat → Nat × Nat → Nat × Nat
 | [], s => s
 | p :: r, s => ZO r (strip p s)
theorem yf : ∀ (ps : List Nat) (s : Nat × Nat), (∀ p ∈ ps, 2 ≤ p) → 0 < s.1 → 0 < s.2 → pE s (ZO ps s) ∧ ∀ p ∈ ps, ¬ (ZO ps s).2 % (p * p) = 0
 | [], _, _, hc, hl => ⟨⟨rfl, ⟨hc, hl⟩, Nat.dvd_refl _⟩, fun _ hp => by cases hp⟩
 | p :: r, s, h, hc, hl => by
  obtain ⟨n1, n2⟩ := vQ (h p List.mem_cons_self) s.2 s.1 s.2 hc hl (Nat.le_refl _)
  obtain ⟨m1, m2⟩ := yf r (strip p s) (fun q hq => h q (List.mem_cons_of_mem _ hq)) n1.pos.1 n1.pos.2
  refine ⟨n1.trans m1, fun q hq hm => ?_⟩
  rcases List.mem_cons.1 hq with rfl | hq
  ·exact n2 (Nat.mod_eq_zero_of_dvd (Nat.dvd_trans (Nat.dvd_of_mod_eq_zero hm) m1.dvd))
  ·exact m2 q hq hm
theorem xE : ∀ (ps : List Nat) (c l : Nat), (∀ p ∈ ps, ¬ l % (p * p) = 0) → ZO ps (c, l) = (c, l)
 | [], _, _, _ => rfl
 | p :: r, c, l, h => by
  show ZO r (strip p (c, l)) = _
  rw [tJ (h p List.mem_cons_self)]
  exact xE r c l fun q hq => h q (List.mem_cons_of_mem _ hq)
theorem xg : ∀ (ps : List Nat) (p : Nat) (s : Nat × Nat), ZO (ps ++ [p]) s = strip p (ZO ps s)
 | [], _, _ => rfl
 | _ :: r, p, s => xg r p _
theorem V8 : ∀ p ∈ Zo, 2 ≤ p := by decide
def uX (s : Nat × Nat) : Nat × Nat := if Xx s.2 * Xx s.2 = s.2 then (s.1 * Xx s.2, 1) else s
def Yj (m : Nat) : Nat × Nat := uX (ZO Zo (1, m))
theorem wd {m : Nat} (h : 0 < m) : (Yj m).1 * (Yj m).1 * (Yj m).2 = m ∧ 0 < (Yj m).1 ∧ 0 < (Yj m).2 ∧ Yj (Yj m).2 = (1, (Yj m).2) := by
 obtain ⟨⟨v, ⟨q1, q2⟩, _⟩, e⟩ := yf Zo (1, m) V8 Nat.one_pos h
 unfold Yj
 generalize ZO Zo (1, m) = s at *
 simp only [Nat.one_mul] at v
 unfold uX
 split
 ·rename_i hs
  refine ⟨?_, Nat.mul_pos q1 (Nat.pos_of_ne_zero fun h0 => by rw [h0] at hs; omega), Nat.one_pos, ?_⟩
  ·simp only
   rw [← v]
   conv => rhs; rw [← hs]
   generalize Xx s.2 = i
   grind
  ·show Yj 1 = (1, 1)
   decide
 ·rename_i hs
  refine ⟨v, q1, q2, ?_⟩
  rw [xE Zo 1 s.2 e]
  exact if_neg hs
theorem T1 {a b : Nat} (h : a * a ∣ b * b) : a ∣ b := by
 rcases Nat.eq_zero_or_pos b with rfl | hb
 ·exact Nat.dvd_zero _
 have : a ^ 2 ∣ b ^ 2 := by rw [Nat.pow_two, Nat.pow_two]; exact h
 exact (Nat.pow_dvd_pow_iff (by decide)).1 this
theorem Td {c l k : Nat} (hc : 0 < c) (h : c * c * l = k * k) : ∃ j, l = j * j ∧ c * j = k := by
 obtain ⟨j, rfl⟩ := T1 (a := c) (b := k) ⟨l, h.symm⟩
 refine ⟨j, ?_, rfl⟩
 have : c * c * l = c * c * (j * j) := by rw [h]; grind
 exact Nat.eq_of_mul_eq_mul_left (Nat.mul_pos hc hc) this
theorem pX {k : Nat} (hk : 0 < k) (hb : k * k < 18446744073709551616) : Yj (k * k) = (k, 1) := by
 obtain ⟨⟨v, ⟨q1, q2⟩, d⟩, _⟩ := yf Zo (1, k * k) V8 Nat.one_pos (Nat.mul_pos hk hk)
 unfold Yj
 generalize ZO Zo (1, k * k) = s at *
 simp only [Nat.one_mul] at v d
 obtain ⟨j, h1, h2⟩ := Td q1 v
 have hj : Xx s.2 = j := by
  rw [h1]
  refine pG ?_
  rw [← h1]
  exact Nat.lt_of_le_of_lt (Nat.le_of_dvd (Nat.mul_pos hk hk) d) hb
 unfold uX
 rw [hj, if_pos h1.symm, h2]
end Go.Ar

namespace Go.Ar
open Go Go.Sx Go.Lib
set_option maxRecDepth 100000
def z8 (a b : zK) : zK := zX (zV a * (zS b : Int) + zV b * (zS a : Int)) (zS a * zS b)
def zH (a b : zK) : zK := zX (zV a * zV b) (zS a * zS b)
def W0 (n d : Int) : zK := bif z7 d 0 then zX (-n) (-d).toNat else zX n d.toNat
def zh (a b : zK) : zK := W0 (zV a * (zS b : Int)) ((zS a : Int) * zV b)
theorem wn (n : Int) {d : Nat} (hd : 0 < d) : W0 n (d : Int) = zX n d := by
 unfold W0
 rw [show z7 (d : Int) 0 = false from Bool.eq_false_iff.2 fun e => by have := (zm _ _).1 e; omega]
 rfl
theorem Rw (n : Int) {d : Nat} (hd : 0 < d) : W0 n (-(d : Int)) = zX (-n) d := by
 unfold W0
 rw [(zm _ _).2 (show -(d : Int) < 0 by omega), Int.neg_neg]
 rfl
theorem Zp (n : Int) {d : Nat} (hd : 0 < d) : 0 < zS (zX n d) := by
 obtain ⟨_, _, p3, _⟩ := Ze n hd
 rw [p3]
 exact (xN (n := n) hd).2.1
theorem Z8 {n m : Int} {d e : Nat} (hd : 0 < d) (he : 0 < e) : zH (zX n d) (zX m e) = zX (n * m) (d * e) := by
 have a := Zr n hd
 have b := Zr m he
 refine (YR (Nat.mul_pos (Zp n hd) (Zp m he)) (Nat.mul_pos hd he)).2 ?_
 generalize zV (zX n d) = N1 at *
 generalize zV (zX m e) = N2 at *
 generalize zS (zX n d) = D1 at *
 generalize zS (zX m e) = D2 at *
 rw [Int.natCast_mul, Int.natCast_mul]
 have h : N1 * N2 * ((d : Int) * (e : Int)) = (N1 * d) * (N2 * e) := by grind
 rw [h, a, b]
 grind
theorem XK {n m : Int} {d e : Nat} (hd : 0 < d) (he : 0 < e) : z8 (zX n d) (zX m e) = zX (n * e + m * d) (d * e) := by
 have a := Zr n hd
 have b := Zr m he
 refine (YR (Nat.mul_pos (Zp n hd) (Zp m he)) (Nat.mul_pos hd he)).2 ?_
 generalize zV (zX n d) = N1 at *
 generalize zV (zX m e) = N2 at *
 generalize zS (zX n d) = D1 at *
 generalize zS (zX m e) = D2 at *
 rw [Int.natCast_mul, Int.natCast_mul]
 have h : (N1 * (D2 : Int) + N2 * (D1 : Int)) * ((d : Int) * (e : Int)) = (N1 * d) * (D2 * e) + (N2 * e) * (D1 * d) := by grind
 rw [h, a, b]
 grind
theorem YE {m e : Nat} (hm : 0 < m) (he : 0 < e) : 0 < zV (zX (m : Int) e) := by
 have b := Zr (m : Int) he
 have p := Zp (m : Int) he
 refine Int.pos_of_mul_pos_left (b := (e : Int)) ?_ (by omega)
 rw [b]
 exact Int.mul_pos (by omega) (by omega)
theorem YQ {n : Int} {m d e : Nat} (hd : 0 < d) (he : 0 < e) (hm : 0 < m) : zh (zX n d) (zX (m : Int) e) = zX (n * e) (d * m) := by
 have a := Zr n hd
 have b := Zr (m : Int) he
 have p := YE hm he
 have q := Zp n hd
 obtain ⟨M, hM⟩ : ∃ M : Nat, zV (zX (m : Int) e) = M := ⟨(zV (zX (m : Int) e)).toNat, by omega⟩
 unfold zh
 rw [hM] at b p ⊢
 rw [← Int.natCast_mul, wn _ (Nat.mul_pos q (by omega))]
 refine (YR (Nat.mul_pos q (by omega)) (Nat.mul_pos hd hm)).2 ?_
 rw [Int.natCast_mul, Int.natCast_mul]
 generalize zV (zX n d) = N1 at *
 generalize zS (zX n d) = D1 at *
 generalize zS (zX (m : Int) e) = D2 at *
 have h : N1 * (D2 : Int) * ((d : Int) * (m : Int)) = (N1 * d) * (m * D2) := by grind
 rw [h, a, ← b]
 grind
theorem vg (n : Int) (d : Nat) (hd : 0 < d) : zV (zX (-n) d) = -zV (zX n d) ∧ zS (zX (-n) d) = zS (zX n d) := by
 obtain ⟨_, a2, a3, a4⟩ := Ze n hd
 obtain ⟨_, b2, b3, b4⟩ := Ze (-n) hd
 have a := Zr n hd
 have b := Zr (-n) hd
 refine re (Zp _ hd) (Zp _ hd) b4 (by rw [Int.natAbs_neg]; exact a4) ?_
 have e : (d : Int) ≠ 0 := by omega
 refine Int.eq_of_mul_eq_mul_right e ?_
 generalize zV (zX n d) = N1 at *
 generalize zS (zX n d) = D1 at *
 generalize zV (zX (-n) d) = N2 at *
 generalize zS (zX (-n) d) = D2 at *
 have h1 : N2 * (D1 : Int) * d = (N2 * d) * D1 := by grind
 have h2 : -N1 * (D2 : Int) * d = -(N1 * d) * D2 := by grind
 rw [h1, h2, a, b]
 grind
theorem s8 {n : Int} {m d e : Nat} (hd : 0 < d) (he : 0 < e) (hm : 0 < m) : zh (zX n d) (zX (-(m : Int)) e) = zX (-n * e) (d * m) := by
 obtain ⟨p1, p2⟩ := vg (m : Int) e he
 obtain ⟨q1, q2⟩ := vg n d hd
 have key := YQ (n := -n) hd he hm
 rw [← key]
 have p := YE hm he
 have q := Zp n hd
 obtain ⟨M, hM⟩ : ∃ M : Nat, zV (zX (m : Int) e) = M := ⟨(zV (zX (m : Int) e)).toNat, by omega⟩
 unfold zh
 rw [p1, p2, q1, q2, hM, Int.mul_neg, ← Int.natCast_mul, Rw _ (Nat.mul_pos q (by omega)), wn _ (Nat.mul_pos q (by omega)), Int.neg_mul]
def k1 (r : zK) : Nat := (Yj ((zV r).toNat * zS r)).1
def l1 (r : zK) : Nat := (Yj ((zV r).toNat * zS r)).2
theorem Z7 {n : Int} : zX n 1 = itoa n := by
 unfold zX yL
 rw [Nat.gcd_one_right]
 simp
theorem xW (n : Int) : zV (itoa n) = n ∧ zS (itoa n) = 1 ∧ zT (itoa n) = false ∧ Zq (itoa n) = bif Nat.blt 300 (Wa n) then 4 else 0 := by
 obtain ⟨h1, h2⟩ := ye n
 have hs : zT (itoa n) = false := WW (XD h1)
 obtain ⟨c1, c2⟩ := Z3 hs
 have hn : zV (itoa n) = n := by unfold zV; rw [c1]; exact h2
 have hd : zS (itoa n) = 1 := by unfold zS; rw [hs]; rfl
 have hl := V0 h1
 rw [h2] at hl
 refine ⟨hn, hd, hs, ?_⟩
 have hf : Zz (itoa n) = true := by rw [Xz hs]; exact h1
 cases hb : Nat.blt 300 (Wa n) with
 | false =>
  refine ZP.2 ⟨hf, ?_, ?_, ?_⟩
  ·rw [c1, hl]
   have : ¬ 300 < Wa n := fun e => by rw [(zF _ _).2 e] at hb; cases hb
   omega
  ·rw [c2]; exact Nat.zero_le _
  ·rw [hd, Nat.gcd_one_right]
 | true =>
  have h3 : 300 < Wa n := (zF _ _).1 hb
  unfold Zq
  rw [hf, c1, hl, hb]
  rfl
theorem tC {r : zK} (hn : 0 < zV r) (hd : 0 < zS r) : 0 < k1 r ∧ 0 < l1 r ∧ k1 r * k1 r * l1 r = (zV r).toNat * zS r ∧ Yj (l1 r) = (1, l1 r) := by
 obtain ⟨h1, h2, h3, h4⟩ := wd (Nat.mul_pos (show 0 < (zV r).toNat by omega) hd)
 exact ⟨h2, h3, h1, h4⟩
theorem SN (m : Nat) : k1 (itoa (m : Int)) = (Yj m).1 ∧ l1 (itoa (m : Int)) = (Yj m).2 := by
 obtain ⟨h1, h2, _⟩ := xW (m : Int)
 unfold k1 l1
 rw [h1, h2, Int.toNat_natCast, Nat.mul_one]
 exact ⟨rfl, rfl⟩
theorem S6 (a b : Int) : zH (itoa a) (itoa b) = itoa (a * b) := by
 rw [← Z7, ← Z7, Z8 (by omega) (by omega), Z7]
def yM (c r : zK) : zK := zH c (zX (k1 r : Int) (zS r))
end Go.Ar
