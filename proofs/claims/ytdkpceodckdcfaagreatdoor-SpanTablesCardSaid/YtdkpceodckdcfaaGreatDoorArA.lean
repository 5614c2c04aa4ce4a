/- Decimal strings of integers: what they are and what they mean. -/
import Derived.Test.YtdkpceodckdcfaaGreatDoorSxU
import Derived.Lib.ItoaLen
set_option linter.unusedSimpArgs false
set_option linter.unusedVariables false
namespace Go.Ar
open Go Go.Sx Go.Lib
set_option maxRecDepth 100000
abbrev zp := List UInt8
def zC (c : UInt8) : Bool := Nat.ble 48 c.toNat && Nat.ble c.toNat 57
def wa (c : UInt8) : Nat := c.toNat - 48
def RP (d : Nat) : UInt8 := UInt8.ofNat (48 + d)
theorem yd {c : UInt8} : zC c = true ↔ 48 ≤ c.toNat ∧ c.toNat ≤ 57 := by
 unfold zC
 rw [Bool.and_eq_true, Nat.ble_eq, Nat.ble_eq]
theorem x5 {d : Nat} (h : d < 10) : (RP d).toNat = 48 + d := by
 unfold RP
 rw [UInt8.toNat_ofNat']
 omega
theorem vQ {d : Nat} (h : d < 10) : zC (RP d) = true := by rw [yd, x5 h]; omega
theorem V5 {d : Nat} (h : d < 10) : wa (RP d) = d := by unfold wa; rw [x5 h]; omega
theorem Tt {c : UInt8} (h : zC c = true) : RP (wa c) = c := by
 rw [yd] at h
 refine UInt8.toNat_inj.1 ?_
 rw [x5 (by unfold wa; omega)]
 unfold wa
 omega
theorem uQ {c : UInt8} (h : zC c = true) : wa c < 10 := by rw [yd] at h; unfold wa; omega
def zP (l : zp) : Nat := l.foldl (fun a c => 10 * a + wa c) 0
theorem wT (l : zp) (c : UInt8) : zP (l ++ [c]) = 10 * zP l + wa c := by unfold zP; rw [List.foldl_append]; rfl
theorem fold_acc (l : zp) : ∀ a : Nat, l.foldl (fun a c => 10 * a + wa c) a = a * 10 ^ l.length + zP l := by
 induction l with
 | nil => intro a; simp [zP]
 | cons c l ih =>
  intro a
  unfold zP
  rw [List.foldl_cons, List.foldl_cons, ih, ih (10 * 0 + wa c), List.length_cons, Nat.pow_succ]
  generalize 10 ^ l.length = p
  rw [Nat.mul_zero, Nat.zero_add, Nat.add_mul, Nat.add_assoc]
  congr 1
  rw [Nat.mul_comm 10 a, Nat.mul_assoc, Nat.mul_comm 10 p]
theorem Uk (a b : zp) : zP (a ++ b) = zP a * 10 ^ b.length + zP b := by
 conv => lhs; unfold zP
 rw [List.foldl_append, fold_acc]; rfl
theorem Xx (c : UInt8) (l : zp) : zP (c :: l) = wa c * 10 ^ l.length + zP l := by
 have := Uk [c] l
 simpa [zP] using this
theorem Xg {l : zp} (h : l.all zC = true) : zP l < 10 ^ l.length := by
 induction l with
 | nil => simp [zP]
 | cons c l ih =>
  rw [List.all_cons, Bool.and_eq_true] at h
  have h1 := ih h.2
  have h2 := uQ h.1
  rw [Xx, List.length_cons, Nat.pow_succ]
  generalize 10 ^ l.length = p at *
  have : wa c * p ≤ 9 * p := Nat.mul_le_mul_right p (by omega)
  omega
def ZH (l : zp) : Bool := Nat.blt 0 l.length && l.all zC && !(Nat.blt 1 l.length && (l.getD 0 0 == 48))
theorem z6 {u : Nat} (h : u < 10) : decDigits u = [RP u] := by rw [decDigits, dif_pos h]; rfl
theorem yh {u : Nat} (h : ¬ u < 10) : decDigits u = decDigits (u / 10) ++ [RP (u % 10)] := by rw [decDigits, dif_neg h]; rfl
theorem Yf (u : Nat) : (decDigits u).all zC = true := by
 induction u using Nat.strongRecOn with
 | _ u ih =>
  by_cases h : u < 10
  ·rw [z6 h]; simp [vQ h]
  ·rw [yh h, List.all_append, ih (u / 10) (by omega)]
   simp [vQ (Nat.mod_lt u (by decide : 10 > 0))]
theorem xj (u : Nat) : zP (decDigits u) = u := by
 induction u using Nat.strongRecOn with
 | _ u ih =>
  by_cases h : u < 10
  ·rw [z6 h]
   show 10 * 0 + wa (RP u) = u
   rw [V5 h]; omega
  ·rw [yh h, wT, ih (u / 10) (by omega), V5 (Nat.mod_lt u (by decide : 10 > 0))]
   omega
theorem Yi (u : Nat) : 0 < (decDigits u).length := by rw [decDigits_length]; exact nDigits_pos u
theorem vw {u : Nat} (h : u ≠ 0) : (decDigits u).getD 0 0 ≠ 48 := by
 induction u using Nat.strongRecOn with
 | _ u ih =>
  by_cases h1 : u < 10
  ·rw [z6 h1]
   intro e
   have e : RP u = 48 := e
   have := congrArg UInt8.toNat e
   rw [x5 h1] at this
   have : 48 + u = 48 := this
   omega
  ·rw [yh h1, List.getD_eq_getElem?_getD, List.getElem?_append_left (Yi _), ← List.getD_eq_getElem?_getD]
   exact ih (u / 10) (by omega) (by omega)
theorem Yq (u : Nat) : ZH (decDigits u) = true := by
 unfold ZH
 rw [Yf, (Zz _ _).2 (Yi u)]
 by_cases h : u = 0
 ·subst h
  rw [z6 (by decide)]; rfl
 ·rw [beq_false_of_ne (vw h), Bool.and_false]; rfl
theorem Zv {l : zp} : ZH l = true ↔ 0 < l.length ∧ (∀ c ∈ l, zC c = true) ∧ (1 < l.length → l.getD 0 0 ≠ 48) := by
 unfold ZH
 rw [Bool.and_eq_true, Bool.and_eq_true, Zz, List.all_eq_true, Bool.not_eq_true', Bool.and_eq_false_iff]
 constructor
 ·rintro ⟨⟨h1, h2⟩, h3⟩
  refine ⟨h1, h2, fun h4 => ?_⟩
  rcases h3 with h3 | h3
  ·rw [(Zz _ _).2 h4] at h3; cases h3
  ·exact fun e => by rw [e] at h3; cases h3
 ·rintro ⟨h1, h2, h3⟩
  refine ⟨⟨h1, h2⟩, ?_⟩
  by_cases h4 : 1 < l.length
  ·exact .inr (beq_false_of_ne (h3 h4))
  ·exact .inl (by rw [Bool.eq_false_iff]; intro e; exact h4 ((Zz _ _).1 e))
theorem Rf {l : zp} (h : 0 < l.length) : ∃ a c, l = a ++ [c] := by
 have hn : l ≠ [] := fun e => by rw [e] at h; cases h
 exact ⟨l.dropLast, l.getLast hn, (List.dropLast_concat_getLast hn).symm⟩
theorem Zb {l : zp} (h : ZH l = true) : decDigits (zP l) = l := by
 generalize hn : l.length = n
 induction n generalizing l with
 | zero => obtain ⟨h1, _⟩ := Zv.1 h; omega
 | succ n ih =>
  obtain ⟨h1, h2, h3⟩ := Zv.1 h
  obtain ⟨a, c, rfl⟩ := Rf h1
  have hc : zC c = true := h2 c (by simp)
  have hl : a.length = n := by simpa using hn
  rw [wT]
  by_cases ha : a.length = 0
  ·obtain rfl := List.length_eq_zero_iff.1 ha
   have : 10 * zP [] + wa c = wa c := by simp [zP]
   rw [this, z6 (uQ hc), Tt hc]; rfl
  ·have hg : (a ++ [c]).getD 0 0 = a.getD 0 0 := by
    rw [List.getD_eq_getElem?_getD, List.getD_eq_getElem?_getD, List.getElem?_append_left (by omega)]
   have ha0 : a.getD 0 0 ≠ 48 := by rw [← hg]; exact h3 (by simp; omega)
   have hda : ZH a = true := Zv.2 ⟨by omega, fun x hx => h2 x (List.mem_append_left _ hx), fun _ => ha0⟩
   have ih' := ih hda hl
   have hv := uQ hc
   have hpos : zP a ≠ 0 := fun e => by
    rw [e, z6 (by decide)] at ih'
    rw [← ih'] at ha0
    exact ha0 rfl
   rw [yh (by omega), show (10 * zP a + wa c) / 10 = zP a by omega, show (10 * zP a + wa c) % 10 = wa c by omega, ih', Tt hc]
def V8 (s : zp) : Bool := match s with | 45 :: r => ZH r && !(r == [48]) | r => ZH r
def Uy (s : zp) : Int := match s with | 45 :: r => -(zP r : Int) | r => (zP r : Int)
theorem yP (n : Nat) : itoa (n : Int) = decDigits n := by unfold itoa; rw [if_neg (by omega), Int.toNat_natCast]
theorem TZ {r : zp} (h : ZH (45 :: r) = true) : False := by
 have := (Zv.1 h).2.1 45 List.mem_cons_self
 rw [yd] at this
 exact absurd this (by decide)
theorem UX {r : zp} (h : ZH r = true) : V8 r = true ∧ Uy r = (zP r : Int) := by
 match r, h with
 | [], h => exact ⟨h, rfl⟩
 | c :: r, h =>
  by_cases hc : c = 45
  ·subst hc; exact (TZ h).elim
  ·constructor
   ·unfold V8; split
    ·rename_i e; cases e; exact absurd rfl hc
    ·exact h
   ·unfold Uy; split
    ·rename_i e; cases e; exact absurd rfl hc
    ·rfl
theorem Vs {r : zp} (h : ZH r = true) (h0 : zP r = 0) : r = [48] := by
 have := Zb h
 rw [h0, z6 (by decide)] at this
 exact this.symm
theorem tu {s : zp} (h : V8 s = true) : (∃ r, s = 45 :: r ∧ ZH r = true ∧ zP r ≠ 0 ∧ Uy s = -(zP r : Int)) ∨ (ZH s = true ∧ Uy s = (zP s : Int)) := by
 unfold V8 at h
 split at h
 ·rename_i r
  rw [Bool.and_eq_true, Bool.not_eq_true'] at h
  refine .inl ⟨r, rfl, h.1, fun e => ?_, rfl⟩
  have := Vs h.1 e
  rw [this] at h
  exact absurd h.2 (by decide)
 ·exact .inr ⟨h, (UX h).2⟩
def Pp (n : Int) : Nat := nDigits n.natAbs
theorem SH (n : Int) : (itoa n).length = Pp n + if n < 0 then 1 else 0 := by
 unfold itoa Pp
 by_cases h : n < 0
 ·rw [if_pos h, if_pos h, List.length_cons, decDigits_length]
 ·rw [if_neg h, if_neg h, decDigits_length, show n.toNat = n.natAbs by omega]; rfl
theorem Wp : ∀ {k u : Nat}, u < 10 ^ (k + 1) → nDigits u ≤ k + 1
 | 0, u, h => by rw [nDigits_small (by simpa using h)]; exact Nat.le_refl _
 | k + 1, u, h => by
  by_cases hu : u < 10
  ·rw [nDigits_small hu]; omega
  ·rw [nDigits_big hu]
   have := Wp (k := k) (u := u / 10) (by rw [Nat.pow_succ] at h; omega)
   omega
theorem Yr {k u : Nat} (hk : 0 < k) : nDigits u ≤ k ↔ u < 10 ^ k := by
 constructor
 ·intro h
  exact Nat.lt_of_lt_of_le (lt_pow_nDigits u) (Nat.pow_le_pow_right (by decide) h)
 ·intro h
  obtain ⟨m, rfl⟩ : ∃ m, k = m + 1 := ⟨k - 1, by omega⟩
  exact Wp h
end Go.Ar

namespace Go.Ar
open Go Go.Sx Go.Lib
set_option maxRecDepth 100000
def zV (b : Int) : List Int → Int
 | [] => 0
 | x :: l => x + b * zV b l
def Z2 (b : Int) (l : List Int) : Prop := ∀ x ∈ l, 0 ≤ x ∧ x < b
def YX : List Int → List Int
 | [] => []
 | x :: l => if YX l = [] ∧ x = 0 then [] else x :: YX l
def yV (b n : Nat) : List Int :=
 if h : n = 0 ∨ b < 2 then [] else ((n % b : Nat) : Int) :: yV b (n / b)
termination_by n
decreasing_by
 have h2 : n / b < n := Nat.div_lt_self (by omega) (by omega)
 exact h2
theorem Y9 (b : Nat) : yV b 0 = [] := by rw [yV, dif_pos (.inl rfl)]
theorem Vp {b n : Nat} (hb : 2 ≤ b) (h : n ≠ 0) : yV b n = ((n % b : Nat) : Int) :: yV b (n / b) := by
 conv => lhs; rw [yV]
 rw [dif_neg (by omega)]
theorem Z2.nil (b : Int) : Z2 b [] := fun _ h => by cases h
theorem Z2.tail {b x : Int} {l : List Int} (h : Z2 b (x :: l)) : Z2 b l := fun y hy => h y (List.mem_cons_of_mem _ hy)
theorem Z2.head {b x : Int} {l : List Int} (h : Z2 b (x :: l)) : 0 ≤ x ∧ x < b := h x List.mem_cons_self
theorem Z2.app {b : Int} {l m : List Int} (h : Z2 b l) (h2 : Z2 b m) : Z2 b (l ++ m) := fun x hx => (List.mem_append.1 hx).elim (h x) (h2 x)
theorem Z2.one {b x : Int} (h0 : 0 ≤ x) (h1 : x < b) : Z2 b [x] := fun y hy => by rw [List.mem_singleton] at hy; subst hy; exact ⟨h0, h1⟩
theorem Z2.snoc {b x : Int} {l : List Int} (h : Z2 b l) (h0 : 0 ≤ x) (h1 : x < b) : Z2 b (l ++ [x]) := h.app (.one h0 h1)
theorem Z2.take {b : Int} {l : List Int} (h : Z2 b l) (n : Nat) : Z2 b (l.take n) := fun x hx => h x (List.mem_of_mem_take hx)
theorem Z2.drop {b : Int} {l : List Int} (h : Z2 b l) (n : Nat) : Z2 b (l.drop n) := fun x hx => h x (List.mem_of_mem_drop hx)
theorem Z2.get {b : Int} {l : List Int} (h : Z2 b l) (hb : 0 < b) (i : Nat) : 0 ≤ l.getD i 0 ∧ l.getD i 0 < b := by
 rw [List.getD_eq_getElem?_getD]
 by_cases hi : i < l.length
 ·rw [List.getElem?_eq_getElem hi]; exact h _ (List.getElem_mem hi)
 ·rw [List.getElem?_eq_none (by omega)]; exact ⟨Int.le_refl _, hb⟩
theorem Z2.set {b x : Int} {l : List Int} (h : Z2 b l) (h0 : 0 ≤ x) (h1 : x < b) (i : Nat) : Z2 b (l.set i x) := fun y hy => by
 rcases List.mem_or_eq_of_mem_set hy with hy | rfl
 ·exact h y hy
 ·exact ⟨h0, h1⟩
theorem z7 {b : Int} (hb : 0 ≤ b) : ∀ {l : List Int}, Z2 b l → 0 ≤ zV b l
 | [], _ => Int.le_refl _
 | x :: l, h => by
  have h1 := h.head
  have h2 := Int.mul_nonneg hb (z7 hb h.tail)
  show 0 ≤ x + b * zV b l
  omega
theorem WR (b : Int) (l m : List Int) : zV b (l ++ m) = zV b l + b ^ l.length * zV b m := by
 induction l with
 | nil => simp [zV]
 | cons x l ih =>
  show x + b * zV b (l ++ m) = x + b * zV b l + b ^ (l.length + 1) * zV b m
  rw [ih, Int.mul_add, Int.pow_succ, ← Int.mul_assoc, Int.mul_comm b (b ^ l.length)]
  omega
theorem Ya (b : Int) (l : List Int) (x : Int) : zV b (l ++ [x]) = zV b l + b ^ l.length * x := by
 rw [WR]
 show _ + _ * (x + b * 0) = _
 rw [Int.mul_zero, Int.add_zero]
theorem XX {b : Int} (hb : 0 < b) : ∀ {l : List Int}, Z2 b l → zV b l < b ^ l.length
 | [], _ => by simp [zV]
 | x :: l, h => by
  have h1 := h.head
  have h2 := XX hb h.tail
  show x + b * zV b l < b ^ (l.length + 1)
  rw [Int.pow_succ, Int.mul_comm _ b]
  have h3 : b * (zV b l + 1) ≤ b * b ^ l.length := Int.mul_le_mul_of_nonneg_left (by omega) (by omega)
  rw [Int.mul_add, Int.mul_one] at h3
  omega
theorem U9 {l : List Int} {i : Nat} (h : i < l.length) : l.take (i + 1) = l.take i ++ [l.getD i 0] := by
 rw [List.take_add_one, List.getElem?_eq_getElem h, List.getD_eq_getElem?_getD, List.getElem?_eq_getElem h]; rfl
theorem s7 (b : Int) {l : List Int} {i : Nat} (h : i < l.length) : zV b (l.take (i + 1)) = zV b (l.take i) + b ^ i * l.getD i 0 := by
 rw [U9 h, Ya, List.length_take, Nat.min_eq_left (by omega)]
theorem ZY (b : Int) (l : List Int) (i : Nat) : zV b (l.take (i + 1)) = zV b (l.take i) + b ^ i * l.getD i 0 := by
 by_cases h : i < l.length
 ·exact s7 b h
 ·rw [List.take_of_length_le (by omega), List.take_of_length_le (by omega), List.getD_eq_getElem?_getD, List.getElem?_eq_none (by omega)]
  simp
theorem xG (b : Int) : ∀ {l : List Int} {i : Nat} (x : Int), i < l.length → zV b (l.set i x) = zV b l + b ^ i * (x - l.getD i 0)
 | [], i, x, h => by cases h
 | y :: l, 0, x, h => by
  show x + b * zV b l = y + b * zV b l + b ^ 0 * (x - y)
  rw [Int.pow_zero, Int.one_mul]; omega
 | y :: l, i + 1, x, h => by
  show y + b * zV b (l.set i x) = y + b * zV b l + b ^ (i + 1) * (x - l.getD i 0)
  rw [xG b x (by simpa using h), Int.mul_add, Int.pow_succ, Int.mul_comm _ b, Int.mul_assoc]
  omega
theorem Wq (b : Int) : ∀ n : Nat, zV b (List.replicate n 0) = 0
 | 0 => rfl
 | n + 1 => by rw [List.replicate_succ]; show 0 + b * zV b _ = 0; rw [Wq b n]; simp
theorem Z2.zeros {b : Int} (hb : 0 < b) (n : Nat) : Z2 b (List.replicate n 0) := fun x hx => by rw [List.eq_of_mem_replicate hx]; exact ⟨Int.le_refl _, hb⟩
theorem sD {b : Nat} (hb : 2 ≤ b) (n : Nat) : zV b (yV b n) = (n : Int) := by
 induction n using Nat.strongRecOn with
 | _ n ih =>
  by_cases h : n = 0
  ·subst h; rw [Y9]; rfl
  ·rw [Vp hb h]
   show ((n % b : Nat) : Int) + (b : Int) * zV b (yV b (n / b)) = n
   rw [ih (n / b) (Nat.div_lt_self (by omega) (by omega))]
   exact_mod_cast Nat.mod_add_div n b
theorem yG {b : Nat} (hb : 2 ≤ b) : ∀ {l : List Int}, Z2 b l → YX l = yV b (zV b l).toNat
 | [], _ => by
  show [] = yV b 0
  rw [Y9]
 | x :: l, h => by
  have ih := yG hb h.tail
  have h0 := z7 (b := (b : Int)) (by omega) h.tail
  have hx := h.head
  obtain ⟨m, hm⟩ : ∃ m : Nat, zV b l = m := ⟨(zV b l).toNat, by omega⟩
  obtain ⟨y, rfl⟩ : ∃ y : Nat, x = y := ⟨x.toNat, by omega⟩
  have e : (zV b ((y : Int) :: l)).toNat = y + b * m := by
   show ((y : Int) + (b : Int) * zV b l).toNat = _
   rw [hm]
   have : (y : Int) + (b : Int) * (m : Int) = ((y + b * m : Nat) : Int) := by push_cast; rfl
   rw [this, Int.toNat_natCast]
  rw [hm, Int.toNat_natCast] at ih
  rw [e]
  have hy : y < b := by omega
  by_cases hz : y + b * m = 0
  ·rw [hz, Y9]
   have hy0 : y = 0 := by omega
   have hm0 : b * m = 0 := by omega
   have hm1 : m = 0 := by
    rcases Nat.mul_eq_zero.1 hm0 with h | h
    ·omega
    ·exact h
   unfold YX
   rw [if_pos ⟨by rw [ih, hm1, Y9], by omega⟩]
  ·rw [Vp hb hz, Nat.add_mul_mod_self_left, Nat.mod_eq_of_lt hy, Nat.add_mul_div_left _ _ (by omega), Nat.div_eq_of_lt hy, Nat.zero_add, ← ih]
   show (if YX l = [] ∧ (y : Int) = 0 then [] else (y : Int) :: YX l) = _
   rw [if_neg]
   rintro ⟨h1, h2⟩
   rw [ih] at h1
   have h3 := sD hb m
   rw [h1] at h3
   have h3 : (0 : Int) = (m : Int) := h3
   have : m = 0 := by omega
   subst this
   simp at hz
   omega
end Go.Ar

namespace Go.Ar
open Go Go.Sx Go.Lib
set_option maxRecDepth 100000
def R4 (s : zp) : Nat := match s with | 45 :: r => r.length | r => r.length
theorem Qm {n : Int} {k : Nat} (hk : 0 < k) (h : n.natAbs < 10 ^ k) : Pp n ≤ k := (Yr hk).2 h
end Go.Ar

namespace Go.Ar
open Go Go.Sx Go.Lib
set_option maxRecDepth 100000
theorem Yp {b : Int} (hb : 0 < b) (n : Nat) : 0 < b ^ n := Int.pow_pos hb
theorem YY (b : Int) (n : Nat) : b ^ (n + 1) = b ^ n * b := Int.pow_succ b n
theorem po {n b : Int} (h : 0 ≤ n) (hb : 0 < b) : n.tmod b + b * n.tdiv b = n ∧ 0 ≤ n.tmod b ∧ n.tmod b < b ∧ 0 ≤ n.tdiv b := by
 rw [Int.tmod_eq_emod_of_nonneg h, Int.tdiv_eq_ediv_of_nonneg h]
 exact ⟨Int.emod_add_mul_ediv n b, Int.emod_nonneg n (by omega), Int.emod_lt_of_pos n hb, Int.ediv_nonneg h (by omega)⟩
structure U0 (b : Int) (x y : List Int) (z : Nat) (out : List Int) (c : Int) : Prop where
 len : out.length = z
 in_ : Z2 b out
 c0 : 0 ≤ c
 c1 : c ≤ 1
 val : zV b out + b ^ z * c = zV b (x.take z) + zV b (y.take z)
theorem U0.zero (b : Int) (x y : List Int) : U0 b x y 0 [] 0 := ⟨rfl, .nil b, Int.le_refl _, by omega, by simp [zV]⟩
theorem U0.step {b : Int} (hb : 2 ≤ b) {x y : List Int} (hx : Z2 b x) (hy : Z2 b y) {z : Nat} {out : List Int} {c : Int} (h : U0 b x y z out c) :
  U0 b x y (z + 1) (out ++ [(x.getD z 0 + y.getD z 0 + c).tmod b]) ((x.getD z 0 + y.getD z 0 + c).tdiv b) := by
 have x1 := hx.get (by omega) z
 have y1 := hy.get (by omega) z
 have h0 := h.c0
 have h1 := h.c1
 obtain ⟨e, m0, m1, d0⟩ := po (n := x.getD z 0 + y.getD z 0 + c) (b := b) (by omega) (by omega)
 have hd : (x.getD z 0 + y.getD z 0 + c).tdiv b ≤ 1 := by
  refine Decidable.byContradiction fun hn => ?_
  have : b * 2 ≤ b * (x.getD z 0 + y.getD z 0 + c).tdiv b := Int.mul_le_mul_of_nonneg_left (by omega) (by omega)
  omega
 refine ⟨by simp [h.len], h.in_.snoc m0 m1, d0, hd, ?_⟩
 rw [Ya, h.len, ZY, ZY]
 have hv := h.val
 generalize (x.getD z 0 + y.getD z 0 + c).tmod b = m at *
 generalize (x.getD z 0 + y.getD z 0 + c).tdiv b = d at *
 have e2 : b ^ z * m + b ^ (z + 1) * d = b ^ z * x.getD z 0 + b ^ z * y.getD z 0 + b ^ z * c := by
  rw [YY, Int.mul_assoc, ← Int.mul_add, e, Int.mul_add, Int.mul_add]
 omega
theorem yr {x : List Int} {n : Nat} (h : x.length ≤ n) : x.take n = x := List.take_of_length_le h
theorem U0.end_ {b : Nat} (hb : 2 ≤ b) {x y : List Int} (hx : Z2 b x) (hy : Z2 b y) {z : Nat} {out : List Int} {c : Int} (h : U0 b x y z out c) (h1 : x.length < z) (h2 : y.length < z) :
  YX out = yV b (zV b x + zV b y).toNat := by
 have hv := h.val
 rw [yr (by omega), yr (by omega)] at hv
 have x1 := XX (b := (b : Int)) (by omega) hx
 have y1 := XX (b := (b : Int)) (by omega) hy
 have hp : ∀ n, n < z → (b : Int) ^ n * 2 ≤ (b : Int) ^ z := fun n hn => by
  have p1 : b ^ n * 2 ≤ b ^ n * b := Nat.mul_le_mul_left _ hb
  have p2 : b ^ (n + 1) ≤ b ^ z := Nat.pow_le_pow_right (by omega) (by omega)
  rw [Nat.pow_succ] at p2
  exact_mod_cast Nat.le_trans p1 p2
 have p1 := hp _ h1
 have p2 := hp _ h2
 have o0 := z7 (b := (b : Int)) (by omega) h.in_
 have hc : c = 0 := by
  refine Decidable.byContradiction fun hn => ?_
  have : c = 1 := by have := h.c0; have := h.c1; omega
  rw [this, Int.mul_one] at hv
  omega
 rw [hc, Int.mul_zero, Int.add_zero] at hv
 rw [yG hb h.in_, hv]
structure UJ (b : Int) (x y : List Int) (z : Nat) (out : List Int) (c : Int) : Prop where
 len : out.length = z
 in_ : Z2 b out
 c0 : 0 ≤ c
 c1 : c ≤ 1
 val : zV b out - b ^ z * c = zV b (x.take z) - zV b (y.take z)
theorem UJ.zero (b : Int) (x y : List Int) : UJ b x y 0 [] 0 := ⟨rfl, .nil b, Int.le_refl _, by omega, by simp [zV]⟩
theorem UJ.step {b : Int} (hb : 2 ≤ b) {x y : List Int} (hx : Z2 b x) (hy : Z2 b y) {z : Nat} {out : List Int} {c : Int} (h : UJ b x y z out c) :
  (0 ≤ x.getD z 0 - y.getD z 0 - c → UJ b x y (z + 1) (out ++ [x.getD z 0 - y.getD z 0 - c]) 0) ∧
  (x.getD z 0 - y.getD z 0 - c < 0 → UJ b x y (z + 1) (out ++ [x.getD z 0 - y.getD z 0 - c + b]) 1) := by
 have x1 := hx.get (by omega) z
 have y1 := hy.get (by omega) z
 have h0 := h.c0
 have h1 := h.c1
 have hv := h.val
 refine ⟨fun hn => ⟨by simp [h.len], h.in_.snoc hn (by omega), Int.le_refl _, by omega, ?_⟩, fun hn => ⟨by simp [h.len], h.in_.snoc (by omega) (by omega), by omega, Int.le_refl _, ?_⟩⟩
 ·rw [Ya, h.len, ZY, ZY, Int.mul_sub, Int.mul_sub]
  omega
 ·rw [Ya, h.len, ZY, ZY, Int.mul_add, Int.mul_sub, Int.mul_sub, YY]
  omega
theorem UJ.end_ {b : Nat} (hb : 2 ≤ b) {x y : List Int} {z : Nat} {out : List Int} {c : Int} (h : UJ b x y z out c) (h1 : x.length ≤ z) (h2 : y.length ≤ z) (hle : zV b y ≤ zV b x) :
  YX out = yV b (zV b x - zV b y).toNat := by
 have hv := h.val
 rw [yr (by omega), yr (by omega)] at hv
 have o1 := XX (b := (b : Int)) (by omega) h.in_
 rw [h.len] at o1
 have hc : c = 0 := by
  refine Decidable.byContradiction fun hn => ?_
  have : c = 1 := by have := h.c0; have := h.c1; omega
  rw [this, Int.mul_one] at hv
  omega
 rw [hc, Int.mul_zero, Int.sub_zero] at hv
 rw [yG hb h.in_, hv]
structure sT (b : Int) (x y : List Int) (z : Nat) (out : List Int) : Prop where
 len : out.length = x.length + y.length + 1
 in_ : Z2 b out
 zero : ∀ i, z + y.length ≤ i → out.getD i 0 = 0
 val : zV b out = zV b (x.take z) * zV b y
structure MulK (b : Int) (x y : List Int) (z k : Nat) (out : List Int) (c : Int) : Prop where
 len : out.length = x.length + y.length + 1
 in_ : Z2 b out
 zero : ∀ i, z + y.length ≤ i → z + k ≤ i → out.getD i 0 = 0
 c0 : 0 ≤ c
 c1 : c < b
 val : zV b out + b ^ (z + k) * c = zV b (x.take z) * zV b y + b ^ z * (x.getD z 0 * zV b (y.take k))
theorem xf (b : Int) : zV b [] = 0 := rfl
theorem Wa (n i : Nat) : (List.replicate n (0 : Int)).getD i 0 = 0 := by
 rw [List.getD_eq_getElem?_getD, List.getElem?_replicate]; split <;> rfl
theorem sT.start {b : Int} {x y : List Int} {z : Nat} {out : List Int} (hb : 0 < b) (h : sT b x y z out) : MulK b x y z 0 out 0 :=
 ⟨h.len, h.in_, fun i hi _ => h.zero i hi, Int.le_refl _, hb, by rw [List.take_zero, xf, h.val]; simp⟩
theorem yj (l : List Int) (i j : Nat) (v : Int) (hj : j < l.length) : (l.set j v).getD i 0 = if i = j then v else l.getD i 0 := by
 rw [List.getD_eq_getElem?_getD, List.getD_eq_getElem?_getD, List.getElem?_set]
 by_cases e : j = i
 ·subst e; rw [if_pos rfl, if_pos hj, if_pos rfl]; rfl
 ·rw [if_neg e, if_neg fun h => e h.symm]
theorem MulK.step {b : Int} (hb : 2 ≤ b) {x y : List Int} (hx : Z2 b x) (hy : Z2 b y) {z k : Nat} (hz : z < x.length) (hk : k ≤ y.length) {out : List Int} {c : Int} (h : MulK b x y z k out c) :
  (0 ≤ out.getD (z + k) 0 + x.getD z 0 * y.getD k 0 + c ∧ out.getD (z + k) 0 + x.getD z 0 * y.getD k 0 + c < b * b) ∧
  MulK b x y z (k + 1) (out.set (z + k) ((out.getD (z + k) 0 + x.getD z 0 * y.getD k 0 + c).tmod b)) ((out.getD (z + k) 0 + x.getD z 0 * y.getD k 0 + c).tdiv b) := by
 have x1 := hx.get (by omega) z
 have y1 := hy.get (by omega) k
 have o1 := h.in_.get (by omega) (z + k)
 have h0 := h.c0
 have h1 := h.c1
 have p0 : 0 ≤ x.getD z 0 * y.getD k 0 := Int.mul_nonneg x1.1 y1.1
 have p1 : x.getD z 0 * y.getD k 0 ≤ (b - 1) * (b - 1) := Int.mul_le_mul (by omega) (by omega) y1.1 (by omega)
 have p2 : (b - 1) * (b - 1) = b * b - 2 * b + 1 := by rw [Int.sub_mul, Int.mul_sub]; omega
 have hn0 : 0 ≤ out.getD (z + k) 0 + x.getD z 0 * y.getD k 0 + c := by omega
 have hn1 : out.getD (z + k) 0 + x.getD z 0 * y.getD k 0 + c < b * b := by omega
 obtain ⟨e, m0, m1, d0⟩ := po (b := b) hn0 (by omega)
 have hd : (out.getD (z + k) 0 + x.getD z 0 * y.getD k 0 + c).tdiv b < b := by
  refine Decidable.byContradiction fun hn => ?_
  have : b * b ≤ b * (out.getD (z + k) 0 + x.getD z 0 * y.getD k 0 + c).tdiv b := Int.mul_le_mul_of_nonneg_left (by omega) (by omega)
  omega
 have hlen : z + k < out.length := by rw [h.len]; omega
 refine ⟨⟨hn0, hn1⟩, by rw [List.length_set]; exact h.len, h.in_.set m0 m1 _, fun i hi hi2 => ?_, d0, hd, ?_⟩
 ·rw [yj _ _ _ _ hlen, if_neg (by omega)]
  exact h.zero i hi (by omega)
 ·rw [xG b _ hlen, ZY]
  have hv := h.val
  generalize hn : out.getD (z + k) 0 + x.getD z 0 * y.getD k 0 + c = n at *
  have e2 : b ^ (z + k) * (n.tmod b - out.getD (z + k) 0) + b ^ (z + (k + 1)) * n.tdiv b = b ^ (z + k) * (x.getD z 0 * y.getD k 0) + b ^ (z + k) * c := by
   rw [show z + (k + 1) = z + k + 1 by omega, YY, Int.mul_assoc, ← Int.mul_add, ← Int.mul_add]
   congr 1
   omega
  have e3 : b ^ z * (x.getD z 0 * (zV b (y.take k) + b ^ k * y.getD k 0)) = b ^ z * (x.getD z 0 * zV b (y.take k)) + b ^ (z + k) * (x.getD z 0 * y.getD k 0) := by
   rw [Int.mul_add, Int.mul_add, Int.pow_add]
   congr 1
   rw [← Int.mul_assoc (x.getD z 0), Int.mul_comm (x.getD z 0) (b ^ k), Int.mul_assoc, ← Int.mul_assoc]
  rw [e3]
  omega
theorem MulK.end_ {b : Int} (hb : 2 ≤ b) {x y : List Int} (hx : Z2 b x) (hy : Z2 b y) {z : Nat} (hz : z < x.length) {out : List Int} {c : Int} (h : MulK b x y z (y.length + 1) out c) (hc : c = 0) : sT b x y (z + 1) out := by
 subst hc
 refine ⟨h.len, h.in_, fun i hi => h.zero i (by omega) (by omega), ?_⟩
 have hv := h.val
 rw [Int.mul_zero, Int.add_zero, yr (x := y) (by omega)] at hv
 rw [hv, ZY b x, Int.add_mul, Int.mul_assoc]
theorem MulK.last {b : Int} (hb : 2 ≤ b) {x y : List Int} {z : Nat} {out : List Int} {c : Int} (h : MulK b x y z y.length out c) : (out.getD (z + y.length) 0 + x.getD z 0 * y.getD y.length 0 + c).tdiv b = 0 := by
 have e : y.getD y.length 0 = 0 := by rw [List.getD_eq_getElem?_getD, List.getElem?_eq_none (Nat.le_refl _)]; rfl
 rw [h.zero _ (Nat.le_refl _) (Nat.le_refl _), e]
 rw [Int.mul_zero, Int.add_zero, Int.zero_add]
 exact Int.tdiv_eq_zero_of_lt h.c0 h.c1
theorem sT.end_ {b : Nat} (hb : 2 ≤ b) {x y : List Int} {out : List Int} (h : sT b x y x.length out) : YX out = yV b (zV b x * zV b y).toNat := by
 have hv := h.val
 rw [List.take_length] at hv
 rw [yG hb h.in_, hv]
end Go.Ar

namespace Go.Ar
open Go Go.Sx Go.Lib
set_option maxRecDepth 100000
theorem Vw {l : List Int} {z : Nat} (h : z < l.length) : l.drop z = l.getD z 0 :: l.drop (z + 1) := by
 rw [List.drop_eq_getElem_cons h, List.getD_eq_getElem?_getD, List.getElem?_eq_getElem h]; rfl
theorem X6 (b : Int) {l : List Int} {z : Nat} (h : z < l.length) : zV b (l.drop z) = l.getD z 0 + b * zV b (l.drop (z + 1)) := by rw [Vw h]; rfl
theorem YV (b : Int) (l : List Int) {z : Nat} (h : z ≤ l.length) : zV b l = zV b (l.take z) + b ^ z * zV b (l.drop z) := by
 conv => lhs; rw [← List.take_append_drop z l]
 rw [WR, List.length_take, Nat.min_eq_left h]
theorem uH (l : List Int) (z : Nat) (v : Int) (h : z < l.length) : (l.set z v).drop z = v :: l.drop (z + 1) := by
 rw [Vw (by simpa using h), yj _ _ _ _ h, if_pos rfl, List.drop_set]
 rw [if_pos (by omega)]
structure QG (b d : Int) (a : List Int) (z : Nat) (q : List Int) (r : Int) : Prop where
 len : q.length = a.length
 le : z ≤ a.length
 in_ : Z2 b q
 r0 : 0 ≤ r
 r1 : r < d
 val : zV b (a.drop z) = d * zV b (q.drop z) + r
theorem QG.start {b d : Int} (hb : 0 < b) (hd : 0 < d) (a : List Int) : QG b d a a.length (List.replicate a.length 0) 0 :=
 ⟨by simp, Nat.le_refl _, .zeros hb _, Int.le_refl _, hd, by rw [List.drop_of_length_le (Nat.le_refl _), List.drop_of_length_le (by simp)]; simp [zV]⟩
theorem QG.step {b d : Int} (hb : 0 < b) {a : List Int} (ha : Z2 b a) {z : Nat} {q : List Int} {r : Int} (h : QG b d a (z + 1) q r) :
  (0 ≤ a.getD z 0 + r * b ∧ a.getD z 0 + r * b < d * b) ∧ QG b d a z (q.set z ((a.getD z 0 + r * b).tdiv d)) ((a.getD z 0 + r * b).tmod d) := by
 have a1 := ha.get hb z
 have h0 := h.r0
 have h1 := h.r1
 have hz := h.le
 have p0 : 0 ≤ r * b := Int.mul_nonneg h0 (by omega)
 have p1 : (r + 1) * b ≤ d * b := Int.mul_le_mul_of_nonneg_right (by omega) (by omega)
 rw [Int.add_mul, Int.one_mul] at p1
 have n0 : 0 ≤ a.getD z 0 + r * b := by omega
 have n1 : a.getD z 0 + r * b < d * b := by omega
 obtain ⟨e, m0, m1, d0⟩ := po n0 (b := d) (by omega)
 have hq : (a.getD z 0 + r * b).tdiv d < b := by
  refine Decidable.byContradiction fun hn => ?_
  have : d * b ≤ d * (a.getD z 0 + r * b).tdiv d := Int.mul_le_mul_of_nonneg_left (by omega) (by omega)
  omega
 refine ⟨⟨n0, n1⟩, by rw [List.length_set]; exact h.len, by omega, h.in_.set d0 hq _, m0, m1, ?_⟩
 rw [uH _ _ _ (by rw [h.len]; omega), X6 b (by omega), h.val]
 show _ = d * (_ + b * _) + _
 generalize hN : a.getD z 0 + r * b = N at *
 have e2 : b * (d * zV b (q.drop (z + 1)) + r) = d * (b * zV b (q.drop (z + 1))) + r * b := by
  rw [Int.mul_add, ← Int.mul_assoc, Int.mul_comm b d, Int.mul_assoc, Int.mul_comm b r]
 rw [e2, Int.mul_add]
 omega
theorem QG.end_ {b : Nat} (hb : 2 ≤ b) {d : Nat} (hd : 0 < d) (hdb : d ≤ b) {a : List Int} {q : List Int} {r : Int} (h : QG b d a 0 q r) (n : Nat) (hn : zV b a = n) :
  YX q = yV b (n / d) ∧ r = (n % d : Nat) ∧ YX [r] = yV b (n % d) := by
 have hv := h.val
 rw [List.drop_zero, List.drop_zero, hn] at hv
 have q0 := z7 (b := (b : Int)) (by omega) h.in_
 have h0 := h.r0
 have h1 := h.r1
 obtain ⟨Q, hQ⟩ : ∃ Q : Nat, zV b q = Q := ⟨(zV b q).toNat, by omega⟩
 obtain ⟨R, rfl⟩ : ∃ R : Nat, r = R := ⟨r.toNat, by omega⟩
 rw [hQ] at hv
 have hv : n = d * Q + R := by exact_mod_cast hv
 have hR : R < d := by omega
 have e1 : n / d = Q := by rw [hv, Nat.mul_add_div hd, Nat.div_eq_of_lt hR, Nat.add_zero]
 have e2 : n % d = R := by rw [hv, Nat.mul_add_mod, Nat.mod_eq_of_lt hR]
 refine ⟨?_, by rw [e2], ?_⟩
 ·rw [yG hb h.in_, hQ, e1, Int.toNat_natCast]
 ·rw [yG hb (.one (by omega) (by omega)), e2]
  show yV b ((R : Int) + b * 0).toNat = _
  rw [Int.mul_zero, Int.add_zero, Int.toNat_natCast]
def Out (j n : Nat) (u w : List Int) : Prop := ∀ i, i < j ∨ n ≤ i → w.getD i 0 = u.getD i 0
structure WI (b : Int) (u v : List Int) (j : Nat) (q : Int) (i : Nat) (w : List Int) (c : Int) : Prop where
 len : w.length = u.length
 in_ : Z2 b w
 out : Out j (j + i) u w
 c0 : 0 ≤ c
 c1 : c ≤ q + 1
 val : zV b w - b ^ (j + i) * c = zV b u - b ^ j * (q * zV b (v.take i))
theorem WI.start {b : Int} {u v : List Int} {j : Nat} {q : Int} (hu : Z2 b u) (hq : 0 ≤ q) : WI b u v j q 0 u 0 :=
 ⟨rfl, hu, fun _ _ => rfl, Int.le_refl _, by omega, by rw [List.take_zero, xf]; simp⟩
def xe (b n : Int) : Int := bif zl n 0 then (-n + b - 1).tdiv b else 0
theorem SX {b n : Int} (hb : 2 ≤ b) : 0 ≤ xe b n ∧ 0 ≤ n + xe b n * b ∧ (n < b → n + xe b n * b < b) ∧ ∀ q, -(q * b) ≤ n → 0 ≤ q → xe b n ≤ q := by
 unfold xe
 cases h : zl n 0 with
 | true =>
  have h := (zK _ _).1 h
  simp only [cond_true]
  obtain ⟨e, m0, m1, d0⟩ := po (n := -n + b - 1) (b := b) (by omega) (by omega)
  rw [Int.mul_comm] at e
  refine ⟨d0, by omega, fun _ => by omega, fun q hq hq0 => ?_⟩
  refine Decidable.byContradiction fun hn => ?_
  have : (q + 1) * b ≤ (-n + b - 1).tdiv b * b := Int.mul_le_mul_of_nonneg_right (by omega) (by omega)
  rw [Int.add_mul, Int.one_mul] at this
  omega
 | false =>
  have h : ¬ n < 0 := fun e => by rw [(zK _ _).2 e] at h; cases h
  simp only [cond_false, Int.zero_mul, Int.add_zero]
  exact ⟨Int.le_refl _, by omega, fun h => h, fun q _ hq => hq⟩
theorem WI.step {b : Int} (hb : 2 ≤ b) {u v : List Int} (hv : Z2 b v) {j : Nat} {q : Int} (hq : 0 ≤ q) {i : Nat} (hj : j + i < u.length) {w : List Int} {c : Int} (h : WI b u v j q i w c) :
  (-((q + 1) * b) ≤ w.getD (j + i) 0 - c - q * v.getD i 0 ∧ w.getD (j + i) 0 - c - q * v.getD i 0 < b) ∧
  WI b u v j q (i + 1) (w.set (j + i) (w.getD (j + i) 0 - c - q * v.getD i 0 + xe b (w.getD (j + i) 0 - c - q * v.getD i 0) * b)) (xe b (w.getD (j + i) 0 - c - q * v.getD i 0)) := by
 have v1 := hv.get (by omega) i
 have w1 := h.in_.get (by omega) (j + i)
 have h0 := h.c0
 have h1 := h.c1
 have p0 : 0 ≤ q * v.getD i 0 := Int.mul_nonneg hq v1.1
 have p1 : q * v.getD i 0 ≤ q * (b - 1) := Int.mul_le_mul_of_nonneg_left (by omega) hq
 rw [Int.mul_sub, Int.mul_one] at p1
 have n1 : -((q + 1) * b) ≤ w.getD (j + i) 0 - c - q * v.getD i 0 := by rw [Int.add_mul, Int.one_mul]; omega
 have n2 : w.getD (j + i) 0 - c - q * v.getD i 0 < b := by omega
 have hl : j + i < w.length := by rw [h.len]; exact hj
 have hval := h.val
 refine ⟨⟨n1, n2⟩, ?_⟩
 obtain ⟨k0, k1, k2, k3⟩ := SX (b := b) (n := w.getD (j + i) 0 - c - q * v.getD i 0) hb
 refine ⟨by rw [List.length_set]; exact h.len, h.in_.set k1 (k2 n2) _, fun x hx => ?_, k0, k3 _ n1 (by omega), ?_⟩
 ·rw [yj _ _ _ _ hl, if_neg (by omega)]
  exact h.out x (by omega)
 ·rw [xG b _ hl, ZY]
  generalize hC : xe b (w.getD (j + i) 0 - c - q * v.getD i 0) = C
  have e1 : b ^ (j + i) * (w.getD (j + i) 0 - c - q * v.getD i 0 + C * b - w.getD (j + i) 0) - b ^ (j + (i + 1)) * C = -(b ^ (j + i) * c) - b ^ (j + i) * (q * v.getD i 0) := by
   rw [show j + (i + 1) = j + i + 1 by omega, YY, Int.mul_assoc, ← Int.mul_sub, ← Int.mul_neg, ← Int.mul_sub]
   congr 1
   rw [Int.mul_comm b C]
   omega
  have e2 : b ^ j * (q * (zV b (v.take i) + b ^ i * v.getD i 0)) = b ^ j * (q * zV b (v.take i)) + b ^ (j + i) * (q * v.getD i 0) := by
   rw [Int.mul_add, Int.mul_add, Int.pow_add]
   congr 1
   rw [← Int.mul_assoc q, Int.mul_comm q (b ^ i), Int.mul_assoc, ← Int.mul_assoc]
  rw [e2]
  omega
structure U6 (b : Int) (u v : List Int) (j : Nat) (q : Int) (i : Nat) (w : List Int) (c : Int) : Prop where
 len : w.length = u.length
 in_ : Z2 b w
 out : Out j (j + i) u w
 c0 : 0 ≤ c
 c1 : c ≤ q
 val : zV b w + b ^ (j + i) * c = zV b u + b ^ j * (q * zV b (v.take i))
theorem U6.start {b : Int} {u v : List Int} {j : Nat} {q : Int} (hu : Z2 b u) (hq : 0 ≤ q) : U6 b u v j q 0 u 0 :=
 ⟨rfl, hu, fun _ _ => rfl, Int.le_refl _, hq, by rw [List.take_zero, xf]; simp⟩
theorem U6.step {b : Int} (hb : 2 ≤ b) {u v : List Int} (hv : Z2 b v) {j : Nat} {q : Int} (hq : 0 ≤ q) {i : Nat} (hj : j + i < u.length) {w : List Int} {c : Int} (h : U6 b u v j q i w c) :
  (0 ≤ w.getD (j + i) 0 + q * v.getD i 0 + c ∧ w.getD (j + i) 0 + q * v.getD i 0 + c < (q + 1) * b) ∧
  U6 b u v j q (i + 1) (w.set (j + i) ((w.getD (j + i) 0 + q * v.getD i 0 + c).tmod b)) ((w.getD (j + i) 0 + q * v.getD i 0 + c).tdiv b) := by
 have v1 := hv.get (by omega) i
 have w1 := h.in_.get (by omega) (j + i)
 have h0 := h.c0
 have h1 := h.c1
 have p0 : 0 ≤ q * v.getD i 0 := Int.mul_nonneg hq v1.1
 have p1 : q * v.getD i 0 ≤ q * (b - 1) := Int.mul_le_mul_of_nonneg_left (by omega) hq
 rw [Int.mul_sub, Int.mul_one] at p1
 have n1 : 0 ≤ w.getD (j + i) 0 + q * v.getD i 0 + c := by omega
 have n2 : w.getD (j + i) 0 + q * v.getD i 0 + c < (q + 1) * b := by rw [Int.add_mul, Int.one_mul]; omega
 have hl : j + i < w.length := by rw [h.len]; exact hj
 have hval := h.val
 refine ⟨⟨n1, n2⟩, ?_⟩
 obtain ⟨e, m0, m1, d0⟩ := po n1 (b := b) (by omega)
 have hd : (w.getD (j + i) 0 + q * v.getD i 0 + c).tdiv b ≤ q := by
  refine Decidable.byContradiction fun hn => ?_
  have : b * (q + 1) ≤ b * (w.getD (j + i) 0 + q * v.getD i 0 + c).tdiv b := Int.mul_le_mul_of_nonneg_left (by omega) (by omega)
  rw [Int.mul_comm b (q + 1)] at this
  omega
 refine ⟨by rw [List.length_set]; exact h.len, h.in_.set m0 m1 _, fun x hx => ?_, d0, hd, ?_⟩
 ·rw [yj _ _ _ _ hl, if_neg (by omega)]
  exact h.out x (by omega)
 ·rw [xG b _ hl, ZY]
  generalize hN : w.getD (j + i) 0 + q * v.getD i 0 + c = N at *
  have e1 : b ^ (j + i) * (N.tmod b - w.getD (j + i) 0) + b ^ (j + (i + 1)) * N.tdiv b = b ^ (j + i) * c + b ^ (j + i) * (q * v.getD i 0) := by
   rw [show j + (i + 1) = j + i + 1 by omega, YY, Int.mul_assoc, ← Int.mul_add, ← Int.mul_add]
   congr 1
   omega
  have e2 : b ^ j * (q * (zV b (v.take i) + b ^ i * v.getD i 0)) = b ^ j * (q * zV b (v.take i)) + b ^ (j + i) * (q * v.getD i 0) := by
   rw [Int.mul_add, Int.mul_add, Int.pow_add]
   congr 1
   rw [← Int.mul_assoc q, Int.mul_comm q (b ^ i), Int.mul_assoc, ← Int.mul_assoc]
  rw [e2]
  omega
theorem Z2.ext {b : Int} (hb : 0 < b) : ∀ {l m : List Int}, Z2 b l → Z2 b m → l.length = m.length → zV b l = zV b m → l = m
 | [], [], _, _, _, _ => rfl
 | [], _ :: _, _, _, h, _ => by cases h
 | _ :: _, [], _, _, h, _ => by cases h
 | x :: l, y :: m, hl, hm, h, hv => by
  have hx := hl.head
  have hy := hm.head
  have hv : x + b * zV b l = y + b * zV b m := hv
  have e1 : x = (x + b * zV b l) % b := by rw [Int.add_mul_emod_self_left, Int.emod_eq_of_lt hx.1 hx.2]
  have e2 : y = (y + b * zV b m) % b := by rw [Int.add_mul_emod_self_left, Int.emod_eq_of_lt hy.1 hy.2]
  have e3 : x = y := by rw [e1, e2, hv]
  subst e3
  have e4 : b * zV b l = b * zV b m := by omega
  rw [Z2.ext hb hl.tail hm.tail (by simpa using h) (Int.eq_of_mul_eq_mul_left (by omega) e4)]
theorem Rm {b : Int} {u : List Int} {j n : Nat} (h : ∀ i, n ≤ i → u.getD i 0 = 0) (hj : j ≤ n) : zV b (u.drop j) = zV b ((u.take n).drop j) := by
 have e : ∀ {l : List Int}, (∀ i, l.getD i 0 = 0) → zV b l = 0 := by
  intro l
  induction l with
  | nil => intro _; rfl
  | cons x l ih =>
   intro hl
   have h0 : x = 0 := hl 0
   show x + b * zV b l = 0
   rw [h0, ih fun i => hl (i + 1)]; simp
 by_cases hn : n ≤ u.length
 ·have e1 : u.drop j = (u.take n).drop j ++ u.drop n := by
   conv => lhs; rw [← List.take_append_drop n u]
   rw [List.drop_append, List.length_take, Nat.min_eq_left hn, show j - n = 0 by omega, List.drop_zero]
  rw [e1, WR, e (l := u.drop n), Int.mul_zero, Int.add_zero]
  intro i
  rw [List.getD_eq_getElem?_getD, List.getElem?_drop, ← List.getD_eq_getElem?_getD]
  exact h _ (by omega)
 ·rw [List.take_of_length_le (by omega)]
end Go.Ar

namespace Go.Ar
open Go Go.Sx Go.Lib
set_option maxRecDepth 100000
theorem Y4 (l : List Int) (j i : Nat) : (l.drop j).getD i 0 = l.getD (j + i) 0 := by
 rw [List.getD_eq_getElem?_getD, List.getElem?_drop, ← List.getD_eq_getElem?_getD]
theorem WM {b : Int} {l : List Int} {n : Nat} (h : ∀ i, n ≤ i → l.getD i 0 = 0) : zV b l = zV b (l.take n) := by
 have := Rm (b := b) (j := 0) h (Nat.zero_le _)
 rwa [List.drop_zero, List.drop_zero] at this
theorem WV {b : Int} (hb : 0 < b) {l : List Int} (h : Z2 b l) (n : Nat) : 0 ≤ zV b (l.take n) ∧ zV b (l.take n) < b ^ n := by
 refine ⟨z7 (Int.le_of_lt hb) (h.take n), ?_⟩
 have h1 := XX hb (h.take n)
 have h2 : b ^ (l.take n).length ≤ b ^ n := by
  obtain ⟨m, rfl⟩ : ∃ m : Nat, b = m := ⟨b.toNat, by omega⟩
  have : m ^ (l.take n).length ≤ m ^ n := Nat.pow_le_pow_right (by omega) (by simp; omega)
  exact_mod_cast this
 omega
theorem T2 {b : Int} (hb : 0 < b) {l : List Int} (h : Z2 b l) {n : Nat} (hv : zV b l < b ^ n) {i : Nat} (hi : n ≤ i) : l.getD i 0 = 0 := by
 by_cases hl : i < l.length
 ·have e := YV b l (z := i) (by omega)
  rw [X6 b hl] at e
  have h1 := (h.get hb i).1
  have h2 := (WV hb h i).1
  have h3 := z7 (Int.le_of_lt hb) (h.drop (i + 1))
  refine Decidable.byContradiction fun hn => ?_
  have h4 : b ^ i * 1 ≤ b ^ i * (l.getD i 0 + b * zV b (l.drop (i + 1))) := by
   refine Int.mul_le_mul_of_nonneg_left ?_ (Int.le_of_lt (Yp hb i))
   have := Int.mul_nonneg (Int.le_of_lt hb) h3
   omega
  have h5 : b ^ n ≤ b ^ i := by
   obtain ⟨m, rfl⟩ : ∃ m : Nat, b = m := ⟨b.toNat, by omega⟩
   have : m ^ n ≤ m ^ i := Nat.pow_le_pow_right (by omega) hi
   exact_mod_cast this
  omega
 ·rw [List.getD_eq_getElem?_getD, List.getElem?_eq_none (by omega)]; rfl
structure Qx (b top v1 W V q r : Int) : Prop where
 eq : q * v1 + r = top
 r0 : 0 ≤ r
 q0 : 0 ≤ q
 lt : W < (q + 1) * V
 le : q < 2 * b
structure R3 (b : Int) (k : Nat) (u0 u1 u2 v1 v2 W V : Int) : Prop where
 hb : 2 ≤ b
 hu0 : 0 ≤ u0 ∧ u0 ≤ v1
 hu1 : 0 ≤ u1 ∧ u1 < b
 hu2 : 0 ≤ u2 ∧ u2 < b
 hv1 : 0 < v1 ∧ v1 < b
 hv2 : 0 ≤ v2 ∧ v2 < b
 w : W < b ^ k * (u2 + 1 + b * (u0 * b + u1))
 v : b ^ k * (v2 + b * v1) ≤ V
theorem R3.start {b : Int} {k : Nat} {u0 u1 u2 v1 v2 W V : Int} (h : R3 b k u0 u1 u2 v1 v2 W V) : Qx b (u0 * b + u1) v1 W V ((u0 * b + u1).tdiv v1) ((u0 * b + u1).tmod v1) := by
 have hb := h.hb
 have a0 := h.hu0
 have a1 := h.hu1
 have a2 := h.hu2
 have b1 := h.hv1
 have b2 := h.hv2
 have p0 : 0 ≤ u0 * b := Int.mul_nonneg a0.1 (by omega)
 obtain ⟨e, m0, m1, d0⟩ := po (n := u0 * b + u1) (b := v1) (by omega) b1.1
 have hp := Yp (b := b) (by omega) k
 refine ⟨by rw [Int.mul_comm]; omega, m0, d0, ?_, ?_⟩
 ·generalize hq : (u0 * b + u1).tdiv v1 = q at *
  have t1 : u0 * b + u1 + 1 ≤ (q + 1) * v1 := by rw [Int.add_mul, Int.one_mul, Int.mul_comm q]; omega
  have t2 : b * (u0 * b + u1 + 1) ≤ b * ((q + 1) * v1) := Int.mul_le_mul_of_nonneg_left t1 (by omega)
  have t3 : b ^ k * (u2 + 1 + b * (u0 * b + u1)) ≤ b ^ k * (b * ((q + 1) * v1)) := Int.mul_le_mul_of_nonneg_left (by rw [Int.mul_add, Int.mul_one] at t2; omega) (Int.le_of_lt hp)
  have t4 : (q + 1) * (b ^ k * (v2 + b * v1)) ≤ (q + 1) * V := Int.mul_le_mul_of_nonneg_left h.v (by omega)
  have t5 : b ^ k * (b * ((q + 1) * v1)) ≤ (q + 1) * (b ^ k * (v2 + b * v1)) := by
   rw [← Int.mul_assoc (q + 1), Int.mul_comm (q + 1) (b ^ k), Int.mul_assoc]
   refine Int.mul_le_mul_of_nonneg_left ?_ (Int.le_of_lt hp)
   rw [Int.mul_add]
   have := Int.mul_nonneg (show 0 ≤ q + 1 by omega) b2.1
   have e6 : b * ((q + 1) * v1) = (q + 1) * (b * v1) := by rw [← Int.mul_assoc, Int.mul_comm b, Int.mul_assoc]
   omega
  have := h.w
  omega
 ·refine Decidable.byContradiction fun hn => ?_
  have t1 : v1 * (2 * b) ≤ v1 * (u0 * b + u1).tdiv v1 := Int.mul_le_mul_of_nonneg_left (by omega) (by omega)
  have t2 : u0 * b ≤ v1 * b := Int.mul_le_mul_of_nonneg_right a0.2 (by omega)
  have t3 : v1 * (2 * b) = v1 * b + v1 * b := by rw [Int.two_mul, Int.mul_add]
  have t4 : 1 * b ≤ v1 * b := Int.mul_le_mul_of_nonneg_right (by omega) (by omega)
  omega
theorem R3.step {b : Int} {k : Nat} {u0 u1 u2 v1 v2 W V q r : Int} (h : R3 b k u0 u1 u2 v1 v2 W V) (hi : Qx b (u0 * b + u1) v1 W V q r) (hW : W < b * V) (hV : 0 < V)
  (hc : b ≤ q ∨ r * b + u2 < q * v2) : 0 < q ∧ Qx b (u0 * b + u1) v1 W V (q - 1) (r + v1) := by
 have hb := h.hb
 have a2 := h.hu2
 have b1 := h.hv1
 have b2 := h.hv2
 have q0 := hi.q0
 have r0 := hi.r0
 have hp := Yp (b := b) (by omega) k
 have hq : 0 < q := by
  rcases hc with hc | hc
  ·omega
  ·refine Decidable.byContradiction fun hn => ?_
   have : q = 0 := by omega
   subst this
   have := Int.mul_nonneg r0 (show 0 ≤ b by omega)
   omega
 refine ⟨hq, by rw [Int.sub_mul, Int.one_mul]; have := hi.eq; omega, by omega, by omega, ?_, by have := hi.le; omega⟩
 rw [Int.sub_add_cancel]
 rcases hc with hc | hc
 ·have : b * V ≤ q * V := Int.mul_le_mul_of_nonneg_right hc (by omega)
  omega
 ·have t1 : q * (b ^ k * (v2 + b * v1)) ≤ q * V := Int.mul_le_mul_of_nonneg_left h.v q0
  have t2 : b ^ k * (u2 + 1 + b * (u0 * b + u1)) ≤ q * (b ^ k * (v2 + b * v1)) := by
   rw [← Int.mul_assoc q, Int.mul_comm q (b ^ k), Int.mul_assoc]
   refine Int.mul_le_mul_of_nonneg_left ?_ (Int.le_of_lt hp)
   rw [← hi.eq, Int.mul_add, Int.mul_add, ← Int.mul_assoc q b, Int.mul_comm q b, Int.mul_assoc b q, Int.mul_comm b r]
   omega
  have := h.w
  omega
structure uP (b A V : Int) (n m j : Nat) (q u : List Int) : Prop where
 ql : q.length = m
 ul : u.length = m + n
 qi : Z2 b q
 ui : Z2 b u
 hi : ∀ i, j + n ≤ i → u.getD i 0 = 0
 top : zV b (u.drop j) < V
 val : A = V * (b ^ j * zV b (q.drop j)) + zV b u
theorem uP.start {b A V : Int} (hb : 0 < b) {n m : Nat} {u : List Int} (hl : u.length = m + n) (hu : Z2 b u) (hV : zV b (u.drop m) < V) (hA : A = zV b u) : uP b A V n m m (List.replicate m 0) u :=
 ⟨by simp, hl, .zeros hb m, hu, fun i hi => by rw [List.getD_eq_getElem?_getD, List.getElem?_eq_none (by omega)]; rfl, hV, by
  rw [List.drop_of_length_le (by simp), xf, Int.mul_zero, Int.mul_zero, Int.zero_add]; exact hA⟩
theorem uP.win {b A V : Int} (hb : 0 < b) {n m j : Nat} {q u : List Int} (hn : 0 < n) (hj : j < m) (h : uP b A V n m (j + 1) q u) : 0 ≤ zV b (u.drop j) ∧ zV b (u.drop j) < b * V := by
 have h1 := h.ui.get hb j
 have h2 := h.top
 rw [X6 b (by rw [h.ul]; omega)]
 have h3 : b * (zV b (u.drop (j + 1)) + 1) ≤ b * V := Int.mul_le_mul_of_nonneg_left (by omega) (by omega)
 rw [Int.mul_add, Int.mul_one] at h3
 have h4 := Int.mul_nonneg (Int.le_of_lt hb) (z7 (Int.le_of_lt hb) (h.ui.drop (j + 1)))
 omega
theorem Wc {u w : List Int} {j n : Nat} (hl : w.length = u.length) (h : Out j n u w) : w.take j = u.take j := by
 refine List.ext_getElem (by simp [hl]) fun i h1 h2 => ?_
 have hi : i < j := by simp at h1; omega
 have hiw : i < w.length := by simp at h1; omega
 have e := h i (.inl hi)
 rw [List.getD_eq_getElem?_getD, List.getElem?_eq_getElem hiw, List.getD_eq_getElem?_getD, List.getElem?_eq_getElem (by omega)] at e
 rw [List.getElem_take, List.getElem_take]
 exact e
theorem ug {b : Int} {u w : List Int} {j n : Nat} (hl : w.length = u.length) (hj : j ≤ u.length) (h : Out j n u w) : zV b w - zV b u = b ^ j * (zV b (w.drop j) - zV b (u.drop j)) := by
 rw [YV b w (z := j) (by omega), YV b u (z := j) hj, Wc hl h, Int.mul_sub]
 omega
theorem WI.end_ {b : Int} (hb : 2 ≤ b) {u v : List Int} {j : Nat} {q : Int} {w : List Int} {c : Int} (hj : j ≤ u.length) (hz : ∀ i, j + 1 + v.length ≤ i → u.getD i 0 = 0) (h : WI b u v j q (v.length + 1) w c) :
  zV b (w.drop j) - b ^ (v.length + 1) * c = zV b (u.drop j) - q * zV b v ∧ 0 ≤ zV b (w.drop j) ∧ zV b (w.drop j) < b ^ (v.length + 1) := by
 have hv := h.val
 rw [yr (by omega)] at hv
 have hl := ug (b := b) h.len hj h.out
 refine ⟨?_, z7 (by omega) (h.in_.drop j), ?_⟩
 ·have e : b ^ j * (zV b (w.drop j) - b ^ (v.length + 1) * c) = b ^ j * (zV b (u.drop j) - q * zV b v) := by
   rw [Int.mul_sub, Int.mul_sub, ← Int.mul_assoc, ← Int.pow_add]
   rw [Int.mul_sub] at hl
   omega
  exact Int.eq_of_mul_eq_mul_left (by have := Yp (b := b) (by omega) j; omega) e
 ·have hz2 : ∀ i, v.length + 1 ≤ i → (w.drop j).getD i 0 = 0 := fun i hi => by
   rw [Y4, h.out _ (.inr (by omega)), hz _ (by omega)]
  rw [WM hz2]
  exact (WV (by omega) (h.in_.drop j) _).2
theorem WI.fits {b : Int} (hb : 2 ≤ b) {u v : List Int} {j : Nat} {q : Int} {w : List Int} {c : Int} (hj : j ≤ u.length) (hz : ∀ i, j + 1 + v.length ≤ i → u.getD i 0 = 0) (h : WI b u v j q (v.length + 1) w c) :
  (c ≤ 0 → zV b (w.drop j) = zV b (u.drop j) - q * zV b v) ∧ (0 < c → zV b (u.drop j) < q * zV b v) := by
 obtain ⟨e, e0, e1⟩ := h.end_ hb hj hz
 have hp := Yp (b := b) (by omega) (v.length + 1)
 constructor
 ·intro hc
  have : c = 0 := by have := h.c0; omega
  subst this
  omega
 ·intro hc
  have : b ^ (v.length + 1) * 1 ≤ b ^ (v.length + 1) * c := Int.mul_le_mul_of_nonneg_left (by omega) (by omega)
  omega
theorem U6.end_ {b : Int} (hb : 2 ≤ b) {u v : List Int} {j : Nat} {q : Int} {w : List Int} {c : Int} (hu : Z2 b u) (hj : j ≤ u.length) (hz : ∀ i, j + 1 + v.length ≤ i → u.getD i 0 = 0) (h : WI b u v j q (v.length + 1) w c)
  {w2 : List Int} {c2 : Int} (h2 : U6 b w v j q (v.length + 1) w2 c2) : w2 = u := by
 obtain ⟨e, e0, e1⟩ := h.end_ hb hj hz
 have hp := Yp (b := b) (by omega) (v.length + 1)
 have hv := h2.val
 rw [yr (by omega)] at hv
 have hl := ug (b := b) h2.len (by rw [h.len]; exact hj) h2.out
 have o2 : ∀ i, v.length + 1 ≤ i → (w2.drop j).getD i 0 = 0 := fun i hi => by
  rw [Y4, h2.out _ (.inr (by omega)), h.out _ (.inr (by omega)), hz _ (by omega)]
 have ou : ∀ i, v.length + 1 ≤ i → (u.drop j).getD i 0 = 0 := fun i hi => by rw [Y4, hz _ (by omega)]
 have b2 := (WV (by omega) (h2.in_.drop j) (v.length + 1))
 rw [← WM o2] at b2
 have bu := (WV (by omega) (hu.drop j) (v.length + 1))
 rw [← WM ou] at bu
 have e2 : zV b (w2.drop j) + b ^ (v.length + 1) * c2 = zV b (w.drop j) + q * zV b v := by
  have e3 : b ^ j * (zV b (w2.drop j) + b ^ (v.length + 1) * c2) = b ^ j * (zV b (w.drop j) + q * zV b v) := by
   rw [Int.mul_add, Int.mul_add, ← Int.mul_assoc (b ^ j), ← Int.pow_add]
   rw [Int.mul_sub] at hl
   omega
  exact Int.eq_of_mul_eq_mul_left (by have := Yp (b := b) (by omega) j; omega) e3
 have e4 : zV b (w2.drop j) - zV b (u.drop j) = b ^ (v.length + 1) * (c - c2) := by rw [Int.mul_sub]; omega
 have e5 : c = c2 := by
  rcases Int.lt_trichotomy c c2 with hlt | heq | hgt
  ·have : b ^ (v.length + 1) * (c - c2) ≤ b ^ (v.length + 1) * (-1) := Int.mul_le_mul_of_nonneg_left (by omega) (by omega)
   omega
  ·exact heq
  ·have : b ^ (v.length + 1) * 1 ≤ b ^ (v.length + 1) * (c - c2) := Int.mul_le_mul_of_nonneg_left (by omega) (by omega)
   omega
 have e6 : zV b (w2.drop j) = zV b (u.drop j) := by rw [e5, Int.sub_self, Int.mul_zero] at e4; omega
 refine Z2.ext (by omega) h2.in_ hu (h2.len.trans h.len) ?_
 rw [YV b w2 (z := j) (by rw [h2.len, h.len]; exact hj), YV b u (z := j) hj, Wc h2.len h2.out, Wc h.len h.out, e6]
theorem uP.step {b A V : Int} (hb : 2 ≤ b) {v : List Int} (hv : Z2 b v) (hV : zV b v = V) {m j : Nat} {q u : List Int} (hj : j < m) (h : uP b A V v.length m (j + 1) q u) {Q : Int} (hQ : 0 ≤ Q) (hlt : zV b (u.drop j) < (Q + 1) * V)
  {w : List Int} {c : Int} (ht : WI b u v j Q (v.length + 1) w c) (hc : c ≤ 0) : uP b A V v.length m j (q.set j Q) w := by
 have hul := h.ul
 obtain ⟨t1, _⟩ := ht.fits hb (by omega) (fun i hi => h.hi i (by omega))
 have t1 := t1 hc
 rw [hV] at t1
 have w0 := z7 (b := b) (by omega) (ht.in_.drop j)
 have hw : zV b (w.drop j) < V := by rw [t1]; rw [Int.add_mul, Int.one_mul] at hlt; omega
 have hVb : V < b ^ v.length := by rw [← hV]; exact XX (by omega) hv
 have hV0 : 0 < V := by omega
 have hvl : 0 < v.length := by
  refine Nat.pos_of_ne_zero fun e => ?_
  rw [e, Int.pow_zero] at hVb
  omega
 obtain ⟨z1, z2⟩ := h.win (by omega) hvl hj
 have hQb : Q < b := by
  refine Decidable.byContradiction fun hn => ?_
  have : b * V ≤ Q * V := Int.mul_le_mul_of_nonneg_right (by omega) (by omega)
  omega
 refine ⟨by rw [List.length_set]; exact h.ql, by rw [ht.len]; exact hul, h.qi.set hQ hQb _, ht.in_, fun i hi => ?_, hw, ?_⟩
 ·by_cases e : i = j + v.length
  ·have := T2 (by omega) (ht.in_.drop j) (n := v.length) (i := v.length) (by omega) (Nat.le_refl _)
   rw [Y4] at this
   rw [e]; exact this
  ·rw [ht.out i (.inr (by omega))]
   exact h.hi i (by omega)
 ·have hvv := ht.val
  have hc0 : c = 0 := by have := ht.c0; omega
  rw [hc0, Int.mul_zero, Int.sub_zero, yr (by omega), hV] at hvv
  rw [uH _ _ _ (by rw [h.ql]; omega)]
  show A = V * (b ^ j * (Q + b * zV b (q.drop (j + 1)))) + zV b w
  rw [hvv, h.val, YY, Int.mul_add, Int.mul_add, ← Int.mul_assoc (b ^ j) b]
  have : V * (b ^ j * Q) = b ^ j * (Q * V) := by rw [Int.mul_comm V, Int.mul_assoc]
  omega
theorem uP.end_ {b : Nat} (hb : 2 ≤ b) {A V : Nat} (hV0 : 0 < V) {n m : Nat} {q u : List Int} (h : uP b A V n m 0 q u) : YX q = yV b (A / V) ∧ YX u = yV b (A % V) := by
 have hv := h.val
 rw [Int.pow_zero, Int.one_mul, List.drop_zero] at hv
 have ht := h.top
 rw [List.drop_zero] at ht
 have q0 := z7 (b := (b : Int)) (by omega) h.qi
 have u0 := z7 (b := (b : Int)) (by omega) h.ui
 obtain ⟨Q, hQ⟩ : ∃ Q : Nat, zV b q = Q := ⟨(zV b q).toNat, by omega⟩
 obtain ⟨R, hR⟩ : ∃ R : Nat, zV b u = R := ⟨(zV b u).toNat, by omega⟩
 rw [hQ, hR] at hv
 rw [hR] at ht
 have hv : A = V * Q + R := by exact_mod_cast hv
 have hR' : R < V := by omega
 rw [yG hb h.qi, yG hb h.ui, hQ, hR, Int.toNat_natCast, Int.toNat_natCast]
 rw [hv, Nat.mul_add_div hV0, Nat.div_eq_of_lt hR', Nat.add_zero, Nat.mul_add_mod, Nat.mod_eq_of_lt hR']
 exact ⟨rfl, rfl⟩
end Go.Ar

namespace Go.Ar
open Go Go.Sx Go.Lib
set_option maxRecDepth 100000
def Zw (s : zp) : zp := s.takeWhile (· != 47)
def Ze (s : zp) : zp := (s.dropWhile (· != 47)).drop 1
def zD (s : zp) : Bool := s.any (· == 47)
def RO (s : zp) : Bool := V8 (Zw s) && (!zD s || ZH (Ze s) && !(Ze s == [48]) && !(Ze s == [49]))
def tQ (s : zp) : Int := Uy (Zw s)
def tF (s : zp) : Nat := bif zD s then zP (Ze s) else 1
def tC (s : zp) : Int :=
 bif !RO s then 11 else bif Nat.blt 300 (R4 (Zw s)) || Nat.blt 300 (Ze s).length then 4 else bif Nat.beq (Nat.gcd (tQ s).natAbs (tF s)) 1 then 0 else 11
theorem Sn {c : UInt8} (h : zC c = true) : (c != 47) = true := by
 rw [yd] at h
 rw [bne_iff_ne]
 intro e
 subst e
 exact absurd h.1 (by decide)
theorem XW {p : UInt8 → Bool} : ∀ {a : zp}, (∀ c ∈ a, p c = true) → a.takeWhile p = a ∧ a.dropWhile p = []
 | [], _ => ⟨rfl, rfl⟩
 | c :: a, h => by
  obtain ⟨h1, h2⟩ := XW (a := a) fun x hx => h x (List.mem_cons_of_mem _ hx)
  have hc := h c List.mem_cons_self
  simp [List.takeWhile_cons, List.dropWhile_cons, hc, h1, h2]
theorem Xv {p : UInt8 → Bool} {x : UInt8} {b : zp} (hx : p x = false) : ∀ {a : zp}, (∀ c ∈ a, p c = true) → (a ++ x :: b).takeWhile p = a ∧ (a ++ x :: b).dropWhile p = x :: b
 | [], _ => by simp [List.takeWhile_cons, List.dropWhile_cons, hx]
 | c :: a, h => by
  obtain ⟨h1, h2⟩ := Xv (a := a) (b := b) hx fun y hy => h y (List.mem_cons_of_mem _ hy)
  have hc := h c List.mem_cons_self
  simp [List.takeWhile_cons, List.dropWhile_cons, hc, h1, h2]
theorem W0 {s : zp} (h : zD s = false) : Zw s = s ∧ Ze s = [] := by
 unfold zD at h
 rw [List.any_eq_false] at h
 obtain ⟨h1, h2⟩ := XW (p := (· != 47)) (a := s) fun c hc => by
  have := h c hc
  rw [bne_iff_ne]
  intro e
  subst e
  exact this rfl
 exact ⟨h1, by unfold Ze; rw [h2]; rfl⟩
theorem RR {a b : zp} (h : ∀ c ∈ a, (c != 47) = true) : Zw (a ++ 47 :: b) = a ∧ Ze (a ++ 47 :: b) = b ∧ zD (a ++ 47 :: b) = true := by
 obtain ⟨h1, h2⟩ := Xv (p := (· != 47)) (x := 47) (b := b) (by decide) h
 exact ⟨h1, by unfold Ze; rw [h2]; rfl, by unfold zD; simp⟩
theorem SP {s : zp} (h : ∀ c ∈ s, (c != 47) = true) : zD s = false := by
 unfold zD
 rw [List.any_eq_false]
 intro c hc e
 have := h c hc
 rw [eq_of_beq e] at this
 exact absurd this (by decide)
theorem Ud {s : zp} (h : zD s = true) : s = Zw s ++ 47 :: Ze s := by
 have e := List.takeWhile_append_dropWhile (p := (· != (47 : UInt8))) (l := s)
 unfold Zw Ze
 have hd : ∃ b, s.dropWhile (· != (47 : UInt8)) = 47 :: b := by
  clear e
  induction s with
  | nil => cases h
  | cons c s ih =>
   by_cases hc : c = 47
   ·subst hc; exact ⟨s, by simp [List.dropWhile_cons]⟩
   ·have h' : zD s = true := by
     unfold zD at h ⊢
     rw [List.any_cons, beq_false_of_ne hc, Bool.false_or] at h
     exact h
    obtain ⟨b, hb⟩ := ih h'
    exact ⟨b, by rw [List.dropWhile_cons, if_pos (bne_iff_ne.2 hc)]; exact hb⟩
 obtain ⟨b, hb⟩ := hd
 rw [hb] at e ⊢
 exact e.symm
end Go.Ar

namespace Go.Ar
open Go Go.Sx Go.Lib
set_option maxRecDepth 100000
class ym (α : Type) [zv α] : Prop where
 dec : ∀ a : α, zv.dec (zv.enc a) = a
 ok : ∀ a : α, zv.ok (α := α) (zv.enc a) = true
theorem TI {f : Nat → Bool} : ∀ {n : Nat}, (∀ i, i < n → f i = true) → wc f n = true
 | 0, _ => rfl
 | n + 1, h => by simp only [wc, Bool.and_eq_true]; exact ⟨TI fun i hi => h i (by omega), h n (by omega)⟩
section
variable {α : Type} [zv α] [ym α]
theorem XO (f : Bool) (l : List α) (n : Nat) : wF (AV.xl f n l.length fun i j => zv.enc (l.getD i zv.dflt) j) = l := by
 show xy l.length (fun i => zv.dec (zv.enc (l.getD i zv.dflt))) = l
 simp only [ym.dec]
 exact UU l _
theorem TS (l : List α) : wF (yI l) = l := XO false l _
theorem XE (f : Bool) (l : List α) : ZV α (AV.xl f (zv.n α) l.length fun i j => zv.enc (l.getD i zv.dflt) j) = true := by
 show (Nat.beq (zv.n α) (zv.n α) && wc (fun i => zv.ok (α := α) (zv.enc (l.getD i zv.dflt))) l.length) = true
 rw [Bool.and_eq_true]
 exact ⟨Nat.beq_refl _, TI fun i _ => ym.ok _⟩
theorem Ur (l : List α) : ZV α (yI l) = true := XE false l
theorem qj (a : α) : Yo (wV a) = a := ym.dec a
theorem Uo (a : α) : Y2 α (wV a) = true := by
 show (Nat.beq (zv.n α) (zv.n α) && zv.ok (α := α) (zv.enc a)) = true
 rw [Bool.and_eq_true]
 exact ⟨Nat.beq_refl _, ym.ok _⟩
end
instance : ym Int := ⟨fun _ => rfl, fun _ => rfl⟩
instance : ym Bool := ⟨fun _ => rfl, fun _ => rfl⟩
instance : ym (List UInt8) := ⟨fun _ => rfl, fun _ => rfl⟩
theorem Px (k : IntKind) (n : Int) : AV.int (.v (.int k n)) = n := rfl
theorem x8 (z : Nat) : zl 0 (z : Int) = Nat.blt 0 z := by rw [Bool.eq_iff_iff, zK, Zz]; omega
theorem UM (z : Nat) : ((z : Int) - 1).toNat = z - 1 := by omega
theorem TG {A B : Prop} : zz true A B ↔ A := by simp [zT]
theorem SU {A B : Prop} : zz false A B ↔ B := by simp [zT]
theorem row_one (r : Nat → AV) : Sx.rowAt [r] = fun _ j => r j := by
 funext i j
 unfold Sx.rowAt
 cases i with
 | zero => rfl
 | succ i => rfl
theorem yn (f : Bool) (l : List Int) : ZV Int (AV.xl f 1 l.length fun i j => AV.v (Value.int IntKind.i64 (l.getD i 0))) = true := XE f l
theorem ZQ (f : Bool) (l : List Int) : ZV Int (AV.xl f 1 l.length fun i j => AV.v (Value.int IntKind.i64 (l.getD i zv.dflt))) = true := XE f l
theorem X4 (f : Bool) (l : List Int) : wF (AV.xl f 1 l.length fun i j => AV.v (Value.int IntKind.i64 (l.getD i 0))) = l := XO f l 1
theorem yO (f : Bool) (l : List Int) : wF (AV.xl f 1 l.length fun i j => AV.v (Value.int IntKind.i64 (l.getD i zv.dflt))) = l := XO f l 1
def xt {α : Type} (p : α → Bool) : List α → Nat → Int
 | [], _ => -1
 | a :: l, i => bif p a then (i : Int) else xt p l (i + 1)
theorem Uc {α : Type} (p : α → Bool) : ∀ (l : List α) (i : Nat), leB 0 (xt p l i) = l.any p
 | [], _ => rfl
 | a :: l, i => by
  unfold xt
  cases h : p a with
  | true =>
   simp only [cond_true, List.any_cons, h, Bool.true_or]
   exact (Zk _ _).2 (by omega)
  | false =>
   simp only [cond_false, List.any_cons, h, Bool.false_or]
   exact Uc p l (i + 1)
theorem getD_drop {α : Type} {l : List α} {d : α} {z : Nat} (h : z < l.length) : l.drop z = l.getD z d :: l.drop (z + 1) := by
 rw [List.drop_eq_getElem_cons h, List.getD_eq_getElem?_getD, List.getElem?_eq_getElem h]; rfl
theorem VR {α : Type} {l : List α} {d : α} {z : Nat} (h : z < l.length) : l.take (z + 1) = l.take z ++ [l.getD z d] := by
 rw [List.take_add_one, List.getElem?_eq_getElem h, List.getD_eq_getElem?_getD, List.getElem?_eq_getElem h]; rfl
def QN {α : Type} [zv α] (l : List α) (p : α → Bool) : Z8 :=
 .two .auto (.two (.two .auto (.one (.loop Nat (fun σ z => [(0, σ.tm 0), (1, σ.tm 1), (6, σ.tm 0), (7, .i l.length), (8, .i z)]) (fun _ _ => []) 0
  (fun _ z => z ≤ l.length ∧ xt p (l.drop z) z = xt p l 0) (fun _ z => l.length - z) .auto))) .auto)
def Yv (f : Nat → Int) : Nat → Nat → Int
 | 0, _ => 0
 | n + 1, z => bif f z != 0 then f z else Yv f n (z + 1)
theorem xd {f : Nat → Int} : ∀ {k n : Nat}, k ≤ n → (∀ i, i < k → f i = 0) → Yv f n 0 = Yv f (n - k) k
 | 0, n, _, _ => by simp
 | k + 1, n, hk, h => by
  rw [xd (k := k) (by omega) fun i hi => h i (by omega), show n - k = n - (k + 1) + 1 by omega]
  show (bif f k != 0 then f k else Yv f (n - (k + 1)) (k + 1)) = _
  rw [h k (by omega)]; rfl
theorem wP {f : Nat → Int} {k n : Nat} (hk : k < n) (h : ∀ i, i < k → f i = 0) (h2 : f k ≠ 0) : Yv f n 0 = f k := by
 rw [xd (k := k) (by omega) h, show n - k = n - (k + 1) + 1 by omega]
 show (bif f k != 0 then f k else Yv f (n - (k + 1)) (k + 1)) = _
 rw [bne_iff_ne.2 h2]; rfl
theorem wI {f : Nat → Int} {n : Nat} (h : ∀ i, i < n → f i = 0) : Yv f n 0 = 0 := by
 rw [xd (Nat.le_refl _) h, Nat.sub_self]; rfl
theorem sS : (∀ x : AV, zc x x) ∧ (∀ p : Prop, (True ∧ p) = p) ∧ (∀ p : Prop, (p ∧ True) = p) ∧ (∀ x : Bool, zy true x = x) ∧ (∀ x : Bool, zy false x = !x) ∧
  (∀ {x : Bool} {A : Prop}, zz (!x || x) A False ↔ A) ∧ (∀ a b : Bool, (bif a then true else b) = (a || b)) ∧ (∀ a b : Bool, (bif a then b else false) = (a && b)) ∧
  (∀ {x : Bool} {p : Prop} [DB p] {A : Prop}, zz (!x || DB.db p) A False ↔ (x = true → p) ∧ A) ∧ (∀ {p : Prop} [DB p] {A : Prop}, zz (DB.db p) A False ↔ p ∧ A) ∧
  (∀ {a b : Int} {A B : Prop}, zz (zl a b) A B ↔ (a < b → A) ∧ (b ≤ a → B)) ∧ (∀ {a b : Int} {A B : Prop}, zz (leB a b) A B ↔ (a ≤ b → A) ∧ (b < a → B)) ∧
  (∀ {a b : Int} {A B : Prop}, zz (a != b) A B ↔ (a ≠ b → A) ∧ (a = b → B)) ∧ (∀ {a b : Int} {A B : Prop}, zz (a == b) A B ↔ (a = b → A) ∧ (a ≠ b → B)) ∧
  (∀ {A B : Prop}, zz true A B ↔ A) ∧ (∀ n : Nat, (n : Int).toNat = n) ∧ (∀ n : Nat, 0 + n = n) ∧ (∀ n : Nat, 0 ≤ n) ∧ (∀ n : Nat, n - 0 = n) ∧
  (∀ (k : IntKind) (n : Int), AV.int (.v (.int k n)) = n) ∧ (∀ b : Bool, (b || true) = true) ∧ (∀ {α : Type} (a b : α), (bif true then a else b) = a) ∧ (∀ {α : Type} (a b : α), (bif false then a else b) = b) :=
 ⟨zY, true_and, and_true, VM, WS, Sb, Q2, RF, xJ, XG, qa, PT, qA, pb, TG, Int.toNat_natCast, Nat.zero_add, Nat.zero_le, Nat.sub_zero, Px, Bool.or_true, cond_true, cond_false⟩
def pi : List zS → Prop
 | [] => True
 | p :: ps => p.holds ∧ pi ps
theorem Yc : ∀ {ps : List zS}, (∀ p ∈ ps, p.holds) → pi ps
 | [], _ => trivial
 | _ :: _, h => ⟨h _ List.mem_cons_self, Yc fun q hq => h q (List.mem_cons_of_mem _ hq)⟩
abbrev kI : Prop := IntKind.i64 = .i64
abbrev j2 : Prop := 2 = List.length [AV.junk, AV.junk]
abbrev lN {α : Type} (l : List α) : Nat := List.length l
abbrev lZ {α : Type} (l : List α) : Int := (↑(List.length l) : Int)
abbrev gD {α : Type} (l : List α) (i : Nat) (d : α) : α := List.getD l i d
abbrev iZ : Int := 0
abbrev iO : Int := 1
abbrev iX : Int := 9223372036854775807
abbrev iN : Int := -9223372036854775808
abbrev aI (n : Int) : AV := AV.v (Value.int .i64 n)
end Go.Ar

namespace Go.Ar
open Go Go.Sx Go.Lib
set_option maxRecDepth 100000
structure Row where
 w : Int
 d : Int
 s : Int
 q : Int
 n : Int
deriving DecidableEq
abbrev r0 : Row := ⟨0, 0, 0, 0, 0⟩
instance : zv Row := ⟨5, ⟨0, 0, 0, 0, 0⟩, fun c => zU [.i c.w, .i c.d, .i c.s, .i c.q, .i c.n], fun cs => ⟨AV.int (cs 0), AV.int (cs 1), AV.int (cs 2), AV.int (cs 3), AV.int (cs 4)⟩,
 fun cs => ye (cs 0) && ye (cs 1) && ye (cs 2) && ye (cs 3) && ye (cs 4), fun cs h j hj => by
 simp only [Bool.and_eq_true] at h
 match j, hj with
 | 0, _ => exact zF (Zs h.1.1.1.1)
 | 1, _ => exact zF (Zs h.1.1.1.2)
 | 2, _ => exact zF (Zs h.1.1.2)
 | 3, _ => exact zF (Zs h.1.2)
 | 4, _ => exact zF (Zs h.2)⟩
instance : ym Row := ⟨fun _ => rfl, fun _ => rfl⟩
def rowsOf (x : AV) : List Row := wF x
theorem w8 (f : Bool) (l : List Row) : ZV Row (AV.xl f 5 l.length fun i j => zv.enc (l.getD i r0) j) = true := XE f l
theorem yA (f : Bool) (l : List Row) : ZV Row (AV.xl f 5 l.length fun i j => zv.enc (l.getD i zv.dflt) j) = true := XE f l
theorem wC (f : Bool) (l : List Row) : wF (AV.xl f 5 l.length fun i j => zv.enc (l.getD i r0) j) = l := XO f l 5
theorem yb (f : Bool) (l : List Row) : wF (AV.xl f 5 l.length fun i j => zv.enc (l.getD i zv.dflt) j) = l := XO f l 5
theorem yB (f : Bool) (l : List Row) : rowsOf (AV.xl f 5 l.length fun i j => zv.enc (l.getD i r0) j) = l := XO f l 5
theorem Zj (f : Bool) (l : List Row) : rowsOf (AV.xl f 5 l.length fun i j => zv.enc (l.getD i zv.dflt) j) = l := XO f l 5
theorem zJ (b : Row) : Yo (.agg 5 fun i => zv.enc b i) = b := qj b
theorem zm (b : Row) : Y2 Row (.agg 5 fun i => zv.enc b i) = true := Uo b
theorem zM (b : Row) (g : Nat → AV) : Yo (.agg 5 fun i => if i < 5 then zv.enc b i else g i) = b := ym.dec b
theorem zQ (b : Row) (g : Nat → AV) : Y2 Row (.agg 5 fun i => if i < 5 then zv.enc b i else g i) = true := Uo b
def zu (n a b : Int) : Bool := leB a n && leB n b
theorem yW {n a b : Int} : zu n a b = true ↔ a ≤ n ∧ n ≤ b := by unfold zu; rw [Bool.and_eq_true, Zk, Zk]
def X1 (s q : Int) : Bool := zu s 1 65536 && zu q 0 1048576
def Zf (w d s q : Int) : Bool := zu w 1 1000 && zu d 1 1000 && X1 s q
def VG (a b : Row) : Int := bif a.w - b.w != 0 then a.w - b.w else bif a.d - b.d != 0 then a.d - b.d else bif a.s - b.s != 0 then a.s - b.s else a.q - b.q
def yC (l : List Row) (i : Nat) : Int :=
 bif !Zf (l.getD i r0).w (l.getD i r0).d (l.getD i r0).s (l.getD i r0).q || !zu (l.getD i r0).n 1 65536 then 2
 else bif Nat.blt 0 i && leB 0 (VG (l.getD (i - 1) r0) (l.getD i r0)) then 10 else 0
def zj (l : List Row) : Int := bif Nat.blt 4096 l.length then 4 else Yv (yC l) l.length 0
def Wr (x : Row) (w d s q : Int) : Bool := leB x.w w && leB x.d d && leB s x.s && leB q x.q
def Zq (l : List Row) (w d s q : Int) : Nat → Int
 | 0 => 0
 | z + 1 => bif Wr (l.getD z r0) w d s q then (if (l.getD z r0).n > Zq l w d s q z then (l.getD z r0).n else Zq l w d s q z) else Zq l w d s q z
def YU (l : List Row) (w d s q : Int) : Int := Zq l w d s q l.length
def Pk (l : List Row) : Bool := !l.any fun x => zl x.n (YU l x.w x.d x.s x.q)
def vX (l : List Row) (w d s q : Int) : Int := bif zj l != 0 then 1 else bif !Zf w d s q then 2 else 0
def xu (l : List Row) (w d s q : Int) : Int := bif vX l w d s q != 0 then vX l w d s q else bif YU l w d s q == 0 then 25 else 0
def vP (l : List Row) (w d s q : Int) : Int := bif xu l w d s q == 0 then YU l w d s q else 0
theorem uN {l : List Row} (h : zj l = 0) : l.length ≤ 4096 ∧ ∀ i, i < l.length → yC l i = 0 := by
 unfold zj at h
 cases h1 : Nat.blt 4096 l.length with
 | true => rw [h1] at h; cases h
 | false =>
  rw [h1] at h
  have h : Yv (yC l) l.length 0 = 0 := h
  refine ⟨by rw [Bool.eq_false_iff, Ne, Zz] at h1; omega, fun i => ?_⟩
  induction i using Nat.strongRecOn with
  | _ i ih =>
   intro hi
   refine Decidable.byContradiction fun hn => ?_
   rw [wP hi (fun j hj => ih j hj (by omega)) hn] at h
   exact hn h
theorem Tr {l : List Row} {i : Nat} (h : yC l i = 0) : Zf (l.getD i r0).w (l.getD i r0).d (l.getD i r0).s (l.getD i r0).q = true ∧ zu (l.getD i r0).n 1 65536 = true := by
 unfold yC at h
 cases h1 : !Zf (l.getD i r0).w (l.getD i r0).d (l.getD i r0).s (l.getD i r0).q || !zu (l.getD i r0).n 1 65536 with
 | true => rw [h1] at h; cases h
 | false =>
  rw [Bool.or_eq_false_iff, Bool.not_eq_false', Bool.not_eq_false'] at h1
  exact h1
structure Sz where
 k : Int
 w : Int
 d : Int
deriving DecidableEq
abbrev s0 : Sz := ⟨0, 0, 0⟩
instance : zv Sz := ⟨3, ⟨0, 0, 0⟩, fun c => zU [.i c.k, .i c.w, .i c.d], fun cs => ⟨AV.int (cs 0), AV.int (cs 1), AV.int (cs 2)⟩,
 fun cs => ye (cs 0) && ye (cs 1) && ye (cs 2), fun cs h j hj => by
 simp only [Bool.and_eq_true] at h
 match j, hj with
 | 0, _ => exact zF (Zs h.1.1)
 | 1, _ => exact zF (Zs h.1.2)
 | 2, _ => exact zF (Zs h.2)⟩
instance : ym Sz := ⟨fun _ => rfl, fun _ => rfl⟩
def rJ (a b : Sz) : Int := bif a.w * a.d - b.w * b.d != 0 then a.w * a.d - b.w * b.d else a.w - b.w
def Rk (a : Sz) : Bool := zu a.w 0 1000 && zu a.d 0 1000
theorem Tn {a : Sz} (h : Rk a = true) : (0 ≤ a.w ∧ a.w ≤ 1000) ∧ (0 ≤ a.d ∧ a.d ≤ 1000) ∧ 0 ≤ a.w * a.d ∧ a.w * a.d ≤ 1000000 := by
 unfold Rk at h
 rw [Bool.and_eq_true, yW, yW] at h
 obtain ⟨h1, h2⟩ := h
 refine ⟨h1, h2, Int.mul_nonneg h1.1 h2.1, ?_⟩
 calc a.w * a.d ≤ 1000 * a.d := Int.mul_le_mul_of_nonneg_right h1.2 h2.1
  _ ≤ 1000000 := by omega
end Go.Ar
