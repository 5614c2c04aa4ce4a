/- Decimal strings of integers: what they are and what they mean. -/
import Derived.Test.YtinnclmkhedgeaaGreatDoorSxU
import Derived.Lib.ItoaLen
set_option linter.unusedSimpArgs false
set_option linter.unusedVariables false
namespace Go.Ar
open Go Go.Sx Go.Lib
set_option maxRecDepth 100000
abbrev zK := List UInt8
def Zw (c : UInt8) : Bool := Nat.ble 48 c.toNat && Nat.ble c.toNat 57
def Wn (c : UInt8) : Nat := c.toNat - 48
def qb (d : Nat) : UInt8 := UInt8.ofNat (48 + d)
theorem yo {c : UInt8} : Zw c = true ↔ 48 ≤ c.toNat ∧ c.toNat ≤ 57 := by
 unfold Zw
 simp
theorem xf {d : Nat} (h : d < 10) : (qb d).toNat = 48 + d := by
 unfold qb
 rw [UInt8.toNat_ofNat']
 omega
theorem tz {d : Nat} (h : d < 10) : Zw (qb d) = true := by rw [yo, xf h]; omega
theorem Tc {d : Nat} (h : d < 10) : Wn (qb d) = d := by unfold Wn; rw [xf h]; omega
theorem TE {c : UInt8} (h : Zw c = true) : qb (Wn c) = c := by
 rw [yo] at h
 refine UInt8.toNat_inj.1 ?_
 rw [xf (by unfold Wn; omega)]
 unfold Wn
 omega
theorem Va {c : UInt8} (h : Zw c = true) : Wn c < 10 := by rw [yo] at h; unfold Wn; omega
def zH (l : zK) : Nat := l.foldl (fun a c => 10 * a + Wn c) 0
theorem wV (l : zK) (c : UInt8) : zH (l ++ [c]) = 10 * zH l + Wn c := by unfold zH; rw [List.foldl_append]; rfl
theorem fold_acc (l : zK) : ∀ a : Nat, l.foldl (fun a c => 10 * a + Wn c) a = a * 10 ^ l.length + zH l := by
 induction l with
 | nil => intro a; simp [zH]
 | cons c l ih =>
  intro a
  unfold zH
  grind
theorem UP (a b : zK) : zH (a ++ b) = zH a * 10 ^ b.length + zH b := by
 conv => lhs; unfold zH
 rw [List.foldl_append, fold_acc]; rfl
theorem wW (c : UInt8) (l : zK) : zH (c :: l) = Wn c * 10 ^ l.length + zH l := by
 have := UP [c] l
 simpa [zH] using this
theorem wZ {l : zK} (h : l.all Zw = true) : zH l < 10 ^ l.length := by
 induction l with
 | nil => simp [zH]
 | cons c l ih =>
  rw [List.all_cons, Bool.and_eq_true] at h
  have h1 := ih h.2
  have h2 := Va h.1
  rw [wW, List.length_cons, Nat.pow_succ]
  generalize 10 ^ l.length = p at *
  have : Wn c * p ≤ 9 * p := Nat.mul_le_mul_right p (by omega)
  omega
def Zq (l : zK) : Bool := Nat.blt 0 l.length && l.all Zw && !(Nat.blt 1 l.length && (l.getD 0 0 == 48))
theorem zg {u : Nat} (h : u < 10) : decDigits u = [qb u] := by rw [decDigits, dif_pos h]; rfl
theorem yj {u : Nat} (h : ¬ u < 10) : decDigits u = decDigits (u / 10) ++ [qb (u % 10)] := by rw [decDigits, dif_neg h]; rfl
theorem vE (u : Nat) : (decDigits u).all Zw = true := by
 induction u using Nat.strongRecOn with
 | _ u ih =>
  by_cases h : u < 10
  ·rw [zg h]; simp [tz h]
  ·rw [yj h, List.all_append, ih (u / 10) (by omega)]
   simp [tz (Nat.mod_lt u (by decide : 10 > 0))]
theorem Zi (u : Nat) : zH (decDigits u) = u := by
 induction u using Nat.strongRecOn with
 | _ u ih =>
  by_cases h : u < 10
  ·rw [zg h]
   show 10 * 0 + Wn (qb u) = u
   rw [Tc h]; omega
  ·rw [yj h, wV, ih (u / 10) (by omega), Tc (Nat.mod_lt u (by decide : 10 > 0))]
   omega
theorem XW (u : Nat) : 0 < (decDigits u).length := by rw [decDigits_length]; exact nDigits_pos u
theorem xt {u : Nat} (h : u ≠ 0) : (decDigits u).getD 0 0 ≠ 48 := by
 induction u using Nat.strongRecOn with
 | _ u ih =>
  by_cases h1 : u < 10
  ·rw [zg h1]
   intro e
   have e : qb u = 48 := e
   have := congrArg UInt8.toNat e
   rw [xf h1] at this
   simp_all
  ·rw [yj h1, List.getD_eq_getElem?_getD, List.getElem?_append_left (XW _), ← List.getD_eq_getElem?_getD]
   grind
theorem Yx (u : Nat) : Zq (decDigits u) = true := by
 unfold Zq
 rw [vE, (zF _ _).2 (XW u)]
 by_cases h : u = 0
 ·subst h
  rw [zg (by decide)]; rfl
 ·rw [beq_false_of_ne (xt h), Bool.and_false]; rfl
theorem ZQ {l : zK} : Zq l = true ↔ 0 < l.length ∧ (∀ c ∈ l, Zw c = true) ∧ (1 < l.length → l.getD 0 0 ≠ 48) := by
 unfold Zq
 rw [Bool.and_eq_true, Bool.and_eq_true, zF, List.all_eq_true, Bool.not_eq_true', Bool.and_eq_false_iff]
 constructor
 ·rintro ⟨⟨h1, h2⟩, h3⟩
  refine ⟨h1, h2, fun h4 => ?_⟩
  rcases h3 with h3 | h3
  ·rw [(zF _ _).2 h4] at h3; cases h3
  simp_all
 ·rintro ⟨h1, h2, h3⟩
  refine ⟨⟨h1, h2⟩, ?_⟩
  by_cases h4 : 1 < l.length
  ·simp_all
  ·exact .inl (by rw [Bool.eq_false_iff]; intro e; exact h4 ((zF _ _).1 e))
theorem qK {l : zK} (h : 0 < l.length) : ∃ a c, l = a ++ [c] := by
 have hn : l ≠ [] := fun e => by rw [e] at h; cases h
 exact ⟨l.dropLast, l.getLast hn, (List.dropLast_concat_getLast hn).symm⟩
theorem Zo {l : zK} (h : Zq l = true) : decDigits (zH l) = l := by
 generalize hn : l.length = n
 induction n generalizing l with
 | zero => obtain ⟨h1, _⟩ := ZQ.1 h; omega
 | succ n ih =>
  obtain ⟨h1, h2, h3⟩ := ZQ.1 h
  obtain ⟨a, c, rfl⟩ := qK h1
  have hc : Zw c = true := h2 c (by simp)
  have hl : a.length = n := by simpa using hn
  rw [wV]
  by_cases ha : a.length = 0
  ·obtain rfl := List.length_eq_zero_iff.1 ha
   have : 10 * zH [] + Wn c = Wn c := by simp [zH]
   rw [this, zg (Va hc), TE hc]; rfl
  ·have hg : (a ++ [c]).getD 0 0 = a.getD 0 0 := by
    grind
   have ha0 : a.getD 0 0 ≠ 48 := by rw [← hg]; exact h3 (by simp; omega)
   have hda : Zq a = true := ZQ.2 ⟨by omega, fun x hx => h2 x (List.mem_append_left _ hx), fun _ => ha0⟩
   have ih' := ih hda hl
   have hv := Va hc
   have hpos : zH a ≠ 0 := fun e => by
    rw [e, zg (by decide)] at ih'
    rw [← ih'] at ha0
    exact ha0 rfl
   rw [yj (by omega), show (10 * zH a + Wn c) / 10 = zH a by omega, show (10 * zH a + Wn c) % 10 = Wn c by omega, ih', TE hc]
def ZV (s : zK) : Bool := match s with | 45 :: r => Zq r && !(r == [48]) | r => Zq r
def zS (s : zK) : Int := match s with | 45 :: r => -(zH r : Int) | r => (zH r : Int)
theorem YQ (n : Nat) : itoa (n : Int) = decDigits n := by unfold itoa; rw [if_neg (by omega), Int.toNat_natCast]
theorem itoa_neg {n : Nat} (h : n ≠ 0) : itoa (-(n : Int)) = 45 :: decDigits n := by
 unfold itoa
 simp_all
theorem xZ {r : zK} (h : Zq (45 :: r) = true) : False := by
 have := (ZQ.1 h).2.1 45 List.mem_cons_self
 rw [yo] at this
 simp_all
theorem vl {r : zK} (h : Zq r = true) : ZV r = true ∧ zS r = (zH r : Int) := by
 match r, h with
 | [], h => exact ⟨h, rfl⟩
 | c :: r, h =>
  by_cases hc : c = 45
  ·subst hc; exact (xZ h).elim
  ·constructor
   ·unfold ZV; split
    all_goals simp_all
   ·unfold zS; split
    all_goals simp_all
theorem y7 (n : Int) : ZV (itoa n) = true ∧ zS (itoa n) = n := by
 by_cases h : n < 0
 ·obtain ⟨m, rfl⟩ : ∃ m : Nat, n = -(m : Int) := ⟨n.natAbs, by omega⟩
  have hm : m ≠ 0 := by omega
  rw [itoa_neg hm]
  refine ⟨?_, ?_⟩
  ·show (Zq (decDigits m) && !(decDigits m == [48])) = true
   rw [Yx]
   have : decDigits m ≠ [48] := fun e => xt hm (by rw [e]; rfl)
   simp_all
  ·show -((zH (decDigits m) : Nat) : Int) = _
   rw [Zi]
 ·obtain ⟨m, rfl⟩ : ∃ m : Nat, n = (m : Int) := ⟨n.toNat, by omega⟩
  rw [YQ]
  obtain ⟨a, b⟩ := vl (Yx m)
  exact ⟨a, by rw [b, Zi]⟩
theorem v8 {r : zK} (h : Zq r = true) (h0 : zH r = 0) : r = [48] := by
 have := Zo h
 rw [h0, zg (by decide)] at this
 exact this.symm
theorem ym {s : zK} (h : ZV s = true) : (∃ r, s = 45 :: r ∧ Zq r = true ∧ zH r ≠ 0 ∧ zS s = -(zH r : Int)) ∨ (Zq s = true ∧ zS s = (zH s : Int)) := by
 unfold ZV at h
 split at h
 ·rename_i r
  rw [Bool.and_eq_true, Bool.not_eq_true'] at h
  refine .inl ⟨r, rfl, h.1, fun e => ?_, rfl⟩
  have := v8 h.1 e
  simp_all
 ·exact .inr ⟨h, (vl h).2⟩
theorem YD {s : zK} (h : ZV s = true) : itoa (zS s) = s := by
 rcases ym h with ⟨r, rfl, h1, h2, h3⟩ | ⟨h1, h2⟩
 ·rw [h3, itoa_neg h2, Zo h1]
 ·rw [h2, YQ, Zo h1]
def vk (n : Int) : Nat := nDigits n.natAbs
theorem YZ (n : Int) : (itoa n).length = vk n + if n < 0 then 1 else 0 := by
 unfold itoa vk
 by_cases h : n < 0
 ·rw [if_pos h, if_pos h, List.length_cons, decDigits_length]
 ·rw [if_neg h, if_neg h, decDigits_length, show n.toNat = n.natAbs by omega]; rfl
theorem vY : ∀ {k u : Nat}, u < 10 ^ (k + 1) → nDigits u ≤ k + 1
 | 0, u, h => by rw [nDigits_small (by simpa using h)]; exact Nat.le_refl _
 | k + 1, u, h => by
  by_cases hu : u < 10
  ·rw [nDigits_small hu]; omega
  ·rw [nDigits_big hu]
   have := vY (k := k) (u := u / 10) (by rw [Nat.pow_succ] at h; omega)
   omega
theorem yP {k u : Nat} (hk : 0 < k) : nDigits u ≤ k ↔ u < 10 ^ k := by
 constructor
 ·intro h
  exact Nat.lt_of_lt_of_le (lt_pow_nDigits u) (Nat.pow_le_pow_right (by decide) h)
 ·intro h
  obtain ⟨m, rfl⟩ : ∃ m, k = m + 1 := ⟨k - 1, by omega⟩
  exact vY h
theorem tX {l : zK} (h : Zq l = true) : l.length = nDigits (zH l) := by
 conv => lhs; rw [← Zo h]
 rw [decDigits_length]
end Go.Ar

namespace Go.Ar
open Go Go.Sx Go.Lib
set_option maxRecDepth 100000
def zm (b : Int) : List Int → Int
 | [] => 0
 | x :: l => x + b * zm b l
def yz (b : Int) (l : List Int) : Prop := ∀ x ∈ l, 0 ≤ x ∧ x < b
def YV : List Int → List Int
 | [] => []
 | x :: l => if YV l = [] ∧ x = 0 then [] else x :: YV l
def yR (b n : Nat) : List Int :=
 if h : n = 0 ∨ b < 2 then [] else ((n % b : Nat) : Int) :: yR b (n / b)
termination_by n
decreasing_by
 have h2 : n / b < n := Nat.div_lt_self (by omega) (by omega)
 exact h2
theorem Y3 (b : Nat) : yR b 0 = [] := by rw [yR, dif_pos (.inl rfl)]
theorem VI {b n : Nat} (hb : 2 ≤ b) (h : n ≠ 0) : yR b n = ((n % b : Nat) : Int) :: yR b (n / b) := by
 conv => lhs; rw [yR]
 simp_all
theorem yz.nil (b : Int) : yz b [] := fun _ h => by cases h
theorem yz.tail {b x : Int} {l : List Int} (h : yz b (x :: l)) : yz b l := fun y hy => h y (List.mem_cons_of_mem _ hy)
theorem yz.head {b x : Int} {l : List Int} (h : yz b (x :: l)) : 0 ≤ x ∧ x < b := h x List.mem_cons_self
theorem yz.app {b : Int} {l m : List Int} (h : yz b l) (h2 : yz b m) : yz b (l ++ m) := fun x hx => (List.mem_append.1 hx).elim (h x) (h2 x)
theorem yz.one {b x : Int} (h0 : 0 ≤ x) (h1 : x < b) : yz b [x] := fun y hy => by rw [List.mem_singleton] at hy; subst hy; exact ⟨h0, h1⟩
theorem yz.snoc {b x : Int} {l : List Int} (h : yz b l) (h0 : 0 ≤ x) (h1 : x < b) : yz b (l ++ [x]) := h.app (.one h0 h1)
theorem yz.take {b : Int} {l : List Int} (h : yz b l) (n : Nat) : yz b (l.take n) := fun x hx => h x (List.mem_of_mem_take hx)
theorem yz.drop {b : Int} {l : List Int} (h : yz b l) (n : Nat) : yz b (l.drop n) := fun x hx => h x (List.mem_of_mem_drop hx)
theorem yz.get {b : Int} {l : List Int} (h : yz b l) (hb : 0 < b) (i : Nat) : 0 ≤ l.getD i 0 ∧ l.getD i 0 < b := by
 rw [List.getD_eq_getElem?_getD]
 by_cases hi : i < l.length
 ·rw [List.getElem?_eq_getElem hi]; exact h _ (List.getElem_mem hi)
 simp_all
theorem yz.set {b x : Int} {l : List Int} (h : yz b l) (h0 : 0 ≤ x) (h1 : x < b) (i : Nat) : yz b (l.set i x) := fun y hy => by
 rcases List.mem_or_eq_of_mem_set hy with hy | rfl
 ·exact h y hy
 omega
theorem Zs {b : Int} (hb : 0 ≤ b) : ∀ {l : List Int}, yz b l → 0 ≤ zm b l
 | [], _ => Int.le_refl _
 | x :: l, h => by
  have h1 := h.head
  have h2 := Int.mul_nonneg hb (Zs hb h.tail)
  show 0 ≤ x + b * zm b l
  omega
theorem W2 (b : Int) (l m : List Int) : zm b (l ++ m) = zm b l + b ^ l.length * zm b m := by
 induction l with
 | nil => simp [zm]
 | cons x l ih =>
  show x + b * zm b (l ++ m) = x + b * zm b l + b ^ (l.length + 1) * zm b m
  grind
theorem Yd (b : Int) (l : List Int) (x : Int) : zm b (l ++ [x]) = zm b l + b ^ l.length * x := by
 rw [W2]
 show _ + _ * (x + b * 0) = _
 simp
theorem xE {b : Int} (hb : 0 < b) : ∀ {l : List Int}, yz b l → zm b l < b ^ l.length
 | [], _ => by simp [zm]
 | x :: l, h => by
  have h1 := h.head
  have h2 := xE hb h.tail
  show x + b * zm b l < b ^ (l.length + 1)
  rw [Int.pow_succ, Int.mul_comm _ b]
  have h3 : b * (zm b l + 1) ≤ b * b ^ l.length := Int.mul_le_mul_of_nonneg_left (by omega) (by omega)
  grind
theorem tq {l : List Int} {i : Nat} (h : i < l.length) : l.take (i + 1) = l.take i ++ [l.getD i 0] := by
 simp_all
theorem SI (b : Int) {l : List Int} {i : Nat} (h : i < l.length) : zm b (l.take (i + 1)) = zm b (l.take i) + b ^ i * l.getD i 0 := by
 rw [tq h, Yd, List.length_take, Nat.min_eq_left (by omega)]
theorem ZJ (b : Int) (l : List Int) (i : Nat) : zm b (l.take (i + 1)) = zm b (l.take i) + b ^ i * l.getD i 0 := by
 by_cases h : i < l.length
 ·exact SI b h
 ·rw [List.take_of_length_le (by omega), List.take_of_length_le (by omega), List.getD_eq_getElem?_getD, List.getElem?_eq_none (by omega)]
  simp
theorem xT (b : Int) : ∀ {l : List Int} {i : Nat} (x : Int), i < l.length → zm b (l.set i x) = zm b l + b ^ i * (x - l.getD i 0)
 | [], i, x, h => by cases h
 | y :: l, 0, x, h => by
  show x + b * zm b l = y + b * zm b l + b ^ 0 * (x - y)
  grind
 | y :: l, i + 1, x, h => by
  show y + b * zm b (l.set i x) = y + b * zm b l + b ^ (i + 1) * (x - l.getD i 0)
  rw [xT b x (by simpa using h), Int.mul_add, Int.pow_succ, Int.mul_comm _ b, Int.mul_assoc]
  omega
theorem W6 (b : Int) : ∀ n : Nat, zm b (List.replicate n 0) = 0
 | 0 => rfl
 | n + 1 => by rw [List.replicate_succ]; show 0 + b * zm b _ = 0; rw [W6 b n]; simp
theorem yz.zeros {b : Int} (hb : 0 < b) (n : Nat) : yz b (List.replicate n 0) := fun x hx => by rw [List.eq_of_mem_replicate hx]; exact ⟨Int.le_refl _, hb⟩
theorem SJ {b : Nat} (hb : 2 ≤ b) (n : Nat) : zm b (yR b n) = (n : Int) := by
 induction n using Nat.strongRecOn with
 | _ n ih =>
  by_cases h : n = 0
  ·subst h; rw [Y3]; rfl
  ·rw [VI hb h]
   show ((n % b : Nat) : Int) + (b : Int) * zm b (yR b (n / b)) = n
   rw [ih (n / b) (Nat.div_lt_self (by omega) (by omega))]
   exact_mod_cast Nat.mod_add_div n b
theorem yJ {b : Nat} (hb : 2 ≤ b) : ∀ {l : List Int}, yz b l → YV l = yR b (zm b l).toNat
 | [], _ => by
  show [] = yR b 0
  rw [Y3]
 | x :: l, h => by
  have ih := yJ hb h.tail
  have h0 := Zs (b := (b : Int)) (by omega) h.tail
  have hx := h.head
  obtain ⟨m, hm⟩ : ∃ m : Nat, zm b l = m := ⟨(zm b l).toNat, by omega⟩
  obtain ⟨y, rfl⟩ : ∃ y : Nat, x = y := ⟨x.toNat, by omega⟩
  have e : (zm b ((y : Int) :: l)).toNat = y + b * m := by
   show ((y : Int) + (b : Int) * zm b l).toNat = _
   grind
  rw [hm, Int.toNat_natCast] at ih
  rw [e]
  have hy : y < b := by omega
  by_cases hz : y + b * m = 0
  ·rw [hz, Y3]
   have hy0 : y = 0 := by omega
   have hm0 : b * m = 0 := by omega
   have hm1 : m = 0 := by
    rcases Nat.mul_eq_zero.1 hm0 with h | h
    all_goals omega
   unfold YV
   rw [if_pos ⟨by rw [ih, hm1, Y3], by omega⟩]
  ·rw [VI hb hz, Nat.add_mul_mod_self_left, Nat.mod_eq_of_lt hy, Nat.add_mul_div_left _ _ (by omega), Nat.div_eq_of_lt hy, Nat.zero_add, ← ih]
   show (if YV l = [] ∧ (y : Int) = 0 then [] else (y : Int) :: YV l) = _
   rw [if_neg]
   rintro ⟨h1, h2⟩
   rw [ih] at h1
   have h3 := SJ hb m
   rw [h1] at h3
   have h3 : (0 : Int) = (m : Int) := h3
   grind
end Go.Ar

namespace Go.Ar
open Go Go.Sx Go.Lib
set_option maxRecDepth 100000
def YH (s : zK) : Nat := match s with | 45 :: r => r.length | r => r.length
def xW (s : zK) : Int := bif ZV s then (bif Nat.blt 300 (YH s) then 4 else 0) else 11
def YK (a b : Int) : Int := bif zA a b then -1 else bif a == b then 0 else 1
theorem ZE {s : zK} : xW s = 0 ↔ ZV s = true ∧ YH s ≤ 300 := by
 unfold xW
 cases h : ZV s with
 | false => simp
 | true =>
  cases h2 : Nat.blt 300 (YH s) with
  | true => simp_all
  | false =>
   have : ¬ 300 < YH s := fun e => by rw [(zF _ _).2 e] at h2; cases h2
   simp; omega
theorem uo {s : zK} (h : ZV s = true) : YH s = vk (zS s) := by
 rcases ym h with ⟨r, rfl, h1, h2, h3⟩ | ⟨h1, h2⟩
 ·rw [h3]
  unfold vk
  rw [Int.natAbs_neg, Int.natAbs_natCast, ← tX h1]; rfl
 ·rw [h2]
  unfold vk
  rw [Int.natAbs_natCast, ← tX h1]
  match s, h1 with
  | [], _ => rfl
  | c :: r, h1 =>
   by_cases hc : c = 45
   ·subst hc; exact (xZ h1).elim
   ·unfold YH; split
    all_goals simp_all
theorem Wx (s : zK) : YH s ≤ s.length ∧ s.length ≤ YH s + 1 := by
 unfold YH
 grind
theorem Y7 {n : Int} {k : Nat} (hk : 0 < k) (h : n.natAbs < 10 ^ k) : vk n ≤ k := (yP hk).2 h
end Go.Ar

namespace Go.Ar
open Go Go.Sx Go.Lib
set_option maxRecDepth 100000
theorem Yr {b : Int} (hb : 0 < b) (n : Nat) : 0 < b ^ n := Int.pow_pos hb
theorem Vg (b : Int) (n : Nat) : b ^ (n + 1) = b ^ n * b := Int.pow_succ b n
theorem om {n b : Int} (h : 0 ≤ n) (hb : 0 < b) : n.tmod b + b * n.tdiv b = n ∧ 0 ≤ n.tmod b ∧ n.tmod b < b ∧ 0 ≤ n.tdiv b := by
 rw [Int.tmod_eq_emod_of_nonneg h, Int.tdiv_eq_ediv_of_nonneg h]
 exact ⟨Int.emod_add_mul_ediv n b, Int.emod_nonneg n (by omega), Int.emod_lt_of_pos n hb, Int.ediv_nonneg h (by omega)⟩
structure tF (b : Int) (x y : List Int) (z : Nat) (out : List Int) (c : Int) : Prop where
 len : out.length = z
 in_ : yz b out
 c0 : 0 ≤ c
 c1 : c ≤ 1
 val : zm b out + b ^ z * c = zm b (x.take z) + zm b (y.take z)
theorem tF.zero (b : Int) (x y : List Int) : tF b x y 0 [] 0 := ⟨rfl, .nil b, Int.le_refl _, by omega, by simp [zm]⟩
theorem tF.step {b : Int} (hb : 2 ≤ b) {x y : List Int} (hx : yz b x) (hy : yz b y) {z : Nat} {out : List Int} {c : Int} (h : tF b x y z out c) :
  tF b x y (z + 1) (out ++ [(x.getD z 0 + y.getD z 0 + c).tmod b]) ((x.getD z 0 + y.getD z 0 + c).tdiv b) := by
 have x1 := hx.get (by omega) z
 have y1 := hy.get (by omega) z
 have h0 := h.c0
 have h1 := h.c1
 obtain ⟨e, m0, m1, d0⟩ := om (n := x.getD z 0 + y.getD z 0 + c) (b := b) (by omega) (by omega)
 have hd : (x.getD z 0 + y.getD z 0 + c).tdiv b ≤ 1 := by
  refine Decidable.byContradiction fun hn => ?_
  have : b * 2 ≤ b * (x.getD z 0 + y.getD z 0 + c).tdiv b := Int.mul_le_mul_of_nonneg_left (by omega) (by omega)
  omega
 refine ⟨by simp [h.len], h.in_.snoc m0 m1, d0, hd, ?_⟩
 rw [Yd, h.len, ZJ, ZJ]
 have hv := h.val
 grind
theorem yf {x : List Int} {n : Nat} (h : x.length ≤ n) : x.take n = x := List.take_of_length_le h
theorem tF.end_ {b : Nat} (hb : 2 ≤ b) {x y : List Int} (hx : yz b x) (hy : yz b y) {z : Nat} {out : List Int} {c : Int} (h : tF b x y z out c) (h1 : x.length < z) (h2 : y.length < z) :
  YV out = yR b (zm b x + zm b y).toNat := by
 have hv := h.val
 rw [yf (by omega), yf (by omega)] at hv
 have x1 := xE (b := (b : Int)) (by omega) hx
 have y1 := xE (b := (b : Int)) (by omega) hy
 have hp : ∀ n, n < z → (b : Int) ^ n * 2 ≤ (b : Int) ^ z := fun n hn => by
  have p1 : b ^ n * 2 ≤ b ^ n * b := Nat.mul_le_mul_left _ hb
  have p2 : b ^ (n + 1) ≤ b ^ z := Nat.pow_le_pow_right (by omega) (by omega)
  grind
 have p1 := hp _ h1
 have p2 := hp _ h2
 have o0 := Zs (b := (b : Int)) (by omega) h.in_
 have hc : c = 0 := by
  refine Decidable.byContradiction fun hn => ?_
  have : c = 1 := by have := h.c0; have := h.c1; omega
  grind
 rw [hc, Int.mul_zero, Int.add_zero] at hv
 rw [yJ hb h.in_, hv]
structure UW (b : Int) (x y : List Int) (z : Nat) (out : List Int) (c : Int) : Prop where
 len : out.length = z
 in_ : yz b out
 c0 : 0 ≤ c
 c1 : c ≤ 1
 val : zm b out - b ^ z * c = zm b (x.take z) - zm b (y.take z)
theorem UW.zero (b : Int) (x y : List Int) : UW b x y 0 [] 0 := ⟨rfl, .nil b, Int.le_refl _, by omega, by simp [zm]⟩
theorem UW.step {b : Int} (hb : 2 ≤ b) {x y : List Int} (hx : yz b x) (hy : yz b y) {z : Nat} {out : List Int} {c : Int} (h : UW b x y z out c) :
  (0 ≤ x.getD z 0 - y.getD z 0 - c → UW b x y (z + 1) (out ++ [x.getD z 0 - y.getD z 0 - c]) 0) ∧
  (x.getD z 0 - y.getD z 0 - c < 0 → UW b x y (z + 1) (out ++ [x.getD z 0 - y.getD z 0 - c + b]) 1) := by
 have x1 := hx.get (by omega) z
 have y1 := hy.get (by omega) z
 have h0 := h.c0
 have h1 := h.c1
 have hv := h.val
 refine ⟨fun hn => ⟨by simp [h.len], h.in_.snoc hn (by omega), Int.le_refl _, by omega, ?_⟩, fun hn => ⟨by simp [h.len], h.in_.snoc (by omega) (by omega), by omega, Int.le_refl _, ?_⟩⟩
 ·rw [Yd, h.len, ZJ, ZJ, Int.mul_sub, Int.mul_sub]
  omega
 ·rw [Yd, h.len, ZJ, ZJ, Int.mul_add, Int.mul_sub, Int.mul_sub, Vg]
  omega
theorem UW.end_ {b : Nat} (hb : 2 ≤ b) {x y : List Int} {z : Nat} {out : List Int} {c : Int} (h : UW b x y z out c) (h1 : x.length ≤ z) (h2 : y.length ≤ z) (hle : zm b y ≤ zm b x) :
  YV out = yR b (zm b x - zm b y).toNat := by
 have hv := h.val
 rw [yf (by omega), yf (by omega)] at hv
 have o1 := xE (b := (b : Int)) (by omega) h.in_
 rw [h.len] at o1
 have hc : c = 0 := by
  refine Decidable.byContradiction fun hn => ?_
  have : c = 1 := by have := h.c0; have := h.c1; omega
  grind
 rw [hc, Int.mul_zero, Int.sub_zero] at hv
 rw [yJ hb h.in_, hv]
structure qX (b : Int) (x y : List Int) (z : Nat) (out : List Int) : Prop where
 len : out.length = x.length + y.length + 1
 in_ : yz b out
 zero : ∀ i, z + y.length ≤ i → out.getD i 0 = 0
 val : zm b out = zm b (x.take z) * zm b y
structure sG (b : Int) (x y : List Int) (z k : Nat) (out : List Int) (c : Int) : Prop where
 len : out.length = x.length + y.length + 1
 in_ : yz b out
 zero : ∀ i, z + y.length ≤ i → z + k ≤ i → out.getD i 0 = 0
 c0 : 0 ≤ c
 c1 : c < b
 val : zm b out + b ^ (z + k) * c = zm b (x.take z) * zm b y + b ^ z * (x.getD z 0 * zm b (y.take k))
theorem XB (b : Int) : zm b [] = 0 := rfl
theorem Ul (n i : Nat) : (List.replicate n (0 : Int)).getD i 0 = 0 := by
 grind
theorem qX.start {b : Int} {x y : List Int} {z : Nat} {out : List Int} (hb : 0 < b) (h : qX b x y z out) : sG b x y z 0 out 0 :=
 ⟨h.len, h.in_, fun i hi _ => h.zero i hi, Int.le_refl _, hb, by rw [List.take_zero, XB, h.val]; simp⟩
theorem y8 (l : List Int) (i j : Nat) (v : Int) (hj : j < l.length) : (l.set j v).getD i 0 = if i = j then v else l.getD i 0 := by
 grind
theorem sG.step {b : Int} (hb : 2 ≤ b) {x y : List Int} (hx : yz b x) (hy : yz b y) {z k : Nat} (hz : z < x.length) (hk : k ≤ y.length) {out : List Int} {c : Int} (h : sG b x y z k out c) :
  (0 ≤ out.getD (z + k) 0 + x.getD z 0 * y.getD k 0 + c ∧ out.getD (z + k) 0 + x.getD z 0 * y.getD k 0 + c < b * b) ∧
  sG b x y z (k + 1) (out.set (z + k) ((out.getD (z + k) 0 + x.getD z 0 * y.getD k 0 + c).tmod b)) ((out.getD (z + k) 0 + x.getD z 0 * y.getD k 0 + c).tdiv b) := by
 have x1 := hx.get (by omega) z
 have y1 := hy.get (by omega) k
 have o1 := h.in_.get (by omega) (z + k)
 have h0 := h.c0
 have h1 := h.c1
 have p0 : 0 ≤ x.getD z 0 * y.getD k 0 := Int.mul_nonneg x1.1 y1.1
 have p1 : x.getD z 0 * y.getD k 0 ≤ (b - 1) * (b - 1) := Int.mul_le_mul (by omega) (by omega) y1.1 (by omega)
 have p2 : (b - 1) * (b - 1) = b * b - 2 * b + 1 := by rw [Int.sub_mul, Int.mul_sub]; omega
 have hn0 : 0 ≤ out.getD (z + k) 0 + x.getD z 0 * y.getD k 0 + c := by omega
 have hn1 : out.getD (z + k) 0 + x.getD z 0 * y.getD k 0 + c < b * b := by omega
 obtain ⟨e, m0, m1, d0⟩ := om (b := b) hn0 (by omega)
 have hd : (out.getD (z + k) 0 + x.getD z 0 * y.getD k 0 + c).tdiv b < b := by
  refine Decidable.byContradiction fun hn => ?_
  have : b * b ≤ b * (out.getD (z + k) 0 + x.getD z 0 * y.getD k 0 + c).tdiv b := Int.mul_le_mul_of_nonneg_left (by omega) (by omega)
  omega
 have hlen : z + k < out.length := by rw [h.len]; omega
 refine ⟨⟨hn0, hn1⟩, by rw [List.length_set]; exact h.len, h.in_.set m0 m1 _, fun i hi hi2 => ?_, d0, hd, ?_⟩
 ·rw [y8 _ _ _ _ hlen, if_neg (by omega)]
  exact h.zero i hi (by omega)
 ·rw [xT b _ hlen, ZJ]
  have hv := h.val
  grind
theorem sG.end_ {b : Int} (hb : 2 ≤ b) {x y : List Int} (hx : yz b x) (hy : yz b y) {z : Nat} (hz : z < x.length) {out : List Int} {c : Int} (h : sG b x y z (y.length + 1) out c) (hc : c = 0) : qX b x y (z + 1) out := by
 subst hc
 refine ⟨h.len, h.in_, fun i hi => h.zero i (by omega) (by omega), ?_⟩
 have hv := h.val
 rw [Int.mul_zero, Int.add_zero, yf (x := y) (by omega)] at hv
 rw [hv, ZJ b x, Int.add_mul, Int.mul_assoc]
theorem qX.end_ {b : Nat} (hb : 2 ≤ b) {x y : List Int} {out : List Int} (h : qX b x y x.length out) : YV out = yR b (zm b x * zm b y).toNat := by
 have hv := h.val
 rw [List.take_length] at hv
 rw [yJ hb h.in_, hv]
end Go.Ar

namespace Go.Ar
open Go Go.Sx Go.Lib
set_option maxRecDepth 100000
theorem Vs {l : List Int} {z : Nat} (h : z < l.length) : l.drop z = l.getD z 0 :: l.drop (z + 1) := by
 simp_all
theorem wO (b : Int) {l : List Int} {z : Nat} (h : z < l.length) : zm b (l.drop z) = l.getD z 0 + b * zm b (l.drop (z + 1)) := by rw [Vs h]; rfl
theorem Yq (b : Int) (l : List Int) {z : Nat} (h : z ≤ l.length) : zm b l = zm b (l.take z) + b ^ z * zm b (l.drop z) := by
 conv => lhs; rw [← List.take_append_drop z l]
 rw [W2, List.length_take, Nat.min_eq_left h]
theorem Uy (l : List Int) (z : Nat) (v : Int) (h : z < l.length) : (l.set z v).drop z = v :: l.drop (z + 1) := by
 rw [Vs (by simpa using h), y8 _ _ _ _ h, if_pos rfl, List.drop_set]
 simp
structure oR (b d : Int) (a : List Int) (z : Nat) (q : List Int) (r : Int) : Prop where
 len : q.length = a.length
 le : z ≤ a.length
 in_ : yz b q
 r0 : 0 ≤ r
 r1 : r < d
 val : zm b (a.drop z) = d * zm b (q.drop z) + r
theorem oR.start {b d : Int} (hb : 0 < b) (hd : 0 < d) (a : List Int) : oR b d a a.length (List.replicate a.length 0) 0 :=
 ⟨by simp, Nat.le_refl _, .zeros hb _, Int.le_refl _, hd, by rw [List.drop_of_length_le (Nat.le_refl _), List.drop_of_length_le (by simp)]; simp [zm]⟩
theorem oR.step {b d : Int} (hb : 0 < b) {a : List Int} (ha : yz b a) {z : Nat} {q : List Int} {r : Int} (h : oR b d a (z + 1) q r) :
  (0 ≤ a.getD z 0 + r * b ∧ a.getD z 0 + r * b < d * b) ∧ oR b d a z (q.set z ((a.getD z 0 + r * b).tdiv d)) ((a.getD z 0 + r * b).tmod d) := by
 have a1 := ha.get hb z
 have h0 := h.r0
 have h1 := h.r1
 have hz := h.le
 have p0 : 0 ≤ r * b := Int.mul_nonneg h0 (by omega)
 have p1 : (r + 1) * b ≤ d * b := Int.mul_le_mul_of_nonneg_right (by omega) (by omega)
 rw [Int.add_mul, Int.one_mul] at p1
 have n0 : 0 ≤ a.getD z 0 + r * b := by omega
 have n1 : a.getD z 0 + r * b < d * b := by omega
 obtain ⟨e, m0, m1, d0⟩ := om n0 (b := d) (by omega)
 have hq : (a.getD z 0 + r * b).tdiv d < b := by
  refine Decidable.byContradiction fun hn => ?_
  have : d * b ≤ d * (a.getD z 0 + r * b).tdiv d := Int.mul_le_mul_of_nonneg_left (by omega) (by omega)
  omega
 refine ⟨⟨n0, n1⟩, by rw [List.length_set]; exact h.len, by omega, h.in_.set d0 hq _, m0, m1, ?_⟩
 rw [Uy _ _ _ (by rw [h.len]; omega), wO b (by omega), h.val]
 show _ = d * (_ + b * _) + _
 grind
theorem oR.end_ {b : Nat} (hb : 2 ≤ b) {d : Nat} (hd : 0 < d) (hdb : d ≤ b) {a : List Int} {q : List Int} {r : Int} (h : oR b d a 0 q r) (n : Nat) (hn : zm b a = n) :
  YV q = yR b (n / d) ∧ r = (n % d : Nat) ∧ YV [r] = yR b (n % d) := by
 have hv := h.val
 rw [List.drop_zero, List.drop_zero, hn] at hv
 have q0 := Zs (b := (b : Int)) (by omega) h.in_
 have h0 := h.r0
 have h1 := h.r1
 obtain ⟨Q, hQ⟩ : ∃ Q : Nat, zm b q = Q := ⟨(zm b q).toNat, by omega⟩
 obtain ⟨R, rfl⟩ : ∃ R : Nat, r = R := ⟨r.toNat, by omega⟩
 rw [hQ] at hv
 have hv : n = d * Q + R := by exact_mod_cast hv
 have hR : R < d := by omega
 have e1 : n / d = Q := by rw [hv, Nat.mul_add_div hd, Nat.div_eq_of_lt hR, Nat.add_zero]
 have e2 : n % d = R := by rw [hv, Nat.mul_add_mod, Nat.mod_eq_of_lt hR]
 refine ⟨?_, by rw [e2], ?_⟩
 ·rw [yJ hb h.in_, hQ, e1, Int.toNat_natCast]
 ·rw [yJ hb (.one (by omega) (by omega)), e2]
  rfl
def Out (j n : Nat) (u w : List Int) : Prop := ∀ i, i < j ∨ n ≤ i → w.getD i 0 = u.getD i 0
structure vo (b : Int) (u v : List Int) (j : Nat) (q : Int) (i : Nat) (w : List Int) (c : Int) : Prop where
 len : w.length = u.length
 in_ : yz b w
 out : Out j (j + i) u w
 c0 : 0 ≤ c
 c1 : c ≤ q + 1
 val : zm b w - b ^ (j + i) * c = zm b u - b ^ j * (q * zm b (v.take i))
theorem vo.start {b : Int} {u v : List Int} {j : Nat} {q : Int} (hu : yz b u) (hq : 0 ≤ q) : vo b u v j q 0 u 0 :=
 ⟨rfl, hu, fun _ _ => rfl, Int.le_refl _, by omega, by rw [List.take_zero, XB]; simp⟩
def XP (b n : Int) : Int := bif zA n 0 then (-n + b - 1).tdiv b else 0
theorem s7 {b n : Int} (hb : 2 ≤ b) : 0 ≤ XP b n ∧ 0 ≤ n + XP b n * b ∧ (n < b → n + XP b n * b < b) ∧ ∀ q, -(q * b) ≤ n → 0 ≤ q → XP b n ≤ q := by
 unfold XP
 cases h : zA n 0 with
 | true =>
  have h := (zl _ _).1 h
  simp only [cond_true]
  obtain ⟨e, m0, m1, d0⟩ := om (n := -n + b - 1) (b := b) (by omega) (by omega)
  rw [Int.mul_comm] at e
  refine ⟨d0, by omega, fun _ => by omega, fun q hq hq0 => ?_⟩
  refine Decidable.byContradiction fun hn => ?_
  have : (q + 1) * b ≤ (-n + b - 1).tdiv b * b := Int.mul_le_mul_of_nonneg_right (by omega) (by omega)
  grind
 | false =>
  have h : ¬ n < 0 := fun e => by rw [(zl _ _).2 e] at h; cases h
  simp_all
theorem vo.step {b : Int} (hb : 2 ≤ b) {u v : List Int} (hv : yz b v) {j : Nat} {q : Int} (hq : 0 ≤ q) {i : Nat} (hj : j + i < u.length) {w : List Int} {c : Int} (h : vo b u v j q i w c) :
  (-((q + 1) * b) ≤ w.getD (j + i) 0 - c - q * v.getD i 0 ∧ w.getD (j + i) 0 - c - q * v.getD i 0 < b) ∧
  vo b u v j q (i + 1) (w.set (j + i) (w.getD (j + i) 0 - c - q * v.getD i 0 + XP b (w.getD (j + i) 0 - c - q * v.getD i 0) * b)) (XP b (w.getD (j + i) 0 - c - q * v.getD i 0)) := by
 have v1 := hv.get (by omega) i
 have w1 := h.in_.get (by omega) (j + i)
 have h0 := h.c0
 have h1 := h.c1
 have p0 : 0 ≤ q * v.getD i 0 := Int.mul_nonneg hq v1.1
 have p1 : q * v.getD i 0 ≤ q * (b - 1) := Int.mul_le_mul_of_nonneg_left (by omega) hq
 rw [Int.mul_sub, Int.mul_one] at p1
 have n1 : -((q + 1) * b) ≤ w.getD (j + i) 0 - c - q * v.getD i 0 := by rw [Int.add_mul, Int.one_mul]; omega
 have n2 : w.getD (j + i) 0 - c - q * v.getD i 0 < b := by omega
 have hl : j + i < w.length := by rw [h.len]; exact hj
 have hval := h.val
 refine ⟨⟨n1, n2⟩, ?_⟩
 obtain ⟨k0, k1, k2, k3⟩ := s7 (b := b) (n := w.getD (j + i) 0 - c - q * v.getD i 0) hb
 refine ⟨by rw [List.length_set]; exact h.len, h.in_.set k1 (k2 n2) _, fun x hx => ?_, k0, k3 _ n1 (by omega), ?_⟩
 ·rw [y8 _ _ _ _ hl, if_neg (by omega)]
  exact h.out x (by omega)
 ·rw [xT b _ hl, ZJ]
  grind
structure ta (b : Int) (u v : List Int) (j : Nat) (q : Int) (i : Nat) (w : List Int) (c : Int) : Prop where
 len : w.length = u.length
 in_ : yz b w
 out : Out j (j + i) u w
 c0 : 0 ≤ c
 c1 : c ≤ q
 val : zm b w + b ^ (j + i) * c = zm b u + b ^ j * (q * zm b (v.take i))
theorem ta.start {b : Int} {u v : List Int} {j : Nat} {q : Int} (hu : yz b u) (hq : 0 ≤ q) : ta b u v j q 0 u 0 :=
 ⟨rfl, hu, fun _ _ => rfl, Int.le_refl _, hq, by rw [List.take_zero, XB]; simp⟩
theorem ta.step {b : Int} (hb : 2 ≤ b) {u v : List Int} (hv : yz b v) {j : Nat} {q : Int} (hq : 0 ≤ q) {i : Nat} (hj : j + i < u.length) {w : List Int} {c : Int} (h : ta b u v j q i w c) :
  (0 ≤ w.getD (j + i) 0 + q * v.getD i 0 + c ∧ w.getD (j + i) 0 + q * v.getD i 0 + c < (q + 1) * b) ∧
  ta b u v j q (i + 1) (w.set (j + i) ((w.getD (j + i) 0 + q * v.getD i 0 + c).tmod b)) ((w.getD (j + i) 0 + q * v.getD i 0 + c).tdiv b) := by
 have v1 := hv.get (by omega) i
 have w1 := h.in_.get (by omega) (j + i)
 have h0 := h.c0
 have h1 := h.c1
 have p0 : 0 ≤ q * v.getD i 0 := Int.mul_nonneg hq v1.1
 have p1 : q * v.getD i 0 ≤ q * (b - 1) := Int.mul_le_mul_of_nonneg_left (by omega) hq
 rw [Int.mul_sub, Int.mul_one] at p1
 have n1 : 0 ≤ w.getD (j + i) 0 + q * v.getD i 0 + c := by omega
 have n2 : w.getD (j + i) 0 + q * v.getD i 0 + c < (q + 1) * b := by rw [Int.add_mul, Int.one_mul]; omega
 have hl : j + i < w.length := by rw [h.len]; exact hj
 have hval := h.val
 refine ⟨⟨n1, n2⟩, ?_⟩
 obtain ⟨e, m0, m1, d0⟩ := om n1 (b := b) (by omega)
 have hd : (w.getD (j + i) 0 + q * v.getD i 0 + c).tdiv b ≤ q := by
  refine Decidable.byContradiction fun hn => ?_
  have : b * (q + 1) ≤ b * (w.getD (j + i) 0 + q * v.getD i 0 + c).tdiv b := Int.mul_le_mul_of_nonneg_left (by omega) (by omega)
  grind
 refine ⟨by rw [List.length_set]; exact h.len, h.in_.set m0 m1 _, fun x hx => ?_, d0, hd, ?_⟩
 ·rw [y8 _ _ _ _ hl, if_neg (by omega)]
  exact h.out x (by omega)
 ·rw [xT b _ hl, ZJ]
  grind
theorem yz.ext {b : Int} (hb : 0 < b) : ∀ {l m : List Int}, yz b l → yz b m → l.length = m.length → zm b l = zm b m → l = m
 | [], [], _, _, _, _ => rfl
 | [], _ :: _, _, _, h, _ => by cases h
 | _ :: _, [], _, _, h, _ => by cases h
 | x :: l, y :: m, hl, hm, h, hv => by
  have hx := hl.head
  have hy := hm.head
  have hv : x + b * zm b l = y + b * zm b m := hv
  have e1 : x = (x + b * zm b l) % b := by rw [Int.add_mul_emod_self_left, Int.emod_eq_of_lt hx.1 hx.2]
  have e2 : y = (y + b * zm b m) % b := by rw [Int.add_mul_emod_self_left, Int.emod_eq_of_lt hy.1 hy.2]
  have e3 : x = y := by rw [e1, e2, hv]
  subst e3
  have e4 : b * zm b l = b * zm b m := by omega
  rw [yz.ext hb hl.tail hm.tail (by simpa using h) (Int.eq_of_mul_eq_mul_left (by omega) e4)]
theorem RN {b : Int} {u : List Int} {j n : Nat} (h : ∀ i, n ≤ i → u.getD i 0 = 0) (hj : j ≤ n) : zm b (u.drop j) = zm b ((u.take n).drop j) := by
 have e : ∀ {l : List Int}, (∀ i, l.getD i 0 = 0) → zm b l = 0 := by
  intro l
  induction l with
  | nil => intro _; rfl
  | cons x l ih =>
   intro hl
   have h0 : x = 0 := hl 0
   show x + b * zm b l = 0
   rw [h0, ih fun i => hl (i + 1)]; simp
 by_cases hn : n ≤ u.length
 ·have e1 : u.drop j = (u.take n).drop j ++ u.drop n := by
   conv => lhs; rw [← List.take_append_drop n u]
   grind
  rw [e1, W2, e (l := u.drop n), Int.mul_zero, Int.add_zero]
  simp_all
 ·rw [List.take_of_length_le (by omega)]
end Go.Ar

namespace Go.Ar
open Go Go.Sx Go.Lib
set_option maxRecDepth 100000
theorem XQ (l : List Int) (j i : Nat) : (l.drop j).getD i 0 = l.getD (j + i) 0 := by
 simp
theorem vv {b : Int} {l : List Int} {n : Nat} (h : ∀ i, n ≤ i → l.getD i 0 = 0) : zm b l = zm b (l.take n) := by
 have := RN (b := b) (j := 0) h (Nat.zero_le _)
 assumption
theorem Wv {b : Int} (hb : 0 < b) {l : List Int} (h : yz b l) (n : Nat) : 0 ≤ zm b (l.take n) ∧ zm b (l.take n) < b ^ n := by
 refine ⟨Zs (Int.le_of_lt hb) (h.take n), ?_⟩
 have h1 := xE hb (h.take n)
 have h2 : b ^ (l.take n).length ≤ b ^ n := by
  obtain ⟨m, rfl⟩ : ∃ m : Nat, b = m := ⟨b.toNat, by omega⟩
  have : m ^ (l.take n).length ≤ m ^ n := Nat.pow_le_pow_right (by omega) (by simp; omega)
  grind
 omega
theorem sH {b : Int} (hb : 0 < b) {l : List Int} (h : yz b l) {n : Nat} (hv : zm b l < b ^ n) {i : Nat} (hi : n ≤ i) : l.getD i 0 = 0 := by
 by_cases hl : i < l.length
 ·have e := Yq b l (z := i) (by omega)
  rw [wO b hl] at e
  have h1 := (h.get hb i).1
  have h2 := (Wv hb h i).1
  have h3 := Zs (Int.le_of_lt hb) (h.drop (i + 1))
  refine Decidable.byContradiction fun hn => ?_
  have h4 : b ^ i * 1 ≤ b ^ i * (l.getD i 0 + b * zm b (l.drop (i + 1))) := by
   refine Int.mul_le_mul_of_nonneg_left ?_ (Int.le_of_lt (Yr hb i))
   have := Int.mul_nonneg (Int.le_of_lt hb) h3
   omega
  have h5 : b ^ n ≤ b ^ i := by
   obtain ⟨m, rfl⟩ : ∃ m : Nat, b = m := ⟨b.toNat, by omega⟩
   have : m ^ n ≤ m ^ i := Nat.pow_le_pow_right (by omega) hi
   grind
  omega
 simp_all
structure PC (b top v1 W V q r : Int) : Prop where
 eq : q * v1 + r = top
 r0 : 0 ≤ r
 q0 : 0 ≤ q
 lt : W < (q + 1) * V
 le : q < 2 * b
structure qC (b : Int) (k : Nat) (u0 u1 u2 v1 v2 W V : Int) : Prop where
 hb : 2 ≤ b
 hu0 : 0 ≤ u0 ∧ u0 ≤ v1
 hu1 : 0 ≤ u1 ∧ u1 < b
 hu2 : 0 ≤ u2 ∧ u2 < b
 hv1 : 0 < v1 ∧ v1 < b
 hv2 : 0 ≤ v2 ∧ v2 < b
 w : W < b ^ k * (u2 + 1 + b * (u0 * b + u1))
 v : b ^ k * (v2 + b * v1) ≤ V
theorem qC.start {b : Int} {k : Nat} {u0 u1 u2 v1 v2 W V : Int} (h : qC b k u0 u1 u2 v1 v2 W V) : PC b (u0 * b + u1) v1 W V ((u0 * b + u1).tdiv v1) ((u0 * b + u1).tmod v1) := by
 have hb := h.hb
 have a0 := h.hu0
 have a1 := h.hu1
 have a2 := h.hu2
 have b1 := h.hv1
 have b2 := h.hv2
 have p0 : 0 ≤ u0 * b := Int.mul_nonneg a0.1 (by omega)
 obtain ⟨e, m0, m1, d0⟩ := om (n := u0 * b + u1) (b := v1) (by omega) b1.1
 have hp := Yr (b := b) (by omega) k
 refine ⟨by rw [Int.mul_comm]; omega, m0, d0, ?_, ?_⟩
 ·generalize hq : (u0 * b + u1).tdiv v1 = q at *
  have t1 : u0 * b + u1 + 1 ≤ (q + 1) * v1 := by rw [Int.add_mul, Int.one_mul, Int.mul_comm q]; omega
  have t2 : b * (u0 * b + u1 + 1) ≤ b * ((q + 1) * v1) := Int.mul_le_mul_of_nonneg_left t1 (by omega)
  have t3 : b ^ k * (u2 + 1 + b * (u0 * b + u1)) ≤ b ^ k * (b * ((q + 1) * v1)) := Int.mul_le_mul_of_nonneg_left (by rw [Int.mul_add, Int.mul_one] at t2; omega) (Int.le_of_lt hp)
  have t4 : (q + 1) * (b ^ k * (v2 + b * v1)) ≤ (q + 1) * V := Int.mul_le_mul_of_nonneg_left h.v (by omega)
  have t5 : b ^ k * (b * ((q + 1) * v1)) ≤ (q + 1) * (b ^ k * (v2 + b * v1)) := by
   rw [← Int.mul_assoc (q + 1), Int.mul_comm (q + 1) (b ^ k), Int.mul_assoc]
   refine Int.mul_le_mul_of_nonneg_left ?_ (Int.le_of_lt hp)
   rw [Int.mul_add]
   have := Int.mul_nonneg (show 0 ≤ q + 1 by omega) b2.1
   grind
  have := h.w
  omega
 ·refine Decidable.byContradiction fun hn => ?_
  have t1 : v1 * (2 * b) ≤ v1 * (u0 * b + u1).tdiv v1 := Int.mul_le_mul_of_nonneg_left (by omega) (by omega)
  have t2 : u0 * b ≤ v1 * b := Int.mul_le_mul_of_nonneg_right a0.2 (by omega)
  have t3 : v1 * (2 * b) = v1 * b + v1 * b := by rw [Int.two_mul, Int.mul_add]
  have t4 : 1 * b ≤ v1 * b := Int.mul_le_mul_of_nonneg_right (by omega) (by omega)
  omega
theorem qC.step {b : Int} {k : Nat} {u0 u1 u2 v1 v2 W V q r : Int} (h : qC b k u0 u1 u2 v1 v2 W V) (hi : PC b (u0 * b + u1) v1 W V q r) (hW : W < b * V) (hV : 0 < V)
  (hc : b ≤ q ∨ r * b + u2 < q * v2) : 0 < q ∧ PC b (u0 * b + u1) v1 W V (q - 1) (r + v1) := by
 have hb := h.hb
 have a2 := h.hu2
 have b1 := h.hv1
 have b2 := h.hv2
 have q0 := hi.q0
 have r0 := hi.r0
 have hp := Yr (b := b) (by omega) k
 have hq : 0 < q := by
  rcases hc with hc | hc
  ·omega
  ·refine Decidable.byContradiction fun hn => ?_
   have : q = 0 := by omega
   subst this
   have := Int.mul_nonneg r0 (show 0 ≤ b by omega)
   omega
 refine ⟨hq, by rw [Int.sub_mul, Int.one_mul]; have := hi.eq; omega, by omega, by omega, ?_, by have := hi.le; omega⟩
 rw [Int.sub_add_cancel]
 rcases hc with hc | hc
 ·have : b * V ≤ q * V := Int.mul_le_mul_of_nonneg_right hc (by omega)
  omega
 ·have t1 : q * (b ^ k * (v2 + b * v1)) ≤ q * V := Int.mul_le_mul_of_nonneg_left h.v q0
  have t2 : b ^ k * (u2 + 1 + b * (u0 * b + u1)) ≤ q * (b ^ k * (v2 + b * v1)) := by
   rw [← Int.mul_assoc q, Int.mul_comm q (b ^ k), Int.mul_assoc]
   refine Int.mul_le_mul_of_nonneg_left ?_ (Int.le_of_lt hp)
   rw [← hi.eq, Int.mul_add, Int.mul_add, ← Int.mul_assoc q b, Int.mul_comm q b, Int.mul_assoc b q, Int.mul_comm b r]
   omega
  have := h.w
  omega
structure uO (b A V : Int) (n m j : Nat) (q u : List Int) : Prop where
 ql : q.length = m
 ul : u.length = m + n
 qi : yz b q
 ui : yz b u
 hi : ∀ i, j + n ≤ i → u.getD i 0 = 0
 top : zm b (u.drop j) < V
 val : A = V * (b ^ j * zm b (q.drop j)) + zm b u
theorem uO.start {b A V : Int} (hb : 0 < b) {n m : Nat} {u : List Int} (hl : u.length = m + n) (hu : yz b u) (hV : zm b (u.drop m) < V) (hA : A = zm b u) : uO b A V n m m (List.replicate m 0) u :=
 ⟨by simp, hl, .zeros hb m, hu, fun i hi => by rw [List.getD_eq_getElem?_getD, List.getElem?_eq_none (by omega)]; rfl, hV, by
  rw [List.drop_of_length_le (by simp), XB, Int.mul_zero, Int.mul_zero, Int.zero_add]; exact hA⟩
theorem uO.win {b A V : Int} (hb : 0 < b) {n m j : Nat} {q u : List Int} (hn : 0 < n) (hj : j < m) (h : uO b A V n m (j + 1) q u) : 0 ≤ zm b (u.drop j) ∧ zm b (u.drop j) < b * V := by
 have h1 := h.ui.get hb j
 have h2 := h.top
 rw [wO b (by rw [h.ul]; omega)]
 have h3 : b * (zm b (u.drop (j + 1)) + 1) ≤ b * V := Int.mul_le_mul_of_nonneg_left (by omega) (by omega)
 rw [Int.mul_add, Int.mul_one] at h3
 have h4 := Int.mul_nonneg (Int.le_of_lt hb) (Zs (Int.le_of_lt hb) (h.ui.drop (j + 1)))
 omega
theorem Wb {u w : List Int} {j n : Nat} (hl : w.length = u.length) (h : Out j n u w) : w.take j = u.take j := by
 refine List.ext_getElem (by simp [hl]) fun i h1 h2 => ?_
 have hi : i < j := by simp at h1; omega
 have hiw : i < w.length := by simp at h1; omega
 have e := h i (.inl hi)
 simp_all
theorem Uk {b : Int} {u w : List Int} {j n : Nat} (hl : w.length = u.length) (hj : j ≤ u.length) (h : Out j n u w) : zm b w - zm b u = b ^ j * (zm b (w.drop j) - zm b (u.drop j)) := by
 rw [Yq b w (z := j) (by omega), Yq b u (z := j) hj, Wb hl h, Int.mul_sub]
 omega
theorem vo.end_ {b : Int} (hb : 2 ≤ b) {u v : List Int} {j : Nat} {q : Int} {w : List Int} {c : Int} (hj : j ≤ u.length) (hz : ∀ i, j + 1 + v.length ≤ i → u.getD i 0 = 0) (h : vo b u v j q (v.length + 1) w c) :
  zm b (w.drop j) - b ^ (v.length + 1) * c = zm b (u.drop j) - q * zm b v ∧ 0 ≤ zm b (w.drop j) ∧ zm b (w.drop j) < b ^ (v.length + 1) := by
 have hv := h.val
 rw [yf (by omega)] at hv
 have hl := Uk (b := b) h.len hj h.out
 refine ⟨?_, Zs (by omega) (h.in_.drop j), ?_⟩
 ·have e : b ^ j * (zm b (w.drop j) - b ^ (v.length + 1) * c) = b ^ j * (zm b (u.drop j) - q * zm b v) := by
   grind
  exact Int.eq_of_mul_eq_mul_left (by have := Yr (b := b) (by omega) j; omega) e
 ·have hz2 : ∀ i, v.length + 1 ≤ i → (w.drop j).getD i 0 = 0 := fun i hi => by
   rw [XQ, h.out _ (.inr (by omega)), hz _ (by omega)]
  rw [vv hz2]
  exact (Wv (by omega) (h.in_.drop j) _).2
theorem vo.fits {b : Int} (hb : 2 ≤ b) {u v : List Int} {j : Nat} {q : Int} {w : List Int} {c : Int} (hj : j ≤ u.length) (hz : ∀ i, j + 1 + v.length ≤ i → u.getD i 0 = 0) (h : vo b u v j q (v.length + 1) w c) :
  (c ≤ 0 → zm b (w.drop j) = zm b (u.drop j) - q * zm b v) ∧ (0 < c → zm b (u.drop j) < q * zm b v) := by
 obtain ⟨e, e0, e1⟩ := h.end_ hb hj hz
 have hp := Yr (b := b) (by omega) (v.length + 1)
 constructor
 ·intro hc
  have : c = 0 := by have := h.c0; omega
  simp_all
 ·intro hc
  have : b ^ (v.length + 1) * 1 ≤ b ^ (v.length + 1) * c := Int.mul_le_mul_of_nonneg_left (by omega) (by omega)
  omega
theorem ta.end_ {b : Int} (hb : 2 ≤ b) {u v : List Int} {j : Nat} {q : Int} {w : List Int} {c : Int} (hu : yz b u) (hj : j ≤ u.length) (hz : ∀ i, j + 1 + v.length ≤ i → u.getD i 0 = 0) (h : vo b u v j q (v.length + 1) w c)
  {w2 : List Int} {c2 : Int} (h2 : ta b w v j q (v.length + 1) w2 c2) : w2 = u := by
 obtain ⟨e, e0, e1⟩ := h.end_ hb hj hz
 have hp := Yr (b := b) (by omega) (v.length + 1)
 have hv := h2.val
 rw [yf (by omega)] at hv
 have hl := Uk (b := b) h2.len (by rw [h.len]; exact hj) h2.out
 have o2 : ∀ i, v.length + 1 ≤ i → (w2.drop j).getD i 0 = 0 := fun i hi => by
  rw [XQ, h2.out _ (.inr (by omega)), h.out _ (.inr (by omega)), hz _ (by omega)]
 have ou : ∀ i, v.length + 1 ≤ i → (u.drop j).getD i 0 = 0 := fun i hi => by rw [XQ, hz _ (by omega)]
 have b2 := (Wv (by omega) (h2.in_.drop j) (v.length + 1))
 rw [← vv o2] at b2
 have bu := (Wv (by omega) (hu.drop j) (v.length + 1))
 rw [← vv ou] at bu
 have e2 : zm b (w2.drop j) + b ^ (v.length + 1) * c2 = zm b (w.drop j) + q * zm b v := by
  have e3 : b ^ j * (zm b (w2.drop j) + b ^ (v.length + 1) * c2) = b ^ j * (zm b (w.drop j) + q * zm b v) := by
   grind
  exact Int.eq_of_mul_eq_mul_left (by have := Yr (b := b) (by omega) j; omega) e3
 have e4 : zm b (w2.drop j) - zm b (u.drop j) = b ^ (v.length + 1) * (c - c2) := by rw [Int.mul_sub]; omega
 have e5 : c = c2 := by
  rcases Int.lt_trichotomy c c2 with hlt | heq | hgt
  ·have : b ^ (v.length + 1) * (c - c2) ≤ b ^ (v.length + 1) * (-1) := Int.mul_le_mul_of_nonneg_left (by omega) (by omega)
   omega
  ·exact heq
  ·have : b ^ (v.length + 1) * 1 ≤ b ^ (v.length + 1) * (c - c2) := Int.mul_le_mul_of_nonneg_left (by omega) (by omega)
   omega
 have e6 : zm b (w2.drop j) = zm b (u.drop j) := by rw [e5, Int.sub_self, Int.mul_zero] at e4; omega
 refine yz.ext (by omega) h2.in_ hu (h2.len.trans h.len) ?_
 rw [Yq b w2 (z := j) (by rw [h2.len, h.len]; exact hj), Yq b u (z := j) hj, Wb h2.len h2.out, Wb h.len h.out, e6]
theorem uO.step {b A V : Int} (hb : 2 ≤ b) {v : List Int} (hv : yz b v) (hV : zm b v = V) {m j : Nat} {q u : List Int} (hj : j < m) (h : uO b A V v.length m (j + 1) q u) {Q : Int} (hQ : 0 ≤ Q) (hlt : zm b (u.drop j) < (Q + 1) * V)
  {w : List Int} {c : Int} (ht : vo b u v j Q (v.length + 1) w c) (hc : c ≤ 0) : uO b A V v.length m j (q.set j Q) w := by
 have hul := h.ul
 obtain ⟨t1, _⟩ := ht.fits hb (by omega) (fun i hi => h.hi i (by omega))
 have t1 := t1 hc
 rw [hV] at t1
 have w0 := Zs (b := b) (by omega) (ht.in_.drop j)
 have hw : zm b (w.drop j) < V := by rw [t1]; rw [Int.add_mul, Int.one_mul] at hlt; omega
 have hVb : V < b ^ v.length := by rw [← hV]; exact xE (by omega) hv
 have hV0 : 0 < V := by omega
 have hvl : 0 < v.length := by
  refine Nat.pos_of_ne_zero fun e => ?_
  rw [e, Int.pow_zero] at hVb
  omega
 obtain ⟨z1, z2⟩ := h.win (by omega) hvl hj
 have hQb : Q < b := by
  refine Decidable.byContradiction fun hn => ?_
  have : b * V ≤ Q * V := Int.mul_le_mul_of_nonneg_right (by omega) (by omega)
  omega
 refine ⟨by rw [List.length_set]; exact h.ql, by rw [ht.len]; exact hul, h.qi.set hQ hQb _, ht.in_, fun i hi => ?_, hw, ?_⟩
 ·by_cases e : i = j + v.length
  ·have := sH (by omega) (ht.in_.drop j) (n := v.length) (i := v.length) (by omega) (Nat.le_refl _)
   simp_all
  ·rw [ht.out i (.inr (by omega))]
   exact h.hi i (by omega)
 ·have hvv := ht.val
  have hc0 : c = 0 := by have := ht.c0; omega
  rw [hc0, Int.mul_zero, Int.sub_zero, yf (by omega), hV] at hvv
  rw [Uy _ _ _ (by rw [h.ql]; omega)]
  show A = V * (b ^ j * (Q + b * zm b (q.drop (j + 1)))) + zm b w
  rw [hvv, h.val, Vg, Int.mul_add, Int.mul_add, ← Int.mul_assoc (b ^ j) b]
  grind
theorem uO.end_ {b : Nat} (hb : 2 ≤ b) {A V : Nat} (hV0 : 0 < V) {n m : Nat} {q u : List Int} (h : uO b A V n m 0 q u) : YV q = yR b (A / V) ∧ YV u = yR b (A % V) := by
 have hv := h.val
 rw [Int.pow_zero, Int.one_mul, List.drop_zero] at hv
 have ht := h.top
 rw [List.drop_zero] at ht
 have q0 := Zs (b := (b : Int)) (by omega) h.qi
 have u0 := Zs (b := (b : Int)) (by omega) h.ui
 obtain ⟨Q, hQ⟩ : ∃ Q : Nat, zm b q = Q := ⟨(zm b q).toNat, by omega⟩
 obtain ⟨R, hR⟩ : ∃ R : Nat, zm b u = R := ⟨(zm b u).toNat, by omega⟩
 rw [hQ, hR] at hv
 rw [hR] at ht
 have hv : A = V * Q + R := by exact_mod_cast hv
 have hR' : R < V := by omega
 rw [yJ hb h.qi, yJ hb h.ui, hQ, hR, Int.toNat_natCast, Int.toNat_natCast]
 rw [hv, Nat.mul_add_div hV0, Nat.div_eq_of_lt hR', Nat.add_zero, Nat.mul_add_mod, Nat.mod_eq_of_lt hR']
 simp
end Go.Ar

namespace Go.Ar
open Go Go.Sx Go.Lib
set_option maxRecDepth 100000
def zp (s : zK) : zK := s.takeWhile (· != 47)
def zh (s : zK) : zK := (s.dropWhile (· != 47)).drop 1
def zT (s : zK) : Bool := s.any (· == 47)
def Zy (s : zK) : Bool := ZV (zp s) && (!zT s || Zq (zh s) && !(zh s == [48]) && !(zh s == [49]))
def zv (s : zK) : Int := zS (zp s)
def zU (s : zK) : Nat := bif zT s then zH (zh s) else 1
def Zr (s : zK) : Int :=
 bif !Zy s then 11 else bif Nat.blt 300 (YH (zp s)) || Nat.blt 300 (zh s).length then 4 else bif Nat.beq (Nat.gcd (zv s).natAbs (zU s)) 1 then 0 else 11
def ye (n : Int) (d : Nat) : zK := itoa n ++ bif Nat.beq d 1 then [] else 47 :: decDigits d
def zY (n : Int) (d : Nat) : zK := ye (n / (Nat.gcd n.natAbs d : Int)) (d / Nat.gcd n.natAbs d)
theorem vN {c : UInt8} (h : Zw c = true) : (c != 47) = true := by
 rw [yo] at h
 rw [bne_iff_ne]
 intro e
 simp_all
theorem wM {s : zK} (h : ZV s = true) : ∀ c ∈ s, (c != 47) = true := by
 rcases ym h with ⟨r, rfl, h1, _, _⟩ | ⟨h1, _⟩
 ·intro c hc
  rcases List.mem_cons.1 hc with rfl | hc
  ·decide
  ·exact vN ((ZQ.1 h1).2.1 c hc)
 ·exact fun c hc => vN ((ZQ.1 h1).2.1 c hc)
theorem Xv {p : UInt8 → Bool} : ∀ {a : zK}, (∀ c ∈ a, p c = true) → a.takeWhile p = a ∧ a.dropWhile p = []
 | [], _ => ⟨rfl, rfl⟩
 | c :: a, h => by
  obtain ⟨h1, h2⟩ := Xv (a := a) fun x hx => h x (List.mem_cons_of_mem _ hx)
  simp_all
theorem ve {p : UInt8 → Bool} {x : UInt8} {b : zK} (hx : p x = false) : ∀ {a : zK}, (∀ c ∈ a, p c = true) → (a ++ x :: b).takeWhile p = a ∧ (a ++ x :: b).dropWhile p = x :: b
 | [], _ => by simp [List.takeWhile_cons, List.dropWhile_cons, hx]
 | c :: a, h => by
  simp_all
theorem yx {s : zK} (h : zT s = false) : zp s = s ∧ zh s = [] := by
 unfold zT at h
 rw [List.any_eq_false] at h
 obtain ⟨h1, h2⟩ := Xv (p := (· != 47)) (a := s) fun c hc => by
  simp_all
 exact ⟨h1, by unfold zh; rw [h2]; rfl⟩
theorem vX {a b : zK} (h : ∀ c ∈ a, (c != 47) = true) : zp (a ++ 47 :: b) = a ∧ zh (a ++ 47 :: b) = b ∧ zT (a ++ 47 :: b) = true := by
 obtain ⟨h1, h2⟩ := ve (p := (· != 47)) (x := 47) (b := b) (by decide) h
 exact ⟨h1, by unfold zh; rw [h2]; rfl, by unfold zT; simp⟩
theorem WJ {s : zK} (h : ∀ c ∈ s, (c != 47) = true) : zT s = false := by
 unfold zT
 simp_all
theorem xj {s : zK} (h : zT s = true) : s = zp s ++ 47 :: zh s := by
 have e := List.takeWhile_append_dropWhile (p := (· != (47 : UInt8))) (l := s)
 unfold zp zh
 have hd : ∃ b, s.dropWhile (· != (47 : UInt8)) = 47 :: b := by
  clear e
  induction s with
  | nil => cases h
  | cons c s ih =>
   by_cases hc : c = 47
   ·simp_all
   ·have h' : zT s = true := by
     unfold zT at h ⊢
     simp_all
    simp_all
 grind
theorem XO {s : zK} (h : zT s = false) : Zy s = ZV s := by
 unfold Zy
 rw [h, (yx h).1]; simp
theorem Wj {s : zK} (h : Zy s = true) : (ZV s = true ∧ zT s = false ∧ zp s = s ∧ zv s = zS s ∧ zU s = 1) ∨
  (zT s = true ∧ s = zp s ++ 47 :: zh s ∧ ZV (zp s) = true ∧ Zq (zh s) = true ∧ 2 ≤ zU s ∧ zU s = zH (zh s)) := by
 cases hs : zT s with
 | false =>
  rw [XO hs] at h
  obtain ⟨h1, h2⟩ := yx hs
  exact .inl ⟨h, rfl, h1, by unfold zv; rw [h1], by unfold zU; rw [hs]; rfl⟩
 | true =>
  unfold Zy at h
  rw [hs] at h
  simp only [Bool.not_true, Bool.false_or, Bool.and_eq_true, Bool.not_eq_true'] at h
  obtain ⟨h1, ⟨h2, h3⟩, h4⟩ := h
  have e : zU s = zH (zh s) := by unfold zU; rw [hs]; rfl
  refine .inr ⟨rfl, xj hs, h1, h2, ?_, e⟩
  rw [e]
  have h5 := Zo h2
  refine Decidable.byContradiction fun hn => ?_
  have : zH (zh s) = 0 ∨ zH (zh s) = 1 := by omega
  rcases this with h6 | h6
  ·rw [h6, zg (by decide)] at h5
   rw [← h5] at h3
   exact absurd h3 (by decide)
  ·rw [h6, zg (by decide)] at h5
   rw [← h5] at h4
   exact absurd h4 (by decide)
theorem yg {s : zK} (h : Zy s = true) : 1 ≤ zU s := by rcases Wj h with ⟨_, _, _, _, h⟩ | ⟨_, _, _, _, h, _⟩ <;> omega
theorem Zn {s : zK} : Zr s = 0 ↔ Zy s = true ∧ YH (zp s) ≤ 300 ∧ (zh s).length ≤ 300 ∧ Nat.gcd (zv s).natAbs (zU s) = 1 := by
 unfold Zr
 cases h : Zy s with
 | false => simp
 | true =>
  cases h2 : Nat.blt 300 (YH (zp s)) || Nat.blt 300 (zh s).length with
  | true =>
   rw [Bool.or_eq_true, zF, zF] at h2
   simp; omega
  | false =>
   rw [Bool.or_eq_false_iff, Bool.eq_false_iff, Bool.eq_false_iff, Ne, Ne, zF, zF] at h2
   cases h3 : Nat.beq (Nat.gcd (zv s).natAbs (zU s)) 1 with
   | true =>
    simp_all
   | false =>
    have h3 : Nat.gcd (zv s).natAbs (zU s) ≠ 1 := fun e => by rw [e] at h3; cases h3
    simp_all
theorem Wi {s : zK} (h : Zy s = true) : ye (zv s) (zU s) = s := by
 unfold ye
 rcases Wj h with ⟨h1, _, _, h4, h5⟩ | ⟨_, h2, h3, h4, h5, h6⟩
 ·rw [h4, h5, YD h1]; exact List.append_nil s
 ·rw [show Nat.beq (zU s) 1 = false from Bool.eq_false_iff.2 fun e => by have := Nat.eq_of_beq_eq_true e; omega]
  conv => rhs; rw [h2]
  unfold zv
  rw [YD h3, h6, Zo h4]; rfl
theorem Ym (n : Int) {d : Nat} (hd : 0 < d) : Zy (ye n d) = true ∧ zv (ye n d) = n ∧ zU (ye n d) = d ∧ YH (zp (ye n d)) = vk n ∧ (zh (ye n d)).length = (if d = 1 then 0 else nDigits d) := by
 obtain ⟨i1, i2⟩ := y7 n
 unfold ye
 by_cases h : d = 1
 ·subst h
  rw [Nat.beq_refl]
  simp only [cond_true, List.append_nil, if_true]
  have hs := WJ (wM i1)
  obtain ⟨c1, c2⟩ := yx hs
  refine ⟨by rw [XO hs]; exact i1, by unfold zv; rw [c1, i2], by unfold zU; rw [hs]; rfl, by rw [c1, uo i1, i2], by rw [c2]; rfl⟩
 ·rw [show Nat.beq d 1 = false from Bool.eq_false_iff.2 fun e => h (Nat.eq_of_beq_eq_true e)]
  simp only [cond_false, if_neg h]
  obtain ⟨c1, c2, c3⟩ := vX (b := decDigits d) (wM i1)
  have hd0 : ¬ decDigits d = [48] := fun e => by
   have := Zi d
   rw [e] at this
   have : (0 : Nat) = d := this
   omega
  have hd1 : ¬ decDigits d = [49] := fun e => by
   have := Zi d
   rw [e] at this
   have : (1 : Nat) = d := this
   omega
  refine ⟨?_, by unfold zv; rw [c1, i2], by unfold zU; rw [c3, c2]; exact Zi d, by rw [c1, uo i1, i2], by rw [c2, decDigits_length]⟩
  unfold Zy
  rw [c1, c2, c3, i1, Yx, beq_false_of_ne hd0, beq_false_of_ne hd1]; rfl
theorem xh {n : Int} {d : Nat} (hd : 0 < d) : Nat.gcd (n / (Nat.gcd n.natAbs d : Int)).natAbs (d / Nat.gcd n.natAbs d) = 1 ∧ 0 < d / Nat.gcd n.natAbs d ∧
  n / (Nat.gcd n.natAbs d : Int) * (Nat.gcd n.natAbs d : Int) = n ∧ d / Nat.gcd n.natAbs d * Nat.gcd n.natAbs d = d := by
 have hg : 0 < Nat.gcd n.natAbs d := Nat.gcd_pos_of_pos_right _ hd
 have h1 : Nat.gcd n.natAbs d ∣ n.natAbs := Nat.gcd_dvd_left _ _
 have h2 : Nat.gcd n.natAbs d ∣ d := Nat.gcd_dvd_right _ _
 have h3 : ((Nat.gcd n.natAbs d : Nat) : Int) ∣ n := Int.ofNat_dvd_left.2 h1
 have e1 : (n / (Nat.gcd n.natAbs d : Int)).natAbs = n.natAbs / Nat.gcd n.natAbs d := by
  rw [Int.natAbs_ediv_of_dvd h3, Int.natAbs_natCast]
 refine ⟨?_, Nat.div_pos (Nat.le_of_dvd hd h2) hg, Int.ediv_mul_cancel h3, Nat.div_mul_cancel h2⟩
 rw [e1]
 exact Nat.coprime_div_gcd_div_gcd hg
theorem Zf (n : Int) {d : Nat} (hd : 0 < d) : Zy (zY n d) = true ∧ zv (zY n d) = n / (Nat.gcd n.natAbs d : Int) ∧ zU (zY n d) = d / Nat.gcd n.natAbs d ∧ Nat.gcd (zv (zY n d)).natAbs (zU (zY n d)) = 1 := by
 obtain ⟨g1, g2, _, _⟩ := xh (n := n) hd
 obtain ⟨a, b, c, _, _⟩ := Ym (n / (Nat.gcd n.natAbs d : Int)) g2
 unfold zY
 simp_all
theorem ZP (n : Int) {d : Nat} (hd : 0 < d) : zv (zY n d) * (d : Int) = n * (zU (zY n d) : Int) := by
 obtain ⟨_, b, c, _⟩ := Zf n hd
 obtain ⟨_, _, g3, g4⟩ := xh (n := n) hd
 rw [b, c]
 have g4 : ((d / Nat.gcd n.natAbs d : Nat) : Int) * ((Nat.gcd n.natAbs d : Nat) : Int) = (d : Int) := by exact_mod_cast g4
 grind
theorem rX {n m : Int} {d e : Nat} (hd : 0 < d) (he : 0 < e) (h1 : Nat.gcd n.natAbs d = 1) (h2 : Nat.gcd m.natAbs e = 1) (h : n * (e : Int) = m * (d : Int)) : n = m ∧ d = e := by
 have ha : n.natAbs * e = m.natAbs * d := by
  have := congrArg Int.natAbs h
  rwa [Int.natAbs_mul, Int.natAbs_mul, Int.natAbs_natCast, Int.natAbs_natCast] at this
 have c1 : Nat.Coprime d n.natAbs := (Nat.coprime_comm).1 h1
 have c2 : Nat.Coprime e m.natAbs := (Nat.coprime_comm).1 h2
 have d1 : d ∣ e := c1.dvd_of_dvd_mul_left ⟨m.natAbs, by rw [ha, Nat.mul_comm]⟩
 have d2 : e ∣ d := c2.dvd_of_dvd_mul_left ⟨n.natAbs, by rw [← ha, Nat.mul_comm]⟩
 have e1 : d = e := Nat.dvd_antisymm d1 d2
 refine ⟨?_, e1⟩
 subst e1
 exact Int.eq_of_mul_eq_mul_right (by omega) h
theorem Z2 {n m : Int} {d e : Nat} (hd : 0 < d) (he : 0 < e) : zY n d = zY m e ↔ n * (e : Int) = m * (d : Int) := by
 obtain ⟨a1, a2, a3, a4⟩ := Zf n hd
 obtain ⟨b1, b2, b3, b4⟩ := Zf m he
 have v1 := ZP n hd
 have v2 := ZP m he
 constructor
 ·intro h
  rw [← h] at v2
  have hp : (0 : Int) < (zU (zY n d) : Int) := by have := yg a1; omega
  refine Int.eq_of_mul_eq_mul_right (a := (zU (zY n d) : Int)) (by omega) ?_
  grind
 ·intro h
  have key : n / (Nat.gcd n.natAbs d : Int) = m / (Nat.gcd m.natAbs e : Int) ∧ d / Nat.gcd n.natAbs d = e / Nat.gcd m.natAbs e := by
   obtain ⟨g1, g2, g3, g4⟩ := xh (n := n) hd
   obtain ⟨k1, k2, k3, k4⟩ := xh (n := m) he
   refine rX g2 k2 g1 k1 ?_
   have hg : 0 < Nat.gcd n.natAbs d := Nat.gcd_pos_of_pos_right _ hd
   have hk : 0 < Nat.gcd m.natAbs e := Nat.gcd_pos_of_pos_right _ he
   generalize n / (Nat.gcd n.natAbs d : Int) = n' at *
   generalize d / Nat.gcd n.natAbs d = d' at *
   generalize m / (Nat.gcd m.natAbs e : Int) = m' at *
   generalize e / Nat.gcd m.natAbs e = e' at *
   generalize hG : Nat.gcd n.natAbs d = G at *
   generalize hK : Nat.gcd m.natAbs e = K at *
   rw [← g3, ← k3, ← g4, ← k4] at h
   push_cast at h
   have h' : n' * (e' : Int) * ((G : Int) * (K : Int)) = m' * (d' : Int) * ((G : Int) * (K : Int)) := by
    grind
   have hp : (0 : Int) < (G : Int) * (K : Int) := Int.mul_pos (by omega) (by omega)
   exact Int.eq_of_mul_eq_mul_right (by omega) h'
  unfold zY
  simp_all
end Go.Ar

namespace Go.Ar
open Go Go.Sx Go.Lib
set_option maxRecDepth 100000
structure P2 (k : Nat) (r : zK) (z : Nat) (L : List Int) : Prop where
 le : z ≤ r.length
 len : L.length = (r.length + k - 1) / k
 in_ : yz (10 ^ k : Nat) L
 zero : ∀ i, z ≤ k * i → L.getD i 0 = 0
 part : L.getD (z / k) 0 < 10 ^ (z % k)
 val : zm (10 ^ k : Nat) L = (zH (r.drop (r.length - z)) : Int)
theorem P2.start {k : Nat} (hk : 0 < k) (r : zK) : P2 k r 0 (List.replicate ((r.length + k - 1) / k) 0) := by
 have h10 : 0 < 10 ^ k := Nat.pow_pos (by decide)
 refine ⟨Nat.zero_le _, by simp, .zeros (by omega) _, fun i _ => Ul _ _, ?_, ?_⟩
 ·rw [Ul, Nat.zero_mod]; decide
 ·rw [W6, Nat.sub_zero, List.drop_of_length_le (Nat.le_refl _)]; rfl
theorem vm {r : zK} {i : Nat} (h : i < r.length) : r.drop i = r.getD i 0 :: r.drop (i + 1) := by
 simp_all
theorem P2.step {k : Nat} (hk : 0 < k) {r : zK} (hr : ∀ c ∈ r, Zw c = true) {z : Nat} (hz : z < r.length) {L : List Int} (h : P2 k r z L) :
  z / k < L.length ∧ P2 k r (z + 1) (L.set (z / k) (L.getD (z / k) 0 + (Wn (r.getD (r.length - 1 - z) 0) : Int) * 10 ^ (z % k))) := by
 have h10 : 0 < 10 ^ k := Nat.pow_pos (by decide)
 have hi : r.length - 1 - z < r.length := by omega
 have hd : Zw (r.getD (r.length - 1 - z) 0) = true := by
  simp_all
 have hv := Va hd
 have hdm := Nat.div_add_mod z k
 have hmod := Nat.mod_lt z hk
 have hlen : z / k < L.length := by
  rw [h.len]
  have : k * (z / k) < r.length := by omega
  have h2 : (k * (z / k) + k) / k ≤ (r.length + k - 1) / k := Nat.div_le_div_right (by omega)
  rw [Nat.add_div_right _ hk, Nat.mul_div_cancel_left _ hk] at h2
  omega
 have hp := h.part
 have hL := h.in_.get (by omega) (z / k)
 generalize hdd : Wn (r.getD (r.length - 1 - z) 0) = d at *
 have hp0 : (0 : Int) < 10 ^ (z % k) := Int.pow_pos (by decide)
 have hdp : (d : Int) * 10 ^ (z % k) ≤ 9 * 10 ^ (z % k) := Int.mul_le_mul_of_nonneg_right (by omega) (Int.le_of_lt hp0)
 have hdp0 : 0 ≤ (d : Int) * 10 ^ (z % k) := Int.mul_nonneg (by omega) (Int.le_of_lt hp0)
 have hnew : L.getD (z / k) 0 + (d : Int) * 10 ^ (z % k) < 10 ^ (z % k + 1) := by rw [Int.pow_succ]; omega
 have hle : (10 : Int) ^ (z % k + 1) ≤ ((10 ^ k : Nat) : Int) := by
  have : 10 ^ (z % k + 1) ≤ 10 ^ k := Nat.pow_le_pow_right (by decide) (by omega)
  grind
 refine ⟨hlen, by omega, by rw [List.length_set]; exact h.len, h.in_.set (by omega) (by omega) _, fun i hzi => ?_, ?_, ?_⟩
 ·have hne : i ≠ z / k := fun e => by
   grind
  rw [y8 _ _ _ _ hlen, if_neg hne]
  exact h.zero i (by omega)
 ·by_cases e : (z + 1) % k = 0
  ·have hz1 : k * ((z + 1) / k) = z + 1 := by have := Nat.div_add_mod (z + 1) k; omega
   have hne : (z + 1) / k ≠ z / k := fun e2 => by rw [e2] at hz1; omega
   rw [y8 _ _ _ _ hlen, if_neg hne, h.zero _ (by omega)]
   simp_all
  ·have e1 : (z + 1) % k = z % k + 1 ∧ (z + 1) / k = z / k := by
    have h1 : z % k + 1 < k := by
     refine Nat.lt_of_le_of_ne (by omega) fun e2 => e ?_
     have : z + 1 = k * (z / k + 1) := by rw [Nat.mul_add, Nat.mul_one]; omega
     simp_all
    have h2 : z + 1 = k * (z / k) + (z % k + 1) := by omega
    constructor
    ·rw [h2, Nat.mul_add_mod, Nat.mod_eq_of_lt h1]
    ·rw [h2, Nat.mul_add_div hk, Nat.div_eq_of_lt h1, Nat.add_zero]
   simp_all
 ·rw [xT _ _ hlen, h.val, show r.length - (z + 1) = r.length - 1 - z by omega, vm hi, wW, show r.length - 1 - z + 1 = r.length - z by omega, hdd, List.length_drop, show r.length - (r.length - z) = z by omega]
  have e1 : ((10 ^ k : Nat) : Int) ^ (z / k) * (10 : Int) ^ (z % k) = 10 ^ z := by
   have : (10 ^ k) ^ (z / k) * 10 ^ (z % k) = 10 ^ z := by rw [← Nat.pow_mul, ← Nat.pow_add, hdm]
   exact_mod_cast this
  grind
theorem P2.end_ {k : Nat} (hk : 0 < k) {r : zK} {L : List Int} (h : P2 k r r.length L) : YV L = yR (10 ^ k) (zH r) := by
 have hv := h.val
 rw [Nat.sub_self, List.drop_zero] at hv
 have h2 : 2 ≤ 10 ^ k := by
  grind
 rw [yJ h2 h.in_, hv, Int.toNat_natCast]
end Go.Ar

namespace Go.Ar
open Go Go.Sx Go.Lib
set_option maxRecDepth 100000
theorem Uq {x y : Nat} (h : y ≠ 0) : Nat.gcd x y = Nat.gcd y (x % y) := by
 rw [Nat.gcd_comm x y, Nat.gcd_rec y x, Nat.gcd_comm]
end Go.Ar

namespace Go.Ar
open Go Go.Sx Go.Lib
set_option maxRecDepth 100000
theorem nj (c : UInt8) : (zA (c.toNat : Int) 48 || zA 57 (c.toNat : Int)) = !Zw c := by
 unfold Zw
 rw [Bool.eq_iff_iff, Bool.or_eq_true, zl, zl, Bool.not_eq_true', Bool.and_eq_false_iff]
 constructor
 ·rintro (h | h)
  ·exact .inl (Bool.eq_false_iff.2 fun e => by have := Nat.le_of_ble_eq_true e; omega)
  ·exact .inr (Bool.eq_false_iff.2 fun e => by have := Nat.le_of_ble_eq_true e; omega)
 ·rintro (h | h)
  ·exact .inl (by have : ¬ 48 ≤ c.toNat := fun e => by rw [Nat.ble_eq_true_of_le e] at h; cases h
                  omega)
  ·exact .inr (by have : ¬ c.toNat ≤ 57 := fun e => by rw [Nat.ble_eq_true_of_le e] at h; cases h
                  omega)
theorem XA (c : UInt8) (n : Nat) (hn : n < 256) : ((c.toNat : Int) == (n : Int)) = (c == UInt8.ofNat n) := by
 rw [Bool.eq_iff_iff, beq_iff_eq, beq_iff_eq]
 constructor
 ·intro h
  have : c.toNat = n := by omega
  rw [← this, UInt8.ofNat_toNat]
 ·intro h
  subst h
  rw [UInt8.toNat_ofNat']
  omega
theorem xH {a : zK} (h : ¬ (0 < a.length ∧ a.getD 0 0 = 45)) : ZV a = Zq a ∧ YH a = a.length ∧ zS a = (zH a : Int) := by
 match a, h with
 | [], _ => exact ⟨rfl, rfl, rfl⟩
 | c :: r, h =>
  have hc : c ≠ 45 := fun e => h ⟨by simp, e⟩
  refine ⟨?_, ?_, ?_⟩
  ·unfold ZV; split
   all_goals simp_all
  ·unfold YH; split
   all_goals simp_all
  ·unfold zS; split
   all_goals simp_all
theorem VR {a : zK} (h0 : 0 < a.length) (h : a.getD 0 0 = 45) : a = 45 :: a.drop 1 ∧ ZV a = (Zq (a.drop 1) && !(a.drop 1 == [48])) ∧ YH a = a.length - 1 ∧ zS a = -(zH (a.drop 1) : Int) := by
 match a, h0, h with
 | c :: r, _, h =>
  have hc : c = 45 := h
  subst hc
  exact ⟨rfl, rfl, rfl, rfl⟩
theorem QM {a : zK} (h : ZV a = true) : xW a = bif Nat.blt 300 (YH a) then 4 else 0 := by unfold xW; rw [h]; rfl
theorem rj {a : zK} (h : ¬ ZV a = true) : xW a = 11 := by unfold xW; rw [Bool.eq_false_iff.2 h]; rfl
def oM (n : Int) : Int := bif zA n 0 then -1 else bif zA 0 n then 1 else 0
end Go.Ar

namespace Go.Ar
open Go Go.Sx Go.Lib
set_option maxRecDepth 100000
theorem Tn {l : zK} {i : Nat} (h : i < l.length) : l.take (i + 1) = l.take i ++ [l.getD i 0] := by
 simp_all
structure O3 where
 k : Nat
 L : List Int
structure Pp (s : zK) (z : O3) : Prop where
 le : 6 * z.k ≤ s.length + 5
 len : z.L.length = z.k
 in_ : yz 1000000 z.L
 val : zm 1000000 z.L = (zH (s.drop (s.length - 6 * z.k)) : Int)
theorem Pp.start (s : zK) : Pp s ⟨0, []⟩ := ⟨by simp, rfl, .nil _, by rw [Nat.mul_zero, Nat.sub_zero, List.drop_length]; rfl⟩
def wg (s : zK) (k i : Nat) : zK := (s.take i).drop (s.length - 6 * k - 6)
theorem SU {s : zK} {k i : Nat} (h1 : i ≤ s.length - 6 * k) : (wg s k i).length ≤ 6 := by
 unfold wg
 grind
theorem RZ {s : zK} (hs : ∀ c ∈ s, Zw c = true) (k i : Nat) : (wg s k i).all Zw = true := by
 rw [List.all_eq_true]
 intro c hc
 exact hs c (List.mem_of_mem_take (List.mem_of_mem_drop hc))
theorem S6 {s : zK} (hs : ∀ c ∈ s, Zw c = true) {k i : Nat} (h1 : i ≤ s.length - 6 * k) : (zH (wg s k i) : Int) < 1000000 := by
 have h2 := wZ (RZ hs k i)
 have h3 : 10 ^ (wg s k i).length ≤ 10 ^ 6 := Nat.pow_le_pow_right (by decide) (SU h1)
 omega
theorem Pp.step {s : zK} (hs : ∀ c ∈ s, Zw c = true) {z : O3} (h : Pp s z) (hz : 6 * z.k < s.length) : Pp s ⟨z.k + 1, z.L ++ [(zH (wg s z.k (s.length - 6 * z.k)) : Int)]⟩ := by
 refine ⟨by simp only; omega, by simp [h.len], h.in_.snoc (by omega) (S6 hs (Nat.le_refl _)), ?_⟩
 show zm 1000000 (z.L ++ [_]) = (zH (s.drop (s.length - 6 * (z.k + 1))) : Int)
 rw [Yd, h.val, h.len]
 have e : s.drop (s.length - 6 * (z.k + 1)) = wg s z.k (s.length - 6 * z.k) ++ s.drop (s.length - 6 * z.k) := by
  unfold wg
  rw [show s.length - 6 * (z.k + 1) = s.length - 6 * z.k - 6 by omega]
  have e1 := List.drop_append_of_le_length (l₁ := s.take (s.length - 6 * z.k)) (l₂ := s.drop (s.length - 6 * z.k)) (i := s.length - 6 * z.k - 6) (by rw [List.length_take]; omega)
  simp_all
 rw [e, UP, List.length_drop, show s.length - (s.length - 6 * z.k) = 6 * z.k by omega]
 have e2 : (1000000 : Int) ^ z.k = ((10 ^ (6 * z.k) : Nat) : Int) := by
  have e3 : 1000000 ^ z.k = 10 ^ (6 * z.k) := by rw [Nat.pow_mul]
  grind
 grind
theorem Pp.end_ {s : zK} {z : O3} (h : Pp s z) (hz : s.length ≤ 6 * z.k) : YV z.L = yR 1000000 (zH s) := by
 have hv := h.val
 rw [show s.length - 6 * z.k = 0 by omega, List.drop_zero] at hv
 have := yJ (b := 1000000) (by decide) h.in_
 simp_all
end Go.Ar

namespace Go.Ar
open Go Go.Sx Go.Lib
set_option maxRecDepth 100000
theorem tx {s : zK} {i : Nat} (h : i < s.length) : s.getD i 0 ∈ s := by
 simp_all
theorem WF {s : zK} {c : UInt8} (h : c ∈ s) : ∃ i, i < s.length ∧ s.getD i 0 = c := by
 obtain ⟨i, hi, rfl⟩ := List.mem_iff_getElem.1 h
 exact ⟨i, hi, by rw [List.getD_eq_getElem?_getD, List.getElem?_eq_getElem hi]; rfl⟩
theorem getD_takeS {s : zK} {z i : Nat} (h : i < z) : (s.take z).getD i 0 = s.getD i 0 := by
 simp_all
theorem pM {s : zK} {z : Nat} (hz : z < s.length) (h : ∀ i, i < z → s.getD i 0 ≠ 47) (e : s.getD z 0 = 47) :
  zp s = s.take z ∧ zh s = s.drop (z + 1) ∧ zT s = true := by
 have e1 : s.take z ++ 47 :: s.drop (z + 1) = s := by
  conv => rhs; rw [← List.take_append_drop z s]
  congr 1
  rw [List.drop_eq_getElem_cons hz, ← e, List.getD_eq_getElem?_getD, List.getElem?_eq_getElem hz]; rfl
 have h1 : ∀ c ∈ s.take z, (c != 47) = true := by
  intro c hc
  obtain ⟨i, hi, rfl⟩ := WF hc
  grind
 have := vX (b := s.drop (z + 1)) h1
 simp_all
theorem S7 {s : zK} (h : ∀ i, i < s.length → s.getD i 0 ≠ 47) : zT s = false ∧ zp s = s ∧ zh s = [] := by
 have hs : zT s = false := WJ fun c hc => by
  obtain ⟨i, hi, rfl⟩ := WF hc
  simp_all
 exact ⟨hs, yx hs⟩
def zE (a : zK) : Bool := a.getD 0 0 == 45
def zt (a : zK) : zK := bif zE a then a.drop 1 else a
theorem XH (a : zK) : (zt a).length ≤ a.length := by
 unfold zt
 grind
theorem qT (s : zK) : (zp s).length ≤ s.length := by
 unfold zp
 exact List.Sublist.length_le (List.takeWhile_sublist _)
theorem tw (s : zK) : (zh s).length ≤ s.length := by
 unfold zh
 rw [List.length_drop]
 have := List.Sublist.length_le (List.dropWhile_sublist (· != (47 : UInt8)) (l := s))
 omega
theorem sJ (a : zK) : (zE a = true ∧ a = 45 :: zt a) ∨ (zE a = false ∧ zt a = a ∧ ¬ (0 < (zp a).length ∧ (zp a).getD 0 0 = 45)) := by
 unfold zt zE
 match a with
 | [] => exact .inr ⟨rfl, rfl, fun h => by cases h.1⟩
 | c :: r =>
  by_cases hc : c = 45
  ·simp_all
  ·have e : ((c :: r).getD 0 0 == (45 : UInt8)) = false := beq_eq_false_iff_ne.2 hc
   rw [e]
   refine .inr ⟨rfl, rfl, fun h => ?_⟩
   unfold zp at h
   rw [List.takeWhile_cons] at h
   grind
theorem PE (r : zK) : zp (45 :: r) = 45 :: zp r ∧ zh (45 :: r) = zh r ∧ zT (45 :: r) = zT r := by
 refine ⟨?_, ?_, ?_⟩
 all_goals rfl
theorem yL (a : zK) : zp a = (bif zE a then 45 :: zp (zt a) else zp (zt a)) ∧ zh a = zh (zt a) ∧ zT a = zT (zt a) ∧
  ZV (zp a) = (Zq (zp (zt a)) && !(zE a && zp (zt a) == [48])) ∧ YH (zp a) = (zp (zt a)).length ∧
  zv a = (bif zE a then -(zH (zp (zt a)) : Int) else (zH (zp (zt a)) : Int)) ∧ zU a = (bif zT (zt a) then zH (zh (zt a)) else 1) := by
 rcases sJ a with ⟨h1, h2⟩ | ⟨h1, h2, h3⟩
 ·obtain ⟨c1, c2, c3⟩ := PE (zt a)
  rw [← h2] at c1 c2 c3
  unfold zv zU
  rw [c1, c2, c3, h1]
  exact ⟨rfl, rfl, rfl, by show (Zq _ && _) = _; simp, rfl, rfl, rfl⟩
 ·obtain ⟨p1, p2, p3⟩ := xH h3
  unfold zv zU
  simp_all
theorem tY (a : zK) : (zv a).natAbs = zH (zp (zt a)) := by
 obtain ⟨_, _, _, _, _, h, _⟩ := yL a
 grind
def Xi (a : zK) : Bool := Zq (zp (zt a)) && !(zE a && zp (zt a) == [48]) && (!zT (zt a) || Zq (zh (zt a)) && !(zh (zt a) == [48]) && !(zh (zt a) == [49]))
theorem wn (a : zK) : Zy a = Xi a := by
 obtain ⟨h1, h2, h3, h4, _⟩ := yL a
 unfold Zy Xi
 simp_all
theorem rT {a : zK} (h : Xi a = false) : Zr a = 11 := by
 unfold Zr
 rw [wn, h]; rfl
theorem tW {a : zK} (h : Xi a = true) (hl : (zp (zt a)).length ≤ 300 ∧ (zh (zt a)).length ≤ 300) (hs : zT (zt a) = true) :
  Zr a = bif Nat.beq (Nat.gcd (zH (zp (zt a))) (zH (zh (zt a)))) 1 then 0 else 11 := by
 obtain ⟨_, h2, _, _, h5, _, h7⟩ := yL a
 unfold Zr
 rw [wn, h, h5, h2, tY, h7, hs, show (Nat.blt 300 (zp (zt a)).length || Nat.blt 300 (zh (zt a)).length) = false by
  rw [Bool.or_eq_false_iff, Bool.eq_false_iff, Bool.eq_false_iff, Ne, Ne, zF, zF]; omega]
 rfl
theorem qR {a : zK} (h : Xi a = true) (hl : (zp (zt a)).length ≤ 300) (hs : zT (zt a) = false) : Zr a = 0 := by
 obtain ⟨_, h2, _, _, h5, _, h7⟩ := yL a
 have hd : zh (zt a) = [] := (yx hs).2
 unfold Zr
 rw [wn, h, h5, h2, h7, hs, hd, show (Nat.blt 300 (zp (zt a)).length || Nat.blt 300 ([] : zK).length) = false by
  rw [Bool.or_eq_false_iff, Bool.eq_false_iff, Bool.eq_false_iff, Ne, Ne, zF, zF]
  simp_all]
 simp
theorem Xn {s : zK} (h : Zq s = true) {k : Nat} (hl : s.length ≤ k) : zH s < 10 ^ k := by
 have h1 := wZ (l := s) (List.all_eq_true.2 (ZQ.1 h).2.1)
 exact Nat.lt_of_lt_of_le h1 (Nat.pow_le_pow_right (by omega) hl)
end Go.Ar

namespace Go.Ar
open Go Go.Sx Go.Lib
set_option maxRecDepth 100000
class xm (α : Type) [yI α] : Prop where
 dec : ∀ a : α, yI.dec (yI.enc a) = a
 ok : ∀ a : α, yI.ok (α := α) (yI.enc a) = true
theorem ss {f : Nat → Bool} : ∀ {n : Nat}, (∀ i, i < n → f i = true) → WN f n = true
 | 0, _ => rfl
 | n + 1, h => by simp only [WN, Bool.and_eq_true]; exact ⟨ss fun i hi => h i (by omega), h n (by omega)⟩
section
variable {α : Type} [yI α] [xm α]
theorem uA (f : Bool) (l : List α) (n : Nat) : oN (AV.xl f n l.length fun i j => yI.enc (l.getD i yI.dflt) j) = l := by
 show u7 l.length (fun i => yI.dec (yI.enc (l.getD i yI.dflt))) = l
 simp only [xm.dec]
 exact U7 l _
theorem sw (f : Bool) (l : List α) : Rf α (AV.xl f (yI.n α) l.length fun i j => yI.enc (l.getD i yI.dflt) j) = true := by
 show (Nat.beq (yI.n α) (yI.n α) && WN (fun i => yI.ok (α := α) (yI.enc (l.getD i yI.dflt))) l.length) = true
 rw [Bool.and_eq_true]
 exact ⟨Nat.beq_refl _, ss fun i _ => xm.ok _⟩
end
instance : xm Int := ⟨fun _ => rfl, fun _ => rfl⟩
instance : xm Bool := ⟨fun _ => rfl, fun _ => rfl⟩
instance : xm (List UInt8) := ⟨fun _ => rfl, fun _ => rfl⟩
theorem Oy (k : IntKind) (n : Int) : AV.int (.v (.int k n)) = n := rfl
theorem xF (z : Nat) : zA 0 (z : Int) = Nat.blt 0 z := by rw [Bool.eq_iff_iff, zl, zF]; omega
theorem rn {A B : Prop} : zV true A B ↔ A := by simp [zR]
theorem OT {A B : Prop} : zV false A B ↔ B := by simp [zR]
def Vb (x : AV) : List Int := oN x
theorem Oc (f : Bool) (l : List Int) : Rf Int (AV.xl f 1 l.length fun i j => AV.v (Value.int IntKind.i64 (l.getD i 0))) = true := sw f l
theorem OY (f : Bool) (l : List Int) : Rf Int (AV.xl f 1 l.length fun i j => AV.v (Value.int IntKind.i64 (l.getD i yI.dflt))) = true := sw f l
theorem nl (f : Bool) (l : List Int) : oN (AV.xl f 1 l.length fun i j => AV.v (Value.int IntKind.i64 (l.getD i 0))) = l := uA f l 1
theorem O1 (f : Bool) (l : List Int) : oN (AV.xl f 1 l.length fun i j => AV.v (Value.int IntKind.i64 (l.getD i yI.dflt))) = l := uA f l 1
theorem O6 (f : Bool) (l : List Int) : Vb (AV.xl f 1 l.length fun i j => AV.v (Value.int IntKind.i64 (l.getD i 0))) = l := uA f l 1
theorem Om (f : Bool) (l : List Int) : Vb (AV.xl f 1 l.length fun i j => AV.v (Value.int IntKind.i64 (l.getD i yI.dflt))) = l := uA f l 1
theorem vB {c : Bool} {A B : Prop} (h : c = true) (ha : A) : zV c A B := by rw [h, rn]; exact ha
theorem sS : (∀ x : AV, yu x x) ∧ (∀ p : Prop, (True ∧ p) = p) ∧ (∀ p : Prop, (p ∧ True) = p) ∧ (∀ x : Bool, zQ true x = x) ∧ (∀ x : Bool, zQ false x = !x) ∧
  (∀ {x : Bool} {A : Prop}, zV (!x || x) A False ↔ A) ∧ (∀ a b : Bool, (bif a then true else b) = (a || b)) ∧ (∀ a b : Bool, (bif a then b else false) = (a && b)) ∧
  (∀ {x : Bool} {p : Prop} [DB p] {A : Prop}, zV (!x || DB.db p) A False ↔ (x = true → p) ∧ A) ∧ (∀ {p : Prop} [DB p] {A : Prop}, zV (DB.db p) A False ↔ p ∧ A) ∧
  (∀ {a b : Int} {A B : Prop}, zV (zA a b) A B ↔ (a < b → A) ∧ (b ≤ a → B)) ∧ (∀ {a b : Int} {A B : Prop}, zV (leB a b) A B ↔ (a ≤ b → A) ∧ (b < a → B)) ∧
  (∀ {a b : Int} {A B : Prop}, zV (a != b) A B ↔ (a ≠ b → A) ∧ (a = b → B)) ∧ (∀ {a b : Int} {A B : Prop}, zV (a == b) A B ↔ (a = b → A) ∧ (a ≠ b → B)) ∧
  (∀ {A B : Prop}, zV true A B ↔ A) ∧ (∀ n : Nat, (n : Int).toNat = n) ∧ (∀ n : Nat, 0 + n = n) ∧ (∀ n : Nat, 0 ≤ n) ∧ (∀ n : Nat, n - 0 = n) ∧
  (∀ (k : IntKind) (n : Int), AV.int (.v (.int k n)) = n) ∧ (∀ b : Bool, (b || true) = true) ∧ (∀ {α : Type} (a b : α), (bif true then a else b) = a) ∧ (∀ {α : Type} (a b : α), (bif false then a else b) = b) :=
 ⟨zw, true_and, and_true, SG, tU, PM, PT, Qk, Pq, oF, oB, On, ON, OJ, rn, Int.toNat_natCast, Nat.zero_add, Nat.zero_le, Nat.sub_zero, Oy, Bool.or_true, cond_true, cond_false⟩
theorem dS : (∀ (f : Bool) (l : List Int), Rf Int (AV.xl f 1 l.length fun i j => AV.v (Value.int IntKind.i64 (l.getD i 0))) = true) ∧ (∀ (f : Bool) (l : List Int), Rf Int (AV.xl f 1 l.length fun i j => AV.v (Value.int IntKind.i64 (l.getD i yI.dflt))) = true) ∧
  (∀ (f : Bool) (l : List Int), oN (AV.xl f 1 l.length fun i j => AV.v (Value.int IntKind.i64 (l.getD i 0))) = l) ∧ (∀ (f : Bool) (l : List Int), oN (AV.xl f 1 l.length fun i j => AV.v (Value.int IntKind.i64 (l.getD i yI.dflt))) = l) ∧
  (∀ (f : Bool) (l : List Int), Vb (AV.xl f 1 l.length fun i j => AV.v (Value.int IntKind.i64 (l.getD i 0))) = l) ∧ (∀ (f : Bool) (l : List Int), Vb (AV.xl f 1 l.length fun i j => AV.v (Value.int IntKind.i64 (l.getD i yI.dflt))) = l) :=
 ⟨Oc, OY, nl, O1, O6, Om⟩
def OV : List zO → Prop
 | [] => True
 | p :: ps => p.holds ∧ OV ps
theorem Zv : ∀ {ps : List zO}, (∀ p ∈ ps, p.holds) → OV ps
 | [], _ => trivial
 | _ :: _, h => ⟨h _ List.mem_cons_self, Zv fun q hq => h q (List.mem_cons_of_mem _ hq)⟩
abbrev bF (t : Bool) (A : Prop) : Prop := zV t A False
abbrev dK (x : Int) : Bool := DB.db (yE .i64 x)
abbrev bA (a : Array UInt8) : List UInt8 := Array.toList (ByteArray.data (ByteArray.mk a))
abbrev nX : Nat := 9223372036854775807
abbrev nM : Nat := 4294967280
abbrev cI (n : Nat) : Int := n
abbrev kI : Prop := IntKind.i64 = .i64
abbrev j2 : Prop := 2 = List.length [AV.junk, AV.junk]
abbrev lN {α : Type} (l : List α) : Nat := List.length l
abbrev lZ {α : Type} (l : List α) : Int := (↑(List.length l) : Int)
abbrev gD {α : Type} (l : List α) (i : Nat) (d : α) : α := List.getD l i d
abbrev iZ : Int := 0
abbrev iO : Int := 1
abbrev iX : Int := 9223372036854775807
abbrev iN : Int := -9223372036854775808
abbrev aI (n : Int) : AV := AV.v (Value.int .i64 n)
end Go.Ar
