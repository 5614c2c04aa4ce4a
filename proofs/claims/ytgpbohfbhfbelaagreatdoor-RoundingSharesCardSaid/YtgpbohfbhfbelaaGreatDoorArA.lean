/- Decimal strings of integers: what they are and what they mean. -/
import Derived.Test.YtgpbohfbhfbelaaGreatDoorSxU
import Derived.Lib.ItoaLen
set_option linter.unusedSimpArgs false
set_option linter.unusedVariables false
namespace Go.Ar
open Go Go.Sx Go.Lib
set_option maxRecDepth 100000
abbrev zj := List UInt8
def Zd (c : UInt8) : Bool := Nat.ble 48 c.toNat && Nat.ble c.toNat 57
def Vu (c : UInt8) : Nat := c.toNat - 48
def Mo (d : Nat) : UInt8 := UInt8.ofNat (48 + d)
theorem Yu {c : UInt8} : Zd c = true ↔ 48 ≤ c.toNat ∧ c.toNat ≤ 57 := by
 unfold Zd
 simp
theorem vW {d : Nat} (h : d < 10) : (Mo d).toNat = 48 + d := by
 unfold Mo
 rw [UInt8.toNat_ofNat']
 omega
theorem tN {d : Nat} (h : d < 10) : Zd (Mo d) = true := by rw [Yu, vW h]; omega
theorem rf {d : Nat} (h : d < 10) : Vu (Mo d) = d := by unfold Vu; rw [vW h]; omega
theorem Ov {c : UInt8} (h : Zd c = true) : Mo (Vu c) = c := by
 rw [Yu] at h
 refine UInt8.toNat_inj.1 ?_
 rw [vW (by unfold Vu; omega)]
 unfold Vu
 omega
theorem TN {c : UInt8} (h : Zd c = true) : Vu c < 10 := by rw [Yu] at h; unfold Vu; omega
def zc (l : zj) : Nat := l.foldl (fun a c => 10 * a + Vu c) 0
theorem VE (l : zj) (c : UInt8) : zc (l ++ [c]) = 10 * zc l + Vu c := by unfold zc; rw [List.foldl_append]; rfl
theorem fold_acc (l : zj) : ∀ a : Nat, l.foldl (fun a c => 10 * a + Vu c) a = a * 10 ^ l.length + zc l := by
 induction l with
 | nil => intro a; simp [zc]
 | cons c l ih =>
  intro a
  unfold zc
  grind
theorem tD (a b : zj) : zc (a ++ b) = zc a * 10 ^ b.length + zc b := by
 conv => lhs; unfold zc
 rw [List.foldl_append, fold_acc]; rfl
theorem xR (c : UInt8) (l : zj) : zc (c :: l) = Vu c * 10 ^ l.length + zc l := by
 have := tD [c] l
 simpa [zc] using this
theorem vS {l : zj} (h : l.all Zd = true) : zc l < 10 ^ l.length := by
 induction l with
 | nil => simp [zc]
 | cons c l ih =>
  rw [List.all_cons, Bool.and_eq_true] at h
  have h1 := ih h.2
  have h2 := TN h.1
  rw [xR, List.length_cons, Nat.pow_succ]
  generalize 10 ^ l.length = p at *
  have : Vu c * p ≤ 9 * p := Nat.mul_le_mul_right p (by omega)
  omega
def Z6 (l : zj) : Bool := Nat.blt 0 l.length && l.all Zd && !(Nat.blt 1 l.length && (l.getD 0 0 == 48))
theorem ZZ {u : Nat} (h : u < 10) : decDigits u = [Mo u] := by rw [decDigits, dif_pos h]; rfl
theorem xm {u : Nat} (h : ¬ u < 10) : decDigits u = decDigits (u / 10) ++ [Mo (u % 10)] := by rw [decDigits, dif_neg h]; rfl
theorem Xb (u : Nat) : (decDigits u).all Zd = true := by
 induction u using Nat.strongRecOn with
 | _ u ih =>
  by_cases h : u < 10
  ·rw [ZZ h]; simp [tN h]
  ·rw [xm h, List.all_append, ih (u / 10) (by omega)]
   simp [tN (Nat.mod_lt u (by decide : 10 > 0))]
theorem yZ (u : Nat) : zc (decDigits u) = u := by
 induction u using Nat.strongRecOn with
 | _ u ih =>
  by_cases h : u < 10
  ·rw [ZZ h]
   show 10 * 0 + Vu (Mo u) = u
   rw [rf h]; omega
  ·rw [xm h, VE, ih (u / 10) (by omega), rf (Nat.mod_lt u (by decide : 10 > 0))]
   omega
theorem yH (u : Nat) : 0 < (decDigits u).length := by rw [decDigits_length]; exact nDigits_pos u
theorem Xr {u : Nat} (h : u ≠ 0) : (decDigits u).getD 0 0 ≠ 48 := by
 induction u using Nat.strongRecOn with
 | _ u ih =>
  by_cases h1 : u < 10
  ·rw [ZZ h1]
   intro e
   have e : Mo u = 48 := e
   have := congrArg UInt8.toNat e
   rw [vW h1] at this
   simp_all
  ·rw [xm h1, List.getD_eq_getElem?_getD, List.getElem?_append_left (yH _), ← List.getD_eq_getElem?_getD]
   grind
theorem Yp (u : Nat) : Z6 (decDigits u) = true := by
 unfold Z6
 rw [Xb, (Zx _ _).2 (yH u)]
 by_cases h : u = 0
 ·subst h
  rw [ZZ (by decide)]; rfl
 ·rw [beq_false_of_ne (Xr h), Bool.and_false]; rfl
theorem Zt {l : zj} : Z6 l = true ↔ 0 < l.length ∧ (∀ c ∈ l, Zd c = true) ∧ (1 < l.length → l.getD 0 0 ≠ 48) := by
 unfold Z6
 rw [Bool.and_eq_true, Bool.and_eq_true, Zx, List.all_eq_true, Bool.not_eq_true', Bool.and_eq_false_iff]
 constructor
 ·rintro ⟨⟨h1, h2⟩, h3⟩
  refine ⟨h1, h2, fun h4 => ?_⟩
  rcases h3 with h3 | h3
  ·rw [(Zx _ _).2 h4] at h3; cases h3
  simp_all
 ·rintro ⟨h1, h2, h3⟩
  refine ⟨⟨h1, h2⟩, ?_⟩
  by_cases h4 : 1 < l.length
  ·simp_all
  ·exact .inl (by rw [Bool.eq_false_iff]; intro e; exact h4 ((Zx _ _).1 e))
theorem Ky {l : zj} (h : 0 < l.length) : ∃ a c, l = a ++ [c] := by
 have hn : l ≠ [] := fun e => by rw [e] at h; cases h
 exact ⟨l.dropLast, l.getLast hn, (List.dropLast_concat_getLast hn).symm⟩
theorem ZG {l : zj} (h : Z6 l = true) : decDigits (zc l) = l := by
 generalize hn : l.length = n
 induction n generalizing l with
 | zero => obtain ⟨h1, _⟩ := Zt.1 h; omega
 | succ n ih =>
  obtain ⟨h1, h2, h3⟩ := Zt.1 h
  obtain ⟨a, c, rfl⟩ := Ky h1
  have hc : Zd c = true := h2 c (by simp)
  have hl : a.length = n := by simpa using hn
  rw [VE]
  by_cases ha : a.length = 0
  ·obtain rfl := List.length_eq_zero_iff.1 ha
   have : 10 * zc [] + Vu c = Vu c := by simp [zc]
   rw [this, ZZ (TN hc), Ov hc]; rfl
  ·have hg : (a ++ [c]).getD 0 0 = a.getD 0 0 := by
    grind
   have ha0 : a.getD 0 0 ≠ 48 := by rw [← hg]; exact h3 (by simp; omega)
   have hda : Z6 a = true := Zt.2 ⟨by omega, fun x hx => h2 x (List.mem_append_left _ hx), fun _ => ha0⟩
   have ih' := ih hda hl
   have hv := TN hc
   have hpos : zc a ≠ 0 := fun e => by
    rw [e, ZZ (by decide)] at ih'
    rw [← ih'] at ha0
    exact ha0 rfl
   rw [xm (by omega), show (10 * zc a + Vu c) / 10 = zc a by omega, show (10 * zc a + Vu c) % 10 = Vu c by omega, ih', Ov hc]
def Zy (s : zj) : Bool := match s with | 45 :: r => Z6 r && !(r == [48]) | r => Z6 r
def zX (s : zj) : Int := match s with | 45 :: r => -(zc r : Int) | r => (zc r : Int)
theorem Z0 (n : Nat) : itoa (n : Int) = decDigits n := by unfold itoa; rw [if_neg (by omega), Int.toNat_natCast]
theorem itoa_neg {n : Nat} (h : n ≠ 0) : itoa (-(n : Int)) = 45 :: decDigits n := by
 unfold itoa
 simp_all
theorem wE {r : zj} (h : Z6 (45 :: r) = true) : False := by
 have := (Zt.1 h).2.1 45 List.mem_cons_self
 rw [Yu] at this
 simp_all
theorem WS {r : zj} (h : Z6 r = true) : Zy r = true ∧ zX r = (zc r : Int) := by
 match r, h with
 | [], h => exact ⟨h, rfl⟩
 | c :: r, h =>
  by_cases hc : c = 45
  ·subst hc; exact (wE h).elim
  ·constructor
   ·unfold Zy; split
    all_goals simp_all
   ·unfold zX; split
    all_goals simp_all
theorem za (n : Int) : Zy (itoa n) = true ∧ zX (itoa n) = n := by
 by_cases h : n < 0
 ·obtain ⟨m, rfl⟩ : ∃ m : Nat, n = -(m : Int) := ⟨n.natAbs, by omega⟩
  have hm : m ≠ 0 := by omega
  rw [itoa_neg hm]
  refine ⟨?_, ?_⟩
  ·show (Z6 (decDigits m) && !(decDigits m == [48])) = true
   rw [Yp]
   have : decDigits m ≠ [48] := fun e => Xr hm (by rw [e]; rfl)
   simp_all
  ·show -((zc (decDigits m) : Nat) : Int) = _
   rw [yZ]
 ·obtain ⟨m, rfl⟩ : ∃ m : Nat, n = (m : Int) := ⟨n.toNat, by omega⟩
  rw [Z0]
  obtain ⟨a, b⟩ := WS (Yp m)
  exact ⟨a, by rw [b, yZ]⟩
theorem uS {r : zj} (h : Z6 r = true) (h0 : zc r = 0) : r = [48] := by
 have := ZG h
 rw [h0, ZZ (by decide)] at this
 exact this.symm
theorem yd {s : zj} (h : Zy s = true) : (∃ r, s = 45 :: r ∧ Z6 r = true ∧ zc r ≠ 0 ∧ zX s = -(zc r : Int)) ∨ (Z6 s = true ∧ zX s = (zc s : Int)) := by
 unfold Zy at h
 split at h
 ·rename_i r
  rw [Bool.and_eq_true, Bool.not_eq_true'] at h
  refine .inl ⟨r, rfl, h.1, fun e => ?_, rfl⟩
  have := uS h.1 e
  simp_all
 ·exact .inr ⟨h, (WS h).2⟩
theorem Yt {s : zj} (h : Zy s = true) : itoa (zX s) = s := by
 rcases yd h with ⟨r, rfl, h1, h2, h3⟩ | ⟨h1, h2⟩
 ·rw [h3, itoa_neg h2, ZG h1]
 ·rw [h2, Z0, ZG h1]
theorem U1 {a b : Int} (h : itoa a = itoa b) : a = b := by rw [← (za a).2, ← (za b).2, h]
def Xu (n : Int) : Nat := nDigits n.natAbs
theorem XK (n : Int) : (itoa n).length = Xu n + if n < 0 then 1 else 0 := by
 unfold itoa Xu
 by_cases h : n < 0
 ·rw [if_pos h, if_pos h, List.length_cons, decDigits_length]
 ·rw [if_neg h, if_neg h, decDigits_length, show n.toNat = n.natAbs by omega]; rfl
theorem tG : ∀ {k u : Nat}, u < 10 ^ (k + 1) → nDigits u ≤ k + 1
 | 0, u, h => by rw [nDigits_small (by simpa using h)]; exact Nat.le_refl _
 | k + 1, u, h => by
  by_cases hu : u < 10
  ·rw [nDigits_small hu]; omega
  ·rw [nDigits_big hu]
   have := tG (k := k) (u := u / 10) (by rw [Nat.pow_succ] at h; omega)
   omega
theorem ZX {k u : Nat} (hk : 0 < k) : nDigits u ≤ k ↔ u < 10 ^ k := by
 constructor
 ·intro h
  exact Nat.lt_of_lt_of_le (lt_pow_nDigits u) (Nat.pow_le_pow_right (by decide) h)
 ·intro h
  obtain ⟨m, rfl⟩ : ∃ m, k = m + 1 := ⟨k - 1, by omega⟩
  exact tG h
theorem qK {l : zj} (h : Z6 l = true) : l.length = nDigits (zc l) := by
 conv => lhs; rw [← ZG h]
 rw [decDigits_length]
end Go.Ar

namespace Go.Ar
open Go Go.Sx Go.Lib
set_option maxRecDepth 100000
def zt (b : Int) : List Int → Int
 | [] => 0
 | x :: l => x + b * zt b l
def ZR (b : Int) (l : List Int) : Prop := ∀ x ∈ l, 0 ≤ x ∧ x < b
def zf : List Int → List Int
 | [] => []
 | x :: l => if zf l = [] ∧ x = 0 then [] else x :: zf l
def zT (b n : Nat) : List Int :=
 if h : n = 0 ∨ b < 2 then [] else ((n % b : Nat) : Int) :: zT b (n / b)
termination_by n
decreasing_by
 have h2 : n / b < n := Nat.div_lt_self (by omega) (by omega)
 exact h2
theorem Z3 (b : Nat) : zT b 0 = [] := by rw [zT, dif_pos (.inl rfl)]
theorem XT {b n : Nat} (hb : 2 ≤ b) (h : n ≠ 0) : zT b n = ((n % b : Nat) : Int) :: zT b (n / b) := by
 conv => lhs; rw [zT]
 simp_all
theorem ZR.nil (b : Int) : ZR b [] := fun _ h => by cases h
theorem ZR.tail {b x : Int} {l : List Int} (h : ZR b (x :: l)) : ZR b l := fun y hy => h y (List.mem_cons_of_mem _ hy)
theorem ZR.head {b x : Int} {l : List Int} (h : ZR b (x :: l)) : 0 ≤ x ∧ x < b := h x List.mem_cons_self
theorem ZR.app {b : Int} {l m : List Int} (h : ZR b l) (h2 : ZR b m) : ZR b (l ++ m) := fun x hx => (List.mem_append.1 hx).elim (h x) (h2 x)
theorem ZR.one {b x : Int} (h0 : 0 ≤ x) (h1 : x < b) : ZR b [x] := fun y hy => by rw [List.mem_singleton] at hy; subst hy; exact ⟨h0, h1⟩
theorem ZR.snoc {b x : Int} {l : List Int} (h : ZR b l) (h0 : 0 ≤ x) (h1 : x < b) : ZR b (l ++ [x]) := h.app (.one h0 h1)
theorem ZR.take {b : Int} {l : List Int} (h : ZR b l) (n : Nat) : ZR b (l.take n) := fun x hx => h x (List.mem_of_mem_take hx)
theorem ZR.drop {b : Int} {l : List Int} (h : ZR b l) (n : Nat) : ZR b (l.drop n) := fun x hx => h x (List.mem_of_mem_drop hx)
theorem ZR.get {b : Int} {l : List Int} (h : ZR b l) (hb : 0 < b) (i : Nat) : 0 ≤ l.getD i 0 ∧ l.getD i 0 < b := by
 rw [List.getD_eq_getElem?_getD]
 by_cases hi : i < l.length
 ·rw [List.getElem?_eq_getElem hi]; exact h _ (List.getElem_mem hi)
 simp_all
theorem ZR.set {b x : Int} {l : List Int} (h : ZR b l) (h0 : 0 ≤ x) (h1 : x < b) (i : Nat) : ZR b (l.set i x) := fun y hy => by
 rcases List.mem_or_eq_of_mem_set hy with hy | rfl
 ·exact h y hy
 omega
theorem zd {b : Int} (hb : 0 ≤ b) : ∀ {l : List Int}, ZR b l → 0 ≤ zt b l
 | [], _ => Int.le_refl _
 | x :: l, h => by
  have h1 := h.head
  have h2 := Int.mul_nonneg hb (zd hb h.tail)
  show 0 ≤ x + b * zt b l
  omega
theorem Vs (b : Int) (l m : List Int) : zt b (l ++ m) = zt b l + b ^ l.length * zt b m := by
 induction l with
 | nil => simp [zt]
 | cons x l ih =>
  show x + b * zt b (l ++ m) = x + b * zt b l + b ^ (l.length + 1) * zt b m
  grind
theorem XU (b : Int) (l : List Int) (x : Int) : zt b (l ++ [x]) = zt b l + b ^ l.length * x := by
 rw [Vs]
 show _ + _ * (x + b * 0) = _
 simp
theorem Yc {b : Int} (hb : 0 < b) : ∀ {l : List Int}, ZR b l → zt b l < b ^ l.length
 | [], _ => by simp [zt]
 | x :: l, h => by
  have h1 := h.head
  have h2 := Yc hb h.tail
  show x + b * zt b l < b ^ (l.length + 1)
  rw [Int.pow_succ, Int.mul_comm _ b]
  have h3 : b * (zt b l + 1) ≤ b * b ^ l.length := Int.mul_le_mul_of_nonneg_left (by omega) (by omega)
  grind
theorem UJ {l : List Int} {i : Nat} (h : i < l.length) : l.take (i + 1) = l.take i ++ [l.getD i 0] := by
 simp_all
theorem OP (b : Int) {l : List Int} {i : Nat} (h : i < l.length) : zt b (l.take (i + 1)) = zt b (l.take i) + b ^ i * l.getD i 0 := by
 rw [UJ h, XU, List.length_take, Nat.min_eq_left (by omega)]
theorem Zs (b : Int) (l : List Int) (i : Nat) : zt b (l.take (i + 1)) = zt b (l.take i) + b ^ i * l.getD i 0 := by
 by_cases h : i < l.length
 ·exact OP b h
 ·rw [List.take_of_length_le (by omega), List.take_of_length_le (by omega), List.getD_eq_getElem?_getD, List.getElem?_eq_none (by omega)]
  simp
theorem WE (b : Int) : ∀ {l : List Int} {i : Nat} (x : Int), i < l.length → zt b (l.set i x) = zt b l + b ^ i * (x - l.getD i 0)
 | [], i, x, h => by cases h
 | y :: l, 0, x, h => by
  show x + b * zt b l = y + b * zt b l + b ^ 0 * (x - y)
  grind
 | y :: l, i + 1, x, h => by
  show y + b * zt b (l.set i x) = y + b * zt b l + b ^ (i + 1) * (x - l.getD i 0)
  rw [WE b x (by simpa using h), Int.mul_add, Int.pow_succ, Int.mul_comm _ b, Int.mul_assoc]
  omega
theorem wj (b : Int) : ∀ n : Nat, zt b (List.replicate n 0) = 0
 | 0 => rfl
 | n + 1 => by rw [List.replicate_succ]; show 0 + b * zt b _ = 0; rw [wj b n]; simp
theorem ZR.zeros {b : Int} (hb : 0 < b) (n : Nat) : ZR b (List.replicate n 0) := fun x hx => by rw [List.eq_of_mem_replicate hx]; exact ⟨Int.le_refl _, hb⟩
theorem yL {b : Nat} (hb : 2 ≤ b) (n : Nat) : zt b (zT b n) = (n : Int) := by
 induction n using Nat.strongRecOn with
 | _ n ih =>
  by_cases h : n = 0
  ·subst h; rw [Z3]; rfl
  ·rw [XT hb h]
   show ((n % b : Nat) : Int) + (b : Int) * zt b (zT b (n / b)) = n
   rw [ih (n / b) (Nat.div_lt_self (by omega) (by omega))]
   exact_mod_cast Nat.mod_add_div n b
theorem xz {b : Nat} (hb : 2 ≤ b) (n : Nat) : ZR b (zT b n) := by
 induction n using Nat.strongRecOn with
 | _ n ih =>
  by_cases h : n = 0
  ·subst h; rw [Z3]; exact .nil _
  ·rw [XT hb h]
   intro x hx
   rcases List.mem_cons.1 hx with rfl | hx
   ·have := Nat.mod_lt n (y := b) (by omega)
    omega
   ·exact ih (n / b) (Nat.div_lt_self (by omega) (by omega)) x hx
theorem TO {b : Nat} (hb : 2 ≤ b) (n : Nat) : zf (zT b n) = zT b n := by
 induction n using Nat.strongRecOn with
 | _ n ih =>
  by_cases h : n = 0
  ·subst h; rw [Z3]; rfl
  ·rw [XT hb h]
   unfold zf
   rw [ih (n / b) (Nat.div_lt_self (by omega) (by omega)), if_neg]
   rintro ⟨h1, h2⟩
   have h3 := yL hb (n / b)
   rw [h1] at h3
   have h3 : (0 : Int) = ((n / b : Nat) : Int) := h3
   have h4 := Nat.mod_add_div n b
   grind
theorem xZ {b : Nat} (hb : 2 ≤ b) : ∀ {l : List Int}, ZR b l → zf l = zT b (zt b l).toNat
 | [], _ => by
  show [] = zT b 0
  rw [Z3]
 | x :: l, h => by
  have ih := xZ hb h.tail
  have h0 := zd (b := (b : Int)) (by omega) h.tail
  have hx := h.head
  obtain ⟨m, hm⟩ : ∃ m : Nat, zt b l = m := ⟨(zt b l).toNat, by omega⟩
  obtain ⟨y, rfl⟩ : ∃ y : Nat, x = y := ⟨x.toNat, by omega⟩
  have e : (zt b ((y : Int) :: l)).toNat = y + b * m := by
   show ((y : Int) + (b : Int) * zt b l).toNat = _
   grind
  rw [hm, Int.toNat_natCast] at ih
  rw [e]
  have hy : y < b := by omega
  by_cases hz : y + b * m = 0
  ·rw [hz, Z3]
   have hy0 : y = 0 := by omega
   have hm0 : b * m = 0 := by omega
   have hm1 : m = 0 := by
    rcases Nat.mul_eq_zero.1 hm0 with h | h
    all_goals omega
   unfold zf
   rw [if_pos ⟨by rw [ih, hm1, Z3], by omega⟩]
  ·rw [XT hb hz, Nat.add_mul_mod_self_left, Nat.mod_eq_of_lt hy, Nat.add_mul_div_left _ _ (by omega), Nat.div_eq_of_lt hy, Nat.zero_add, ← ih]
   show (if zf l = [] ∧ (y : Int) = 0 then [] else (y : Int) :: zf l) = _
   rw [if_neg]
   rintro ⟨h1, h2⟩
   rw [ih] at h1
   have h3 := yL hb m
   rw [h1] at h3
   have h3 : (0 : Int) = (m : Int) := h3
   grind
theorem wT {b : Nat} (hb : 2 ≤ b) {l : List Int} (h : ZR b l) (ht : zf l = l) : l = zT b (zt b l).toNat := by rw [← xZ hb h, ht]
theorem vU : ∀ {l : List Int} {z : Nat}, z ≤ l.length → (∀ i, z ≤ i → l.getD i 0 = 0) → (z = 0 ∨ l.getD (z - 1) 0 ≠ 0) → zf l = l.take z
 | [], z, h, _, _ => by simp [zf]
 | x :: l, 0, _, h1, _ => by
  have h2 : zf l = l.take 0 := vU (Nat.zero_le _) (fun i _ => h1 (i + 1) (by omega)) (.inl rfl)
  unfold zf
  rw [if_pos ⟨h2, h1 0 (Nat.le_refl _)⟩]; rfl
 | x :: l, z + 1, h0, h1, h2 => by
  have h2 : (x :: l).getD z 0 ≠ 0 := h2.elim (fun h => absurd h (Nat.succ_ne_zero z)) fun h => h
  have h0 : z ≤ l.length := by simpa using h0
  have h3 : zf l = l.take z := by
   refine vU h0 (fun i hi => h1 (i + 1) (by omega)) ?_
   grind
  unfold zf
  rw [h3, if_neg]
  ·rfl
  ·rintro ⟨h4, h5⟩
   match z, h2, h4 with
   | 0, h2, _ => exact h2 h5
   | z + 1, h2, h4 =>
    simp_all
theorem sY {l : List Int} (h : zf l = l) : l.length = 0 ∨ l.getD (l.length - 1) 0 ≠ 0 := by
 induction l with
 | nil => simp
 | cons x l ih =>
  refine .inr ?_
  unfold zf at h
  grind
theorem VY {b : Nat} (hb : 2 ≤ b) {n : Nat} (h : n ≠ 0) : 0 < (zT b n).length ∧ (zT b n).getD ((zT b n).length - 1) 0 ≠ 0 := by
 have h1 : 0 < (zT b n).length := by rw [XT hb h]; simp
 exact ⟨h1, (sY (TO hb n)).resolve_left (by omega)⟩
theorem MP {b : Nat} (hb : 2 ≤ b) (n : Nat) : (n : Int) < (b : Int) ^ (zT b n).length := by
 have := Yc (b := (b : Int)) (by omega) (xz hb n)
 rwa [yL hb] at this
theorem R4 {b : Nat} (hb : 2 ≤ b) {n : Nat} (h : n ≠ 0) : (b : Int) ^ ((zT b n).length - 1) ≤ (n : Int) := by
 obtain ⟨h1, h2⟩ := VY hb h
 have e := yL hb n
 have h3 := UJ (l := zT b n) (i := (zT b n).length - 1) (by omega)
 rw [show (zT b n).length - 1 + 1 = (zT b n).length by omega, List.take_length] at h3
 have h4 := XU b ((zT b n).take ((zT b n).length - 1)) ((zT b n).getD ((zT b n).length - 1) 0)
 rw [← h3, e, List.length_take, Nat.min_eq_left (by omega)] at h4
 have h5 := zd (b := (b : Int)) (by omega) ((xz hb n).take ((zT b n).length - 1))
 have h6 := (xz hb n).get (by omega) ((zT b n).length - 1)
 have h7 : (b : Int) ^ ((zT b n).length - 1) * 1 ≤ (b : Int) ^ ((zT b n).length - 1) * (zT b n).getD ((zT b n).length - 1) 0 :=
  Int.mul_le_mul_of_nonneg_left (by omega) (Int.pow_nonneg (by omega))
 omega
theorem wO {b : Nat} (hb : 2 ≤ b) {m n : Nat} (h : (zT b m).length < (zT b n).length) : m < n := by
 have h0 : n ≠ 0 := fun e => by rw [e, Z3] at h; cases h
 have h1 := MP hb m
 have h2 := R4 hb h0
 have h3 : b ^ (zT b m).length ≤ b ^ ((zT b n).length - 1) := Nat.pow_le_pow_right (by omega) (by omega)
 grind
end Go.Ar

namespace Go.Ar
open Go Go.Sx Go.Lib
set_option maxRecDepth 100000
def X3 (s : zj) : Nat := match s with | 45 :: r => r.length | r => r.length
def ZU (s : zj) : Int := bif Zy s then (bif Nat.blt 300 (X3 s) then 4 else 0) else 11
def zb (a b : zj) : Int := bif ZU a != 0 then ZU a else ZU b
def ZN (n : Int) : Int := bif Nat.blt 300 (Xu n) then 4 else 0
def Yg (n : Int) : zj := bif ZN n == 0 then itoa n else []
def Yi (f : Int → Int → Int) (a b : zj) : Int := bif zb a b != 0 then zb a b else ZN (f (zX a) (zX b))
def Z5 (f : Int → Int → Int) (a b : zj) : zj := bif Yi f a b == 0 then itoa (f (zX a) (zX b)) else []
def Yh (a b : Int) : Int := bif zM a b then -1 else bif a == b then 0 else 1
def Yy (a b : zj) : Int := bif zb a b != 0 then 0 else Yh (zX a) (zX b)
def xC (a b : zj) : Int := bif zb a b != 0 then zb a b else bif b == [48] then 12 else 0
def yP (a b : zj) : zj := bif xC a b == 0 then itoa (Int.fdiv (zX a) (zX b)) else []
def WQ (a b : zj) : zj := bif xC a b == 0 then itoa (Int.fmod (zX a) (zX b)) else []
theorem yq {s : zj} : ZU s = 0 ↔ Zy s = true ∧ X3 s ≤ 300 := by
 unfold ZU
 cases h : Zy s with
 | false => simp
 | true =>
  cases h2 : Nat.blt 300 (X3 s) with
  | true => simp_all
  | false =>
   have : ¬ 300 < X3 s := fun e => by rw [(Zx _ _).2 e] at h2; cases h2
   simp; omega
theorem xN {a b : zj} (h : zb a b = 0) : ZU a = 0 ∧ ZU b = 0 := by
 unfold zb at h
 grind
theorem wo {s : zj} (h : Zy s = true) : X3 s = Xu (zX s) := by
 rcases yd h with ⟨r, rfl, h1, h2, h3⟩ | ⟨h1, h2⟩
 ·rw [h3]
  unfold Xu
  rw [Int.natAbs_neg, Int.natAbs_natCast, ← qK h1]; rfl
 ·rw [h2]
  unfold Xu
  rw [Int.natAbs_natCast, ← qK h1]
  match s, h1 with
  | [], _ => rfl
  | c :: r, h1 =>
   by_cases hc : c = 45
   ·subst hc; exact (wE h1).elim
   ·unfold X3; split
    all_goals simp_all
theorem wK (s : zj) : X3 s ≤ s.length ∧ s.length ≤ X3 s + 1 := by
 unfold X3
 grind
theorem PI {s : zj} (h : Zy s = true) {k : Nat} (hl : s.length ≤ k) : -(10 ^ k : Int) < zX s ∧ zX s < 10 ^ k := by
 have key : ∀ r : zj, Z6 r = true → r.length ≤ k → (zc r : Int) < 10 ^ k := fun r hr hl => by
  have h1 := vS (List.all_eq_true.2 (Zt.1 hr).2.1)
  have h2 : 10 ^ r.length ≤ 10 ^ k := Nat.pow_le_pow_right (by decide) hl
  grind
 have hp : (0 : Int) < 10 ^ k := Int.pow_pos (by decide)
 rcases yd h with ⟨r, rfl, h1, h2, h3⟩ | ⟨h1, h2⟩
 all_goals grind
theorem x5 {n : Int} {k : Nat} (hk : 0 < k) (h : n.natAbs < 10 ^ k) : Xu n ≤ k := (ZX hk).2 h
end Go.Ar

namespace Go.Ar
open Go Go.Sx Go.Lib
set_option maxRecDepth 100000
theorem YF {b : Int} (hb : 0 < b) (n : Nat) : 0 < b ^ n := Int.pow_pos hb
theorem vV (b : Int) (n : Nat) : b ^ (n + 1) = b ^ n * b := Int.pow_succ b n
theorem Jo {n b : Int} (h : 0 ≤ n) (hb : 0 < b) : n.tmod b + b * n.tdiv b = n ∧ 0 ≤ n.tmod b ∧ n.tmod b < b ∧ 0 ≤ n.tdiv b := by
 rw [Int.tmod_eq_emod_of_nonneg h, Int.tdiv_eq_ediv_of_nonneg h]
 exact ⟨Int.emod_add_mul_ediv n b, Int.emod_nonneg n (by omega), Int.emod_lt_of_pos n hb, Int.ediv_nonneg h (by omega)⟩
structure Uz (b : Int) (x y : List Int) (z : Nat) (out : List Int) (c : Int) : Prop where
 len : out.length = z
 in_ : ZR b out
 c0 : 0 ≤ c
 c1 : c ≤ 1
 val : zt b out + b ^ z * c = zt b (x.take z) + zt b (y.take z)
theorem Uz.zero (b : Int) (x y : List Int) : Uz b x y 0 [] 0 := ⟨rfl, .nil b, Int.le_refl _, by omega, by simp [zt]⟩
theorem Uz.step {b : Int} (hb : 2 ≤ b) {x y : List Int} (hx : ZR b x) (hy : ZR b y) {z : Nat} {out : List Int} {c : Int} (h : Uz b x y z out c) :
  Uz b x y (z + 1) (out ++ [(x.getD z 0 + y.getD z 0 + c).tmod b]) ((x.getD z 0 + y.getD z 0 + c).tdiv b) := by
 have x1 := hx.get (by omega) z
 have y1 := hy.get (by omega) z
 have h0 := h.c0
 have h1 := h.c1
 obtain ⟨e, m0, m1, d0⟩ := Jo (n := x.getD z 0 + y.getD z 0 + c) (b := b) (by omega) (by omega)
 have hd : (x.getD z 0 + y.getD z 0 + c).tdiv b ≤ 1 := by
  refine Decidable.byContradiction fun hn => ?_
  have : b * 2 ≤ b * (x.getD z 0 + y.getD z 0 + c).tdiv b := Int.mul_le_mul_of_nonneg_left (by omega) (by omega)
  omega
 refine ⟨by simp [h.len], h.in_.snoc m0 m1, d0, hd, ?_⟩
 rw [XU, h.len, Zs, Zs]
 have hv := h.val
 grind
theorem Y5 {x : List Int} {n : Nat} (h : x.length ≤ n) : x.take n = x := List.take_of_length_le h
theorem Uz.end_ {b : Nat} (hb : 2 ≤ b) {x y : List Int} (hx : ZR b x) (hy : ZR b y) {z : Nat} {out : List Int} {c : Int} (h : Uz b x y z out c) (h1 : x.length < z) (h2 : y.length < z) :
  zf out = zT b (zt b x + zt b y).toNat := by
 have hv := h.val
 rw [Y5 (by omega), Y5 (by omega)] at hv
 have x1 := Yc (b := (b : Int)) (by omega) hx
 have y1 := Yc (b := (b : Int)) (by omega) hy
 have hp : ∀ n, n < z → (b : Int) ^ n * 2 ≤ (b : Int) ^ z := fun n hn => by
  have p1 : b ^ n * 2 ≤ b ^ n * b := Nat.mul_le_mul_left _ hb
  have p2 : b ^ (n + 1) ≤ b ^ z := Nat.pow_le_pow_right (by omega) (by omega)
  grind
 have p1 := hp _ h1
 have p2 := hp _ h2
 have o0 := zd (b := (b : Int)) (by omega) h.in_
 have hc : c = 0 := by
  refine Decidable.byContradiction fun hn => ?_
  have : c = 1 := by have := h.c0; have := h.c1; omega
  grind
 rw [hc, Int.mul_zero, Int.add_zero] at hv
 rw [xZ hb h.in_, hv]
structure uk (b : Int) (x y : List Int) (z : Nat) (out : List Int) (c : Int) : Prop where
 len : out.length = z
 in_ : ZR b out
 c0 : 0 ≤ c
 c1 : c ≤ 1
 val : zt b out - b ^ z * c = zt b (x.take z) - zt b (y.take z)
theorem uk.zero (b : Int) (x y : List Int) : uk b x y 0 [] 0 := ⟨rfl, .nil b, Int.le_refl _, by omega, by simp [zt]⟩
theorem uk.step {b : Int} (hb : 2 ≤ b) {x y : List Int} (hx : ZR b x) (hy : ZR b y) {z : Nat} {out : List Int} {c : Int} (h : uk b x y z out c) :
  (0 ≤ x.getD z 0 - y.getD z 0 - c → uk b x y (z + 1) (out ++ [x.getD z 0 - y.getD z 0 - c]) 0) ∧
  (x.getD z 0 - y.getD z 0 - c < 0 → uk b x y (z + 1) (out ++ [x.getD z 0 - y.getD z 0 - c + b]) 1) := by
 have x1 := hx.get (by omega) z
 have y1 := hy.get (by omega) z
 have h0 := h.c0
 have h1 := h.c1
 have hv := h.val
 refine ⟨fun hn => ⟨by simp [h.len], h.in_.snoc hn (by omega), Int.le_refl _, by omega, ?_⟩, fun hn => ⟨by simp [h.len], h.in_.snoc (by omega) (by omega), by omega, Int.le_refl _, ?_⟩⟩
 ·rw [XU, h.len, Zs, Zs, Int.mul_sub, Int.mul_sub]
  omega
 ·rw [XU, h.len, Zs, Zs, Int.mul_add, Int.mul_sub, Int.mul_sub, vV]
  omega
theorem uk.end_ {b : Nat} (hb : 2 ≤ b) {x y : List Int} {z : Nat} {out : List Int} {c : Int} (h : uk b x y z out c) (h1 : x.length ≤ z) (h2 : y.length ≤ z) (hle : zt b y ≤ zt b x) :
  zf out = zT b (zt b x - zt b y).toNat := by
 have hv := h.val
 rw [Y5 (by omega), Y5 (by omega)] at hv
 have o1 := Yc (b := (b : Int)) (by omega) h.in_
 rw [h.len] at o1
 have hc : c = 0 := by
  refine Decidable.byContradiction fun hn => ?_
  have : c = 1 := by have := h.c0; have := h.c1; omega
  grind
 rw [hc, Int.mul_zero, Int.sub_zero] at hv
 rw [xZ hb h.in_, hv]
def xW (x y : List Int) : Nat → Int
 | 0 => 0
 | n + 1 => bif x.getD n 0 != y.getD n 0 then x.getD n 0 - y.getD n 0 else xW x y n
def cmpL (x y : List Int) : Int := bif Nat.beq x.length y.length then xW x y x.length else (x.length : Int) - (y.length : Int)
theorem SS {b : Int} (hb : 2 ≤ b) {x y : List Int} (hx : ZR b x) (hy : ZR b y) : ∀ n, (xW x y n < 0 ↔ zt b (x.take n) < zt b (y.take n)) ∧ (xW x y n = 0 ↔ zt b (x.take n) = zt b (y.take n))
 | 0 => by simp [xW]
 | n + 1 => by
  have ih := SS hb hx hy n
  have x1 := hx.get (by omega) n
  have y1 := hy.get (by omega) n
  have v1 := zd (b := b) (by omega) (hx.take n)
  have v2 := zd (b := b) (by omega) (hy.take n)
  have w1 := Yc (b := b) (by omega) (hx.take n)
  have w2 := Yc (b := b) (by omega) (hy.take n)
  have l1 : b ^ (x.take n).length ≤ b ^ n := by
   obtain ⟨m, rfl⟩ : ∃ m : Nat, b = m := ⟨b.toNat, by omega⟩
   have : m ^ (x.take n).length ≤ m ^ n := Nat.pow_le_pow_right (by omega) (by simp; omega)
   grind
  have l2 : b ^ (y.take n).length ≤ b ^ n := by
   obtain ⟨m, rfl⟩ : ∃ m : Nat, b = m := ⟨b.toNat, by omega⟩
   have : m ^ (y.take n).length ≤ m ^ n := Nat.pow_le_pow_right (by omega) (by simp; omega)
   grind
  rw [Zs, Zs]
  unfold xW
  generalize x.getD n 0 = p at *
  generalize y.getD n 0 = q at *
  by_cases e : p = q
  ·simp_all
  ·rw [bne_iff_ne.2 e]
   simp only [cond_true]
   rcases Int.lt_or_lt_of_ne e with h | h
   ·have : b ^ n * (p + 1) ≤ b ^ n * q := Int.mul_le_mul_of_nonneg_left (by omega) (Int.le_of_lt (YF (by omega) n))
    grind
   ·have : b ^ n * (q + 1) ≤ b ^ n * p := Int.mul_le_mul_of_nonneg_left (by omega) (Int.le_of_lt (YF (by omega) n))
    grind
theorem nz {b : Nat} (hb : 2 ≤ b) (m n : Nat) : (cmpL (zT b m) (zT b n) < 0 ↔ m < n) ∧ (cmpL (zT b m) (zT b n) = 0 ↔ m = n) := by
 unfold cmpL
 by_cases h : (zT b m).length = (zT b n).length
 ·have h1 := SS (b := (b : Int)) (by omega) (xz hb m) (xz hb n) (zT b m).length
  rw [List.take_length, h, List.take_length, yL hb, yL hb] at h1
  rw [h, Nat.beq_refl]
  grind
 ·rw [show Nat.beq (zT b m).length (zT b n).length = false from Bool.eq_false_iff.2 fun e => h (Nat.eq_of_beq_eq_true e)]
  simp only [cond_false]
  rcases Nat.lt_or_gt_of_ne h with h1 | h1
  ·have := wO hb h1; omega
  ·have := wO hb h1; omega
structure WB (b : Int) (x y : List Int) (z : Nat) (out : List Int) : Prop where
 len : out.length = x.length + y.length + 1
 in_ : ZR b out
 zero : ∀ i, z + y.length ≤ i → out.getD i 0 = 0
 val : zt b out = zt b (x.take z) * zt b y
structure MulK (b : Int) (x y : List Int) (z k : Nat) (out : List Int) (c : Int) : Prop where
 len : out.length = x.length + y.length + 1
 in_ : ZR b out
 zero : ∀ i, z + y.length ≤ i → z + k ≤ i → out.getD i 0 = 0
 c0 : 0 ≤ c
 c1 : c < b
 val : zt b out + b ^ (z + k) * c = zt b (x.take z) * zt b y + b ^ z * (x.getD z 0 * zt b (y.take k))
theorem xH (b : Int) : zt b [] = 0 := rfl
theorem Vr (n i : Nat) : (List.replicate n (0 : Int)).getD i 0 = 0 := by
 grind
theorem WB.zero_ {b : Int} (hb : 0 < b) (x y : List Int) : WB b x y 0 (List.replicate (x.length + y.length + 1) 0) := by
 refine ⟨by simp, .zeros hb _, fun i _ => Vr _ _, ?_⟩
 rw [wj, List.take_zero, xH, Int.zero_mul]
theorem WB.start {b : Int} {x y : List Int} {z : Nat} {out : List Int} (hb : 0 < b) (h : WB b x y z out) : MulK b x y z 0 out 0 :=
 ⟨h.len, h.in_, fun i hi _ => h.zero i hi, Int.le_refl _, hb, by rw [List.take_zero, xH, h.val]; simp⟩
theorem Yj (l : List Int) (i j : Nat) (v : Int) (hj : j < l.length) : (l.set j v).getD i 0 = if i = j then v else l.getD i 0 := by
 grind
theorem MulK.step {b : Int} (hb : 2 ≤ b) {x y : List Int} (hx : ZR b x) (hy : ZR b y) {z k : Nat} (hz : z < x.length) (hk : k ≤ y.length) {out : List Int} {c : Int} (h : MulK b x y z k out c) :
  (0 ≤ out.getD (z + k) 0 + x.getD z 0 * y.getD k 0 + c ∧ out.getD (z + k) 0 + x.getD z 0 * y.getD k 0 + c < b * b) ∧
  MulK b x y z (k + 1) (out.set (z + k) ((out.getD (z + k) 0 + x.getD z 0 * y.getD k 0 + c).tmod b)) ((out.getD (z + k) 0 + x.getD z 0 * y.getD k 0 + c).tdiv b) := by
 have x1 := hx.get (by omega) z
 have y1 := hy.get (by omega) k
 have o1 := h.in_.get (by omega) (z + k)
 have h0 := h.c0
 have h1 := h.c1
 have p0 : 0 ≤ x.getD z 0 * y.getD k 0 := Int.mul_nonneg x1.1 y1.1
 have p1 : x.getD z 0 * y.getD k 0 ≤ (b - 1) * (b - 1) := Int.mul_le_mul (by omega) (by omega) y1.1 (by omega)
 have p2 : (b - 1) * (b - 1) = b * b - 2 * b + 1 := by rw [Int.sub_mul, Int.mul_sub]; omega
 have hn0 : 0 ≤ out.getD (z + k) 0 + x.getD z 0 * y.getD k 0 + c := by omega
 have hn1 : out.getD (z + k) 0 + x.getD z 0 * y.getD k 0 + c < b * b := by omega
 obtain ⟨e, m0, m1, d0⟩ := Jo (b := b) hn0 (by omega)
 have hd : (out.getD (z + k) 0 + x.getD z 0 * y.getD k 0 + c).tdiv b < b := by
  refine Decidable.byContradiction fun hn => ?_
  have : b * b ≤ b * (out.getD (z + k) 0 + x.getD z 0 * y.getD k 0 + c).tdiv b := Int.mul_le_mul_of_nonneg_left (by omega) (by omega)
  omega
 have hlen : z + k < out.length := by rw [h.len]; omega
 refine ⟨⟨hn0, hn1⟩, by rw [List.length_set]; exact h.len, h.in_.set m0 m1 _, fun i hi hi2 => ?_, d0, hd, ?_⟩
 ·rw [Yj _ _ _ _ hlen, if_neg (by omega)]
  exact h.zero i hi (by omega)
 ·rw [WE b _ hlen, Zs]
  have hv := h.val
  grind
theorem MulK.end_ {b : Int} (hb : 2 ≤ b) {x y : List Int} (hx : ZR b x) (hy : ZR b y) {z : Nat} (hz : z < x.length) {out : List Int} {c : Int} (h : MulK b x y z (y.length + 1) out c) (hc : c = 0) : WB b x y (z + 1) out := by
 subst hc
 refine ⟨h.len, h.in_, fun i hi => h.zero i (by omega) (by omega), ?_⟩
 have hv := h.val
 rw [Int.mul_zero, Int.add_zero, Y5 (x := y) (by omega)] at hv
 rw [hv, Zs b x, Int.add_mul, Int.mul_assoc]
theorem MulK.last {b : Int} (hb : 2 ≤ b) {x y : List Int} {z : Nat} {out : List Int} {c : Int} (h : MulK b x y z y.length out c) : (out.getD (z + y.length) 0 + x.getD z 0 * y.getD y.length 0 + c).tdiv b = 0 := by
 have e : y.getD y.length 0 = 0 := by rw [List.getD_eq_getElem?_getD, List.getElem?_eq_none (Nat.le_refl _)]; rfl
 rw [h.zero _ (Nat.le_refl _) (Nat.le_refl _), e]
 rw [Int.mul_zero, Int.add_zero, Int.zero_add]
 exact Int.tdiv_eq_zero_of_lt h.c0 h.c1
theorem WB.end_ {b : Nat} (hb : 2 ≤ b) {x y : List Int} {out : List Int} (h : WB b x y x.length out) : zf out = zT b (zt b x * zt b y).toNat := by
 have hv := h.val
 rw [List.take_length] at hv
 rw [xZ hb h.in_, hv]
end Go.Ar

namespace Go.Ar
open Go Go.Sx Go.Lib
set_option maxRecDepth 100000
theorem T9 {l : List Int} {z : Nat} (h : z < l.length) : l.drop z = l.getD z 0 :: l.drop (z + 1) := by
 simp_all
theorem Xw (b : Int) {l : List Int} {z : Nat} (h : z < l.length) : zt b (l.drop z) = l.getD z 0 + b * zt b (l.drop (z + 1)) := by rw [T9 h]; rfl
theorem XS (b : Int) (l : List Int) {z : Nat} (h : z ≤ l.length) : zt b l = zt b (l.take z) + b ^ z * zt b (l.drop z) := by
 conv => lhs; rw [← List.take_append_drop z l]
 rw [Vs, List.length_take, Nat.min_eq_left h]
theorem qx (l : List Int) (z : Nat) (v : Int) (h : z < l.length) : (l.set z v).drop z = v :: l.drop (z + 1) := by
 rw [T9 (by simpa using h), Yj _ _ _ _ h, if_pos rfl, List.drop_set]
 simp
structure NP (b d : Int) (a : List Int) (z : Nat) (q : List Int) (r : Int) : Prop where
 len : q.length = a.length
 le : z ≤ a.length
 in_ : ZR b q
 r0 : 0 ≤ r
 r1 : r < d
 val : zt b (a.drop z) = d * zt b (q.drop z) + r
theorem NP.start {b d : Int} (hb : 0 < b) (hd : 0 < d) (a : List Int) : NP b d a a.length (List.replicate a.length 0) 0 :=
 ⟨by simp, Nat.le_refl _, .zeros hb _, Int.le_refl _, hd, by rw [List.drop_of_length_le (Nat.le_refl _), List.drop_of_length_le (by simp)]; simp [zt]⟩
theorem NP.step {b d : Int} (hb : 0 < b) {a : List Int} (ha : ZR b a) {z : Nat} {q : List Int} {r : Int} (h : NP b d a (z + 1) q r) :
  (0 ≤ a.getD z 0 + r * b ∧ a.getD z 0 + r * b < d * b) ∧ NP b d a z (q.set z ((a.getD z 0 + r * b).tdiv d)) ((a.getD z 0 + r * b).tmod d) := by
 have a1 := ha.get hb z
 have h0 := h.r0
 have h1 := h.r1
 have hz := h.le
 have p0 : 0 ≤ r * b := Int.mul_nonneg h0 (by omega)
 have p1 : (r + 1) * b ≤ d * b := Int.mul_le_mul_of_nonneg_right (by omega) (by omega)
 rw [Int.add_mul, Int.one_mul] at p1
 have n0 : 0 ≤ a.getD z 0 + r * b := by omega
 have n1 : a.getD z 0 + r * b < d * b := by omega
 obtain ⟨e, m0, m1, d0⟩ := Jo n0 (b := d) (by omega)
 have hq : (a.getD z 0 + r * b).tdiv d < b := by
  refine Decidable.byContradiction fun hn => ?_
  have : d * b ≤ d * (a.getD z 0 + r * b).tdiv d := Int.mul_le_mul_of_nonneg_left (by omega) (by omega)
  omega
 refine ⟨⟨n0, n1⟩, by rw [List.length_set]; exact h.len, by omega, h.in_.set d0 hq _, m0, m1, ?_⟩
 rw [qx _ _ _ (by rw [h.len]; omega), Xw b (by omega), h.val]
 show _ = d * (_ + b * _) + _
 grind
theorem NP.end_ {b : Nat} (hb : 2 ≤ b) {d : Nat} (hd : 0 < d) (hdb : d ≤ b) {a : List Int} {q : List Int} {r : Int} (h : NP b d a 0 q r) (n : Nat) (hn : zt b a = n) :
  zf q = zT b (n / d) ∧ r = (n % d : Nat) ∧ zf [r] = zT b (n % d) := by
 have hv := h.val
 rw [List.drop_zero, List.drop_zero, hn] at hv
 have q0 := zd (b := (b : Int)) (by omega) h.in_
 have h0 := h.r0
 have h1 := h.r1
 obtain ⟨Q, hQ⟩ : ∃ Q : Nat, zt b q = Q := ⟨(zt b q).toNat, by omega⟩
 obtain ⟨R, rfl⟩ : ∃ R : Nat, r = R := ⟨r.toNat, by omega⟩
 rw [hQ] at hv
 have hv : n = d * Q + R := by exact_mod_cast hv
 have hR : R < d := by omega
 have e1 : n / d = Q := by rw [hv, Nat.mul_add_div hd, Nat.div_eq_of_lt hR, Nat.add_zero]
 have e2 : n % d = R := by rw [hv, Nat.mul_add_mod, Nat.mod_eq_of_lt hR]
 refine ⟨?_, by rw [e2], ?_⟩
 ·rw [xZ hb h.in_, hQ, e1, Int.toNat_natCast]
 ·rw [xZ hb (.one (by omega) (by omega)), e2]
  rfl
def Out (j n : Nat) (u w : List Int) : Prop := ∀ i, i < j ∨ n ≤ i → w.getD i 0 = u.getD i 0
structure WC (b : Int) (u v : List Int) (j : Nat) (q : Int) (i : Nat) (w : List Int) (c : Int) : Prop where
 len : w.length = u.length
 in_ : ZR b w
 out : Out j (j + i) u w
 c0 : 0 ≤ c
 c1 : c ≤ q + 1
 val : zt b w - b ^ (j + i) * c = zt b u - b ^ j * (q * zt b (v.take i))
theorem WC.start {b : Int} {u v : List Int} {j : Nat} {q : Int} (hu : ZR b u) (hq : 0 ≤ q) : WC b u v j q 0 u 0 :=
 ⟨rfl, hu, fun _ _ => rfl, Int.le_refl _, by omega, by rw [List.take_zero, xH]; simp⟩
def XR (b n : Int) : Int := bif zM n 0 then (-n + b - 1).tdiv b else 0
theorem Oc {b n : Int} (hb : 2 ≤ b) : 0 ≤ XR b n ∧ 0 ≤ n + XR b n * b ∧ (n < b → n + XR b n * b < b) ∧ ∀ q, -(q * b) ≤ n → 0 ≤ q → XR b n ≤ q := by
 unfold XR
 cases h : zM n 0 with
 | true =>
  have h := (zq _ _).1 h
  simp only [cond_true]
  obtain ⟨e, m0, m1, d0⟩ := Jo (n := -n + b - 1) (b := b) (by omega) (by omega)
  rw [Int.mul_comm] at e
  refine ⟨d0, by omega, fun _ => by omega, fun q hq hq0 => ?_⟩
  refine Decidable.byContradiction fun hn => ?_
  have : (q + 1) * b ≤ (-n + b - 1).tdiv b * b := Int.mul_le_mul_of_nonneg_right (by omega) (by omega)
  grind
 | false =>
  have h : ¬ n < 0 := fun e => by rw [(zq _ _).2 e] at h; cases h
  simp_all
theorem WC.step {b : Int} (hb : 2 ≤ b) {u v : List Int} (hv : ZR b v) {j : Nat} {q : Int} (hq : 0 ≤ q) {i : Nat} (hj : j + i < u.length) {w : List Int} {c : Int} (h : WC b u v j q i w c) :
  (-((q + 1) * b) ≤ w.getD (j + i) 0 - c - q * v.getD i 0 ∧ w.getD (j + i) 0 - c - q * v.getD i 0 < b) ∧
  WC b u v j q (i + 1) (w.set (j + i) (w.getD (j + i) 0 - c - q * v.getD i 0 + XR b (w.getD (j + i) 0 - c - q * v.getD i 0) * b)) (XR b (w.getD (j + i) 0 - c - q * v.getD i 0)) := by
 have v1 := hv.get (by omega) i
 have w1 := h.in_.get (by omega) (j + i)
 have h0 := h.c0
 have h1 := h.c1
 have p0 : 0 ≤ q * v.getD i 0 := Int.mul_nonneg hq v1.1
 have p1 : q * v.getD i 0 ≤ q * (b - 1) := Int.mul_le_mul_of_nonneg_left (by omega) hq
 rw [Int.mul_sub, Int.mul_one] at p1
 have n1 : -((q + 1) * b) ≤ w.getD (j + i) 0 - c - q * v.getD i 0 := by rw [Int.add_mul, Int.one_mul]; omega
 have n2 : w.getD (j + i) 0 - c - q * v.getD i 0 < b := by omega
 have hl : j + i < w.length := by rw [h.len]; exact hj
 have hval := h.val
 refine ⟨⟨n1, n2⟩, ?_⟩
 obtain ⟨k0, k1, k2, k3⟩ := Oc (b := b) (n := w.getD (j + i) 0 - c - q * v.getD i 0) hb
 refine ⟨by rw [List.length_set]; exact h.len, h.in_.set k1 (k2 n2) _, fun x hx => ?_, k0, k3 _ n1 (by omega), ?_⟩
 ·rw [Yj _ _ _ _ hl, if_neg (by omega)]
  exact h.out x (by omega)
 ·rw [WE b _ hl, Zs]
  grind
structure uw (b : Int) (u v : List Int) (j : Nat) (q : Int) (i : Nat) (w : List Int) (c : Int) : Prop where
 len : w.length = u.length
 in_ : ZR b w
 out : Out j (j + i) u w
 c0 : 0 ≤ c
 c1 : c ≤ q
 val : zt b w + b ^ (j + i) * c = zt b u + b ^ j * (q * zt b (v.take i))
theorem uw.start {b : Int} {u v : List Int} {j : Nat} {q : Int} (hu : ZR b u) (hq : 0 ≤ q) : uw b u v j q 0 u 0 :=
 ⟨rfl, hu, fun _ _ => rfl, Int.le_refl _, hq, by rw [List.take_zero, xH]; simp⟩
theorem uw.step {b : Int} (hb : 2 ≤ b) {u v : List Int} (hv : ZR b v) {j : Nat} {q : Int} (hq : 0 ≤ q) {i : Nat} (hj : j + i < u.length) {w : List Int} {c : Int} (h : uw b u v j q i w c) :
  (0 ≤ w.getD (j + i) 0 + q * v.getD i 0 + c ∧ w.getD (j + i) 0 + q * v.getD i 0 + c < (q + 1) * b) ∧
  uw b u v j q (i + 1) (w.set (j + i) ((w.getD (j + i) 0 + q * v.getD i 0 + c).tmod b)) ((w.getD (j + i) 0 + q * v.getD i 0 + c).tdiv b) := by
 have v1 := hv.get (by omega) i
 have w1 := h.in_.get (by omega) (j + i)
 have h0 := h.c0
 have h1 := h.c1
 have p0 : 0 ≤ q * v.getD i 0 := Int.mul_nonneg hq v1.1
 have p1 : q * v.getD i 0 ≤ q * (b - 1) := Int.mul_le_mul_of_nonneg_left (by omega) hq
 rw [Int.mul_sub, Int.mul_one] at p1
 have n1 : 0 ≤ w.getD (j + i) 0 + q * v.getD i 0 + c := by omega
 have n2 : w.getD (j + i) 0 + q * v.getD i 0 + c < (q + 1) * b := by rw [Int.add_mul, Int.one_mul]; omega
 have hl : j + i < w.length := by rw [h.len]; exact hj
 have hval := h.val
 refine ⟨⟨n1, n2⟩, ?_⟩
 obtain ⟨e, m0, m1, d0⟩ := Jo n1 (b := b) (by omega)
 have hd : (w.getD (j + i) 0 + q * v.getD i 0 + c).tdiv b ≤ q := by
  refine Decidable.byContradiction fun hn => ?_
  have : b * (q + 1) ≤ b * (w.getD (j + i) 0 + q * v.getD i 0 + c).tdiv b := Int.mul_le_mul_of_nonneg_left (by omega) (by omega)
  grind
 refine ⟨by rw [List.length_set]; exact h.len, h.in_.set m0 m1 _, fun x hx => ?_, d0, hd, ?_⟩
 ·rw [Yj _ _ _ _ hl, if_neg (by omega)]
  exact h.out x (by omega)
 ·rw [WE b _ hl, Zs]
  grind
theorem ZR.ext {b : Int} (hb : 0 < b) : ∀ {l m : List Int}, ZR b l → ZR b m → l.length = m.length → zt b l = zt b m → l = m
 | [], [], _, _, _, _ => rfl
 | [], _ :: _, _, _, h, _ => by cases h
 | _ :: _, [], _, _, h, _ => by cases h
 | x :: l, y :: m, hl, hm, h, hv => by
  have hx := hl.head
  have hy := hm.head
  have hv : x + b * zt b l = y + b * zt b m := hv
  have e1 : x = (x + b * zt b l) % b := by rw [Int.add_mul_emod_self_left, Int.emod_eq_of_lt hx.1 hx.2]
  have e2 : y = (y + b * zt b m) % b := by rw [Int.add_mul_emod_self_left, Int.emod_eq_of_lt hy.1 hy.2]
  have e3 : x = y := by rw [e1, e2, hv]
  subst e3
  have e4 : b * zt b l = b * zt b m := by omega
  rw [ZR.ext hb hl.tail hm.tail (by simpa using h) (Int.eq_of_mul_eq_mul_left (by omega) e4)]
theorem Ni {b : Int} {u : List Int} {j n : Nat} (h : ∀ i, n ≤ i → u.getD i 0 = 0) (hj : j ≤ n) : zt b (u.drop j) = zt b ((u.take n).drop j) := by
 have e : ∀ {l : List Int}, (∀ i, l.getD i 0 = 0) → zt b l = 0 := by
  intro l
  induction l with
  | nil => intro _; rfl
  | cons x l ih =>
   intro hl
   have h0 : x = 0 := hl 0
   show x + b * zt b l = 0
   rw [h0, ih fun i => hl (i + 1)]; simp
 by_cases hn : n ≤ u.length
 ·have e1 : u.drop j = (u.take n).drop j ++ u.drop n := by
   conv => lhs; rw [← List.take_append_drop n u]
   grind
  rw [e1, Vs, e (l := u.drop n), Int.mul_zero, Int.add_zero]
  simp_all
 ·rw [List.take_of_length_le (by omega)]
end Go.Ar

namespace Go.Ar
open Go Go.Sx Go.Lib
set_option maxRecDepth 100000
theorem yF (l : List Int) (j i : Nat) : (l.drop j).getD i 0 = l.getD (j + i) 0 := by
 simp
theorem wU {b : Int} {l : List Int} {n : Nat} (h : ∀ i, n ≤ i → l.getD i 0 = 0) : zt b l = zt b (l.take n) := by
 have := Ni (b := b) (j := 0) h (Nat.zero_le _)
 assumption
theorem xj {b : Int} (hb : 0 < b) {l : List Int} (h : ZR b l) (n : Nat) : 0 ≤ zt b (l.take n) ∧ zt b (l.take n) < b ^ n := by
 refine ⟨zd (Int.le_of_lt hb) (h.take n), ?_⟩
 have h1 := Yc hb (h.take n)
 have h2 : b ^ (l.take n).length ≤ b ^ n := by
  obtain ⟨m, rfl⟩ : ∃ m : Nat, b = m := ⟨b.toNat, by omega⟩
  have : m ^ (l.take n).length ≤ m ^ n := Nat.pow_le_pow_right (by omega) (by simp; omega)
  grind
 omega
theorem sx {b : Int} (hb : 0 < b) {l : List Int} (h : ZR b l) {n : Nat} (hv : zt b l < b ^ n) {i : Nat} (hi : n ≤ i) : l.getD i 0 = 0 := by
 by_cases hl : i < l.length
 ·have e := XS b l (z := i) (by omega)
  rw [Xw b hl] at e
  have h1 := (h.get hb i).1
  have h2 := (xj hb h i).1
  have h3 := zd (Int.le_of_lt hb) (h.drop (i + 1))
  refine Decidable.byContradiction fun hn => ?_
  have h4 : b ^ i * 1 ≤ b ^ i * (l.getD i 0 + b * zt b (l.drop (i + 1))) := by
   refine Int.mul_le_mul_of_nonneg_left ?_ (Int.le_of_lt (YF hb i))
   have := Int.mul_nonneg (Int.le_of_lt hb) h3
   omega
  have h5 : b ^ n ≤ b ^ i := by
   obtain ⟨m, rfl⟩ : ∃ m : Nat, b = m := ⟨b.toNat, by omega⟩
   have : m ^ n ≤ m ^ i := Nat.pow_le_pow_right (by omega) hi
   grind
  omega
 simp_all
theorem fC {b : Int} (hb : 0 < b) {l : List Int} (h : ZR b l) {k : Nat} (hz : ∀ i, k + 3 ≤ i → l.getD i 0 = 0) :
  ∃ low, 0 ≤ low ∧ low < b ^ k ∧ zt b l = low + b ^ k * (l.getD k 0 + b * l.getD (k + 1) 0 + b * b * l.getD (k + 2) 0) := by
 refine ⟨_, (xj hb h k).1, (xj hb h k).2, ?_⟩
 rw [wU hz, show k + 3 = k + 2 + 1 from rfl, Zs, show k + 2 = k + 1 + 1 from rfl, Zs, Zs, vV b (k + 1), vV b k, Int.mul_add, Int.mul_add]
 grind
structure mu (b top v1 W V q r : Int) : Prop where
 eq : q * v1 + r = top
 r0 : 0 ≤ r
 q0 : 0 ≤ q
 lt : W < (q + 1) * V
 le : q < 2 * b
structure nv (b : Int) (k : Nat) (u0 u1 u2 v1 v2 W V : Int) : Prop where
 hb : 2 ≤ b
 hu0 : 0 ≤ u0 ∧ u0 ≤ v1
 hu1 : 0 ≤ u1 ∧ u1 < b
 hu2 : 0 ≤ u2 ∧ u2 < b
 hv1 : 0 < v1 ∧ v1 < b
 hv2 : 0 ≤ v2 ∧ v2 < b
 w : W < b ^ k * (u2 + 1 + b * (u0 * b + u1))
 v : b ^ k * (v2 + b * v1) ≤ V
theorem nv.start {b : Int} {k : Nat} {u0 u1 u2 v1 v2 W V : Int} (h : nv b k u0 u1 u2 v1 v2 W V) : mu b (u0 * b + u1) v1 W V ((u0 * b + u1).tdiv v1) ((u0 * b + u1).tmod v1) := by
 have hb := h.hb
 have a0 := h.hu0
 have a1 := h.hu1
 have a2 := h.hu2
 have b1 := h.hv1
 have b2 := h.hv2
 have p0 : 0 ≤ u0 * b := Int.mul_nonneg a0.1 (by omega)
 obtain ⟨e, m0, m1, d0⟩ := Jo (n := u0 * b + u1) (b := v1) (by omega) b1.1
 have hp := YF (b := b) (by omega) k
 refine ⟨by rw [Int.mul_comm]; omega, m0, d0, ?_, ?_⟩
 ·generalize hq : (u0 * b + u1).tdiv v1 = q at *
  have t1 : u0 * b + u1 + 1 ≤ (q + 1) * v1 := by rw [Int.add_mul, Int.one_mul, Int.mul_comm q]; omega
  have t2 : b * (u0 * b + u1 + 1) ≤ b * ((q + 1) * v1) := Int.mul_le_mul_of_nonneg_left t1 (by omega)
  have t3 : b ^ k * (u2 + 1 + b * (u0 * b + u1)) ≤ b ^ k * (b * ((q + 1) * v1)) := Int.mul_le_mul_of_nonneg_left (by rw [Int.mul_add, Int.mul_one] at t2; omega) (Int.le_of_lt hp)
  have t4 : (q + 1) * (b ^ k * (v2 + b * v1)) ≤ (q + 1) * V := Int.mul_le_mul_of_nonneg_left h.v (by omega)
  have t5 : b ^ k * (b * ((q + 1) * v1)) ≤ (q + 1) * (b ^ k * (v2 + b * v1)) := by
   rw [← Int.mul_assoc (q + 1), Int.mul_comm (q + 1) (b ^ k), Int.mul_assoc]
   refine Int.mul_le_mul_of_nonneg_left ?_ (Int.le_of_lt hp)
   rw [Int.mul_add]
   have := Int.mul_nonneg (show 0 ≤ q + 1 by omega) b2.1
   grind
  have := h.w
  omega
 ·refine Decidable.byContradiction fun hn => ?_
  have t1 : v1 * (2 * b) ≤ v1 * (u0 * b + u1).tdiv v1 := Int.mul_le_mul_of_nonneg_left (by omega) (by omega)
  have t2 : u0 * b ≤ v1 * b := Int.mul_le_mul_of_nonneg_right a0.2 (by omega)
  have t3 : v1 * (2 * b) = v1 * b + v1 * b := by rw [Int.two_mul, Int.mul_add]
  have t4 : 1 * b ≤ v1 * b := Int.mul_le_mul_of_nonneg_right (by omega) (by omega)
  omega
theorem nv.step {b : Int} {k : Nat} {u0 u1 u2 v1 v2 W V q r : Int} (h : nv b k u0 u1 u2 v1 v2 W V) (hi : mu b (u0 * b + u1) v1 W V q r) (hW : W < b * V) (hV : 0 < V)
  (hc : b ≤ q ∨ r * b + u2 < q * v2) : 0 < q ∧ mu b (u0 * b + u1) v1 W V (q - 1) (r + v1) := by
 have hb := h.hb
 have a2 := h.hu2
 have b1 := h.hv1
 have b2 := h.hv2
 have q0 := hi.q0
 have r0 := hi.r0
 have hp := YF (b := b) (by omega) k
 have hq : 0 < q := by
  rcases hc with hc | hc
  ·omega
  ·refine Decidable.byContradiction fun hn => ?_
   have : q = 0 := by omega
   subst this
   have := Int.mul_nonneg r0 (show 0 ≤ b by omega)
   omega
 refine ⟨hq, by rw [Int.sub_mul, Int.one_mul]; have := hi.eq; omega, by omega, by omega, ?_, by have := hi.le; omega⟩
 rw [Int.sub_add_cancel]
 rcases hc with hc | hc
 ·have : b * V ≤ q * V := Int.mul_le_mul_of_nonneg_right hc (by omega)
  omega
 ·have t1 : q * (b ^ k * (v2 + b * v1)) ≤ q * V := Int.mul_le_mul_of_nonneg_left h.v q0
  have t2 : b ^ k * (u2 + 1 + b * (u0 * b + u1)) ≤ q * (b ^ k * (v2 + b * v1)) := by
   rw [← Int.mul_assoc q, Int.mul_comm q (b ^ k), Int.mul_assoc]
   refine Int.mul_le_mul_of_nonneg_left ?_ (Int.le_of_lt hp)
   rw [← hi.eq, Int.mul_add, Int.mul_add, ← Int.mul_assoc q b, Int.mul_comm q b, Int.mul_assoc b q, Int.mul_comm b r]
   omega
  have := h.w
  omega
structure Ww (b A V : Int) (n m j : Nat) (q u : List Int) : Prop where
 ql : q.length = m
 ul : u.length = m + n
 qi : ZR b q
 ui : ZR b u
 hi : ∀ i, j + n ≤ i → u.getD i 0 = 0
 top : zt b (u.drop j) < V
 val : A = V * (b ^ j * zt b (q.drop j)) + zt b u
theorem Ww.start {b A V : Int} (hb : 0 < b) {n m : Nat} {u : List Int} (hl : u.length = m + n) (hu : ZR b u) (hV : zt b (u.drop m) < V) (hA : A = zt b u) : Ww b A V n m m (List.replicate m 0) u :=
 ⟨by simp, hl, .zeros hb m, hu, fun i hi => by rw [List.getD_eq_getElem?_getD, List.getElem?_eq_none (by omega)]; rfl, hV, by
  rw [List.drop_of_length_le (by simp), xH, Int.mul_zero, Int.mul_zero, Int.zero_add]; exact hA⟩
theorem Ww.win {b A V : Int} (hb : 0 < b) {n m j : Nat} {q u : List Int} (hn : 0 < n) (hj : j < m) (h : Ww b A V n m (j + 1) q u) : 0 ≤ zt b (u.drop j) ∧ zt b (u.drop j) < b * V := by
 have h1 := h.ui.get hb j
 have h2 := h.top
 rw [Xw b (by rw [h.ul]; omega)]
 have h3 : b * (zt b (u.drop (j + 1)) + 1) ≤ b * V := Int.mul_le_mul_of_nonneg_left (by omega) (by omega)
 rw [Int.mul_add, Int.mul_one] at h3
 have h4 := Int.mul_nonneg (Int.le_of_lt hb) (zd (Int.le_of_lt hb) (h.ui.drop (j + 1)))
 omega
theorem tj {u w : List Int} {j n : Nat} (hl : w.length = u.length) (h : Out j n u w) : w.take j = u.take j := by
 refine List.ext_getElem (by simp [hl]) fun i h1 h2 => ?_
 have hi : i < j := by simp at h1; omega
 have hiw : i < w.length := by simp at h1; omega
 have e := h i (.inl hi)
 simp_all
theorem qA {b : Int} {u w : List Int} {j n : Nat} (hl : w.length = u.length) (hj : j ≤ u.length) (h : Out j n u w) : zt b w - zt b u = b ^ j * (zt b (w.drop j) - zt b (u.drop j)) := by
 rw [XS b w (z := j) (by omega), XS b u (z := j) hj, tj hl h, Int.mul_sub]
 omega
theorem WC.end_ {b : Int} (hb : 2 ≤ b) {u v : List Int} {j : Nat} {q : Int} {w : List Int} {c : Int} (hj : j ≤ u.length) (hz : ∀ i, j + 1 + v.length ≤ i → u.getD i 0 = 0) (h : WC b u v j q (v.length + 1) w c) :
  zt b (w.drop j) - b ^ (v.length + 1) * c = zt b (u.drop j) - q * zt b v ∧ 0 ≤ zt b (w.drop j) ∧ zt b (w.drop j) < b ^ (v.length + 1) := by
 have hv := h.val
 rw [Y5 (by omega)] at hv
 have hl := qA (b := b) h.len hj h.out
 refine ⟨?_, zd (by omega) (h.in_.drop j), ?_⟩
 ·have e : b ^ j * (zt b (w.drop j) - b ^ (v.length + 1) * c) = b ^ j * (zt b (u.drop j) - q * zt b v) := by
   grind
  exact Int.eq_of_mul_eq_mul_left (by have := YF (b := b) (by omega) j; omega) e
 ·have hz2 : ∀ i, v.length + 1 ≤ i → (w.drop j).getD i 0 = 0 := fun i hi => by
   rw [yF, h.out _ (.inr (by omega)), hz _ (by omega)]
  rw [wU hz2]
  exact (xj (by omega) (h.in_.drop j) _).2
theorem WC.fits {b : Int} (hb : 2 ≤ b) {u v : List Int} {j : Nat} {q : Int} {w : List Int} {c : Int} (hj : j ≤ u.length) (hz : ∀ i, j + 1 + v.length ≤ i → u.getD i 0 = 0) (h : WC b u v j q (v.length + 1) w c) :
  (c ≤ 0 → zt b (w.drop j) = zt b (u.drop j) - q * zt b v) ∧ (0 < c → zt b (u.drop j) < q * zt b v) := by
 obtain ⟨e, e0, e1⟩ := h.end_ hb hj hz
 have hp := YF (b := b) (by omega) (v.length + 1)
 constructor
 ·intro hc
  have : c = 0 := by have := h.c0; omega
  simp_all
 ·intro hc
  have : b ^ (v.length + 1) * 1 ≤ b ^ (v.length + 1) * c := Int.mul_le_mul_of_nonneg_left (by omega) (by omega)
  omega
theorem uw.end_ {b : Int} (hb : 2 ≤ b) {u v : List Int} {j : Nat} {q : Int} {w : List Int} {c : Int} (hu : ZR b u) (hj : j ≤ u.length) (hz : ∀ i, j + 1 + v.length ≤ i → u.getD i 0 = 0) (h : WC b u v j q (v.length + 1) w c)
  {w2 : List Int} {c2 : Int} (h2 : uw b w v j q (v.length + 1) w2 c2) : w2 = u := by
 obtain ⟨e, e0, e1⟩ := h.end_ hb hj hz
 have hp := YF (b := b) (by omega) (v.length + 1)
 have hv := h2.val
 rw [Y5 (by omega)] at hv
 have hl := qA (b := b) h2.len (by rw [h.len]; exact hj) h2.out
 have o2 : ∀ i, v.length + 1 ≤ i → (w2.drop j).getD i 0 = 0 := fun i hi => by
  rw [yF, h2.out _ (.inr (by omega)), h.out _ (.inr (by omega)), hz _ (by omega)]
 have ou : ∀ i, v.length + 1 ≤ i → (u.drop j).getD i 0 = 0 := fun i hi => by rw [yF, hz _ (by omega)]
 have b2 := (xj (by omega) (h2.in_.drop j) (v.length + 1))
 rw [← wU o2] at b2
 have bu := (xj (by omega) (hu.drop j) (v.length + 1))
 rw [← wU ou] at bu
 have e2 : zt b (w2.drop j) + b ^ (v.length + 1) * c2 = zt b (w.drop j) + q * zt b v := by
  have e3 : b ^ j * (zt b (w2.drop j) + b ^ (v.length + 1) * c2) = b ^ j * (zt b (w.drop j) + q * zt b v) := by
   grind
  exact Int.eq_of_mul_eq_mul_left (by have := YF (b := b) (by omega) j; omega) e3
 have e4 : zt b (w2.drop j) - zt b (u.drop j) = b ^ (v.length + 1) * (c - c2) := by rw [Int.mul_sub]; omega
 have e5 : c = c2 := by
  rcases Int.lt_trichotomy c c2 with hlt | heq | hgt
  ·have : b ^ (v.length + 1) * (c - c2) ≤ b ^ (v.length + 1) * (-1) := Int.mul_le_mul_of_nonneg_left (by omega) (by omega)
   omega
  ·exact heq
  ·have : b ^ (v.length + 1) * 1 ≤ b ^ (v.length + 1) * (c - c2) := Int.mul_le_mul_of_nonneg_left (by omega) (by omega)
   omega
 have e6 : zt b (w2.drop j) = zt b (u.drop j) := by rw [e5, Int.sub_self, Int.mul_zero] at e4; omega
 refine ZR.ext (by omega) h2.in_ hu (h2.len.trans h.len) ?_
 rw [XS b w2 (z := j) (by rw [h2.len, h.len]; exact hj), XS b u (z := j) hj, tj h2.len h2.out, tj h.len h.out, e6]
theorem Ww.step {b A V : Int} (hb : 2 ≤ b) {v : List Int} (hv : ZR b v) (hV : zt b v = V) {m j : Nat} {q u : List Int} (hj : j < m) (h : Ww b A V v.length m (j + 1) q u) {Q : Int} (hQ : 0 ≤ Q) (hlt : zt b (u.drop j) < (Q + 1) * V)
  {w : List Int} {c : Int} (ht : WC b u v j Q (v.length + 1) w c) (hc : c ≤ 0) : Ww b A V v.length m j (q.set j Q) w := by
 have hul := h.ul
 obtain ⟨t1, _⟩ := ht.fits hb (by omega) (fun i hi => h.hi i (by omega))
 have t1 := t1 hc
 rw [hV] at t1
 have w0 := zd (b := b) (by omega) (ht.in_.drop j)
 have hw : zt b (w.drop j) < V := by rw [t1]; rw [Int.add_mul, Int.one_mul] at hlt; omega
 have hVb : V < b ^ v.length := by rw [← hV]; exact Yc (by omega) hv
 have hV0 : 0 < V := by omega
 have hvl : 0 < v.length := by
  refine Nat.pos_of_ne_zero fun e => ?_
  rw [e, Int.pow_zero] at hVb
  omega
 obtain ⟨z1, z2⟩ := h.win (by omega) hvl hj
 have hQb : Q < b := by
  refine Decidable.byContradiction fun hn => ?_
  have : b * V ≤ Q * V := Int.mul_le_mul_of_nonneg_right (by omega) (by omega)
  omega
 refine ⟨by rw [List.length_set]; exact h.ql, by rw [ht.len]; exact hul, h.qi.set hQ hQb _, ht.in_, fun i hi => ?_, hw, ?_⟩
 ·by_cases e : i = j + v.length
  ·have := sx (by omega) (ht.in_.drop j) (n := v.length) (i := v.length) (by omega) (Nat.le_refl _)
   simp_all
  ·rw [ht.out i (.inr (by omega))]
   exact h.hi i (by omega)
 ·have hvv := ht.val
  have hc0 : c = 0 := by have := ht.c0; omega
  rw [hc0, Int.mul_zero, Int.sub_zero, Y5 (by omega), hV] at hvv
  rw [qx _ _ _ (by rw [h.ql]; omega)]
  show A = V * (b ^ j * (Q + b * zt b (q.drop (j + 1)))) + zt b w
  rw [hvv, h.val, vV, Int.mul_add, Int.mul_add, ← Int.mul_assoc (b ^ j) b]
  grind
theorem Ww.est {b A V : Int} (hb : 2 ≤ b) {v : List Int} (hv : ZR b v) (hV : zt b v = V) {k : Nat} (hk : v.length = k + 2) (h1 : 0 < v.getD (k + 1) 0) {m j : Nat} {q u : List Int} (hj : j < m) (h : Ww b A V v.length m (j + 1) q u) :
  nv b k (u.getD (j + (k + 2)) 0) (u.getD (j + (k + 1)) 0) (u.getD (j + k) 0) (v.getD (k + 1) 0) (v.getD k 0) (zt b (u.drop j)) V := by
 have hz : ∀ i, k + 3 ≤ i → (u.drop j).getD i 0 = 0 := fun i hi => by rw [yF]; exact h.hi _ (by omega)
 obtain ⟨low, l0, l1, le⟩ := fC (by omega) (h.ui.drop j) hz
 rw [yF, yF, yF] at le
 have hzv : ∀ i, k + 3 ≤ i → v.getD i 0 = 0 := fun i hi => by rw [List.getD_eq_getElem?_getD, List.getElem?_eq_none (by omega)]; rfl
 obtain ⟨lv, v0, v1, ve⟩ := fC (by omega) hv hzv
 rw [show v.getD (k + 2) 0 = 0 by rw [List.getD_eq_getElem?_getD, List.getElem?_eq_none (by omega)]; rfl, Int.mul_zero, Int.add_zero, hV] at ve
 have a0 := h.ui.get (by omega) (j + (k + 2))
 have a1 := h.ui.get (by omega) (j + (k + 1))
 have a2 := h.ui.get (by omega) (j + k)
 have c1 := hv.get (by omega) (k + 1)
 have c2 := hv.get (by omega) k
 refine ⟨hb, ⟨a0.1, ?_⟩, a1, a2, ⟨h1, c1.2⟩, c2, ?_, by omega⟩
 ·-- the first limb is at most that of the divisor
  have ht := h.top
  have hz2 : ∀ i, k + 2 ≤ i → (u.drop (j + 1)).getD i 0 = 0 := fun i hi => by rw [yF]; exact h.hi _ (by omega)
  have e1 : zt b (u.drop (j + 1)) = zt b ((u.drop (j + 1)).take (k + 1)) + b ^ (k + 1) * u.getD (j + (k + 2)) 0 := by
   rw [wU hz2, show k + 2 = k + 1 + 1 from rfl, Zs, yF, show j + 1 + (k + 1) = j + (k + 1 + 1) by omega]
  have e2 := (xj (b := b) (by omega) (h.ui.drop (j + 1)) (k + 1)).1
  have e3 : zt b v = zt b (v.take (k + 1)) + b ^ (k + 1) * v.getD (k + 1) 0 := by
   rw [← Zs, List.take_of_length_le (by omega)]
  have e4 := (xj (b := b) (by omega) hv (k + 1)).2
  rw [hV] at e3
  refine Decidable.byContradiction fun hn => ?_
  have : b ^ (k + 1) * (v.getD (k + 1) 0 + 1) ≤ b ^ (k + 1) * u.getD (j + (k + 2)) 0 := Int.mul_le_mul_of_nonneg_left (by omega) (Int.le_of_lt (YF (by omega) _))
  grind
 grind
theorem Ww.end_ {b : Nat} (hb : 2 ≤ b) {A V : Nat} (hV0 : 0 < V) {n m : Nat} {q u : List Int} (h : Ww b A V n m 0 q u) : zf q = zT b (A / V) ∧ zf u = zT b (A % V) := by
 have hv := h.val
 rw [Int.pow_zero, Int.one_mul, List.drop_zero] at hv
 have ht := h.top
 rw [List.drop_zero] at ht
 have q0 := zd (b := (b : Int)) (by omega) h.qi
 have u0 := zd (b := (b : Int)) (by omega) h.ui
 obtain ⟨Q, hQ⟩ : ∃ Q : Nat, zt b q = Q := ⟨(zt b q).toNat, by omega⟩
 obtain ⟨R, hR⟩ : ∃ R : Nat, zt b u = R := ⟨(zt b u).toNat, by omega⟩
 rw [hQ, hR] at hv
 rw [hR] at ht
 have hv : A = V * Q + R := by exact_mod_cast hv
 have hR' : R < V := by omega
 rw [xZ hb h.qi, xZ hb h.ui, hQ, hR, Int.toNat_natCast, Int.toNat_natCast]
 rw [hv, Nat.mul_add_div hV0, Nat.div_eq_of_lt hR', Nat.add_zero, Nat.mul_add_mod, Nat.mod_eq_of_lt hR']
 simp
end Go.Ar

namespace Go.Ar
open Go Go.Sx Go.Lib
set_option maxRecDepth 100000
def zm (s : zj) : zj := s.takeWhile (· != 47)
def z6 (s : zj) : zj := (s.dropWhile (· != 47)).drop 1
def zg (s : zj) : Bool := s.any (· == 47)
def ZO (s : zj) : Bool := Zy (zm s) && (!zg s || Z6 (z6 s) && !(z6 s == [48]) && !(z6 s == [49]))
def zL (s : zj) : Int := zX (zm s)
def zo (s : zj) : Nat := bif zg s then zc (z6 s) else 1
def zH (s : zj) : Int :=
 bif !ZO s then 11 else bif Nat.blt 300 (X3 (zm s)) || Nat.blt 300 (z6 s).length then 4 else bif Nat.beq (Nat.gcd (zL s).natAbs (zo s)) 1 then 0 else 11
def YP (n : Int) (d : Nat) : zj := itoa n ++ bif Nat.beq d 1 then [] else 47 :: decDigits d
def ZI (n : Int) (d : Nat) : zj := YP (n / (Nat.gcd n.natAbs d : Int)) (d / Nat.gcd n.natAbs d)
theorem te {c : UInt8} (h : Zd c = true) : (c != 47) = true := by
 rw [Yu] at h
 rw [bne_iff_ne]
 intro e
 simp_all
theorem V0 {s : zj} (h : Zy s = true) : ∀ c ∈ s, (c != 47) = true := by
 rcases yd h with ⟨r, rfl, h1, _, _⟩ | ⟨h1, _⟩
 ·intro c hc
  rcases List.mem_cons.1 hc with rfl | hc
  ·decide
  ·exact te ((Zt.1 h1).2.1 c hc)
 ·exact fun c hc => te ((Zt.1 h1).2.1 c hc)
theorem vM {p : UInt8 → Bool} : ∀ {a : zj}, (∀ c ∈ a, p c = true) → a.takeWhile p = a ∧ a.dropWhile p = []
 | [], _ => ⟨rfl, rfl⟩
 | c :: a, h => by
  obtain ⟨h1, h2⟩ := vM (a := a) fun x hx => h x (List.mem_cons_of_mem _ hx)
  simp_all
theorem T1 {p : UInt8 → Bool} {x : UInt8} {b : zj} (hx : p x = false) : ∀ {a : zj}, (∀ c ∈ a, p c = true) → (a ++ x :: b).takeWhile p = a ∧ (a ++ x :: b).dropWhile p = x :: b
 | [], _ => by simp [List.takeWhile_cons, List.dropWhile_cons, hx]
 | c :: a, h => by
  simp_all
theorem Xm {s : zj} (h : zg s = false) : zm s = s ∧ z6 s = [] := by
 unfold zg at h
 rw [List.any_eq_false] at h
 obtain ⟨h1, h2⟩ := vM (p := (· != 47)) (a := s) fun c hc => by
  simp_all
 exact ⟨h1, by unfold z6; rw [h2]; rfl⟩
theorem tB {a b : zj} (h : ∀ c ∈ a, (c != 47) = true) : zm (a ++ 47 :: b) = a ∧ z6 (a ++ 47 :: b) = b ∧ zg (a ++ 47 :: b) = true := by
 obtain ⟨h1, h2⟩ := T1 (p := (· != 47)) (x := 47) (b := b) (by decide) h
 exact ⟨h1, by unfold z6; rw [h2]; rfl, by unfold zg; simp⟩
theorem tq {s : zj} (h : ∀ c ∈ s, (c != 47) = true) : zg s = false := by
 unfold zg
 simp_all
theorem ue {s : zj} (h : zg s = true) : s = zm s ++ 47 :: z6 s := by
 have e := List.takeWhile_append_dropWhile (p := (· != (47 : UInt8))) (l := s)
 unfold zm z6
 have hd : ∃ b, s.dropWhile (· != (47 : UInt8)) = 47 :: b := by
  clear e
  induction s with
  | nil => cases h
  | cons c s ih =>
   by_cases hc : c = 47
   ·simp_all
   ·have h' : zg s = true := by
     unfold zg at h ⊢
     simp_all
    simp_all
 grind
theorem vI {s : zj} (h : zg s = false) : ZO s = Zy s := by
 unfold ZO
 rw [h, (Xm h).1]; simp
theorem tZ {s : zj} (h : ZO s = true) : (Zy s = true ∧ zg s = false ∧ zm s = s ∧ zL s = zX s ∧ zo s = 1) ∨
  (zg s = true ∧ s = zm s ++ 47 :: z6 s ∧ Zy (zm s) = true ∧ Z6 (z6 s) = true ∧ 2 ≤ zo s ∧ zo s = zc (z6 s)) := by
 cases hs : zg s with
 | false =>
  rw [vI hs] at h
  obtain ⟨h1, h2⟩ := Xm hs
  exact .inl ⟨h, rfl, h1, by unfold zL; rw [h1], by unfold zo; rw [hs]; rfl⟩
 | true =>
  unfold ZO at h
  rw [hs] at h
  simp only [Bool.not_true, Bool.false_or, Bool.and_eq_true, Bool.not_eq_true'] at h
  obtain ⟨h1, ⟨h2, h3⟩, h4⟩ := h
  have e : zo s = zc (z6 s) := by unfold zo; rw [hs]; rfl
  refine .inr ⟨rfl, ue hs, h1, h2, ?_, e⟩
  rw [e]
  have h5 := ZG h2
  refine Decidable.byContradiction fun hn => ?_
  have : zc (z6 s) = 0 ∨ zc (z6 s) = 1 := by omega
  rcases this with h6 | h6
  ·rw [h6, ZZ (by decide)] at h5
   rw [← h5] at h3
   exact absurd h3 (by decide)
  ·rw [h6, ZZ (by decide)] at h5
   rw [← h5] at h4
   exact absurd h4 (by decide)
theorem Yz {s : zj} (h : ZO s = true) : 1 ≤ zo s := by rcases tZ h with ⟨_, _, _, _, h⟩ | ⟨_, _, _, _, h, _⟩ <;> omega
theorem Zr {s : zj} : zH s = 0 ↔ ZO s = true ∧ X3 (zm s) ≤ 300 ∧ (z6 s).length ≤ 300 ∧ Nat.gcd (zL s).natAbs (zo s) = 1 := by
 unfold zH
 cases h : ZO s with
 | false => simp
 | true =>
  cases h2 : Nat.blt 300 (X3 (zm s)) || Nat.blt 300 (z6 s).length with
  | true =>
   rw [Bool.or_eq_true, Zx, Zx] at h2
   simp; omega
  | false =>
   rw [Bool.or_eq_false_iff, Bool.eq_false_iff, Bool.eq_false_iff, Ne, Ne, Zx, Zx] at h2
   cases h3 : Nat.beq (Nat.gcd (zL s).natAbs (zo s)) 1 with
   | true =>
    simp_all
   | false =>
    have h3 : Nat.gcd (zL s).natAbs (zo s) ≠ 1 := fun e => by rw [e] at h3; cases h3
    simp_all
theorem wm {s : zj} (h : ZO s = true) : YP (zL s) (zo s) = s := by
 unfold YP
 rcases tZ h with ⟨h1, _, _, h4, h5⟩ | ⟨_, h2, h3, h4, h5, h6⟩
 ·rw [h4, h5, Yt h1]; exact List.append_nil s
 ·rw [show Nat.beq (zo s) 1 = false from Bool.eq_false_iff.2 fun e => by have := Nat.eq_of_beq_eq_true e; omega]
  conv => rhs; rw [h2]
  unfold zL
  rw [Yt h3, h6, ZG h4]; rfl
theorem NU {n : Int} {d : Nat} (h : Nat.gcd n.natAbs d = 1) : ZI n d = YP n d := by unfold ZI; rw [h]; simp
theorem PT {s : zj} (h : zH s = 0) : ZI (zL s) (zo s) = s := by
 obtain ⟨h1, _, _, h4⟩ := Zr.1 h
 rw [NU h4, wm h1]
theorem Wm (n : Int) {d : Nat} (hd : 0 < d) : ZO (YP n d) = true ∧ zL (YP n d) = n ∧ zo (YP n d) = d ∧ X3 (zm (YP n d)) = Xu n ∧ (z6 (YP n d)).length = (if d = 1 then 0 else nDigits d) := by
 obtain ⟨i1, i2⟩ := za n
 unfold YP
 by_cases h : d = 1
 ·subst h
  rw [Nat.beq_refl]
  simp only [cond_true, List.append_nil, if_true]
  have hs := tq (V0 i1)
  obtain ⟨c1, c2⟩ := Xm hs
  refine ⟨by rw [vI hs]; exact i1, by unfold zL; rw [c1, i2], by unfold zo; rw [hs]; rfl, by rw [c1, wo i1, i2], by rw [c2]; rfl⟩
 ·rw [show Nat.beq d 1 = false from Bool.eq_false_iff.2 fun e => h (Nat.eq_of_beq_eq_true e)]
  simp only [cond_false, if_neg h]
  obtain ⟨c1, c2, c3⟩ := tB (b := decDigits d) (V0 i1)
  have hd0 : ¬ decDigits d = [48] := fun e => by
   have := yZ d
   rw [e] at this
   have : (0 : Nat) = d := this
   omega
  have hd1 : ¬ decDigits d = [49] := fun e => by
   have := yZ d
   rw [e] at this
   have : (1 : Nat) = d := this
   omega
  refine ⟨?_, by unfold zL; rw [c1, i2], by unfold zo; rw [c3, c2]; exact yZ d, by rw [c1, wo i1, i2], by rw [c2, decDigits_length]⟩
  unfold ZO
  rw [c1, c2, c3, i1, Yp, beq_false_of_ne hd0, beq_false_of_ne hd1]; rfl
end Go.Ar

namespace Go.Ar
open Go Go.Sx Go.Lib
set_option maxRecDepth 100000
def UG (k x : Nat) : zj := List.replicate (k - (decDigits x).length) 48 ++ decDigits x
theorem UL : ∀ (k : Nat) (l : zj), zc (List.replicate k 48 ++ l) = zc l
 | 0, _ => rfl
 | k + 1, l => by
  rw [List.replicate_succ, List.cons_append, xR, UL k l]
  show 0 * _ + _ = _
  omega
theorem Mt {k x : Nat} (hk : 0 < k) (hx : x < 10 ^ k) : (UG k x).length = k := by
 have := (ZX hk).2 hx
 unfold UG
 rw [List.length_append, List.length_replicate, decDigits_length]
 omega
theorem Nj (k x : Nat) : zc (UG k x) = x := by unfold UG; rw [UL, yZ]
theorem KI (k x : Nat) : ∀ c ∈ UG k x, Zd c = true := fun c hc => by
 unfold UG at hc
 rcases List.mem_append.1 hc with hc | hc
 ·rw [List.eq_of_mem_replicate hc]; decide
 ·exact List.all_eq_true.1 (Xb x) c hc
theorem Ti {k n x : Nat} (hk : 0 < k) (hn : n ≠ 0) (hx : x < 10 ^ k) : decDigits (n * 10 ^ k + x) = decDigits n ++ UG k x := by
 have hv : zc (decDigits n ++ UG k x) = n * 10 ^ k + x := by rw [tD, yZ, Nj, Mt hk hx]
 rw [← hv]
 refine ZG (Zt.2 ⟨?_, fun c hc => ?_, fun _ => ?_⟩)
 ·have := yH n
  grind
 ·rcases List.mem_append.1 hc with hc | hc
  ·exact List.all_eq_true.1 (Xb n) c hc
  ·exact KI k x c hc
 ·rw [List.getD_eq_getElem?_getD, List.getElem?_append_left (yH n), ← List.getD_eq_getElem?_getD]
  exact Xr hn
def WW (b : Nat) (l : List Int) (i : Nat) : Nat := (zt b (l.drop i)).toNat
theorem Ob {k : Nat} (hk : 0 < k) {l : List Int} (hl : ZR (10 ^ k : Nat) l) {i : Nat} (hi : i < l.length) (h0 : WW (10 ^ k) l (i + 1) ≠ 0) :
  decDigits (WW (10 ^ k) l i) = decDigits (WW (10 ^ k) l (i + 1)) ++ UG k (l.getD i 0).toNat := by
 have h10 : 0 < 10 ^ k := Nat.pow_pos (by decide)
 have x1 := hl.get (by omega) i
 have v0 := zd (b := ((10 ^ k : Nat) : Int)) (by omega) (hl.drop (i + 1))
 have e := Xw ((10 ^ k : Nat) : Int) hi
 have e2 : WW (10 ^ k) l i = WW (10 ^ k) l (i + 1) * 10 ^ k + (l.getD i 0).toNat := by
  unfold WW
  grind
 rw [e2]
 exact Ti hk h0 (by omega)
theorem Oh {b : Nat} {l : List Int} (h : 0 < l.length) : WW b l (l.length - 1) = (l.getD (l.length - 1) 0).toNat := by
 unfold WW
 rw [Xw b (by omega), List.drop_of_length_le (by omega), xH, Int.mul_zero, Int.add_zero]
theorem MJ {b : Nat} (hb : 2 ≤ b) {n : Nat} (hn : n ≠ 0) {i : Nat} (hi : i < (zT b n).length) : WW b (zT b n) i ≠ 0 := by
 obtain ⟨h1, h2⟩ := VY hb hn
 have hin := xz hb n
 unfold WW
 intro e
 have v0 := zd (b := (b : Int)) (by omega) (hin.drop i)
 have hz : zt b ((zT b n).drop i) = 0 := by omega
 have := sx (b := (b : Int)) (by omega) (hin.drop i) (n := 0) (by rw [hz, Int.pow_zero]; decide) (i := (zT b n).length - 1 - i) (Nat.zero_le _)
 grind
structure ov (k : Nat) (r : zj) (z : Nat) (L : List Int) : Prop where
 le : z ≤ r.length
 len : L.length = (r.length + k - 1) / k
 in_ : ZR (10 ^ k : Nat) L
 zero : ∀ i, z ≤ k * i → L.getD i 0 = 0
 part : L.getD (z / k) 0 < 10 ^ (z % k)
 val : zt (10 ^ k : Nat) L = (zc (r.drop (r.length - z)) : Int)
theorem ov.start {k : Nat} (hk : 0 < k) (r : zj) : ov k r 0 (List.replicate ((r.length + k - 1) / k) 0) := by
 have h10 : 0 < 10 ^ k := Nat.pow_pos (by decide)
 refine ⟨Nat.zero_le _, by simp, .zeros (by omega) _, fun i _ => Vr _ _, ?_, ?_⟩
 ·rw [Vr, Nat.zero_mod]; decide
 ·rw [wj, Nat.sub_zero, List.drop_of_length_le (Nat.le_refl _)]; rfl
theorem tn {r : zj} {i : Nat} (h : i < r.length) : r.drop i = r.getD i 0 :: r.drop (i + 1) := by
 simp_all
theorem ov.step {k : Nat} (hk : 0 < k) {r : zj} (hr : ∀ c ∈ r, Zd c = true) {z : Nat} (hz : z < r.length) {L : List Int} (h : ov k r z L) :
  z / k < L.length ∧ ov k r (z + 1) (L.set (z / k) (L.getD (z / k) 0 + (Vu (r.getD (r.length - 1 - z) 0) : Int) * 10 ^ (z % k))) := by
 have h10 : 0 < 10 ^ k := Nat.pow_pos (by decide)
 have hi : r.length - 1 - z < r.length := by omega
 have hd : Zd (r.getD (r.length - 1 - z) 0) = true := by
  simp_all
 have hv := TN hd
 have hdm := Nat.div_add_mod z k
 have hmod := Nat.mod_lt z hk
 have hlen : z / k < L.length := by
  rw [h.len]
  have : k * (z / k) < r.length := by omega
  have h2 : (k * (z / k) + k) / k ≤ (r.length + k - 1) / k := Nat.div_le_div_right (by omega)
  rw [Nat.add_div_right _ hk, Nat.mul_div_cancel_left _ hk] at h2
  omega
 have hp := h.part
 have hL := h.in_.get (by omega) (z / k)
 generalize hdd : Vu (r.getD (r.length - 1 - z) 0) = d at *
 have hp0 : (0 : Int) < 10 ^ (z % k) := Int.pow_pos (by decide)
 have hdp : (d : Int) * 10 ^ (z % k) ≤ 9 * 10 ^ (z % k) := Int.mul_le_mul_of_nonneg_right (by omega) (Int.le_of_lt hp0)
 have hdp0 : 0 ≤ (d : Int) * 10 ^ (z % k) := Int.mul_nonneg (by omega) (Int.le_of_lt hp0)
 have hnew : L.getD (z / k) 0 + (d : Int) * 10 ^ (z % k) < 10 ^ (z % k + 1) := by rw [Int.pow_succ]; omega
 have hle : (10 : Int) ^ (z % k + 1) ≤ ((10 ^ k : Nat) : Int) := by
  have : 10 ^ (z % k + 1) ≤ 10 ^ k := Nat.pow_le_pow_right (by decide) (by omega)
  grind
 refine ⟨hlen, by omega, by rw [List.length_set]; exact h.len, h.in_.set (by omega) (by omega) _, fun i hzi => ?_, ?_, ?_⟩
 ·have hne : i ≠ z / k := fun e => by
   grind
  rw [Yj _ _ _ _ hlen, if_neg hne]
  exact h.zero i (by omega)
 ·by_cases e : (z + 1) % k = 0
  ·have hz1 : k * ((z + 1) / k) = z + 1 := by have := Nat.div_add_mod (z + 1) k; omega
   have hne : (z + 1) / k ≠ z / k := fun e2 => by rw [e2] at hz1; omega
   rw [Yj _ _ _ _ hlen, if_neg hne, h.zero _ (by omega)]
   simp_all
  ·have e1 : (z + 1) % k = z % k + 1 ∧ (z + 1) / k = z / k := by
    have h1 : z % k + 1 < k := by
     refine Nat.lt_of_le_of_ne (by omega) fun e2 => e ?_
     have : z + 1 = k * (z / k + 1) := by rw [Nat.mul_add, Nat.mul_one]; omega
     simp_all
    have h2 : z + 1 = k * (z / k) + (z % k + 1) := by omega
    constructor
    ·rw [h2, Nat.mul_add_mod, Nat.mod_eq_of_lt h1]
    ·rw [h2, Nat.mul_add_div hk, Nat.div_eq_of_lt h1, Nat.add_zero]
   simp_all
 ·rw [WE _ _ hlen, h.val, show r.length - (z + 1) = r.length - 1 - z by omega, tn hi, xR, show r.length - 1 - z + 1 = r.length - z by omega, hdd, List.length_drop, show r.length - (r.length - z) = z by omega]
  have e1 : ((10 ^ k : Nat) : Int) ^ (z / k) * (10 : Int) ^ (z % k) = 10 ^ z := by
   have : (10 ^ k) ^ (z / k) * 10 ^ (z % k) = 10 ^ z := by rw [← Nat.pow_mul, ← Nat.pow_add, hdm]
   exact_mod_cast this
  grind
theorem ov.end_ {k : Nat} (hk : 0 < k) {r : zj} {L : List Int} (h : ov k r r.length L) : zf L = zT (10 ^ k) (zc r) := by
 have hv := h.val
 rw [Nat.sub_self, List.drop_zero] at hv
 have h2 : 2 ≤ 10 ^ k := by
  grind
 rw [xZ h2 h.in_, hv, Int.toNat_natCast]
end Go.Ar

namespace Go.Ar
open Go Go.Sx Go.Lib
set_option maxRecDepth 100000
theorem yz {b m n : Nat} (hb : 2 ≤ b) (h : m ≤ n) : (zT b m).length ≤ (zT b n).length := by
 refine Decidable.byContradiction fun hn => ?_
 have := wO hb (m := n) (n := m) (by omega)
 omega
theorem wz {b n : Nat} (hb : 2 ≤ b) (h : (zT b n).length = 0) : n = 0 := by
 refine Decidable.byContradiction fun h0 => ?_
 rw [XT hb h0] at h
 cases h
theorem Ts {x y : Nat} (h : y ≠ 0) : Nat.gcd x y = Nat.gcd y (x % y) := by
 rw [Nat.gcd_comm x y, Nat.gcd_rec y x, Nat.gcd_comm]
end Go.Ar

namespace Go.Ar
open Go Go.Sx Go.Lib
set_option maxRecDepth 100000
theorem W5 {l : List Int} {i : Nat} (h : l.length ≤ i) : l.getD i 0 = 0 := by rw [List.getD_eq_getElem?_getD, List.getElem?_eq_none h]; rfl
theorem EH (c : UInt8) : (zM (c.toNat : Int) 48 || zM 57 (c.toNat : Int)) = !Zd c := by
 unfold Zd
 rw [Bool.eq_iff_iff, Bool.or_eq_true, zq, zq, Bool.not_eq_true', Bool.and_eq_false_iff]
 constructor
 ·rintro (h | h)
  ·exact .inl (Bool.eq_false_iff.2 fun e => by have := Nat.le_of_ble_eq_true e; omega)
  ·exact .inr (Bool.eq_false_iff.2 fun e => by have := Nat.le_of_ble_eq_true e; omega)
 ·rintro (h | h)
  ·exact .inl (by have : ¬ 48 ≤ c.toNat := fun e => by rw [Nat.ble_eq_true_of_le e] at h; cases h
                  omega)
  ·exact .inr (by have : ¬ c.toNat ≤ 57 := fun e => by rw [Nat.ble_eq_true_of_le e] at h; cases h
                  omega)
theorem Vf (c : UInt8) (n : Nat) (hn : n < 256) : ((c.toNat : Int) == (n : Int)) = (c == UInt8.ofNat n) := by
 rw [Bool.eq_iff_iff, beq_iff_eq, beq_iff_eq]
 constructor
 ·intro h
  have : c.toNat = n := by omega
  rw [← this, UInt8.ofNat_toNat]
 ·intro h
  subst h
  rw [UInt8.toNat_ofNat']
  omega
theorem W8 {a : zj} (h : ¬ (0 < a.length ∧ a.getD 0 0 = 45)) : Zy a = Z6 a ∧ X3 a = a.length ∧ zX a = (zc a : Int) := by
 match a, h with
 | [], _ => exact ⟨rfl, rfl, rfl⟩
 | c :: r, h =>
  have hc : c ≠ 45 := fun e => h ⟨by simp, e⟩
  refine ⟨?_, ?_, ?_⟩
  ·unfold Zy; split
   all_goals simp_all
  ·unfold X3; split
   all_goals simp_all
  ·unfold zX; split
   all_goals simp_all
theorem sZ {a : zj} (h0 : 0 < a.length) (h : a.getD 0 0 = 45) : a = 45 :: a.drop 1 ∧ Zy a = (Z6 (a.drop 1) && !(a.drop 1 == [48])) ∧ X3 a = a.length - 1 ∧ zX a = -(zc (a.drop 1) : Int) := by
 match a, h0, h with
 | c :: r, _, h =>
  have hc : c = 45 := h
  subst hc
  exact ⟨rfl, rfl, rfl, rfl⟩
theorem kc {a : zj} (h : Zy a = true) : ZU a = bif Nat.blt 300 (X3 a) then 4 else 0 := by unfold ZU; rw [h]; rfl
theorem Lj {a : zj} (h : ¬ Zy a = true) : ZU a = 11 := by unfold ZU; rw [Bool.eq_false_iff.2 h]; rfl
theorem uv {x y : List Int} {z : Nat} : ∀ {n : Nat}, z ≤ n → (∀ i, z ≤ i → i < n → x.getD i 0 = y.getD i 0) → xW x y n = xW x y z
 | 0, h, _ => by rw [show z = 0 by omega]
 | n + 1, h, hh => by
  by_cases e : z = n + 1
  ·rw [e]
  ·have h1 := hh n (by omega) (by omega)
   show (bif x.getD n 0 != y.getD n 0 then x.getD n 0 - y.getD n 0 else xW x y n) = _
   rw [h1, bne_self_eq_false]
   exact uv (n := n) (by omega) fun i h2 h3 => hh i h2 (by omega)
theorem Jw {x y : List Int} (h : x.length ≠ y.length) : cmpL x y = (x.length : Int) - (y.length : Int) := by
 unfold cmpL
 rw [show Nat.beq x.length y.length = false from Bool.eq_false_iff.2 fun e => h (Nat.eq_of_beq_eq_true e)]; rfl
theorem cmpL_eq {x y : List Int} (h : x.length = y.length) : cmpL x y = xW x y x.length := by unfold cmpL; rw [h, Nat.beq_refl]; rfl
end Go.Ar

namespace Go.Ar
open Go Go.Sx Go.Lib
set_option maxRecDepth 100000
theorem pS {l : zj} {i : Nat} (h : i < l.length) : l.take (i + 1) = l.take i ++ [l.getD i 0] := by
 simp_all
structure F7 where
 k : Nat
 L : List Int
structure iR (s : zj) (z : F7) : Prop where
 le : 6 * z.k ≤ s.length + 5
 len : z.L.length = z.k
 in_ : ZR 1000000 z.L
 val : zt 1000000 z.L = (zc (s.drop (s.length - 6 * z.k)) : Int)
theorem iR.start (s : zj) : iR s ⟨0, []⟩ := ⟨by simp, rfl, .nil _, by rw [Nat.mul_zero, Nat.sub_zero, List.drop_length]; rfl⟩
def uc (s : zj) (k i : Nat) : zj := (s.take i).drop (s.length - 6 * k - 6)
theorem OC {s : zj} {k i : Nat} (h1 : i ≤ s.length - 6 * k) : (uc s k i).length ≤ 6 := by
 unfold uc
 grind
theorem N8 {s : zj} (hs : ∀ c ∈ s, Zd c = true) (k i : Nat) : (uc s k i).all Zd = true := by
 rw [List.all_eq_true]
 intro c hc
 exact hs c (List.mem_of_mem_take (List.mem_of_mem_drop hc))
theorem Mw {s : zj} (hs : ∀ c ∈ s, Zd c = true) {k i : Nat} (h1 : i ≤ s.length - 6 * k) : (zc (uc s k i) : Int) < 1000000 := by
 have h2 := vS (N8 hs k i)
 have h3 : 10 ^ (uc s k i).length ≤ 10 ^ 6 := Nat.pow_le_pow_right (by decide) (OC h1)
 omega
theorem iR.step {s : zj} (hs : ∀ c ∈ s, Zd c = true) {z : F7} (h : iR s z) (hz : 6 * z.k < s.length) : iR s ⟨z.k + 1, z.L ++ [(zc (uc s z.k (s.length - 6 * z.k)) : Int)]⟩ := by
 refine ⟨by simp only; omega, by simp [h.len], h.in_.snoc (by omega) (Mw hs (Nat.le_refl _)), ?_⟩
 show zt 1000000 (z.L ++ [_]) = (zc (s.drop (s.length - 6 * (z.k + 1))) : Int)
 rw [XU, h.val, h.len]
 have e : s.drop (s.length - 6 * (z.k + 1)) = uc s z.k (s.length - 6 * z.k) ++ s.drop (s.length - 6 * z.k) := by
  unfold uc
  rw [show s.length - 6 * (z.k + 1) = s.length - 6 * z.k - 6 by omega]
  have e1 := List.drop_append_of_le_length (l₁ := s.take (s.length - 6 * z.k)) (l₂ := s.drop (s.length - 6 * z.k)) (i := s.length - 6 * z.k - 6) (by rw [List.length_take]; omega)
  simp_all
 rw [e, tD, List.length_drop, show s.length - (s.length - 6 * z.k) = 6 * z.k by omega]
 have e2 : (1000000 : Int) ^ z.k = ((10 ^ (6 * z.k) : Nat) : Int) := by
  have e3 : 1000000 ^ z.k = 10 ^ (6 * z.k) := by rw [Nat.pow_mul]
  grind
 grind
theorem iR.end_ {s : zj} {z : F7} (h : iR s z) (hz : s.length ≤ 6 * z.k) : zf z.L = zT 1000000 (zc s) := by
 have hv := h.val
 rw [show s.length - 6 * z.k = 0 by omega, List.drop_zero] at hv
 have := xZ (b := 1000000) (by decide) h.in_
 simp_all
end Go.Ar

namespace Go.Ar
open Go Go.Sx Go.Lib
set_option maxRecDepth 100000
theorem Wj {s : zj} {i : Nat} (h : i < s.length) : s.getD i 0 ∈ s := by
 simp_all
theorem tP {s : zj} {c : UInt8} (h : c ∈ s) : ∃ i, i < s.length ∧ s.getD i 0 = c := by
 obtain ⟨i, hi, rfl⟩ := List.mem_iff_getElem.1 h
 exact ⟨i, hi, by rw [List.getD_eq_getElem?_getD, List.getElem?_eq_getElem hi]; rfl⟩
theorem getD_takeS {s : zj} {z i : Nat} (h : i < z) : (s.take z).getD i 0 = s.getD i 0 := by
 simp_all
theorem Ix {s : zj} {z : Nat} (hz : z < s.length) (h : ∀ i, i < z → s.getD i 0 ≠ 47) (e : s.getD z 0 = 47) :
  zm s = s.take z ∧ z6 s = s.drop (z + 1) ∧ zg s = true := by
 have e1 : s.take z ++ 47 :: s.drop (z + 1) = s := by
  conv => rhs; rw [← List.take_append_drop z s]
  congr 1
  rw [List.drop_eq_getElem_cons hz, ← e, List.getD_eq_getElem?_getD, List.getElem?_eq_getElem hz]; rfl
 have h1 : ∀ c ∈ s.take z, (c != 47) = true := by
  intro c hc
  obtain ⟨i, hi, rfl⟩ := tP hc
  grind
 have := tB (b := s.drop (z + 1)) h1
 simp_all
theorem lD {s : zj} (h : ∀ i, i < s.length → s.getD i 0 ≠ 47) : zg s = false ∧ zm s = s ∧ z6 s = [] := by
 have hs : zg s = false := tq fun c hc => by
  obtain ⟨i, hi, rfl⟩ := tP hc
  simp_all
 exact ⟨hs, Xm hs⟩
def zJ (a : zj) : Bool := a.getD 0 0 == 45
def zp (a : zj) : zj := bif zJ a then a.drop 1 else a
theorem tL (a : zj) : (zp a).length ≤ a.length := by
 unfold zp
 grind
theorem Vq (s : zj) : (zm s).length ≤ s.length := by
 unfold zm
 exact List.Sublist.length_le (List.takeWhile_sublist _)
theorem qc (s : zj) : (z6 s).length ≤ s.length := by
 unfold z6
 rw [List.length_drop]
 have := List.Sublist.length_le (List.dropWhile_sublist (· != (47 : UInt8)) (l := s))
 omega
theorem nD (a : zj) : (zJ a = true ∧ a = 45 :: zp a) ∨ (zJ a = false ∧ zp a = a ∧ ¬ (0 < (zm a).length ∧ (zm a).getD 0 0 = 45)) := by
 unfold zp zJ
 match a with
 | [] => exact .inr ⟨rfl, rfl, fun h => by cases h.1⟩
 | c :: r =>
  by_cases hc : c = 45
  ·simp_all
  ·have e : ((c :: r).getD 0 0 == (45 : UInt8)) = false := beq_eq_false_iff_ne.2 hc
   rw [e]
   refine .inr ⟨rfl, rfl, fun h => ?_⟩
   unfold zm at h
   rw [List.takeWhile_cons] at h
   grind
theorem I8 (r : zj) : zm (45 :: r) = 45 :: zm r ∧ z6 (45 :: r) = z6 r ∧ zg (45 :: r) = zg r := by
 refine ⟨?_, ?_, ?_⟩
 all_goals rfl
theorem Y1 (a : zj) : zm a = (bif zJ a then 45 :: zm (zp a) else zm (zp a)) ∧ z6 a = z6 (zp a) ∧ zg a = zg (zp a) ∧
  Zy (zm a) = (Z6 (zm (zp a)) && !(zJ a && zm (zp a) == [48])) ∧ X3 (zm a) = (zm (zp a)).length ∧
  zL a = (bif zJ a then -(zc (zm (zp a)) : Int) else (zc (zm (zp a)) : Int)) ∧ zo a = (bif zg (zp a) then zc (z6 (zp a)) else 1) := by
 rcases nD a with ⟨h1, h2⟩ | ⟨h1, h2, h3⟩
 ·obtain ⟨c1, c2, c3⟩ := I8 (zp a)
  rw [← h2] at c1 c2 c3
  unfold zL zo
  rw [c1, c2, c3, h1]
  exact ⟨rfl, rfl, rfl, by show (Z6 _ && _) = _; simp, rfl, rfl, rfl⟩
 ·obtain ⟨p1, p2, p3⟩ := W8 h3
  unfold zL zo
  simp_all
theorem Ug (a : zj) : (zL a).natAbs = zc (zm (zp a)) := by
 obtain ⟨_, _, _, _, _, h, _⟩ := Y1 a
 grind
def WF (a : zj) : Bool := Z6 (zm (zp a)) && !(zJ a && zm (zp a) == [48]) && (!zg (zp a) || Z6 (z6 (zp a)) && !(z6 (zp a) == [48]) && !(z6 (zp a) == [49]))
theorem X8 (a : zj) : ZO a = WF a := by
 obtain ⟨h1, h2, h3, h4, _⟩ := Y1 a
 unfold ZO WF
 simp_all
theorem RE {a : zj} (h : WF a = false) : zH a = 11 := by
 unfold zH
 rw [X8, h]; rfl
theorem On {a : zj} (h : WF a = true) (hl : 300 < (zm (zp a)).length ∨ 300 < (z6 (zp a)).length) : zH a = 4 := by
 obtain ⟨_, h2, _, _, h5, _⟩ := Y1 a
 unfold zH
 rw [X8, h, h5, h2, show (Nat.blt 300 (zm (zp a)).length || Nat.blt 300 (z6 (zp a)).length) = true by
  simp_all]
 rfl
theorem Tp {a : zj} (h : WF a = true) (hl : (zm (zp a)).length ≤ 300 ∧ (z6 (zp a)).length ≤ 300) (hs : zg (zp a) = true) :
  zH a = bif Nat.beq (Nat.gcd (zc (zm (zp a))) (zc (z6 (zp a)))) 1 then 0 else 11 := by
 obtain ⟨_, h2, _, _, h5, _, h7⟩ := Y1 a
 unfold zH
 rw [X8, h, h5, h2, Ug, h7, hs, show (Nat.blt 300 (zm (zp a)).length || Nat.blt 300 (z6 (zp a)).length) = false by
  rw [Bool.or_eq_false_iff, Bool.eq_false_iff, Bool.eq_false_iff, Ne, Ne, Zx, Zx]; omega]
 rfl
theorem qe {a : zj} (h : WF a = true) (hl : (zm (zp a)).length ≤ 300) (hs : zg (zp a) = false) : zH a = 0 := by
 obtain ⟨_, h2, _, _, h5, _, h7⟩ := Y1 a
 have hd : z6 (zp a) = [] := (Xm hs).2
 unfold zH
 rw [X8, h, h5, h2, h7, hs, hd, show (Nat.blt 300 (zm (zp a)).length || Nat.blt 300 ([] : zj).length) = false by
  rw [Bool.or_eq_false_iff, Bool.eq_false_iff, Bool.eq_false_iff, Ne, Ne, Zx, Zx]
  simp_all]
 simp
theorem vH {s : zj} (h : Z6 s = true) {k : Nat} (hl : s.length ≤ k) : zc s < 10 ^ k := by
 have h1 := vS (l := s) (List.all_eq_true.2 (Zt.1 h).2.1)
 exact Nat.lt_of_lt_of_le h1 (Nat.pow_le_pow_right (by omega) hl)
end Go.Ar
