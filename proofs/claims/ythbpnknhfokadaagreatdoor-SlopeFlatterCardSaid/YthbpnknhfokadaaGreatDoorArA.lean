/- Decimal strings of integers: what they are and what they mean. -/
import Derived.Test.YthbpnknhfokadaaGreatDoorSxU
import Derived.Lib.ItoaLen
set_option linter.unusedSimpArgs false
set_option linter.unusedVariables false
namespace Go.Ar
open Go Go.Sx Go.Lib
set_option maxRecDepth 100000
abbrev zj := List UInt8
def Zc (c : UInt8) : Bool := Nat.ble 48 c.toNat && Nat.ble c.toNat 57
def vE (c : UInt8) : Nat := c.toNat - 48
def NG (d : Nat) : UInt8 := UInt8.ofNat (48 + d)
theorem y8 {c : UInt8} : Zc c = true ↔ 48 ≤ c.toNat ∧ c.toNat ≤ 57 := by
 unfold Zc
 simp
theorem Wg {d : Nat} (h : d < 10) : (NG d).toNat = 48 + d := by
 unfold NG
 rw [UInt8.toNat_ofNat']
 omega
theorem Ud {d : Nat} (h : d < 10) : Zc (NG d) = true := by rw [y8, Wg h]; omega
theorem Sj {d : Nat} (h : d < 10) : vE (NG d) = d := by unfold vE; rw [Wg h]; omega
theorem PU {c : UInt8} (h : Zc c = true) : NG (vE c) = c := by
 rw [y8] at h
 refine UInt8.toNat_inj.1 ?_
 rw [Wg (by unfold vE; omega)]
 unfold vE
 omega
theorem tO {c : UInt8} (h : Zc c = true) : vE c < 10 := by rw [y8] at h; unfold vE; omega
def zD (l : zj) : Nat := l.foldl (fun a c => 10 * a + vE c) 0
theorem VT (l : zj) (c : UInt8) : zD (l ++ [c]) = 10 * zD l + vE c := by unfold zD; rw [List.foldl_append]; rfl
theorem fold_acc (l : zj) : ∀ a : Nat, l.foldl (fun a c => 10 * a + vE c) a = a * 10 ^ l.length + zD l := by
 induction l with
 | nil => intro a; simp [zD]
 | cons c l ih =>
  intro a
  unfold zD
  grind
theorem Up (a b : zj) : zD (a ++ b) = zD a * 10 ^ b.length + zD b := by
 conv => lhs; unfold zD
 rw [List.foldl_append, fold_acc]; rfl
theorem xy (c : UInt8) (l : zj) : zD (c :: l) = vE c * 10 ^ l.length + zD l := by
 have := Up [c] l
 simpa [zD] using this
theorem We {l : zj} (h : l.all Zc = true) : zD l < 10 ^ l.length := by
 induction l with
 | nil => simp [zD]
 | cons c l ih =>
  rw [List.all_cons, Bool.and_eq_true] at h
  have h1 := ih h.2
  have h2 := tO h.1
  rw [xy, List.length_cons, Nat.pow_succ]
  generalize 10 ^ l.length = p at *
  have : vE c * p ≤ 9 * p := Nat.mul_le_mul_right p (by omega)
  omega
def Z8 (l : zj) : Bool := Nat.blt 0 l.length && l.all Zc && !(Nat.blt 1 l.length && (l.getD 0 0 == 48))
theorem z7 {u : Nat} (h : u < 10) : decDigits u = [NG u] := by rw [decDigits, dif_pos h]; rfl
theorem xr {u : Nat} (h : ¬ u < 10) : decDigits u = decDigits (u / 10) ++ [NG (u % 10)] := by rw [decDigits, dif_neg h]; rfl
theorem XJ (u : Nat) : (decDigits u).all Zc = true := by
 induction u using Nat.strongRecOn with
 | _ u ih =>
  by_cases h : u < 10
  ·rw [z7 h]; simp [Ud h]
  ·rw [xr h, List.all_append, ih (u / 10) (by omega)]
   simp [Ud (Nat.mod_lt u (by decide : 10 > 0))]
theorem yZ (u : Nat) : zD (decDigits u) = u := by
 induction u using Nat.strongRecOn with
 | _ u ih =>
  by_cases h : u < 10
  ·rw [z7 h]
   show 10 * 0 + vE (NG u) = u
   rw [Sj h]; omega
  ·rw [xr h, VT, ih (u / 10) (by omega), Sj (Nat.mod_lt u (by decide : 10 > 0))]
   omega
theorem yi (u : Nat) : 0 < (decDigits u).length := by rw [decDigits_length]; exact nDigits_pos u
theorem Xz {u : Nat} (h : u ≠ 0) : (decDigits u).getD 0 0 ≠ 48 := by
 induction u using Nat.strongRecOn with
 | _ u ih =>
  by_cases h1 : u < 10
  ·rw [z7 h1]
   intro e
   have e : NG u = 48 := e
   have := congrArg UInt8.toNat e
   rw [Wg h1] at this
   simp_all
  ·rw [xr h1, List.getD_eq_getElem?_getD, List.getElem?_append_left (yi _), ← List.getD_eq_getElem?_getD]
   grind
theorem Yr (u : Nat) : Z8 (decDigits u) = true := by
 unfold Z8
 rw [XJ, (ZX _ _).2 (yi u)]
 by_cases h : u = 0
 ·subst h
  rw [z7 (by decide)]; rfl
 ·rw [beq_false_of_ne (Xz h), Bool.and_false]; rfl
theorem ZS {l : zj} : Z8 l = true ↔ 0 < l.length ∧ (∀ c ∈ l, Zc c = true) ∧ (1 < l.length → l.getD 0 0 ≠ 48) := by
 unfold Z8
 rw [Bool.and_eq_true, Bool.and_eq_true, ZX, List.all_eq_true, Bool.not_eq_true', Bool.and_eq_false_iff]
 constructor
 ·rintro ⟨⟨h1, h2⟩, h3⟩
  refine ⟨h1, h2, fun h4 => ?_⟩
  rcases h3 with h3 | h3
  ·rw [(ZX _ _).2 h4] at h3; cases h3
  simp_all
 ·rintro ⟨h1, h2, h3⟩
  refine ⟨⟨h1, h2⟩, ?_⟩
  by_cases h4 : 1 < l.length
  ·simp_all
  ·exact .inl (by rw [Bool.eq_false_iff]; intro e; exact h4 ((ZX _ _).1 e))
theorem Lp {l : zj} (h : 0 < l.length) : ∃ a c, l = a ++ [c] := by
 have hn : l ≠ [] := fun e => by rw [e] at h; cases h
 exact ⟨l.dropLast, l.getLast hn, (List.dropLast_concat_getLast hn).symm⟩
theorem Ze {l : zj} (h : Z8 l = true) : decDigits (zD l) = l := by
 generalize hn : l.length = n
 induction n generalizing l with
 | zero => obtain ⟨h1, _⟩ := ZS.1 h; omega
 | succ n ih =>
  obtain ⟨h1, h2, h3⟩ := ZS.1 h
  obtain ⟨a, c, rfl⟩ := Lp h1
  have hc : Zc c = true := h2 c (by simp)
  have hl : a.length = n := by simpa using hn
  rw [VT]
  by_cases ha : a.length = 0
  ·obtain rfl := List.length_eq_zero_iff.1 ha
   have : 10 * zD [] + vE c = vE c := by simp [zD]
   rw [this, z7 (tO hc), PU hc]; rfl
  ·have hg : (a ++ [c]).getD 0 0 = a.getD 0 0 := by
    grind
   have ha0 : a.getD 0 0 ≠ 48 := by rw [← hg]; exact h3 (by simp; omega)
   have hda : Z8 a = true := ZS.2 ⟨by omega, fun x hx => h2 x (List.mem_append_left _ hx), fun _ => ha0⟩
   have ih' := ih hda hl
   have hv := tO hc
   have hpos : zD a ≠ 0 := fun e => by
    rw [e, z7 (by decide)] at ih'
    rw [← ih'] at ha0
    exact ha0 rfl
   rw [xr (by omega), show (10 * zD a + vE c) / 10 = zD a by omega, show (10 * zD a + vE c) % 10 = vE c by omega, ih', PU hc]
def ZY (s : zj) : Bool := match s with | 45 :: r => Z8 r && !(r == [48]) | r => Z8 r
def zY (s : zj) : Int := match s with | 45 :: r => -(zD r : Int) | r => (zD r : Int)
theorem yY (n : Nat) : itoa (n : Int) = decDigits n := by unfold itoa; rw [if_neg (by omega), Int.toNat_natCast]
theorem itoa_neg {n : Nat} (h : n ≠ 0) : itoa (-(n : Int)) = 45 :: decDigits n := by
 unfold itoa
 simp_all
theorem wo {r : zj} (h : Z8 (45 :: r) = true) : False := by
 have := (ZS.1 h).2.1 45 List.mem_cons_self
 rw [y8] at this
 simp_all
theorem wD {r : zj} (h : Z8 r = true) : ZY r = true ∧ zY r = (zD r : Int) := by
 match r, h with
 | [], h => exact ⟨h, rfl⟩
 | c :: r, h =>
  by_cases hc : c = 45
  ·subst hc; exact (wo h).elim
  ·constructor
   ·unfold ZY; split
    all_goals simp_all
   ·unfold zY; split
    all_goals simp_all
theorem zb (n : Int) : ZY (itoa n) = true ∧ zY (itoa n) = n := by
 by_cases h : n < 0
 ·obtain ⟨m, rfl⟩ : ∃ m : Nat, n = -(m : Int) := ⟨n.natAbs, by omega⟩
  have hm : m ≠ 0 := by omega
  rw [itoa_neg hm]
  refine ⟨?_, ?_⟩
  ·show (Z8 (decDigits m) && !(decDigits m == [48])) = true
   rw [Yr]
   have : decDigits m ≠ [48] := fun e => Xz hm (by rw [e]; rfl)
   simp_all
  ·show -((zD (decDigits m) : Nat) : Int) = _
   rw [yZ]
 ·obtain ⟨m, rfl⟩ : ∃ m : Nat, n = (m : Int) := ⟨n.toNat, by omega⟩
  rw [yY]
  obtain ⟨a, b⟩ := wD (Yr m)
  exact ⟨a, by rw [b, yZ]⟩
theorem Vb {r : zj} (h : Z8 r = true) (h0 : zD r = 0) : r = [48] := by
 have := Ze h
 rw [h0, z7 (by decide)] at this
 exact this.symm
theorem yI {s : zj} (h : ZY s = true) : (∃ r, s = 45 :: r ∧ Z8 r = true ∧ zD r ≠ 0 ∧ zY s = -(zD r : Int)) ∨ (Z8 s = true ∧ zY s = (zD s : Int)) := by
 unfold ZY at h
 split at h
 ·rename_i r
  rw [Bool.and_eq_true, Bool.not_eq_true'] at h
  refine .inl ⟨r, rfl, h.1, fun e => ?_, rfl⟩
  have := Vb h.1 e
  simp_all
 ·exact .inr ⟨h, (wD h).2⟩
theorem YG {s : zj} (h : ZY s = true) : itoa (zY s) = s := by
 rcases yI h with ⟨r, rfl, h1, h2, h3⟩ | ⟨h1, h2⟩
 ·rw [h3, itoa_neg h2, Ze h1]
 ·rw [h2, yY, Ze h1]
theorem tX {a b : Int} (h : itoa a = itoa b) : a = b := by rw [← (zb a).2, ← (zb b).2, h]
def XZ (n : Int) : Nat := nDigits n.natAbs
theorem Xw (n : Int) : (itoa n).length = XZ n + if n < 0 then 1 else 0 := by
 unfold itoa XZ
 by_cases h : n < 0
 ·rw [if_pos h, if_pos h, List.length_cons, decDigits_length]
 ·rw [if_neg h, if_neg h, decDigits_length, show n.toNat = n.natAbs by omega]; rfl
theorem tt : ∀ {k u : Nat}, u < 10 ^ (k + 1) → nDigits u ≤ k + 1
 | 0, u, h => by rw [nDigits_small (by simpa using h)]; exact Nat.le_refl _
 | k + 1, u, h => by
  by_cases hu : u < 10
  ·rw [nDigits_small hu]; omega
  ·rw [nDigits_big hu]
   have := tt (k := k) (u := u / 10) (by rw [Nat.pow_succ] at h; omega)
   omega
theorem Zw {k u : Nat} (hk : 0 < k) : nDigits u ≤ k ↔ u < 10 ^ k := by
 constructor
 ·intro h
  exact Nat.lt_of_lt_of_le (lt_pow_nDigits u) (Nat.pow_le_pow_right (by decide) h)
 ·intro h
  obtain ⟨m, rfl⟩ : ∃ m, k = m + 1 := ⟨k - 1, by omega⟩
  exact tt h
theorem rj {l : zj} (h : Z8 l = true) : l.length = nDigits (zD l) := by
 conv => lhs; rw [← Ze h]
 rw [decDigits_length]
end Go.Ar

namespace Go.Ar
open Go Go.Sx Go.Lib
set_option maxRecDepth 100000
def zU (b : Int) : List Int → Int
 | [] => 0
 | x :: l => x + b * zU b l
def Zp (b : Int) (l : List Int) : Prop := ∀ x ∈ l, 0 ≤ x ∧ x < b
def zh : List Int → List Int
 | [] => []
 | x :: l => if zh l = [] ∧ x = 0 then [] else x :: zh l
def zT (b n : Nat) : List Int :=
 if h : n = 0 ∨ b < 2 then [] else ((n % b : Nat) : Int) :: zT b (n / b)
termination_by n
decreasing_by
 have h2 : n / b < n := Nat.div_lt_self (by omega) (by omega)
 exact h2
theorem Z2 (b : Nat) : zT b 0 = [] := by rw [zT, dif_pos (.inl rfl)]
theorem xa {b n : Nat} (hb : 2 ≤ b) (h : n ≠ 0) : zT b n = ((n % b : Nat) : Int) :: zT b (n / b) := by
 conv => lhs; rw [zT]
 simp_all
theorem Zp.nil (b : Int) : Zp b [] := fun _ h => by cases h
theorem Zp.tail {b x : Int} {l : List Int} (h : Zp b (x :: l)) : Zp b l := fun y hy => h y (List.mem_cons_of_mem _ hy)
theorem Zp.head {b x : Int} {l : List Int} (h : Zp b (x :: l)) : 0 ≤ x ∧ x < b := h x List.mem_cons_self
theorem Zp.app {b : Int} {l m : List Int} (h : Zp b l) (h2 : Zp b m) : Zp b (l ++ m) := fun x hx => (List.mem_append.1 hx).elim (h x) (h2 x)
theorem Zp.one {b x : Int} (h0 : 0 ≤ x) (h1 : x < b) : Zp b [x] := fun y hy => by rw [List.mem_singleton] at hy; subst hy; exact ⟨h0, h1⟩
theorem Zp.snoc {b x : Int} {l : List Int} (h : Zp b l) (h0 : 0 ≤ x) (h1 : x < b) : Zp b (l ++ [x]) := h.app (.one h0 h1)
theorem Zp.take {b : Int} {l : List Int} (h : Zp b l) (n : Nat) : Zp b (l.take n) := fun x hx => h x (List.mem_of_mem_take hx)
theorem Zp.drop {b : Int} {l : List Int} (h : Zp b l) (n : Nat) : Zp b (l.drop n) := fun x hx => h x (List.mem_of_mem_drop hx)
theorem Zp.get {b : Int} {l : List Int} (h : Zp b l) (hb : 0 < b) (i : Nat) : 0 ≤ l.getD i 0 ∧ l.getD i 0 < b := by
 rw [List.getD_eq_getElem?_getD]
 by_cases hi : i < l.length
 ·rw [List.getElem?_eq_getElem hi]; exact h _ (List.getElem_mem hi)
 simp_all
theorem Zp.set {b x : Int} {l : List Int} (h : Zp b l) (h0 : 0 ≤ x) (h1 : x < b) (i : Nat) : Zp b (l.set i x) := fun y hy => by
 rcases List.mem_or_eq_of_mem_set hy with hy | rfl
 ·exact h y hy
 omega
theorem zf {b : Int} (hb : 0 ≤ b) : ∀ {l : List Int}, Zp b l → 0 ≤ zU b l
 | [], _ => Int.le_refl _
 | x :: l, h => by
  have h1 := h.head
  have h2 := Int.mul_nonneg hb (zf hb h.tail)
  show 0 ≤ x + b * zU b l
  omega
theorem vH (b : Int) (l m : List Int) : zU b (l ++ m) = zU b l + b ^ l.length * zU b m := by
 induction l with
 | nil => simp [zU]
 | cons x l ih =>
  show x + b * zU b (l ++ m) = x + b * zU b l + b ^ (l.length + 1) * zU b m
  grind
theorem xA (b : Int) (l : List Int) (x : Int) : zU b (l ++ [x]) = zU b l + b ^ l.length * x := by
 rw [vH]
 show _ + _ * (x + b * 0) = _
 simp
theorem Yi {b : Int} (hb : 0 < b) : ∀ {l : List Int}, Zp b l → zU b l < b ^ l.length
 | [], _ => by simp [zU]
 | x :: l, h => by
  have h1 := h.head
  have h2 := Yi hb h.tail
  show x + b * zU b l < b ^ (l.length + 1)
  rw [Int.pow_succ, Int.mul_comm _ b]
  have h3 : b * (zU b l + 1) ≤ b * b ^ l.length := Int.mul_le_mul_of_nonneg_left (by omega) (by omega)
  grind
theorem tK {l : List Int} {i : Nat} (h : i < l.length) : l.take (i + 1) = l.take i ++ [l.getD i 0] := by
 simp_all
theorem OZ (b : Int) {l : List Int} {i : Nat} (h : i < l.length) : zU b (l.take (i + 1)) = zU b (l.take i) + b ^ i * l.getD i 0 := by
 rw [tK h, xA, List.length_take, Nat.min_eq_left (by omega)]
theorem Zt (b : Int) (l : List Int) (i : Nat) : zU b (l.take (i + 1)) = zU b (l.take i) + b ^ i * l.getD i 0 := by
 by_cases h : i < l.length
 ·exact OZ b h
 ·rw [List.take_of_length_le (by omega), List.take_of_length_le (by omega), List.getD_eq_getElem?_getD, List.getElem?_eq_none (by omega)]
  simp
theorem w6 (b : Int) : ∀ {l : List Int} {i : Nat} (x : Int), i < l.length → zU b (l.set i x) = zU b l + b ^ i * (x - l.getD i 0)
 | [], i, x, h => by cases h
 | y :: l, 0, x, h => by
  show x + b * zU b l = y + b * zU b l + b ^ 0 * (x - y)
  grind
 | y :: l, i + 1, x, h => by
  show y + b * zU b (l.set i x) = y + b * zU b l + b ^ (i + 1) * (x - l.getD i 0)
  rw [w6 b x (by simpa using h), Int.mul_add, Int.pow_succ, Int.mul_comm _ b, Int.mul_assoc]
  omega
theorem wT (b : Int) : ∀ n : Nat, zU b (List.replicate n 0) = 0
 | 0 => rfl
 | n + 1 => by rw [List.replicate_succ]; show 0 + b * zU b _ = 0; rw [wT b n]; simp
theorem Zp.zeros {b : Int} (hb : 0 < b) (n : Nat) : Zp b (List.replicate n 0) := fun x hx => by rw [List.eq_of_mem_replicate hx]; exact ⟨Int.le_refl _, hb⟩
theorem yo {b : Nat} (hb : 2 ≤ b) (n : Nat) : zU b (zT b n) = (n : Int) := by
 induction n using Nat.strongRecOn with
 | _ n ih =>
  by_cases h : n = 0
  ·subst h; rw [Z2]; rfl
  ·rw [xa hb h]
   show ((n % b : Nat) : Int) + (b : Int) * zU b (zT b (n / b)) = n
   rw [ih (n / b) (Nat.div_lt_self (by omega) (by omega))]
   exact_mod_cast Nat.mod_add_div n b
theorem YB {b : Nat} (hb : 2 ≤ b) (n : Nat) : Zp b (zT b n) := by
 induction n using Nat.strongRecOn with
 | _ n ih =>
  by_cases h : n = 0
  ·subst h; rw [Z2]; exact .nil _
  ·rw [xa hb h]
   intro x hx
   rcases List.mem_cons.1 hx with rfl | hx
   ·have := Nat.mod_lt n (y := b) (by omega)
    omega
   ·exact ih (n / b) (Nat.div_lt_self (by omega) (by omega)) x hx
theorem tz {b : Nat} (hb : 2 ≤ b) (n : Nat) : zh (zT b n) = zT b n := by
 induction n using Nat.strongRecOn with
 | _ n ih =>
  by_cases h : n = 0
  ·subst h; rw [Z2]; rfl
  ·rw [xa hb h]
   unfold zh
   rw [ih (n / b) (Nat.div_lt_self (by omega) (by omega)), if_neg]
   rintro ⟨h1, h2⟩
   have h3 := yo hb (n / b)
   rw [h1] at h3
   have h3 : (0 : Int) = ((n / b : Nat) : Int) := h3
   have h4 := Nat.mod_add_div n b
   grind
theorem Y1 {b : Nat} (hb : 2 ≤ b) : ∀ {l : List Int}, Zp b l → zh l = zT b (zU b l).toNat
 | [], _ => by
  show [] = zT b 0
  rw [Z2]
 | x :: l, h => by
  have ih := Y1 hb h.tail
  have h0 := zf (b := (b : Int)) (by omega) h.tail
  have hx := h.head
  obtain ⟨m, hm⟩ : ∃ m : Nat, zU b l = m := ⟨(zU b l).toNat, by omega⟩
  obtain ⟨y, rfl⟩ : ∃ y : Nat, x = y := ⟨x.toNat, by omega⟩
  have e : (zU b ((y : Int) :: l)).toNat = y + b * m := by
   show ((y : Int) + (b : Int) * zU b l).toNat = _
   grind
  rw [hm, Int.toNat_natCast] at ih
  rw [e]
  have hy : y < b := by omega
  by_cases hz : y + b * m = 0
  ·rw [hz, Z2]
   have hy0 : y = 0 := by omega
   have hm0 : b * m = 0 := by omega
   have hm1 : m = 0 := by
    rcases Nat.mul_eq_zero.1 hm0 with h | h
    all_goals omega
   unfold zh
   rw [if_pos ⟨by rw [ih, hm1, Z2], by omega⟩]
  ·rw [xa hb hz, Nat.add_mul_mod_self_left, Nat.mod_eq_of_lt hy, Nat.add_mul_div_left _ _ (by omega), Nat.div_eq_of_lt hy, Nat.zero_add, ← ih]
   show (if zh l = [] ∧ (y : Int) = 0 then [] else (y : Int) :: zh l) = _
   rw [if_neg]
   rintro ⟨h1, h2⟩
   rw [ih] at h1
   have h3 := yo hb m
   rw [h1] at h3
   have h3 : (0 : Int) = (m : Int) := h3
   grind
theorem X3 {b : Nat} (hb : 2 ≤ b) {l : List Int} (h : Zp b l) (ht : zh l = l) : l = zT b (zU b l).toNat := by rw [← Y1 hb h, ht]
theorem WC : ∀ {l : List Int} {z : Nat}, z ≤ l.length → (∀ i, z ≤ i → l.getD i 0 = 0) → (z = 0 ∨ l.getD (z - 1) 0 ≠ 0) → zh l = l.take z
 | [], z, h, _, _ => by simp [zh]
 | x :: l, 0, _, h1, _ => by
  have h2 : zh l = l.take 0 := WC (Nat.zero_le _) (fun i _ => h1 (i + 1) (by omega)) (.inl rfl)
  unfold zh
  rw [if_pos ⟨h2, h1 0 (Nat.le_refl _)⟩]; rfl
 | x :: l, z + 1, h0, h1, h2 => by
  have h2 : (x :: l).getD z 0 ≠ 0 := h2.elim (fun h => absurd h (Nat.succ_ne_zero z)) fun h => h
  have h0 : z ≤ l.length := by simpa using h0
  have h3 : zh l = l.take z := by
   refine WC h0 (fun i hi => h1 (i + 1) (by omega)) ?_
   grind
  unfold zh
  rw [h3, if_neg]
  ·rfl
  ·rintro ⟨h4, h5⟩
   match z, h2, h4 with
   | 0, h2, _ => exact h2 h5
   | z + 1, h2, h4 =>
    simp_all
theorem sT {l : List Int} (h : zh l = l) : l.length = 0 ∨ l.getD (l.length - 1) 0 ≠ 0 := by
 induction l with
 | nil => simp
 | cons x l ih =>
  refine .inr ?_
  unfold zh at h
  grind
theorem vT {b : Nat} (hb : 2 ≤ b) {n : Nat} (h : n ≠ 0) : 0 < (zT b n).length ∧ (zT b n).getD ((zT b n).length - 1) 0 ≠ 0 := by
 have h1 : 0 < (zT b n).length := by rw [xa hb h]; simp
 exact ⟨h1, (sT (tz hb n)).resolve_left (by omega)⟩
theorem Nm {b : Nat} (hb : 2 ≤ b) (n : Nat) : (n : Int) < (b : Int) ^ (zT b n).length := by
 have := Yi (b := (b : Int)) (by omega) (YB hb n)
 rwa [yo hb] at this
theorem RY {b : Nat} (hb : 2 ≤ b) {n : Nat} (h : n ≠ 0) : (b : Int) ^ ((zT b n).length - 1) ≤ (n : Int) := by
 obtain ⟨h1, h2⟩ := vT hb h
 have e := yo hb n
 have h3 := tK (l := zT b n) (i := (zT b n).length - 1) (by omega)
 rw [show (zT b n).length - 1 + 1 = (zT b n).length by omega, List.take_length] at h3
 have h4 := xA b ((zT b n).take ((zT b n).length - 1)) ((zT b n).getD ((zT b n).length - 1) 0)
 rw [← h3, e, List.length_take, Nat.min_eq_left (by omega)] at h4
 have h5 := zf (b := (b : Int)) (by omega) ((YB hb n).take ((zT b n).length - 1))
 have h6 := (YB hb n).get (by omega) ((zT b n).length - 1)
 have h7 : (b : Int) ^ ((zT b n).length - 1) * 1 ≤ (b : Int) ^ ((zT b n).length - 1) * (zT b n).getD ((zT b n).length - 1) 0 :=
  Int.mul_le_mul_of_nonneg_left (by omega) (Int.pow_nonneg (by omega))
 omega
theorem wx {b : Nat} (hb : 2 ≤ b) {m n : Nat} (h : (zT b m).length < (zT b n).length) : m < n := by
 have h0 : n ≠ 0 := fun e => by rw [e, Z2] at h; cases h
 have h1 := Nm hb m
 have h2 := RY hb h0
 have h3 : b ^ (zT b m).length ≤ b ^ ((zT b n).length - 1) := Nat.pow_le_pow_right (by omega) (by omega)
 grind
end Go.Ar

namespace Go.Ar
open Go Go.Sx Go.Lib
set_option maxRecDepth 100000
def X2 (s : zj) : Nat := match s with | 45 :: r => r.length | r => r.length
def ZQ (s : zj) : Int := bif ZY s then (bif Nat.blt 300 (X2 s) then 4 else 0) else 11
def zc (a b : zj) : Int := bif ZQ a != 0 then ZQ a else ZQ b
def Zl (n : Int) : Int := bif Nat.blt 300 (XZ n) then 4 else 0
def YK (n : Int) : zj := bif Zl n == 0 then itoa n else []
def Yc (f : Int → Int → Int) (a b : zj) : Int := bif zc a b != 0 then zc a b else Zl (f (zY a) (zY b))
def y6 (f : Int → Int → Int) (a b : zj) : zj := bif Yc f a b == 0 then itoa (f (zY a) (zY b)) else []
def xM (a b : Int) : Int := bif zG a b then -1 else bif a == b then 0 else 1
def yc (a b : zj) : Int := bif zc a b != 0 then 0 else xM (zY a) (zY b)
def Xy (a b : zj) : Int := bif zc a b != 0 then zc a b else bif b == [48] then 12 else 0
def Yw (a b : zj) : zj := bif Xy a b == 0 then itoa (Int.fdiv (zY a) (zY b)) else []
def VO (a b : zj) : zj := bif Xy a b == 0 then itoa (Int.fmod (zY a) (zY b)) else []
theorem yt {s : zj} : ZQ s = 0 ↔ ZY s = true ∧ X2 s ≤ 300 := by
 unfold ZQ
 cases h : ZY s with
 | false => simp
 | true =>
  cases h2 : Nat.blt 300 (X2 s) with
  | true => simp_all
  | false =>
   have : ¬ 300 < X2 s := fun e => by rw [(ZX _ _).2 e] at h2; cases h2
   simp; omega
theorem xZ {a b : zj} (h : zc a b = 0) : ZQ a = 0 ∧ ZQ b = 0 := by
 unfold zc at h
 grind
theorem wR {s : zj} (h : ZY s = true) : X2 s = XZ (zY s) := by
 rcases yI h with ⟨r, rfl, h1, h2, h3⟩ | ⟨h1, h2⟩
 ·rw [h3]
  unfold XZ
  rw [Int.natAbs_neg, Int.natAbs_natCast, ← rj h1]; rfl
 ·rw [h2]
  unfold XZ
  rw [Int.natAbs_natCast, ← rj h1]
  match s, h1 with
  | [], _ => rfl
  | c :: r, h1 =>
   by_cases hc : c = 45
   ·subst hc; exact (wo h1).elim
   ·unfold X2; split
    all_goals simp_all
theorem wM (s : zj) : X2 s ≤ s.length ∧ s.length ≤ X2 s + 1 := by
 unfold X2
 grind
theorem QQ {s : zj} (h : ZY s = true) {k : Nat} (hl : s.length ≤ k) : -(10 ^ k : Int) < zY s ∧ zY s < 10 ^ k := by
 have key : ∀ r : zj, Z8 r = true → r.length ≤ k → (zD r : Int) < 10 ^ k := fun r hr hl => by
  have h1 := We (List.all_eq_true.2 (ZS.1 hr).2.1)
  have h2 : 10 ^ r.length ≤ 10 ^ k := Nat.pow_le_pow_right (by decide) hl
  grind
 have hp : (0 : Int) < 10 ^ k := Int.pow_pos (by decide)
 rcases yI h with ⟨r, rfl, h1, h2, h3⟩ | ⟨h1, h2⟩
 all_goals grind
theorem xf {n : Int} {k : Nat} (hk : 0 < k) (h : n.natAbs < 10 ^ k) : XZ n ≤ k := (Zw hk).2 h
end Go.Ar

namespace Go.Ar
open Go Go.Sx Go.Lib
set_option maxRecDepth 100000
theorem Yj {b : Int} (hb : 0 < b) (n : Nat) : 0 < b ^ n := Int.pow_pos hb
theorem WH (b : Int) (n : Nat) : b ^ (n + 1) = b ^ n * b := Int.pow_succ b n
theorem jl {n b : Int} (h : 0 ≤ n) (hb : 0 < b) : n.tmod b + b * n.tdiv b = n ∧ 0 ≤ n.tmod b ∧ n.tmod b < b ∧ 0 ≤ n.tdiv b := by
 rw [Int.tmod_eq_emod_of_nonneg h, Int.tdiv_eq_ediv_of_nonneg h]
 exact ⟨Int.emod_add_mul_ediv n b, Int.emod_nonneg n (by omega), Int.emod_lt_of_pos n hb, Int.ediv_nonneg h (by omega)⟩
structure uQ (b : Int) (x y : List Int) (z : Nat) (out : List Int) (c : Int) : Prop where
 len : out.length = z
 in_ : Zp b out
 c0 : 0 ≤ c
 c1 : c ≤ 1
 val : zU b out + b ^ z * c = zU b (x.take z) + zU b (y.take z)
theorem uQ.zero (b : Int) (x y : List Int) : uQ b x y 0 [] 0 := ⟨rfl, .nil b, Int.le_refl _, by omega, by simp [zU]⟩
theorem uQ.step {b : Int} (hb : 2 ≤ b) {x y : List Int} (hx : Zp b x) (hy : Zp b y) {z : Nat} {out : List Int} {c : Int} (h : uQ b x y z out c) :
  uQ b x y (z + 1) (out ++ [(x.getD z 0 + y.getD z 0 + c).tmod b]) ((x.getD z 0 + y.getD z 0 + c).tdiv b) := by
 have x1 := hx.get (by omega) z
 have y1 := hy.get (by omega) z
 have h0 := h.c0
 have h1 := h.c1
 obtain ⟨e, m0, m1, d0⟩ := jl (n := x.getD z 0 + y.getD z 0 + c) (b := b) (by omega) (by omega)
 have hd : (x.getD z 0 + y.getD z 0 + c).tdiv b ≤ 1 := by
  refine Decidable.byContradiction fun hn => ?_
  have : b * 2 ≤ b * (x.getD z 0 + y.getD z 0 + c).tdiv b := Int.mul_le_mul_of_nonneg_left (by omega) (by omega)
  omega
 refine ⟨by simp [h.len], h.in_.snoc m0 m1, d0, hd, ?_⟩
 rw [xA, h.len, Zt, Zt]
 have hv := h.val
 grind
theorem Y2 {x : List Int} {n : Nat} (h : x.length ≤ n) : x.take n = x := List.take_of_length_le h
theorem uQ.end_ {b : Nat} (hb : 2 ≤ b) {x y : List Int} (hx : Zp b x) (hy : Zp b y) {z : Nat} {out : List Int} {c : Int} (h : uQ b x y z out c) (h1 : x.length < z) (h2 : y.length < z) :
  zh out = zT b (zU b x + zU b y).toNat := by
 have hv := h.val
 rw [Y2 (by omega), Y2 (by omega)] at hv
 have x1 := Yi (b := (b : Int)) (by omega) hx
 have y1 := Yi (b := (b : Int)) (by omega) hy
 have hp : ∀ n, n < z → (b : Int) ^ n * 2 ≤ (b : Int) ^ z := fun n hn => by
  have p1 : b ^ n * 2 ≤ b ^ n * b := Nat.mul_le_mul_left _ hb
  have p2 : b ^ (n + 1) ≤ b ^ z := Nat.pow_le_pow_right (by omega) (by omega)
  grind
 have p1 := hp _ h1
 have p2 := hp _ h2
 have o0 := zf (b := (b : Int)) (by omega) h.in_
 have hc : c = 0 := by
  refine Decidable.byContradiction fun hn => ?_
  have : c = 1 := by have := h.c0; have := h.c1; omega
  grind
 rw [hc, Int.mul_zero, Int.add_zero] at hv
 rw [Y1 hb h.in_, hv]
structure Vp (b : Int) (x y : List Int) (z : Nat) (out : List Int) (c : Int) : Prop where
 len : out.length = z
 in_ : Zp b out
 c0 : 0 ≤ c
 c1 : c ≤ 1
 val : zU b out - b ^ z * c = zU b (x.take z) - zU b (y.take z)
theorem Vp.zero (b : Int) (x y : List Int) : Vp b x y 0 [] 0 := ⟨rfl, .nil b, Int.le_refl _, by omega, by simp [zU]⟩
theorem Vp.step {b : Int} (hb : 2 ≤ b) {x y : List Int} (hx : Zp b x) (hy : Zp b y) {z : Nat} {out : List Int} {c : Int} (h : Vp b x y z out c) :
  (0 ≤ x.getD z 0 - y.getD z 0 - c → Vp b x y (z + 1) (out ++ [x.getD z 0 - y.getD z 0 - c]) 0) ∧
  (x.getD z 0 - y.getD z 0 - c < 0 → Vp b x y (z + 1) (out ++ [x.getD z 0 - y.getD z 0 - c + b]) 1) := by
 have x1 := hx.get (by omega) z
 have y1 := hy.get (by omega) z
 have h0 := h.c0
 have h1 := h.c1
 have hv := h.val
 refine ⟨fun hn => ⟨by simp [h.len], h.in_.snoc hn (by omega), Int.le_refl _, by omega, ?_⟩, fun hn => ⟨by simp [h.len], h.in_.snoc (by omega) (by omega), by omega, Int.le_refl _, ?_⟩⟩
 ·rw [xA, h.len, Zt, Zt, Int.mul_sub, Int.mul_sub]
  omega
 ·rw [xA, h.len, Zt, Zt, Int.mul_add, Int.mul_sub, Int.mul_sub, WH]
  omega
theorem Vp.end_ {b : Nat} (hb : 2 ≤ b) {x y : List Int} {z : Nat} {out : List Int} {c : Int} (h : Vp b x y z out c) (h1 : x.length ≤ z) (h2 : y.length ≤ z) (hle : zU b y ≤ zU b x) :
  zh out = zT b (zU b x - zU b y).toNat := by
 have hv := h.val
 rw [Y2 (by omega), Y2 (by omega)] at hv
 have o1 := Yi (b := (b : Int)) (by omega) h.in_
 rw [h.len] at o1
 have hc : c = 0 := by
  refine Decidable.byContradiction fun hn => ?_
  have : c = 1 := by have := h.c0; have := h.c1; omega
  grind
 rw [hc, Int.mul_zero, Int.sub_zero] at hv
 rw [Y1 hb h.in_, hv]
def VM (x y : List Int) : Nat → Int
 | 0 => 0
 | n + 1 => bif x.getD n 0 != y.getD n 0 then x.getD n 0 - y.getD n 0 else VM x y n
def cmpL (x y : List Int) : Int := bif Nat.beq x.length y.length then VM x y x.length else (x.length : Int) - (y.length : Int)
theorem TB {b : Int} (hb : 2 ≤ b) {x y : List Int} (hx : Zp b x) (hy : Zp b y) : ∀ n, (VM x y n < 0 ↔ zU b (x.take n) < zU b (y.take n)) ∧ (VM x y n = 0 ↔ zU b (x.take n) = zU b (y.take n))
 | 0 => by simp [VM]
 | n + 1 => by
  have ih := TB hb hx hy n
  have x1 := hx.get (by omega) n
  have y1 := hy.get (by omega) n
  have v1 := zf (b := b) (by omega) (hx.take n)
  have v2 := zf (b := b) (by omega) (hy.take n)
  have w1 := Yi (b := b) (by omega) (hx.take n)
  have w2 := Yi (b := b) (by omega) (hy.take n)
  have l1 : b ^ (x.take n).length ≤ b ^ n := by
   obtain ⟨m, rfl⟩ : ∃ m : Nat, b = m := ⟨b.toNat, by omega⟩
   have : m ^ (x.take n).length ≤ m ^ n := Nat.pow_le_pow_right (by omega) (by simp; omega)
   grind
  have l2 : b ^ (y.take n).length ≤ b ^ n := by
   obtain ⟨m, rfl⟩ : ∃ m : Nat, b = m := ⟨b.toNat, by omega⟩
   have : m ^ (y.take n).length ≤ m ^ n := Nat.pow_le_pow_right (by omega) (by simp; omega)
   grind
  rw [Zt, Zt]
  unfold VM
  generalize x.getD n 0 = p at *
  generalize y.getD n 0 = q at *
  by_cases e : p = q
  ·simp_all
  ·rw [bne_iff_ne.2 e]
   simp only [cond_true]
   rcases Int.lt_or_lt_of_ne e with h | h
   ·have : b ^ n * (p + 1) ≤ b ^ n * q := Int.mul_le_mul_of_nonneg_left (by omega) (Int.le_of_lt (Yj (by omega) n))
    grind
   ·have : b ^ n * (q + 1) ≤ b ^ n * p := Int.mul_le_mul_of_nonneg_left (by omega) (Int.le_of_lt (Yj (by omega) n))
    grind
theorem oa {b : Nat} (hb : 2 ≤ b) (m n : Nat) : (cmpL (zT b m) (zT b n) < 0 ↔ m < n) ∧ (cmpL (zT b m) (zT b n) = 0 ↔ m = n) := by
 unfold cmpL
 by_cases h : (zT b m).length = (zT b n).length
 ·have h1 := TB (b := (b : Int)) (by omega) (YB hb m) (YB hb n) (zT b m).length
  rw [List.take_length, h, List.take_length, yo hb, yo hb] at h1
  rw [h, Nat.beq_refl]
  grind
 ·rw [show Nat.beq (zT b m).length (zT b n).length = false from Bool.eq_false_iff.2 fun e => h (Nat.eq_of_beq_eq_true e)]
  simp only [cond_false]
  rcases Nat.lt_or_gt_of_ne h with h1 | h1
  ·have := wx hb h1; omega
  ·have := wx hb h1; omega
structure wE (b : Int) (x y : List Int) (z : Nat) (out : List Int) : Prop where
 len : out.length = x.length + y.length + 1
 in_ : Zp b out
 zero : ∀ i, z + y.length ≤ i → out.getD i 0 = 0
 val : zU b out = zU b (x.take z) * zU b y
structure MulK (b : Int) (x y : List Int) (z k : Nat) (out : List Int) (c : Int) : Prop where
 len : out.length = x.length + y.length + 1
 in_ : Zp b out
 zero : ∀ i, z + y.length ≤ i → z + k ≤ i → out.getD i 0 = 0
 c0 : 0 ≤ c
 c1 : c < b
 val : zU b out + b ^ (z + k) * c = zU b (x.take z) * zU b y + b ^ z * (x.getD z 0 * zU b (y.take k))
theorem xN (b : Int) : zU b [] = 0 := rfl
theorem vh (n i : Nat) : (List.replicate n (0 : Int)).getD i 0 = 0 := by
 grind
theorem wE.zero_ {b : Int} (hb : 0 < b) (x y : List Int) : wE b x y 0 (List.replicate (x.length + y.length + 1) 0) := by
 refine ⟨by simp, .zeros hb _, fun i _ => vh _ _, ?_⟩
 rw [wT, List.take_zero, xN, Int.zero_mul]
theorem wE.start {b : Int} {x y : List Int} {z : Nat} {out : List Int} (hb : 0 < b) (h : wE b x y z out) : MulK b x y z 0 out 0 :=
 ⟨h.len, h.in_, fun i hi _ => h.zero i hi, Int.le_refl _, hb, by rw [List.take_zero, xN, h.val]; simp⟩
theorem Yn (l : List Int) (i j : Nat) (v : Int) (hj : j < l.length) : (l.set j v).getD i 0 = if i = j then v else l.getD i 0 := by
 grind
theorem MulK.step {b : Int} (hb : 2 ≤ b) {x y : List Int} (hx : Zp b x) (hy : Zp b y) {z k : Nat} (hz : z < x.length) (hk : k ≤ y.length) {out : List Int} {c : Int} (h : MulK b x y z k out c) :
  (0 ≤ out.getD (z + k) 0 + x.getD z 0 * y.getD k 0 + c ∧ out.getD (z + k) 0 + x.getD z 0 * y.getD k 0 + c < b * b) ∧
  MulK b x y z (k + 1) (out.set (z + k) ((out.getD (z + k) 0 + x.getD z 0 * y.getD k 0 + c).tmod b)) ((out.getD (z + k) 0 + x.getD z 0 * y.getD k 0 + c).tdiv b) := by
 have x1 := hx.get (by omega) z
 have y1 := hy.get (by omega) k
 have o1 := h.in_.get (by omega) (z + k)
 have h0 := h.c0
 have h1 := h.c1
 have p0 : 0 ≤ x.getD z 0 * y.getD k 0 := Int.mul_nonneg x1.1 y1.1
 have p1 : x.getD z 0 * y.getD k 0 ≤ (b - 1) * (b - 1) := Int.mul_le_mul (by omega) (by omega) y1.1 (by omega)
 have p2 : (b - 1) * (b - 1) = b * b - 2 * b + 1 := by rw [Int.sub_mul, Int.mul_sub]; omega
 have hn0 : 0 ≤ out.getD (z + k) 0 + x.getD z 0 * y.getD k 0 + c := by omega
 have hn1 : out.getD (z + k) 0 + x.getD z 0 * y.getD k 0 + c < b * b := by omega
 obtain ⟨e, m0, m1, d0⟩ := jl (b := b) hn0 (by omega)
 have hd : (out.getD (z + k) 0 + x.getD z 0 * y.getD k 0 + c).tdiv b < b := by
  refine Decidable.byContradiction fun hn => ?_
  have : b * b ≤ b * (out.getD (z + k) 0 + x.getD z 0 * y.getD k 0 + c).tdiv b := Int.mul_le_mul_of_nonneg_left (by omega) (by omega)
  omega
 have hlen : z + k < out.length := by rw [h.len]; omega
 refine ⟨⟨hn0, hn1⟩, by rw [List.length_set]; exact h.len, h.in_.set m0 m1 _, fun i hi hi2 => ?_, d0, hd, ?_⟩
 ·rw [Yn _ _ _ _ hlen, if_neg (by omega)]
  exact h.zero i hi (by omega)
 ·rw [w6 b _ hlen, Zt]
  have hv := h.val
  grind
theorem MulK.end_ {b : Int} (hb : 2 ≤ b) {x y : List Int} (hx : Zp b x) (hy : Zp b y) {z : Nat} (hz : z < x.length) {out : List Int} {c : Int} (h : MulK b x y z (y.length + 1) out c) (hc : c = 0) : wE b x y (z + 1) out := by
 subst hc
 refine ⟨h.len, h.in_, fun i hi => h.zero i (by omega) (by omega), ?_⟩
 have hv := h.val
 rw [Int.mul_zero, Int.add_zero, Y2 (x := y) (by omega)] at hv
 rw [hv, Zt b x, Int.add_mul, Int.mul_assoc]
theorem MulK.last {b : Int} (hb : 2 ≤ b) {x y : List Int} {z : Nat} {out : List Int} {c : Int} (h : MulK b x y z y.length out c) : (out.getD (z + y.length) 0 + x.getD z 0 * y.getD y.length 0 + c).tdiv b = 0 := by
 have e : y.getD y.length 0 = 0 := by rw [List.getD_eq_getElem?_getD, List.getElem?_eq_none (Nat.le_refl _)]; rfl
 rw [h.zero _ (Nat.le_refl _) (Nat.le_refl _), e]
 rw [Int.mul_zero, Int.add_zero, Int.zero_add]
 exact Int.tdiv_eq_zero_of_lt h.c0 h.c1
theorem wE.end_ {b : Nat} (hb : 2 ≤ b) {x y : List Int} {out : List Int} (h : wE b x y x.length out) : zh out = zT b (zU b x * zU b y).toNat := by
 have hv := h.val
 rw [List.take_length] at hv
 rw [Y1 hb h.in_, hv]
end Go.Ar

namespace Go.Ar
open Go Go.Sx Go.Lib
set_option maxRecDepth 100000
theorem Tq {l : List Int} {z : Nat} (h : z < l.length) : l.drop z = l.getD z 0 :: l.drop (z + 1) := by
 simp_all
theorem x8 (b : Int) {l : List Int} {z : Nat} (h : z < l.length) : zU b (l.drop z) = l.getD z 0 + b * zU b (l.drop (z + 1)) := by rw [Tq h]; rfl
theorem XQ (b : Int) (l : List Int) {z : Nat} (h : z ≤ l.length) : zU b l = zU b (l.take z) + b ^ z * zU b (l.drop z) := by
 conv => lhs; rw [← List.take_append_drop z l]
 rw [vH, List.length_take, Nat.min_eq_left h]
theorem RU (l : List Int) (z : Nat) (v : Int) (h : z < l.length) : (l.set z v).drop z = v :: l.drop (z + 1) := by
 rw [Tq (by simpa using h), Yn _ _ _ _ h, if_pos rfl, List.drop_set]
 simp
structure OJ (b d : Int) (a : List Int) (z : Nat) (q : List Int) (r : Int) : Prop where
 len : q.length = a.length
 le : z ≤ a.length
 in_ : Zp b q
 r0 : 0 ≤ r
 r1 : r < d
 val : zU b (a.drop z) = d * zU b (q.drop z) + r
theorem OJ.start {b d : Int} (hb : 0 < b) (hd : 0 < d) (a : List Int) : OJ b d a a.length (List.replicate a.length 0) 0 :=
 ⟨by simp, Nat.le_refl _, .zeros hb _, Int.le_refl _, hd, by rw [List.drop_of_length_le (Nat.le_refl _), List.drop_of_length_le (by simp)]; simp [zU]⟩
theorem OJ.step {b d : Int} (hb : 0 < b) {a : List Int} (ha : Zp b a) {z : Nat} {q : List Int} {r : Int} (h : OJ b d a (z + 1) q r) :
  (0 ≤ a.getD z 0 + r * b ∧ a.getD z 0 + r * b < d * b) ∧ OJ b d a z (q.set z ((a.getD z 0 + r * b).tdiv d)) ((a.getD z 0 + r * b).tmod d) := by
 have a1 := ha.get hb z
 have h0 := h.r0
 have h1 := h.r1
 have hz := h.le
 have p0 : 0 ≤ r * b := Int.mul_nonneg h0 (by omega)
 have p1 : (r + 1) * b ≤ d * b := Int.mul_le_mul_of_nonneg_right (by omega) (by omega)
 rw [Int.add_mul, Int.one_mul] at p1
 have n0 : 0 ≤ a.getD z 0 + r * b := by omega
 have n1 : a.getD z 0 + r * b < d * b := by omega
 obtain ⟨e, m0, m1, d0⟩ := jl n0 (b := d) (by omega)
 have hq : (a.getD z 0 + r * b).tdiv d < b := by
  refine Decidable.byContradiction fun hn => ?_
  have : d * b ≤ d * (a.getD z 0 + r * b).tdiv d := Int.mul_le_mul_of_nonneg_left (by omega) (by omega)
  omega
 refine ⟨⟨n0, n1⟩, by rw [List.length_set]; exact h.len, by omega, h.in_.set d0 hq _, m0, m1, ?_⟩
 rw [RU _ _ _ (by rw [h.len]; omega), x8 b (by omega), h.val]
 show _ = d * (_ + b * _) + _
 grind
theorem OJ.end_ {b : Nat} (hb : 2 ≤ b) {d : Nat} (hd : 0 < d) (hdb : d ≤ b) {a : List Int} {q : List Int} {r : Int} (h : OJ b d a 0 q r) (n : Nat) (hn : zU b a = n) :
  zh q = zT b (n / d) ∧ r = (n % d : Nat) ∧ zh [r] = zT b (n % d) := by
 have hv := h.val
 rw [List.drop_zero, List.drop_zero, hn] at hv
 have q0 := zf (b := (b : Int)) (by omega) h.in_
 have h0 := h.r0
 have h1 := h.r1
 obtain ⟨Q, hQ⟩ : ∃ Q : Nat, zU b q = Q := ⟨(zU b q).toNat, by omega⟩
 obtain ⟨R, rfl⟩ : ∃ R : Nat, r = R := ⟨r.toNat, by omega⟩
 rw [hQ] at hv
 have hv : n = d * Q + R := by exact_mod_cast hv
 have hR : R < d := by omega
 have e1 : n / d = Q := by rw [hv, Nat.mul_add_div hd, Nat.div_eq_of_lt hR, Nat.add_zero]
 have e2 : n % d = R := by rw [hv, Nat.mul_add_mod, Nat.mod_eq_of_lt hR]
 refine ⟨?_, by rw [e2], ?_⟩
 ·rw [Y1 hb h.in_, hQ, e1, Int.toNat_natCast]
 ·rw [Y1 hb (.one (by omega) (by omega)), e2]
  rfl
def Out (j n : Nat) (u w : List Int) : Prop := ∀ i, i < j ∨ n ≤ i → w.getD i 0 = u.getD i 0
structure Wr (b : Int) (u v : List Int) (j : Nat) (q : Int) (i : Nat) (w : List Int) (c : Int) : Prop where
 len : w.length = u.length
 in_ : Zp b w
 out : Out j (j + i) u w
 c0 : 0 ≤ c
 c1 : c ≤ q + 1
 val : zU b w - b ^ (j + i) * c = zU b u - b ^ j * (q * zU b (v.take i))
theorem Wr.start {b : Int} {u v : List Int} {j : Nat} {q : Int} (hu : Zp b u) (hq : 0 ≤ q) : Wr b u v j q 0 u 0 :=
 ⟨rfl, hu, fun _ _ => rfl, Int.le_refl _, by omega, by rw [List.take_zero, xN]; simp⟩
def Xx (b n : Int) : Int := bif zG n 0 then (-n + b - 1).tdiv b else 0
theorem OO {b n : Int} (hb : 2 ≤ b) : 0 ≤ Xx b n ∧ 0 ≤ n + Xx b n * b ∧ (n < b → n + Xx b n * b < b) ∧ ∀ q, -(q * b) ≤ n → 0 ≤ q → Xx b n ≤ q := by
 unfold Xx
 cases h : zG n 0 with
 | true =>
  have h := (zp _ _).1 h
  simp only [cond_true]
  obtain ⟨e, m0, m1, d0⟩ := jl (n := -n + b - 1) (b := b) (by omega) (by omega)
  rw [Int.mul_comm] at e
  refine ⟨d0, by omega, fun _ => by omega, fun q hq hq0 => ?_⟩
  refine Decidable.byContradiction fun hn => ?_
  have : (q + 1) * b ≤ (-n + b - 1).tdiv b * b := Int.mul_le_mul_of_nonneg_right (by omega) (by omega)
  grind
 | false =>
  have h : ¬ n < 0 := fun e => by rw [(zp _ _).2 e] at h; cases h
  simp_all
theorem Wr.step {b : Int} (hb : 2 ≤ b) {u v : List Int} (hv : Zp b v) {j : Nat} {q : Int} (hq : 0 ≤ q) {i : Nat} (hj : j + i < u.length) {w : List Int} {c : Int} (h : Wr b u v j q i w c) :
  (-((q + 1) * b) ≤ w.getD (j + i) 0 - c - q * v.getD i 0 ∧ w.getD (j + i) 0 - c - q * v.getD i 0 < b) ∧
  Wr b u v j q (i + 1) (w.set (j + i) (w.getD (j + i) 0 - c - q * v.getD i 0 + Xx b (w.getD (j + i) 0 - c - q * v.getD i 0) * b)) (Xx b (w.getD (j + i) 0 - c - q * v.getD i 0)) := by
 have v1 := hv.get (by omega) i
 have w1 := h.in_.get (by omega) (j + i)
 have h0 := h.c0
 have h1 := h.c1
 have p0 : 0 ≤ q * v.getD i 0 := Int.mul_nonneg hq v1.1
 have p1 : q * v.getD i 0 ≤ q * (b - 1) := Int.mul_le_mul_of_nonneg_left (by omega) hq
 rw [Int.mul_sub, Int.mul_one] at p1
 have n1 : -((q + 1) * b) ≤ w.getD (j + i) 0 - c - q * v.getD i 0 := by rw [Int.add_mul, Int.one_mul]; omega
 have n2 : w.getD (j + i) 0 - c - q * v.getD i 0 < b := by omega
 have hl : j + i < w.length := by rw [h.len]; exact hj
 have hval := h.val
 refine ⟨⟨n1, n2⟩, ?_⟩
 obtain ⟨k0, k1, k2, k3⟩ := OO (b := b) (n := w.getD (j + i) 0 - c - q * v.getD i 0) hb
 refine ⟨by rw [List.length_set]; exact h.len, h.in_.set k1 (k2 n2) _, fun x hx => ?_, k0, k3 _ n1 (by omega), ?_⟩
 ·rw [Yn _ _ _ _ hl, if_neg (by omega)]
  exact h.out x (by omega)
 ·rw [w6 b _ hl, Zt]
  grind
structure Vm (b : Int) (u v : List Int) (j : Nat) (q : Int) (i : Nat) (w : List Int) (c : Int) : Prop where
 len : w.length = u.length
 in_ : Zp b w
 out : Out j (j + i) u w
 c0 : 0 ≤ c
 c1 : c ≤ q
 val : zU b w + b ^ (j + i) * c = zU b u + b ^ j * (q * zU b (v.take i))
theorem Vm.start {b : Int} {u v : List Int} {j : Nat} {q : Int} (hu : Zp b u) (hq : 0 ≤ q) : Vm b u v j q 0 u 0 :=
 ⟨rfl, hu, fun _ _ => rfl, Int.le_refl _, hq, by rw [List.take_zero, xN]; simp⟩
theorem Vm.step {b : Int} (hb : 2 ≤ b) {u v : List Int} (hv : Zp b v) {j : Nat} {q : Int} (hq : 0 ≤ q) {i : Nat} (hj : j + i < u.length) {w : List Int} {c : Int} (h : Vm b u v j q i w c) :
  (0 ≤ w.getD (j + i) 0 + q * v.getD i 0 + c ∧ w.getD (j + i) 0 + q * v.getD i 0 + c < (q + 1) * b) ∧
  Vm b u v j q (i + 1) (w.set (j + i) ((w.getD (j + i) 0 + q * v.getD i 0 + c).tmod b)) ((w.getD (j + i) 0 + q * v.getD i 0 + c).tdiv b) := by
 have v1 := hv.get (by omega) i
 have w1 := h.in_.get (by omega) (j + i)
 have h0 := h.c0
 have h1 := h.c1
 have p0 : 0 ≤ q * v.getD i 0 := Int.mul_nonneg hq v1.1
 have p1 : q * v.getD i 0 ≤ q * (b - 1) := Int.mul_le_mul_of_nonneg_left (by omega) hq
 rw [Int.mul_sub, Int.mul_one] at p1
 have n1 : 0 ≤ w.getD (j + i) 0 + q * v.getD i 0 + c := by omega
 have n2 : w.getD (j + i) 0 + q * v.getD i 0 + c < (q + 1) * b := by rw [Int.add_mul, Int.one_mul]; omega
 have hl : j + i < w.length := by rw [h.len]; exact hj
 have hval := h.val
 refine ⟨⟨n1, n2⟩, ?_⟩
 obtain ⟨e, m0, m1, d0⟩ := jl n1 (b := b) (by omega)
 have hd : (w.getD (j + i) 0 + q * v.getD i 0 + c).tdiv b ≤ q := by
  refine Decidable.byContradiction fun hn => ?_
  have : b * (q + 1) ≤ b * (w.getD (j + i) 0 + q * v.getD i 0 + c).tdiv b := Int.mul_le_mul_of_nonneg_left (by omega) (by omega)
  grind
 refine ⟨by rw [List.length_set]; exact h.len, h.in_.set m0 m1 _, fun x hx => ?_, d0, hd, ?_⟩
 ·rw [Yn _ _ _ _ hl, if_neg (by omega)]
  exact h.out x (by omega)
 ·rw [w6 b _ hl, Zt]
  grind
theorem Zp.ext {b : Int} (hb : 0 < b) : ∀ {l m : List Int}, Zp b l → Zp b m → l.length = m.length → zU b l = zU b m → l = m
 | [], [], _, _, _, _ => rfl
 | [], _ :: _, _, _, h, _ => by cases h
 | _ :: _, [], _, _, h, _ => by cases h
 | x :: l, y :: m, hl, hm, h, hv => by
  have hx := hl.head
  have hy := hm.head
  have hv : x + b * zU b l = y + b * zU b m := hv
  have e1 : x = (x + b * zU b l) % b := by rw [Int.add_mul_emod_self_left, Int.emod_eq_of_lt hx.1 hx.2]
  have e2 : y = (y + b * zU b m) % b := by rw [Int.add_mul_emod_self_left, Int.emod_eq_of_lt hy.1 hy.2]
  have e3 : x = y := by rw [e1, e2, hv]
  subst e3
  have e4 : b * zU b l = b * zU b m := by omega
  rw [Zp.ext hb hl.tail hm.tail (by simpa using h) (Int.eq_of_mul_eq_mul_left (by omega) e4)]
theorem mW {b : Int} {u : List Int} {j n : Nat} (h : ∀ i, n ≤ i → u.getD i 0 = 0) (hj : j ≤ n) : zU b (u.drop j) = zU b ((u.take n).drop j) := by
 have e : ∀ {l : List Int}, (∀ i, l.getD i 0 = 0) → zU b l = 0 := by
  intro l
  induction l with
  | nil => intro _; rfl
  | cons x l ih =>
   intro hl
   have h0 : x = 0 := hl 0
   show x + b * zU b l = 0
   rw [h0, ih fun i => hl (i + 1)]; simp
 by_cases hn : n ≤ u.length
 ·have e1 : u.drop j = (u.take n).drop j ++ u.drop n := by
   conv => lhs; rw [← List.take_append_drop n u]
   grind
  rw [e1, vH, e (l := u.drop n), Int.mul_zero, Int.add_zero]
  simp_all
 ·rw [List.take_of_length_le (by omega)]
end Go.Ar

namespace Go.Ar
open Go Go.Sx Go.Lib
set_option maxRecDepth 100000
theorem yK (l : List Int) (j i : Nat) : (l.drop j).getD i 0 = l.getD (j + i) 0 := by
 simp
theorem XA {b : Int} {l : List Int} {n : Nat} (h : ∀ i, n ≤ i → l.getD i 0 = 0) : zU b l = zU b (l.take n) := by
 have := mW (b := b) (j := 0) h (Nat.zero_le _)
 assumption
theorem xT {b : Int} (hb : 0 < b) {l : List Int} (h : Zp b l) (n : Nat) : 0 ≤ zU b (l.take n) ∧ zU b (l.take n) < b ^ n := by
 refine ⟨zf (Int.le_of_lt hb) (h.take n), ?_⟩
 have h1 := Yi hb (h.take n)
 have h2 : b ^ (l.take n).length ≤ b ^ n := by
  obtain ⟨m, rfl⟩ : ∃ m : Nat, b = m := ⟨b.toNat, by omega⟩
  have : m ^ (l.take n).length ≤ m ^ n := Nat.pow_le_pow_right (by omega) (by simp; omega)
  grind
 omega
theorem TT {b : Int} (hb : 0 < b) {l : List Int} (h : Zp b l) {n : Nat} (hv : zU b l < b ^ n) {i : Nat} (hi : n ≤ i) : l.getD i 0 = 0 := by
 by_cases hl : i < l.length
 ·have e := XQ b l (z := i) (by omega)
  rw [x8 b hl] at e
  have h1 := (h.get hb i).1
  have h2 := (xT hb h i).1
  have h3 := zf (Int.le_of_lt hb) (h.drop (i + 1))
  refine Decidable.byContradiction fun hn => ?_
  have h4 : b ^ i * 1 ≤ b ^ i * (l.getD i 0 + b * zU b (l.drop (i + 1))) := by
   refine Int.mul_le_mul_of_nonneg_left ?_ (Int.le_of_lt (Yj hb i))
   have := Int.mul_nonneg (Int.le_of_lt hb) h3
   omega
  have h5 : b ^ n ≤ b ^ i := by
   obtain ⟨m, rfl⟩ : ∃ m : Nat, b = m := ⟨b.toNat, by omega⟩
   have : m ^ n ≤ m ^ i := Nat.pow_le_pow_right (by omega) hi
   grind
  omega
 simp_all
theorem H6 {b : Int} (hb : 0 < b) {l : List Int} (h : Zp b l) {k : Nat} (hz : ∀ i, k + 3 ≤ i → l.getD i 0 = 0) :
  ∃ low, 0 ≤ low ∧ low < b ^ k ∧ zU b l = low + b ^ k * (l.getD k 0 + b * l.getD (k + 1) 0 + b * b * l.getD (k + 2) 0) := by
 refine ⟨_, (xT hb h k).1, (xT hb h k).2, ?_⟩
 rw [XA hz, show k + 3 = k + 2 + 1 from rfl, Zt, show k + 2 = k + 1 + 1 from rfl, Zt, Zt, WH b (k + 1), WH b k, Int.mul_add, Int.mul_add]
 grind
structure Nb (b top v1 W V q r : Int) : Prop where
 eq : q * v1 + r = top
 r0 : 0 ≤ r
 q0 : 0 ≤ q
 lt : W < (q + 1) * V
 le : q < 2 * b
structure O9 (b : Int) (k : Nat) (u0 u1 u2 v1 v2 W V : Int) : Prop where
 hb : 2 ≤ b
 hu0 : 0 ≤ u0 ∧ u0 ≤ v1
 hu1 : 0 ≤ u1 ∧ u1 < b
 hu2 : 0 ≤ u2 ∧ u2 < b
 hv1 : 0 < v1 ∧ v1 < b
 hv2 : 0 ≤ v2 ∧ v2 < b
 w : W < b ^ k * (u2 + 1 + b * (u0 * b + u1))
 v : b ^ k * (v2 + b * v1) ≤ V
theorem O9.start {b : Int} {k : Nat} {u0 u1 u2 v1 v2 W V : Int} (h : O9 b k u0 u1 u2 v1 v2 W V) : Nb b (u0 * b + u1) v1 W V ((u0 * b + u1).tdiv v1) ((u0 * b + u1).tmod v1) := by
 have hb := h.hb
 have a0 := h.hu0
 have a1 := h.hu1
 have a2 := h.hu2
 have b1 := h.hv1
 have b2 := h.hv2
 have p0 : 0 ≤ u0 * b := Int.mul_nonneg a0.1 (by omega)
 obtain ⟨e, m0, m1, d0⟩ := jl (n := u0 * b + u1) (b := v1) (by omega) b1.1
 have hp := Yj (b := b) (by omega) k
 refine ⟨by rw [Int.mul_comm]; omega, m0, d0, ?_, ?_⟩
 ·generalize hq : (u0 * b + u1).tdiv v1 = q at *
  have t1 : u0 * b + u1 + 1 ≤ (q + 1) * v1 := by rw [Int.add_mul, Int.one_mul, Int.mul_comm q]; omega
  have t2 : b * (u0 * b + u1 + 1) ≤ b * ((q + 1) * v1) := Int.mul_le_mul_of_nonneg_left t1 (by omega)
  have t3 : b ^ k * (u2 + 1 + b * (u0 * b + u1)) ≤ b ^ k * (b * ((q + 1) * v1)) := Int.mul_le_mul_of_nonneg_left (by rw [Int.mul_add, Int.mul_one] at t2; omega) (Int.le_of_lt hp)
  have t4 : (q + 1) * (b ^ k * (v2 + b * v1)) ≤ (q + 1) * V := Int.mul_le_mul_of_nonneg_left h.v (by omega)
  have t5 : b ^ k * (b * ((q + 1) * v1)) ≤ (q + 1) * (b ^ k * (v2 + b * v1)) := by
   rw [← Int.mul_assoc (q + 1), Int.mul_comm (q + 1) (b ^ k), Int.mul_assoc]
   refine Int.mul_le_mul_of_nonneg_left ?_ (Int.le_of_lt hp)
   rw [Int.mul_add]
   have := Int.mul_nonneg (show 0 ≤ q + 1 by omega) b2.1
   grind
  have := h.w
  omega
 ·refine Decidable.byContradiction fun hn => ?_
  have t1 : v1 * (2 * b) ≤ v1 * (u0 * b + u1).tdiv v1 := Int.mul_le_mul_of_nonneg_left (by omega) (by omega)
  have t2 : u0 * b ≤ v1 * b := Int.mul_le_mul_of_nonneg_right a0.2 (by omega)
  have t3 : v1 * (2 * b) = v1 * b + v1 * b := by rw [Int.two_mul, Int.mul_add]
  have t4 : 1 * b ≤ v1 * b := Int.mul_le_mul_of_nonneg_right (by omega) (by omega)
  omega
theorem O9.step {b : Int} {k : Nat} {u0 u1 u2 v1 v2 W V q r : Int} (h : O9 b k u0 u1 u2 v1 v2 W V) (hi : Nb b (u0 * b + u1) v1 W V q r) (hW : W < b * V) (hV : 0 < V)
  (hc : b ≤ q ∨ r * b + u2 < q * v2) : 0 < q ∧ Nb b (u0 * b + u1) v1 W V (q - 1) (r + v1) := by
 have hb := h.hb
 have a2 := h.hu2
 have b1 := h.hv1
 have b2 := h.hv2
 have q0 := hi.q0
 have r0 := hi.r0
 have hp := Yj (b := b) (by omega) k
 have hq : 0 < q := by
  rcases hc with hc | hc
  ·omega
  ·refine Decidable.byContradiction fun hn => ?_
   have : q = 0 := by omega
   subst this
   have := Int.mul_nonneg r0 (show 0 ≤ b by omega)
   omega
 refine ⟨hq, by rw [Int.sub_mul, Int.one_mul]; have := hi.eq; omega, by omega, by omega, ?_, by have := hi.le; omega⟩
 rw [Int.sub_add_cancel]
 rcases hc with hc | hc
 ·have : b * V ≤ q * V := Int.mul_le_mul_of_nonneg_right hc (by omega)
  omega
 ·have t1 : q * (b ^ k * (v2 + b * v1)) ≤ q * V := Int.mul_le_mul_of_nonneg_left h.v q0
  have t2 : b ^ k * (u2 + 1 + b * (u0 * b + u1)) ≤ q * (b ^ k * (v2 + b * v1)) := by
   rw [← Int.mul_assoc q, Int.mul_comm q (b ^ k), Int.mul_assoc]
   refine Int.mul_le_mul_of_nonneg_left ?_ (Int.le_of_lt hp)
   rw [← hi.eq, Int.mul_add, Int.mul_add, ← Int.mul_assoc q b, Int.mul_comm q b, Int.mul_assoc b q, Int.mul_comm b r]
   omega
  have := h.w
  omega
structure wH (b A V : Int) (n m j : Nat) (q u : List Int) : Prop where
 ql : q.length = m
 ul : u.length = m + n
 qi : Zp b q
 ui : Zp b u
 hi : ∀ i, j + n ≤ i → u.getD i 0 = 0
 top : zU b (u.drop j) < V
 val : A = V * (b ^ j * zU b (q.drop j)) + zU b u
theorem wH.start {b A V : Int} (hb : 0 < b) {n m : Nat} {u : List Int} (hl : u.length = m + n) (hu : Zp b u) (hV : zU b (u.drop m) < V) (hA : A = zU b u) : wH b A V n m m (List.replicate m 0) u :=
 ⟨by simp, hl, .zeros hb m, hu, fun i hi => by rw [List.getD_eq_getElem?_getD, List.getElem?_eq_none (by omega)]; rfl, hV, by
  rw [List.drop_of_length_le (by simp), xN, Int.mul_zero, Int.mul_zero, Int.zero_add]; exact hA⟩
theorem wH.win {b A V : Int} (hb : 0 < b) {n m j : Nat} {q u : List Int} (hn : 0 < n) (hj : j < m) (h : wH b A V n m (j + 1) q u) : 0 ≤ zU b (u.drop j) ∧ zU b (u.drop j) < b * V := by
 have h1 := h.ui.get hb j
 have h2 := h.top
 rw [x8 b (by rw [h.ul]; omega)]
 have h3 : b * (zU b (u.drop (j + 1)) + 1) ≤ b * V := Int.mul_le_mul_of_nonneg_left (by omega) (by omega)
 rw [Int.mul_add, Int.mul_one] at h3
 have h4 := Int.mul_nonneg (Int.le_of_lt hb) (zf (Int.le_of_lt hb) (h.ui.drop (j + 1)))
 omega
theorem UI {u w : List Int} {j n : Nat} (hl : w.length = u.length) (h : Out j n u w) : w.take j = u.take j := by
 refine List.ext_getElem (by simp [hl]) fun i h1 h2 => ?_
 have hi : i < j := by simp at h1; omega
 have hiw : i < w.length := by simp at h1; omega
 have e := h i (.inl hi)
 simp_all
theorem rK {b : Int} {u w : List Int} {j n : Nat} (hl : w.length = u.length) (hj : j ≤ u.length) (h : Out j n u w) : zU b w - zU b u = b ^ j * (zU b (w.drop j) - zU b (u.drop j)) := by
 rw [XQ b w (z := j) (by omega), XQ b u (z := j) hj, UI hl h, Int.mul_sub]
 omega
theorem Wr.end_ {b : Int} (hb : 2 ≤ b) {u v : List Int} {j : Nat} {q : Int} {w : List Int} {c : Int} (hj : j ≤ u.length) (hz : ∀ i, j + 1 + v.length ≤ i → u.getD i 0 = 0) (h : Wr b u v j q (v.length + 1) w c) :
  zU b (w.drop j) - b ^ (v.length + 1) * c = zU b (u.drop j) - q * zU b v ∧ 0 ≤ zU b (w.drop j) ∧ zU b (w.drop j) < b ^ (v.length + 1) := by
 have hv := h.val
 rw [Y2 (by omega)] at hv
 have hl := rK (b := b) h.len hj h.out
 refine ⟨?_, zf (by omega) (h.in_.drop j), ?_⟩
 ·have e : b ^ j * (zU b (w.drop j) - b ^ (v.length + 1) * c) = b ^ j * (zU b (u.drop j) - q * zU b v) := by
   grind
  exact Int.eq_of_mul_eq_mul_left (by have := Yj (b := b) (by omega) j; omega) e
 ·have hz2 : ∀ i, v.length + 1 ≤ i → (w.drop j).getD i 0 = 0 := fun i hi => by
   rw [yK, h.out _ (.inr (by omega)), hz _ (by omega)]
  rw [XA hz2]
  exact (xT (by omega) (h.in_.drop j) _).2
theorem Wr.fits {b : Int} (hb : 2 ≤ b) {u v : List Int} {j : Nat} {q : Int} {w : List Int} {c : Int} (hj : j ≤ u.length) (hz : ∀ i, j + 1 + v.length ≤ i → u.getD i 0 = 0) (h : Wr b u v j q (v.length + 1) w c) :
  (c ≤ 0 → zU b (w.drop j) = zU b (u.drop j) - q * zU b v) ∧ (0 < c → zU b (u.drop j) < q * zU b v) := by
 obtain ⟨e, e0, e1⟩ := h.end_ hb hj hz
 have hp := Yj (b := b) (by omega) (v.length + 1)
 constructor
 ·intro hc
  have : c = 0 := by have := h.c0; omega
  simp_all
 ·intro hc
  have : b ^ (v.length + 1) * 1 ≤ b ^ (v.length + 1) * c := Int.mul_le_mul_of_nonneg_left (by omega) (by omega)
  omega
theorem Vm.end_ {b : Int} (hb : 2 ≤ b) {u v : List Int} {j : Nat} {q : Int} {w : List Int} {c : Int} (hu : Zp b u) (hj : j ≤ u.length) (hz : ∀ i, j + 1 + v.length ≤ i → u.getD i 0 = 0) (h : Wr b u v j q (v.length + 1) w c)
  {w2 : List Int} {c2 : Int} (h2 : Vm b w v j q (v.length + 1) w2 c2) : w2 = u := by
 obtain ⟨e, e0, e1⟩ := h.end_ hb hj hz
 have hp := Yj (b := b) (by omega) (v.length + 1)
 have hv := h2.val
 rw [Y2 (by omega)] at hv
 have hl := rK (b := b) h2.len (by rw [h.len]; exact hj) h2.out
 have o2 : ∀ i, v.length + 1 ≤ i → (w2.drop j).getD i 0 = 0 := fun i hi => by
  rw [yK, h2.out _ (.inr (by omega)), h.out _ (.inr (by omega)), hz _ (by omega)]
 have ou : ∀ i, v.length + 1 ≤ i → (u.drop j).getD i 0 = 0 := fun i hi => by rw [yK, hz _ (by omega)]
 have b2 := (xT (by omega) (h2.in_.drop j) (v.length + 1))
 rw [← XA o2] at b2
 have bu := (xT (by omega) (hu.drop j) (v.length + 1))
 rw [← XA ou] at bu
 have e2 : zU b (w2.drop j) + b ^ (v.length + 1) * c2 = zU b (w.drop j) + q * zU b v := by
  have e3 : b ^ j * (zU b (w2.drop j) + b ^ (v.length + 1) * c2) = b ^ j * (zU b (w.drop j) + q * zU b v) := by
   grind
  exact Int.eq_of_mul_eq_mul_left (by have := Yj (b := b) (by omega) j; omega) e3
 have e4 : zU b (w2.drop j) - zU b (u.drop j) = b ^ (v.length + 1) * (c - c2) := by rw [Int.mul_sub]; omega
 have e5 : c = c2 := by
  rcases Int.lt_trichotomy c c2 with hlt | heq | hgt
  ·have : b ^ (v.length + 1) * (c - c2) ≤ b ^ (v.length + 1) * (-1) := Int.mul_le_mul_of_nonneg_left (by omega) (by omega)
   omega
  ·exact heq
  ·have : b ^ (v.length + 1) * 1 ≤ b ^ (v.length + 1) * (c - c2) := Int.mul_le_mul_of_nonneg_left (by omega) (by omega)
   omega
 have e6 : zU b (w2.drop j) = zU b (u.drop j) := by rw [e5, Int.sub_self, Int.mul_zero] at e4; omega
 refine Zp.ext (by omega) h2.in_ hu (h2.len.trans h.len) ?_
 rw [XQ b w2 (z := j) (by rw [h2.len, h.len]; exact hj), XQ b u (z := j) hj, UI h2.len h2.out, UI h.len h.out, e6]
theorem wH.step {b A V : Int} (hb : 2 ≤ b) {v : List Int} (hv : Zp b v) (hV : zU b v = V) {m j : Nat} {q u : List Int} (hj : j < m) (h : wH b A V v.length m (j + 1) q u) {Q : Int} (hQ : 0 ≤ Q) (hlt : zU b (u.drop j) < (Q + 1) * V)
  {w : List Int} {c : Int} (ht : Wr b u v j Q (v.length + 1) w c) (hc : c ≤ 0) : wH b A V v.length m j (q.set j Q) w := by
 have hul := h.ul
 obtain ⟨t1, _⟩ := ht.fits hb (by omega) (fun i hi => h.hi i (by omega))
 have t1 := t1 hc
 rw [hV] at t1
 have w0 := zf (b := b) (by omega) (ht.in_.drop j)
 have hw : zU b (w.drop j) < V := by rw [t1]; rw [Int.add_mul, Int.one_mul] at hlt; omega
 have hVb : V < b ^ v.length := by rw [← hV]; exact Yi (by omega) hv
 have hV0 : 0 < V := by omega
 have hvl : 0 < v.length := by
  refine Nat.pos_of_ne_zero fun e => ?_
  rw [e, Int.pow_zero] at hVb
  omega
 obtain ⟨z1, z2⟩ := h.win (by omega) hvl hj
 have hQb : Q < b := by
  refine Decidable.byContradiction fun hn => ?_
  have : b * V ≤ Q * V := Int.mul_le_mul_of_nonneg_right (by omega) (by omega)
  omega
 refine ⟨by rw [List.length_set]; exact h.ql, by rw [ht.len]; exact hul, h.qi.set hQ hQb _, ht.in_, fun i hi => ?_, hw, ?_⟩
 ·by_cases e : i = j + v.length
  ·have := TT (by omega) (ht.in_.drop j) (n := v.length) (i := v.length) (by omega) (Nat.le_refl _)
   simp_all
  ·rw [ht.out i (.inr (by omega))]
   exact h.hi i (by omega)
 ·have hvv := ht.val
  have hc0 : c = 0 := by have := ht.c0; omega
  rw [hc0, Int.mul_zero, Int.sub_zero, Y2 (by omega), hV] at hvv
  rw [RU _ _ _ (by rw [h.ql]; omega)]
  show A = V * (b ^ j * (Q + b * zU b (q.drop (j + 1)))) + zU b w
  rw [hvv, h.val, WH, Int.mul_add, Int.mul_add, ← Int.mul_assoc (b ^ j) b]
  grind
theorem wH.est {b A V : Int} (hb : 2 ≤ b) {v : List Int} (hv : Zp b v) (hV : zU b v = V) {k : Nat} (hk : v.length = k + 2) (h1 : 0 < v.getD (k + 1) 0) {m j : Nat} {q u : List Int} (hj : j < m) (h : wH b A V v.length m (j + 1) q u) :
  O9 b k (u.getD (j + (k + 2)) 0) (u.getD (j + (k + 1)) 0) (u.getD (j + k) 0) (v.getD (k + 1) 0) (v.getD k 0) (zU b (u.drop j)) V := by
 have hz : ∀ i, k + 3 ≤ i → (u.drop j).getD i 0 = 0 := fun i hi => by rw [yK]; exact h.hi _ (by omega)
 obtain ⟨low, l0, l1, le⟩ := H6 (by omega) (h.ui.drop j) hz
 rw [yK, yK, yK] at le
 have hzv : ∀ i, k + 3 ≤ i → v.getD i 0 = 0 := fun i hi => by rw [List.getD_eq_getElem?_getD, List.getElem?_eq_none (by omega)]; rfl
 obtain ⟨lv, v0, v1, ve⟩ := H6 (by omega) hv hzv
 rw [show v.getD (k + 2) 0 = 0 by rw [List.getD_eq_getElem?_getD, List.getElem?_eq_none (by omega)]; rfl, Int.mul_zero, Int.add_zero, hV] at ve
 have a0 := h.ui.get (by omega) (j + (k + 2))
 have a1 := h.ui.get (by omega) (j + (k + 1))
 have a2 := h.ui.get (by omega) (j + k)
 have c1 := hv.get (by omega) (k + 1)
 have c2 := hv.get (by omega) k
 refine ⟨hb, ⟨a0.1, ?_⟩, a1, a2, ⟨h1, c1.2⟩, c2, ?_, by omega⟩
 ·-- the first limb is at most that of the divisor
  have ht := h.top
  have hz2 : ∀ i, k + 2 ≤ i → (u.drop (j + 1)).getD i 0 = 0 := fun i hi => by rw [yK]; exact h.hi _ (by omega)
  have e1 : zU b (u.drop (j + 1)) = zU b ((u.drop (j + 1)).take (k + 1)) + b ^ (k + 1) * u.getD (j + (k + 2)) 0 := by
   rw [XA hz2, show k + 2 = k + 1 + 1 from rfl, Zt, yK, show j + 1 + (k + 1) = j + (k + 1 + 1) by omega]
  have e2 := (xT (b := b) (by omega) (h.ui.drop (j + 1)) (k + 1)).1
  have e3 : zU b v = zU b (v.take (k + 1)) + b ^ (k + 1) * v.getD (k + 1) 0 := by
   rw [← Zt, List.take_of_length_le (by omega)]
  have e4 := (xT (b := b) (by omega) hv (k + 1)).2
  rw [hV] at e3
  refine Decidable.byContradiction fun hn => ?_
  have : b ^ (k + 1) * (v.getD (k + 1) 0 + 1) ≤ b ^ (k + 1) * u.getD (j + (k + 2)) 0 := Int.mul_le_mul_of_nonneg_left (by omega) (Int.le_of_lt (Yj (by omega) _))
  grind
 grind
theorem wH.end_ {b : Nat} (hb : 2 ≤ b) {A V : Nat} (hV0 : 0 < V) {n m : Nat} {q u : List Int} (h : wH b A V n m 0 q u) : zh q = zT b (A / V) ∧ zh u = zT b (A % V) := by
 have hv := h.val
 rw [Int.pow_zero, Int.one_mul, List.drop_zero] at hv
 have ht := h.top
 rw [List.drop_zero] at ht
 have q0 := zf (b := (b : Int)) (by omega) h.qi
 have u0 := zf (b := (b : Int)) (by omega) h.ui
 obtain ⟨Q, hQ⟩ : ∃ Q : Nat, zU b q = Q := ⟨(zU b q).toNat, by omega⟩
 obtain ⟨R, hR⟩ : ∃ R : Nat, zU b u = R := ⟨(zU b u).toNat, by omega⟩
 rw [hQ, hR] at hv
 rw [hR] at ht
 have hv : A = V * Q + R := by exact_mod_cast hv
 have hR' : R < V := by omega
 rw [Y1 hb h.qi, Y1 hb h.ui, hQ, hR, Int.toNat_natCast, Int.toNat_natCast]
 rw [hv, Nat.mul_add_div hV0, Nat.div_eq_of_lt hR', Nat.add_zero, Nat.mul_add_mod, Nat.mod_eq_of_lt hR']
 simp
end Go.Ar

namespace Go.Ar
open Go Go.Sx Go.Lib
set_option maxRecDepth 100000
def zm (s : zj) : zj := s.takeWhile (· != 47)
def zB (s : zj) : zj := (s.dropWhile (· != 47)).drop 1
def zi (s : zj) : Bool := s.any (· == 47)
def ZM (s : zj) : Bool := ZY (zm s) && (!zi s || Z8 (zB s) && !(zB s == [48]) && !(zB s == [49]))
def zK (s : zj) : Int := zY (zm s)
def zn (s : zj) : Nat := bif zi s then zD (zB s) else 1
def zH (s : zj) : Int :=
 bif !ZM s then 11 else bif Nat.blt 300 (X2 (zm s)) || Nat.blt 300 (zB s).length then 4 else bif Nat.beq (Nat.gcd (zK s).natAbs (zn s)) 1 then 0 else 11
def Yd (n : Int) (d : Nat) : zj := itoa n ++ bif Nat.beq d 1 then [] else 47 :: decDigits d
def ZL (n : Int) (d : Nat) : zj := Yd (n / (Nat.gcd n.natAbs d : Int)) (d / Nat.gcd n.natAbs d)
theorem US {c : UInt8} (h : Zc c = true) : (c != 47) = true := by
 rw [y8] at h
 rw [bne_iff_ne]
 intro e
 simp_all
theorem VB {s : zj} (h : ZY s = true) : ∀ c ∈ s, (c != 47) = true := by
 rcases yI h with ⟨r, rfl, h1, _, _⟩ | ⟨h1, _⟩
 ·intro c hc
  rcases List.mem_cons.1 hc with rfl | hc
  ·decide
  ·exact US ((ZS.1 h1).2.1 c hc)
 ·exact fun c hc => US ((ZS.1 h1).2.1 c hc)
theorem W7 {p : UInt8 → Bool} : ∀ {a : zj}, (∀ c ∈ a, p c = true) → a.takeWhile p = a ∧ a.dropWhile p = []
 | [], _ => ⟨rfl, rfl⟩
 | c :: a, h => by
  obtain ⟨h1, h2⟩ := W7 (a := a) fun x hx => h x (List.mem_cons_of_mem _ hx)
  simp_all
theorem TX {p : UInt8 → Bool} {x : UInt8} {b : zj} (hx : p x = false) : ∀ {a : zj}, (∀ c ∈ a, p c = true) → (a ++ x :: b).takeWhile p = a ∧ (a ++ x :: b).dropWhile p = x :: b
 | [], _ => by simp [List.takeWhile_cons, List.dropWhile_cons, hx]
 | c :: a, h => by
  simp_all
theorem XX {s : zj} (h : zi s = false) : zm s = s ∧ zB s = [] := by
 unfold zi at h
 rw [List.any_eq_false] at h
 obtain ⟨h1, h2⟩ := W7 (p := (· != 47)) (a := s) fun c hc => by
  simp_all
 exact ⟨h1, by unfold zB; rw [h2]; rfl⟩
theorem tq {a b : zj} (h : ∀ c ∈ a, (c != 47) = true) : zm (a ++ 47 :: b) = a ∧ zB (a ++ 47 :: b) = b ∧ zi (a ++ 47 :: b) = true := by
 obtain ⟨h1, h2⟩ := TX (p := (· != 47)) (x := 47) (b := b) (by decide) h
 exact ⟨h1, by unfold zB; rw [h2]; rfl, by unfold zi; simp⟩
theorem tk {s : zj} (h : ∀ c ∈ s, (c != 47) = true) : zi s = false := by
 unfold zi
 simp_all
theorem V1 {s : zj} (h : zi s = true) : s = zm s ++ 47 :: zB s := by
 have e := List.takeWhile_append_dropWhile (p := (· != (47 : UInt8))) (l := s)
 unfold zm zB
 have hd : ∃ b, s.dropWhile (· != (47 : UInt8)) = 47 :: b := by
  clear e
  induction s with
  | nil => cases h
  | cons c s ih =>
   by_cases hc : c = 47
   ·simp_all
   ·have h' : zi s = true := by
     unfold zi at h ⊢
     simp_all
    simp_all
 grind
theorem vz {s : zj} (h : zi s = false) : ZM s = ZY s := by
 unfold ZM
 rw [h, (XX h).1]; simp
theorem Uj {s : zj} (h : ZM s = true) : (ZY s = true ∧ zi s = false ∧ zm s = s ∧ zK s = zY s ∧ zn s = 1) ∨
  (zi s = true ∧ s = zm s ++ 47 :: zB s ∧ ZY (zm s) = true ∧ Z8 (zB s) = true ∧ 2 ≤ zn s ∧ zn s = zD (zB s)) := by
 cases hs : zi s with
 | false =>
  rw [vz hs] at h
  obtain ⟨h1, h2⟩ := XX hs
  exact .inl ⟨h, rfl, h1, by unfold zK; rw [h1], by unfold zn; rw [hs]; rfl⟩
 | true =>
  unfold ZM at h
  rw [hs] at h
  simp only [Bool.not_true, Bool.false_or, Bool.and_eq_true, Bool.not_eq_true'] at h
  obtain ⟨h1, ⟨h2, h3⟩, h4⟩ := h
  have e : zn s = zD (zB s) := by unfold zn; rw [hs]; rfl
  refine .inr ⟨rfl, V1 hs, h1, h2, ?_, e⟩
  rw [e]
  have h5 := Ze h2
  refine Decidable.byContradiction fun hn => ?_
  have : zD (zB s) = 0 ∨ zD (zB s) = 1 := by omega
  rcases this with h6 | h6
  ·rw [h6, z7 (by decide)] at h5
   rw [← h5] at h3
   exact absurd h3 (by decide)
  ·rw [h6, z7 (by decide)] at h5
   rw [← h5] at h4
   exact absurd h4 (by decide)
theorem yG {s : zj} (h : ZM s = true) : 1 ≤ zn s := by rcases Uj h with ⟨_, _, _, _, h⟩ | ⟨_, _, _, _, h, _⟩ <;> omega
theorem Zq {s : zj} : zH s = 0 ↔ ZM s = true ∧ X2 (zm s) ≤ 300 ∧ (zB s).length ≤ 300 ∧ Nat.gcd (zK s).natAbs (zn s) = 1 := by
 unfold zH
 cases h : ZM s with
 | false => simp
 | true =>
  cases h2 : Nat.blt 300 (X2 (zm s)) || Nat.blt 300 (zB s).length with
  | true =>
   rw [Bool.or_eq_true, ZX, ZX] at h2
   simp; omega
  | false =>
   rw [Bool.or_eq_false_iff, Bool.eq_false_iff, Bool.eq_false_iff, Ne, Ne, ZX, ZX] at h2
   cases h3 : Nat.beq (Nat.gcd (zK s).natAbs (zn s)) 1 with
   | true =>
    simp_all
   | false =>
    have h3 : Nat.gcd (zK s).natAbs (zn s) ≠ 1 := fun e => by rw [e] at h3; cases h3
    simp_all
theorem wV {s : zj} (h : ZM s = true) : Yd (zK s) (zn s) = s := by
 unfold Yd
 rcases Uj h with ⟨h1, _, _, h4, h5⟩ | ⟨_, h2, h3, h4, h5, h6⟩
 ·rw [h4, h5, YG h1]; exact List.append_nil s
 ·rw [show Nat.beq (zn s) 1 = false from Bool.eq_false_iff.2 fun e => by have := Nat.eq_of_beq_eq_true e; omega]
  conv => rhs; rw [h2]
  unfold zK
  rw [YG h3, h6, Ze h4]; rfl
theorem OP {n : Int} {d : Nat} (h : Nat.gcd n.natAbs d = 1) : ZL n d = Yd n d := by unfold ZL; rw [h]; simp
theorem QA {s : zj} (h : zH s = 0) : ZL (zK s) (zn s) = s := by
 obtain ⟨h1, _, _, h4⟩ := Zq.1 h
 rw [OP h4, wV h1]
theorem Wp (n : Int) {d : Nat} (hd : 0 < d) : ZM (Yd n d) = true ∧ zK (Yd n d) = n ∧ zn (Yd n d) = d ∧ X2 (zm (Yd n d)) = XZ n ∧ (zB (Yd n d)).length = (if d = 1 then 0 else nDigits d) := by
 obtain ⟨i1, i2⟩ := zb n
 unfold Yd
 by_cases h : d = 1
 ·subst h
  rw [Nat.beq_refl]
  simp only [cond_true, List.append_nil, if_true]
  have hs := tk (VB i1)
  obtain ⟨c1, c2⟩ := XX hs
  refine ⟨by rw [vz hs]; exact i1, by unfold zK; rw [c1, i2], by unfold zn; rw [hs]; rfl, by rw [c1, wR i1, i2], by rw [c2]; rfl⟩
 ·rw [show Nat.beq d 1 = false from Bool.eq_false_iff.2 fun e => h (Nat.eq_of_beq_eq_true e)]
  simp only [cond_false, if_neg h]
  obtain ⟨c1, c2, c3⟩ := tq (b := decDigits d) (VB i1)
  have hd0 : ¬ decDigits d = [48] := fun e => by
   have := yZ d
   rw [e] at this
   have : (0 : Nat) = d := this
   omega
  have hd1 : ¬ decDigits d = [49] := fun e => by
   have := yZ d
   rw [e] at this
   have : (1 : Nat) = d := this
   omega
  refine ⟨?_, by unfold zK; rw [c1, i2], by unfold zn; rw [c3, c2]; exact yZ d, by rw [c1, wR i1, i2], by rw [c2, decDigits_length]⟩
  unfold ZM
  rw [c1, c2, c3, i1, Yr, beq_false_of_ne hd0, beq_false_of_ne hd1]; rfl
end Go.Ar

namespace Go.Ar
open Go Go.Sx Go.Lib
set_option maxRecDepth 100000
def UM (k x : Nat) : zj := List.replicate (k - (decDigits x).length) 48 ++ decDigits x
theorem UJ : ∀ (k : Nat) (l : zj), zD (List.replicate k 48 ++ l) = zD l
 | 0, _ => rfl
 | k + 1, l => by
  rw [List.replicate_succ, List.cons_append, xy, UJ k l]
  show 0 * _ + _ = _
  omega
theorem MY {k x : Nat} (hk : 0 < k) (hx : x < 10 ^ k) : (UM k x).length = k := by
 have := (Zw hk).2 hx
 unfold UM
 rw [List.length_append, List.length_replicate, decDigits_length]
 omega
theorem mE (k x : Nat) : zD (UM k x) = x := by unfold UM; rw [UJ, yZ]
theorem Ke (k x : Nat) : ∀ c ∈ UM k x, Zc c = true := fun c hc => by
 unfold UM at hc
 rcases List.mem_append.1 hc with hc | hc
 ·rw [List.eq_of_mem_replicate hc]; decide
 ·exact List.all_eq_true.1 (XJ x) c hc
theorem TZ {k n x : Nat} (hk : 0 < k) (hn : n ≠ 0) (hx : x < 10 ^ k) : decDigits (n * 10 ^ k + x) = decDigits n ++ UM k x := by
 have hv : zD (decDigits n ++ UM k x) = n * 10 ^ k + x := by rw [Up, yZ, mE, MY hk hx]
 rw [← hv]
 refine Ze (ZS.2 ⟨?_, fun c hc => ?_, fun _ => ?_⟩)
 ·have := yi n
  grind
 ·rcases List.mem_append.1 hc with hc | hc
  ·exact List.all_eq_true.1 (XJ n) c hc
  ·exact Ke k x c hc
 ·rw [List.getD_eq_getElem?_getD, List.getElem?_append_left (yi n), ← List.getD_eq_getElem?_getD]
  exact Xz hn
def wi (b : Nat) (l : List Int) (i : Nat) : Nat := (zU b (l.drop i)).toNat
theorem oM {k : Nat} (hk : 0 < k) {l : List Int} (hl : Zp (10 ^ k : Nat) l) {i : Nat} (hi : i < l.length) (h0 : wi (10 ^ k) l (i + 1) ≠ 0) :
  decDigits (wi (10 ^ k) l i) = decDigits (wi (10 ^ k) l (i + 1)) ++ UM k (l.getD i 0).toNat := by
 have h10 : 0 < 10 ^ k := Nat.pow_pos (by decide)
 have x1 := hl.get (by omega) i
 have v0 := zf (b := ((10 ^ k : Nat) : Int)) (by omega) (hl.drop (i + 1))
 have e := x8 ((10 ^ k : Nat) : Int) hi
 have e2 : wi (10 ^ k) l i = wi (10 ^ k) l (i + 1) * 10 ^ k + (l.getD i 0).toNat := by
  unfold wi
  grind
 rw [e2]
 exact TZ hk h0 (by omega)
theorem og {b : Nat} {l : List Int} (h : 0 < l.length) : wi b l (l.length - 1) = (l.getD (l.length - 1) 0).toNat := by
 unfold wi
 rw [x8 b (by omega), List.drop_of_length_le (by omega), xN, Int.mul_zero, Int.add_zero]
theorem NI {b : Nat} (hb : 2 ≤ b) {n : Nat} (hn : n ≠ 0) {i : Nat} (hi : i < (zT b n).length) : wi b (zT b n) i ≠ 0 := by
 obtain ⟨h1, h2⟩ := vT hb hn
 have hin := YB hb n
 unfold wi
 intro e
 have v0 := zf (b := (b : Int)) (by omega) (hin.drop i)
 have hz : zU b ((zT b n).drop i) = 0 := by omega
 have := TT (b := (b : Int)) (by omega) (hin.drop i) (n := 0) (by rw [hz, Int.pow_zero]; decide) (i := (zT b n).length - 1 - i) (Nat.zero_le _)
 grind
structure Pw (k : Nat) (r : zj) (z : Nat) (L : List Int) : Prop where
 le : z ≤ r.length
 len : L.length = (r.length + k - 1) / k
 in_ : Zp (10 ^ k : Nat) L
 zero : ∀ i, z ≤ k * i → L.getD i 0 = 0
 part : L.getD (z / k) 0 < 10 ^ (z % k)
 val : zU (10 ^ k : Nat) L = (zD (r.drop (r.length - z)) : Int)
theorem Pw.start {k : Nat} (hk : 0 < k) (r : zj) : Pw k r 0 (List.replicate ((r.length + k - 1) / k) 0) := by
 have h10 : 0 < 10 ^ k := Nat.pow_pos (by decide)
 refine ⟨Nat.zero_le _, by simp, .zeros (by omega) _, fun i _ => vh _ _, ?_, ?_⟩
 ·rw [vh, Nat.zero_mod]; decide
 ·rw [wT, Nat.sub_zero, List.drop_of_length_le (Nat.le_refl _)]; rfl
theorem U7 {r : zj} {i : Nat} (h : i < r.length) : r.drop i = r.getD i 0 :: r.drop (i + 1) := by
 simp_all
theorem Pw.step {k : Nat} (hk : 0 < k) {r : zj} (hr : ∀ c ∈ r, Zc c = true) {z : Nat} (hz : z < r.length) {L : List Int} (h : Pw k r z L) :
  z / k < L.length ∧ Pw k r (z + 1) (L.set (z / k) (L.getD (z / k) 0 + (vE (r.getD (r.length - 1 - z) 0) : Int) * 10 ^ (z % k))) := by
 have h10 : 0 < 10 ^ k := Nat.pow_pos (by decide)
 have hi : r.length - 1 - z < r.length := by omega
 have hd : Zc (r.getD (r.length - 1 - z) 0) = true := by
  simp_all
 have hv := tO hd
 have hdm := Nat.div_add_mod z k
 have hmod := Nat.mod_lt z hk
 have hlen : z / k < L.length := by
  rw [h.len]
  have : k * (z / k) < r.length := by omega
  have h2 : (k * (z / k) + k) / k ≤ (r.length + k - 1) / k := Nat.div_le_div_right (by omega)
  rw [Nat.add_div_right _ hk, Nat.mul_div_cancel_left _ hk] at h2
  omega
 have hp := h.part
 have hL := h.in_.get (by omega) (z / k)
 generalize hdd : vE (r.getD (r.length - 1 - z) 0) = d at *
 have hp0 : (0 : Int) < 10 ^ (z % k) := Int.pow_pos (by decide)
 have hdp : (d : Int) * 10 ^ (z % k) ≤ 9 * 10 ^ (z % k) := Int.mul_le_mul_of_nonneg_right (by omega) (Int.le_of_lt hp0)
 have hdp0 : 0 ≤ (d : Int) * 10 ^ (z % k) := Int.mul_nonneg (by omega) (Int.le_of_lt hp0)
 have hnew : L.getD (z / k) 0 + (d : Int) * 10 ^ (z % k) < 10 ^ (z % k + 1) := by rw [Int.pow_succ]; omega
 have hle : (10 : Int) ^ (z % k + 1) ≤ ((10 ^ k : Nat) : Int) := by
  have : 10 ^ (z % k + 1) ≤ 10 ^ k := Nat.pow_le_pow_right (by decide) (by omega)
  grind
 refine ⟨hlen, by omega, by rw [List.length_set]; exact h.len, h.in_.set (by omega) (by omega) _, fun i hzi => ?_, ?_, ?_⟩
 ·have hne : i ≠ z / k := fun e => by
   grind
  rw [Yn _ _ _ _ hlen, if_neg hne]
  exact h.zero i (by omega)
 ·by_cases e : (z + 1) % k = 0
  ·have hz1 : k * ((z + 1) / k) = z + 1 := by have := Nat.div_add_mod (z + 1) k; omega
   have hne : (z + 1) / k ≠ z / k := fun e2 => by rw [e2] at hz1; omega
   rw [Yn _ _ _ _ hlen, if_neg hne, h.zero _ (by omega)]
   simp_all
  ·have e1 : (z + 1) % k = z % k + 1 ∧ (z + 1) / k = z / k := by
    have h1 : z % k + 1 < k := by
     refine Nat.lt_of_le_of_ne (by omega) fun e2 => e ?_
     have : z + 1 = k * (z / k + 1) := by rw [Nat.mul_add, Nat.mul_one]; omega
     simp_all
    have h2 : z + 1 = k * (z / k) + (z % k + 1) := by omega
    constructor
    ·rw [h2, Nat.mul_add_mod, Nat.mod_eq_of_lt h1]
    ·rw [h2, Nat.mul_add_div hk, Nat.div_eq_of_lt h1, Nat.add_zero]
   simp_all
 ·rw [w6 _ _ hlen, h.val, show r.length - (z + 1) = r.length - 1 - z by omega, U7 hi, xy, show r.length - 1 - z + 1 = r.length - z by omega, hdd, List.length_drop, show r.length - (r.length - z) = z by omega]
  have e1 : ((10 ^ k : Nat) : Int) ^ (z / k) * (10 : Int) ^ (z % k) = 10 ^ z := by
   have : (10 ^ k) ^ (z / k) * 10 ^ (z % k) = 10 ^ z := by rw [← Nat.pow_mul, ← Nat.pow_add, hdm]
   exact_mod_cast this
  grind
theorem Pw.end_ {k : Nat} (hk : 0 < k) {r : zj} {L : List Int} (h : Pw k r r.length L) : zh L = zT (10 ^ k) (zD r) := by
 have hv := h.val
 rw [Nat.sub_self, List.drop_zero] at hv
 have h2 : 2 ≤ 10 ^ k := by
  grind
 rw [Y1 h2 h.in_, hv, Int.toNat_natCast]
end Go.Ar

namespace Go.Ar
open Go Go.Sx Go.Lib
set_option maxRecDepth 100000
theorem yz {b m n : Nat} (hb : 2 ≤ b) (h : m ≤ n) : (zT b m).length ≤ (zT b n).length := by
 refine Decidable.byContradiction fun hn => ?_
 have := wx hb (m := n) (n := m) (by omega)
 omega
theorem Xc {b n : Nat} (hb : 2 ≤ b) (h : (zT b n).length = 0) : n = 0 := by
 refine Decidable.byContradiction fun h0 => ?_
 rw [xa hb h0] at h
 cases h
theorem UF {x y : Nat} (h : y ≠ 0) : Nat.gcd x y = Nat.gcd y (x % y) := by
 rw [Nat.gcd_comm x y, Nat.gcd_rec y x, Nat.gcd_comm]
end Go.Ar

namespace Go.Ar
open Go Go.Sx Go.Lib
set_option maxRecDepth 100000
theorem WE {l : List Int} {i : Nat} (h : l.length ≤ i) : l.getD i 0 = 0 := by rw [List.getD_eq_getElem?_getD, List.getElem?_eq_none h]; rfl
theorem G0 (c : UInt8) : (zG (c.toNat : Int) 48 || zG 57 (c.toNat : Int)) = !Zc c := by
 unfold Zc
 rw [Bool.eq_iff_iff, Bool.or_eq_true, zp, zp, Bool.not_eq_true', Bool.and_eq_false_iff]
 constructor
 ·rintro (h | h)
  ·exact .inl (Bool.eq_false_iff.2 fun e => by have := Nat.le_of_ble_eq_true e; omega)
  ·exact .inr (Bool.eq_false_iff.2 fun e => by have := Nat.le_of_ble_eq_true e; omega)
 ·rintro (h | h)
  ·exact .inl (by have : ¬ 48 ≤ c.toNat := fun e => by rw [Nat.ble_eq_true_of_le e] at h; cases h
                  omega)
  ·exact .inr (by have : ¬ c.toNat ≤ 57 := fun e => by rw [Nat.ble_eq_true_of_le e] at h; cases h
                  omega)
theorem vO (c : UInt8) (n : Nat) (hn : n < 256) : ((c.toNat : Int) == (n : Int)) = (c == UInt8.ofNat n) := by
 rw [Bool.eq_iff_iff, beq_iff_eq, beq_iff_eq]
 constructor
 ·intro h
  have : c.toNat = n := by omega
  rw [← this, UInt8.ofNat_toNat]
 ·intro h
  subst h
  rw [UInt8.toNat_ofNat']
  omega
theorem Wn {a : zj} (h : ¬ (0 < a.length ∧ a.getD 0 0 = 45)) : ZY a = Z8 a ∧ X2 a = a.length ∧ zY a = (zD a : Int) := by
 match a, h with
 | [], _ => exact ⟨rfl, rfl, rfl⟩
 | c :: r, h =>
  have hc : c ≠ 45 := fun e => h ⟨by simp, e⟩
  refine ⟨?_, ?_, ?_⟩
  ·unfold ZY; split
   all_goals simp_all
  ·unfold X2; split
   all_goals simp_all
  ·unfold zY; split
   all_goals simp_all
theorem TI {a : zj} (h0 : 0 < a.length) (h : a.getD 0 0 = 45) : a = 45 :: a.drop 1 ∧ ZY a = (Z8 (a.drop 1) && !(a.drop 1 == [48])) ∧ X2 a = a.length - 1 ∧ zY a = -(zD (a.drop 1) : Int) := by
 match a, h0, h with
 | c :: r, _, h =>
  have hc : c = 45 := h
  subst hc
  exact ⟨rfl, rfl, rfl, rfl⟩
theorem Lr {a : zj} (h : ZY a = true) : ZQ a = bif Nat.blt 300 (X2 a) then 4 else 0 := by unfold ZQ; rw [h]; rfl
theorem mM {a : zj} (h : ¬ ZY a = true) : ZQ a = 11 := by unfold ZQ; rw [Bool.eq_false_iff.2 h]; rfl
theorem VE {x y : List Int} {z : Nat} : ∀ {n : Nat}, z ≤ n → (∀ i, z ≤ i → i < n → x.getD i 0 = y.getD i 0) → VM x y n = VM x y z
 | 0, h, _ => by rw [show z = 0 by omega]
 | n + 1, h, hh => by
  by_cases e : z = n + 1
  ·rw [e]
  ·have h1 := hh n (by omega) (by omega)
   show (bif x.getD n 0 != y.getD n 0 then x.getD n 0 - y.getD n 0 else VM x y n) = _
   rw [h1, bne_self_eq_false]
   exact VE (n := n) (by omega) fun i h2 h3 => hh i h2 (by omega)
theorem LJ {x y : List Int} (h : x.length ≠ y.length) : cmpL x y = (x.length : Int) - (y.length : Int) := by
 unfold cmpL
 rw [show Nat.beq x.length y.length = false from Bool.eq_false_iff.2 fun e => h (Nat.eq_of_beq_eq_true e)]; rfl
theorem cmpL_eq {x y : List Int} (h : x.length = y.length) : cmpL x y = VM x y x.length := by unfold cmpL; rw [h, Nat.beq_refl]; rfl
end Go.Ar

namespace Go.Ar
open Go Go.Sx Go.Lib
set_option maxRecDepth 100000
theorem Qc {l : zj} {i : Nat} (h : i < l.length) : l.take (i + 1) = l.take i ++ [l.getD i 0] := by
 simp_all
structure gJ where
 k : Nat
 L : List Int
structure Jq (s : zj) (z : gJ) : Prop where
 le : 6 * z.k ≤ s.length + 5
 len : z.L.length = z.k
 in_ : Zp 1000000 z.L
 val : zU 1000000 z.L = (zD (s.drop (s.length - 6 * z.k)) : Int)
theorem Jq.start (s : zj) : Jq s ⟨0, []⟩ := ⟨by simp, rfl, .nil _, by rw [Nat.mul_zero, Nat.sub_zero, List.drop_length]; rfl⟩
def uW (s : zj) (k i : Nat) : zj := (s.take i).drop (s.length - 6 * k - 6)
theorem oT {s : zj} {k i : Nat} (h1 : i ≤ s.length - 6 * k) : (uW s k i).length ≤ 6 := by
 unfold uW
 grind
theorem M2 {s : zj} (hs : ∀ c ∈ s, Zc c = true) (k i : Nat) : (uW s k i).all Zc = true := by
 rw [List.all_eq_true]
 intro c hc
 exact hs c (List.mem_of_mem_take (List.mem_of_mem_drop hc))
theorem NO {s : zj} (hs : ∀ c ∈ s, Zc c = true) {k i : Nat} (h1 : i ≤ s.length - 6 * k) : (zD (uW s k i) : Int) < 1000000 := by
 have h2 := We (M2 hs k i)
 have h3 : 10 ^ (uW s k i).length ≤ 10 ^ 6 := Nat.pow_le_pow_right (by decide) (oT h1)
 omega
theorem Jq.step {s : zj} (hs : ∀ c ∈ s, Zc c = true) {z : gJ} (h : Jq s z) (hz : 6 * z.k < s.length) : Jq s ⟨z.k + 1, z.L ++ [(zD (uW s z.k (s.length - 6 * z.k)) : Int)]⟩ := by
 refine ⟨by simp only; omega, by simp [h.len], h.in_.snoc (by omega) (NO hs (Nat.le_refl _)), ?_⟩
 show zU 1000000 (z.L ++ [_]) = (zD (s.drop (s.length - 6 * (z.k + 1))) : Int)
 rw [xA, h.val, h.len]
 have e : s.drop (s.length - 6 * (z.k + 1)) = uW s z.k (s.length - 6 * z.k) ++ s.drop (s.length - 6 * z.k) := by
  unfold uW
  rw [show s.length - 6 * (z.k + 1) = s.length - 6 * z.k - 6 by omega]
  have e1 := List.drop_append_of_le_length (l₁ := s.take (s.length - 6 * z.k)) (l₂ := s.drop (s.length - 6 * z.k)) (i := s.length - 6 * z.k - 6) (by rw [List.length_take]; omega)
  simp_all
 rw [e, Up, List.length_drop, show s.length - (s.length - 6 * z.k) = 6 * z.k by omega]
 have e2 : (1000000 : Int) ^ z.k = ((10 ^ (6 * z.k) : Nat) : Int) := by
  have e3 : 1000000 ^ z.k = 10 ^ (6 * z.k) := by rw [Nat.pow_mul]
  grind
 grind
theorem Jq.end_ {s : zj} {z : gJ} (h : Jq s z) (hz : s.length ≤ 6 * z.k) : zh z.L = zT 1000000 (zD s) := by
 have hv := h.val
 rw [show s.length - 6 * z.k = 0 by omega, List.drop_zero] at hv
 have := Y1 (b := 1000000) (by decide) h.in_
 simp_all
end Go.Ar

namespace Go.Ar
open Go Go.Sx Go.Lib
set_option maxRecDepth 100000
theorem wF {s : zj} {i : Nat} (h : i < s.length) : s.getD i 0 ∈ s := by
 simp_all
theorem tH {s : zj} {c : UInt8} (h : c ∈ s) : ∃ i, i < s.length ∧ s.getD i 0 = c := by
 obtain ⟨i, hi, rfl⟩ := List.mem_iff_getElem.1 h
 exact ⟨i, hi, by rw [List.getD_eq_getElem?_getD, List.getElem?_eq_getElem hi]; rfl⟩
theorem getD_takeS {s : zj} {z i : Nat} (h : i < z) : (s.take z).getD i 0 = s.getD i 0 := by
 simp_all
theorem Jt {s : zj} {z : Nat} (hz : z < s.length) (h : ∀ i, i < z → s.getD i 0 ≠ 47) (e : s.getD z 0 = 47) :
  zm s = s.take z ∧ zB s = s.drop (z + 1) ∧ zi s = true := by
 have e1 : s.take z ++ 47 :: s.drop (z + 1) = s := by
  conv => rhs; rw [← List.take_append_drop z s]
  congr 1
  rw [List.drop_eq_getElem_cons hz, ← e, List.getD_eq_getElem?_getD, List.getElem?_eq_getElem hz]; rfl
 have h1 : ∀ c ∈ s.take z, (c != 47) = true := by
  intro c hc
  obtain ⟨i, hi, rfl⟩ := tH hc
  grind
 have := tq (b := s.drop (z + 1)) h1
 simp_all
theorem Nc {s : zj} (h : ∀ i, i < s.length → s.getD i 0 ≠ 47) : zi s = false ∧ zm s = s ∧ zB s = [] := by
 have hs : zi s = false := tk fun c hc => by
  obtain ⟨i, hi, rfl⟩ := tH hc
  simp_all
 exact ⟨hs, XX hs⟩
def zk (a : zj) : Bool := a.getD 0 0 == 45
def zQ (a : zj) : zj := bif zk a then a.drop 1 else a
theorem uA (a : zj) : (zQ a).length ≤ a.length := by
 unfold zQ
 grind
theorem vK (s : zj) : (zm s).length ≤ s.length := by
 unfold zm
 exact List.Sublist.length_le (List.takeWhile_sublist _)
theorem R4 (s : zj) : (zB s).length ≤ s.length := by
 unfold zB
 rw [List.length_drop]
 have := List.Sublist.length_le (List.dropWhile_sublist (· != (47 : UInt8)) (l := s))
 omega
theorem OF (a : zj) : (zk a = true ∧ a = 45 :: zQ a) ∨ (zk a = false ∧ zQ a = a ∧ ¬ (0 < (zm a).length ∧ (zm a).getD 0 0 = 45)) := by
 unfold zQ zk
 match a with
 | [] => exact .inr ⟨rfl, rfl, fun h => by cases h.1⟩
 | c :: r =>
  by_cases hc : c = 45
  ·simp_all
  ·have e : ((c :: r).getD 0 0 == (45 : UInt8)) = false := beq_eq_false_iff_ne.2 hc
   rw [e]
   refine .inr ⟨rfl, rfl, fun h => ?_⟩
   unfold zm at h
   rw [List.takeWhile_cons] at h
   grind
theorem IT (r : zj) : zm (45 :: r) = 45 :: zm r ∧ zB (45 :: r) = zB r ∧ zi (45 :: r) = zi r := by
 refine ⟨?_, ?_, ?_⟩
 all_goals rfl
theorem YE (a : zj) : zm a = (bif zk a then 45 :: zm (zQ a) else zm (zQ a)) ∧ zB a = zB (zQ a) ∧ zi a = zi (zQ a) ∧
  ZY (zm a) = (Z8 (zm (zQ a)) && !(zk a && zm (zQ a) == [48])) ∧ X2 (zm a) = (zm (zQ a)).length ∧
  zK a = (bif zk a then -(zD (zm (zQ a)) : Int) else (zD (zm (zQ a)) : Int)) ∧ zn a = (bif zi (zQ a) then zD (zB (zQ a)) else 1) := by
 rcases OF a with ⟨h1, h2⟩ | ⟨h1, h2, h3⟩
 ·obtain ⟨c1, c2, c3⟩ := IT (zQ a)
  rw [← h2] at c1 c2 c3
  unfold zK zn
  rw [c1, c2, c3, h1]
  exact ⟨rfl, rfl, rfl, by show (Z8 _ && _) = _; simp, rfl, rfl, rfl⟩
 ·obtain ⟨p1, p2, p3⟩ := Wn h3
  unfold zK zn
  simp_all
theorem tu (a : zj) : (zK a).natAbs = zD (zm (zQ a)) := by
 obtain ⟨_, _, _, _, _, h, _⟩ := YE a
 grind
def Ws (a : zj) : Bool := Z8 (zm (zQ a)) && !(zk a && zm (zQ a) == [48]) && (!zi (zQ a) || Z8 (zB (zQ a)) && !(zB (zQ a) == [48]) && !(zB (zQ a) == [49]))
theorem XE (a : zj) : ZM a = Ws a := by
 obtain ⟨h1, h2, h3, h4, _⟩ := YE a
 unfold ZM Ws
 simp_all
theorem rF {a : zj} (h : Ws a = false) : zH a = 11 := by
 unfold zH
 rw [XE, h]; rfl
theorem Ou {a : zj} (h : Ws a = true) (hl : 300 < (zm (zQ a)).length ∨ 300 < (zB (zQ a)).length) : zH a = 4 := by
 obtain ⟨_, h2, _, _, h5, _⟩ := YE a
 unfold zH
 rw [XE, h, h5, h2, show (Nat.blt 300 (zm (zQ a)).length || Nat.blt 300 (zB (zQ a)).length) = true by
  simp_all]
 rfl
theorem UO {a : zj} (h : Ws a = true) (hl : (zm (zQ a)).length ≤ 300 ∧ (zB (zQ a)).length ≤ 300) (hs : zi (zQ a) = true) :
  zH a = bif Nat.beq (Nat.gcd (zD (zm (zQ a))) (zD (zB (zQ a)))) 1 then 0 else 11 := by
 obtain ⟨_, h2, _, _, h5, _, h7⟩ := YE a
 unfold zH
 rw [XE, h, h5, h2, tu, h7, hs, show (Nat.blt 300 (zm (zQ a)).length || Nat.blt 300 (zB (zQ a)).length) = false by
  rw [Bool.or_eq_false_iff, Bool.eq_false_iff, Bool.eq_false_iff, Ne, Ne, ZX, ZX]; omega]
 rfl
theorem Rx {a : zj} (h : Ws a = true) (hl : (zm (zQ a)).length ≤ 300) (hs : zi (zQ a) = false) : zH a = 0 := by
 obtain ⟨_, h2, _, _, h5, _, h7⟩ := YE a
 have hd : zB (zQ a) = [] := (XX hs).2
 unfold zH
 rw [XE, h, h5, h2, h7, hs, hd, show (Nat.blt 300 (zm (zQ a)).length || Nat.blt 300 ([] : zj).length) = false by
  rw [Bool.or_eq_false_iff, Bool.eq_false_iff, Bool.eq_false_iff, Ne, Ne, ZX, ZX]
  simp_all]
 simp
theorem vu {s : zj} (h : Z8 s = true) {k : Nat} (hl : s.length ≤ k) : zD s < 10 ^ k := by
 have h1 := We (l := s) (List.all_eq_true.2 (ZS.1 h).2.1)
 exact Nat.lt_of_lt_of_le h1 (Nat.pow_le_pow_right (by omega) hl)
end Go.Ar
