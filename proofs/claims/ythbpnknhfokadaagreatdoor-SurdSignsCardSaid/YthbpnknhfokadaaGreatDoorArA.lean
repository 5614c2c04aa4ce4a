/- Decimal strings of integers: what they are and what they mean. -/
import Derived.Test.YthbpnknhfokadaaGreatDoorSxU
import Derived.Lib.ItoaLen
set_option linter.unusedSimpArgs false
set_option linter.unusedVariables false
namespace Go.Ar
open Go Go.Sx Go.Lib
set_option maxRecDepth 100000
abbrev zj := List UInt8
def Zd (c : UInt8) : Bool := Nat.ble 48 c.toNat && Nat.ble c.toNat 57
def vm (c : UInt8) : Nat := c.toNat - 48
def MQ (d : Nat) : UInt8 := UInt8.ofNat (48 + d)
theorem y9 {c : UInt8} : Zd c = true ↔ 48 ≤ c.toNat ∧ c.toNat ≤ 57 := by
 unfold Zd
 simp
theorem WJ {d : Nat} (h : d < 10) : (MQ d).toNat = 48 + d := by
 unfold MQ
 rw [UInt8.toNat_ofNat']
 omega
theorem Uv {d : Nat} (h : d < 10) : Zd (MQ d) = true := by rw [y9, WJ h]; omega
theorem rX {d : Nat} (h : d < 10) : vm (MQ d) = d := by unfold vm; rw [WJ h]; omega
theorem pJ {c : UInt8} (h : Zd c = true) : MQ (vm c) = c := by
 rw [y9] at h
 refine UInt8.toNat_inj.1 ?_
 rw [WJ (by unfold vm; omega)]
 unfold vm
 omega
theorem U6 {c : UInt8} (h : Zd c = true) : vm c < 10 := by rw [y9] at h; unfold vm; omega
def ze (l : zj) : Nat := l.foldl (fun a c => 10 * a + vm c) 0
theorem Vf (l : zj) (c : UInt8) : ze (l ++ [c]) = 10 * ze l + vm c := by unfold ze; rw [List.foldl_append]; rfl
theorem fold_acc (l : zj) : ∀ a : Nat, l.foldl (fun a c => 10 * a + vm c) a = a * 10 ^ l.length + ze l := by
 induction l with
 | nil => intro a; simp [ze]
 | cons c l ih =>
  intro a
  unfold ze
  grind
theorem Uh (a b : zj) : ze (a ++ b) = ze a * 10 ^ b.length + ze b := by
 conv => lhs; unfold ze
 rw [List.foldl_append, fold_acc]; rfl
theorem xy (c : UInt8) (l : zj) : ze (c :: l) = vm c * 10 ^ l.length + ze l := by
 have := Uh [c] l
 simpa [ze] using this
theorem WO {l : zj} (h : l.all Zd = true) : ze l < 10 ^ l.length := by
 induction l with
 | nil => simp [ze]
 | cons c l ih =>
  rw [List.all_cons, Bool.and_eq_true] at h
  have h1 := ih h.2
  have h2 := U6 h.1
  rw [xy, List.length_cons, Nat.pow_succ]
  generalize 10 ^ l.length = p at *
  have : vm c * p ≤ 9 * p := Nat.mul_le_mul_right p (by omega)
  omega
def Z1 (l : zj) : Bool := Nat.blt 0 l.length && l.all Zd && !(Nat.blt 1 l.length && (l.getD 0 0 == 48))
theorem z8 {u : Nat} (h : u < 10) : decDigits u = [MQ u] := by rw [decDigits, dif_pos h]; rfl
theorem xW {u : Nat} (h : ¬ u < 10) : decDigits u = decDigits (u / 10) ++ [MQ (u % 10)] := by rw [decDigits, dif_neg h]; rfl
theorem Xm (u : Nat) : (decDigits u).all Zd = true := by
 induction u using Nat.strongRecOn with
 | _ u ih =>
  by_cases h : u < 10
  ·rw [z8 h]; simp [Uv h]
  ·rw [xW h, List.all_append, ih (u / 10) (by omega)]
   simp [Uv (Nat.mod_lt u (by decide : 10 > 0))]
theorem Z7 (u : Nat) : ze (decDigits u) = u := by
 induction u using Nat.strongRecOn with
 | _ u ih =>
  by_cases h : u < 10
  ·rw [z8 h]
   show 10 * 0 + vm (MQ u) = u
   rw [rX h]; omega
  ·rw [xW h, Vf, ih (u / 10) (by omega), rX (Nat.mod_lt u (by decide : 10 > 0))]
   omega
theorem yk (u : Nat) : 0 < (decDigits u).length := by rw [decDigits_length]; exact nDigits_pos u
theorem x9 {u : Nat} (h : u ≠ 0) : (decDigits u).getD 0 0 ≠ 48 := by
 induction u using Nat.strongRecOn with
 | _ u ih =>
  by_cases h1 : u < 10
  ·rw [z8 h1]
   intro e
   have e : MQ u = 48 := e
   have := congrArg UInt8.toNat e
   rw [WJ h1] at this
   simp_all
  ·rw [xW h1, List.getD_eq_getElem?_getD, List.getElem?_append_left (yk _), ← List.getD_eq_getElem?_getD]
   grind
theorem Yu (u : Nat) : Z1 (decDigits u) = true := by
 unfold Z1
 rw [Xm, (Zx _ _).2 (yk u)]
 by_cases h : u = 0
 ·subst h
  rw [z8 (by decide)]; rfl
 ·rw [beq_false_of_ne (x9 h), Bool.and_false]; rfl
theorem Zr {l : zj} : Z1 l = true ↔ 0 < l.length ∧ (∀ c ∈ l, Zd c = true) ∧ (1 < l.length → l.getD 0 0 ≠ 48) := by
 unfold Z1
 rw [Bool.and_eq_true, Bool.and_eq_true, Zx, List.all_eq_true, Bool.not_eq_true', Bool.and_eq_false_iff]
 constructor
 ·rintro ⟨⟨h1, h2⟩, h3⟩
  refine ⟨h1, h2, fun h4 => ?_⟩
  rcases h3 with h3 | h3
  ·rw [(Zx _ _).2 h4] at h3; cases h3
  simp_all
 ·rintro ⟨h1, h2, h3⟩
  refine ⟨⟨h1, h2⟩, ?_⟩
  by_cases h4 : 1 < l.length
  ·simp_all
  ·exact .inl (by rw [Bool.eq_false_iff]; intro e; exact h4 ((Zx _ _).1 e))
theorem lB {l : zj} (h : 0 < l.length) : ∃ a c, l = a ++ [c] := by
 have hn : l ≠ [] := fun e => by rw [e] at h; cases h
 exact ⟨l.dropLast, l.getLast hn, (List.dropLast_concat_getLast hn).symm⟩
theorem ZG {l : zj} (h : Z1 l = true) : decDigits (ze l) = l := by
 generalize hn : l.length = n
 induction n generalizing l with
 | zero => obtain ⟨h1, _⟩ := Zr.1 h; omega
 | succ n ih =>
  obtain ⟨h1, h2, h3⟩ := Zr.1 h
  obtain ⟨a, c, rfl⟩ := lB h1
  have hc : Zd c = true := h2 c (by simp)
  have hl : a.length = n := by simpa using hn
  rw [Vf]
  by_cases ha : a.length = 0
  ·obtain rfl := List.length_eq_zero_iff.1 ha
   have : 10 * ze [] + vm c = vm c := by simp [ze]
   rw [this, z8 (U6 hc), pJ hc]; rfl
  ·have hg : (a ++ [c]).getD 0 0 = a.getD 0 0 := by
    grind
   have ha0 : a.getD 0 0 ≠ 48 := by rw [← hg]; exact h3 (by simp; omega)
   have hda : Z1 a = true := Zr.2 ⟨by omega, fun x hx => h2 x (List.mem_append_left _ hx), fun _ => ha0⟩
   have ih' := ih hda hl
   have hv := U6 hc
   have hpos : ze a ≠ 0 := fun e => by
    rw [e, z8 (by decide)] at ih'
    rw [← ih'] at ha0
    exact ha0 rfl
   rw [xW (by omega), show (10 * ze a + vm c) / 10 = ze a by omega, show (10 * ze a + vm c) % 10 = vm c by omega, ih', pJ hc]
def Zy (s : zj) : Bool := match s with | 45 :: r => Z1 r && !(r == [48]) | r => Z1 r
def zY (s : zj) : Int := match s with | 45 :: r => -(ze r : Int) | r => (ze r : Int)
theorem Z8 (n : Nat) : itoa (n : Int) = decDigits n := by unfold itoa; rw [if_neg (by omega), Int.toNat_natCast]
theorem itoa_neg {n : Nat} (h : n ≠ 0) : itoa (-(n : Int)) = 45 :: decDigits n := by
 unfold itoa
 simp_all
theorem wS {r : zj} (h : Z1 (45 :: r) = true) : False := by
 have := (Zr.1 h).2.1 45 List.mem_cons_self
 rw [y9] at this
 simp_all
theorem wD {r : zj} (h : Z1 r = true) : Zy r = true ∧ zY r = (ze r : Int) := by
 match r, h with
 | [], h => exact ⟨h, rfl⟩
 | c :: r, h =>
  by_cases hc : c = 45
  ·subst hc; exact (wS h).elim
  ·constructor
   ·unfold Zy; split
    all_goals simp_all
   ·unfold zY; split
    all_goals simp_all
theorem zC (n : Int) : Zy (itoa n) = true ∧ zY (itoa n) = n := by
 by_cases h : n < 0
 ·obtain ⟨m, rfl⟩ : ∃ m : Nat, n = -(m : Int) := ⟨n.natAbs, by omega⟩
  have hm : m ≠ 0 := by omega
  rw [itoa_neg hm]
  refine ⟨?_, ?_⟩
  ·show (Z1 (decDigits m) && !(decDigits m == [48])) = true
   rw [Yu]
   have : decDigits m ≠ [48] := fun e => x9 hm (by rw [e]; rfl)
   simp_all
  ·show -((ze (decDigits m) : Nat) : Int) = _
   rw [Z7]
 ·obtain ⟨m, rfl⟩ : ∃ m : Nat, n = (m : Int) := ⟨n.toNat, by omega⟩
  rw [Z8]
  obtain ⟨a, b⟩ := wD (Yu m)
  exact ⟨a, by rw [b, Z7]⟩
theorem Vj {r : zj} (h : Z1 r = true) (h0 : ze r = 0) : r = [48] := by
 have := ZG h
 rw [h0, z8 (by decide)] at this
 exact this.symm
theorem yj {s : zj} (h : Zy s = true) : (∃ r, s = 45 :: r ∧ Z1 r = true ∧ ze r ≠ 0 ∧ zY s = -(ze r : Int)) ∨ (Z1 s = true ∧ zY s = (ze s : Int)) := by
 unfold Zy at h
 split at h
 ·rename_i r
  rw [Bool.and_eq_true, Bool.not_eq_true'] at h
  refine .inl ⟨r, rfl, h.1, fun e => ?_, rfl⟩
  have := Vj h.1 e
  simp_all
 ·exact .inr ⟨h, (wD h).2⟩
theorem YG {s : zj} (h : Zy s = true) : itoa (zY s) = s := by
 rcases yj h with ⟨r, rfl, h1, h2, h3⟩ | ⟨h1, h2⟩
 ·rw [h3, itoa_neg h2, ZG h1]
 ·rw [h2, Z8, ZG h1]
theorem ua {a b : Int} (h : itoa a = itoa b) : a = b := by rw [← (zC a).2, ← (zC b).2, h]
def Xx (n : Int) : Nat := nDigits n.natAbs
theorem x7 (n : Int) : (itoa n).length = Xx n + if n < 0 then 1 else 0 := by
 unfold itoa Xx
 by_cases h : n < 0
 ·rw [if_pos h, if_pos h, List.length_cons, decDigits_length]
 ·rw [if_neg h, if_neg h, decDigits_length, show n.toNat = n.natAbs by omega]; rfl
theorem tI : ∀ {k u : Nat}, u < 10 ^ (k + 1) → nDigits u ≤ k + 1
 | 0, u, h => by rw [nDigits_small (by simpa using h)]; exact Nat.le_refl _
 | k + 1, u, h => by
  by_cases hu : u < 10
  ·rw [nDigits_small hu]; omega
  ·rw [nDigits_big hu]
   have := tI (k := k) (u := u / 10) (by rw [Nat.pow_succ] at h; omega)
   omega
theorem ZX {k u : Nat} (hk : 0 < k) : nDigits u ≤ k ↔ u < 10 ^ k := by
 constructor
 ·intro h
  exact Nat.lt_of_lt_of_le (lt_pow_nDigits u) (Nat.pow_le_pow_right (by decide) h)
 ·intro h
  obtain ⟨m, rfl⟩ : ∃ m, k = m + 1 := ⟨k - 1, by omega⟩
  exact tI h
theorem Rr {l : zj} (h : Z1 l = true) : l.length = nDigits (ze l) := by
 conv => lhs; rw [← ZG h]
 rw [decDigits_length]
end Go.Ar

namespace Go.Ar
open Go Go.Sx Go.Lib
set_option maxRecDepth 100000
def zv (b : Int) : List Int → Int
 | [] => 0
 | x :: l => x + b * zv b l
def Zp (b : Int) (l : List Int) : Prop := ∀ x ∈ l, 0 ≤ x ∧ x < b
def zI : List Int → List Int
 | [] => []
 | x :: l => if zI l = [] ∧ x = 0 then [] else x :: zI l
def zu (b n : Nat) : List Int :=
 if h : n = 0 ∨ b < 2 then [] else ((n % b : Nat) : Int) :: zu b (n / b)
termination_by n
decreasing_by
 have h2 : n / b < n := Nat.div_lt_self (by omega) (by omega)
 exact h2
theorem ZB (b : Nat) : zu b 0 = [] := by rw [zu, dif_pos (.inl rfl)]
theorem x3 {b n : Nat} (hb : 2 ≤ b) (h : n ≠ 0) : zu b n = ((n % b : Nat) : Int) :: zu b (n / b) := by
 conv => lhs; rw [zu]
 simp_all
theorem Zp.nil (b : Int) : Zp b [] := fun _ h => by cases h
theorem Zp.tail {b x : Int} {l : List Int} (h : Zp b (x :: l)) : Zp b l := fun y hy => h y (List.mem_cons_of_mem _ hy)
theorem Zp.head {b x : Int} {l : List Int} (h : Zp b (x :: l)) : 0 ≤ x ∧ x < b := h x List.mem_cons_self
theorem Zp.app {b : Int} {l m : List Int} (h : Zp b l) (h2 : Zp b m) : Zp b (l ++ m) := fun x hx => (List.mem_append.1 hx).elim (h x) (h2 x)
theorem Zp.one {b x : Int} (h0 : 0 ≤ x) (h1 : x < b) : Zp b [x] := fun y hy => by rw [List.mem_singleton] at hy; subst hy; exact ⟨h0, h1⟩
theorem Zp.snoc {b x : Int} {l : List Int} (h : Zp b l) (h0 : 0 ≤ x) (h1 : x < b) : Zp b (l ++ [x]) := h.app (.one h0 h1)
theorem Zp.take {b : Int} {l : List Int} (h : Zp b l) (n : Nat) : Zp b (l.take n) := fun x hx => h x (List.mem_of_mem_take hx)
theorem Zp.drop {b : Int} {l : List Int} (h : Zp b l) (n : Nat) : Zp b (l.drop n) := fun x hx => h x (List.mem_of_mem_drop hx)
theorem Zp.get {b : Int} {l : List Int} (h : Zp b l) (hb : 0 < b) (i : Nat) : 0 ≤ l.getD i 0 ∧ l.getD i 0 < b := by
 rw [List.getD_eq_getElem?_getD]
 by_cases hi : i < l.length
 ·rw [List.getElem?_eq_getElem hi]; exact h _ (List.getElem_mem hi)
 simp_all
theorem Zp.set {b x : Int} {l : List Int} (h : Zp b l) (h0 : 0 ≤ x) (h1 : x < b) (i : Nat) : Zp b (l.set i x) := fun y hy => by
 rcases List.mem_or_eq_of_mem_set hy with hy | rfl
 ·exact h y hy
 omega
theorem zG {b : Int} (hb : 0 ≤ b) : ∀ {l : List Int}, Zp b l → 0 ≤ zv b l
 | [], _ => Int.le_refl _
 | x :: l, h => by
  have h1 := h.head
  have h2 := Int.mul_nonneg hb (zG hb h.tail)
  show 0 ≤ x + b * zv b l
  omega
theorem vj (b : Int) (l m : List Int) : zv b (l ++ m) = zv b l + b ^ l.length * zv b m := by
 induction l with
 | nil => simp [zv]
 | cons x l ih =>
  show x + b * zv b (l ++ m) = x + b * zv b l + b ^ (l.length + 1) * zv b m
  grind
theorem xa (b : Int) (l : List Int) (x : Int) : zv b (l ++ [x]) = zv b l + b ^ l.length * x := by
 rw [vj]
 show _ + _ * (x + b * 0) = _
 simp
theorem YI {b : Int} (hb : 0 < b) : ∀ {l : List Int}, Zp b l → zv b l < b ^ l.length
 | [], _ => by simp [zv]
 | x :: l, h => by
  have h1 := h.head
  have h2 := YI hb h.tail
  show x + b * zv b l < b ^ (l.length + 1)
  rw [Int.pow_succ, Int.mul_comm _ b]
  have h3 : b * (zv b l + 1) ≤ b * b ^ l.length := Int.mul_le_mul_of_nonneg_left (by omega) (by omega)
  grind
theorem tv {l : List Int} {i : Nat} (h : i < l.length) : l.take (i + 1) = l.take i ++ [l.getD i 0] := by
 simp_all
theorem Oa (b : Int) {l : List Int} {i : Nat} (h : i < l.length) : zv b (l.take (i + 1)) = zv b (l.take i) + b ^ i * l.getD i 0 := by
 rw [tv h, xa, List.length_take, Nat.min_eq_left (by omega)]
theorem Zs (b : Int) (l : List Int) (i : Nat) : zv b (l.take (i + 1)) = zv b (l.take i) + b ^ i * l.getD i 0 := by
 by_cases h : i < l.length
 ·exact Oa b h
 ·rw [List.take_of_length_le (by omega), List.take_of_length_le (by omega), List.getD_eq_getElem?_getD, List.getElem?_eq_none (by omega)]
  simp
theorem wG (b : Int) : ∀ {l : List Int} {i : Nat} (x : Int), i < l.length → zv b (l.set i x) = zv b l + b ^ i * (x - l.getD i 0)
 | [], i, x, h => by cases h
 | y :: l, 0, x, h => by
  show x + b * zv b l = y + b * zv b l + b ^ 0 * (x - y)
  grind
 | y :: l, i + 1, x, h => by
  show y + b * zv b (l.set i x) = y + b * zv b l + b ^ (i + 1) * (x - l.getD i 0)
  rw [wG b x (by simpa using h), Int.mul_add, Int.pow_succ, Int.mul_comm _ b, Int.mul_assoc]
  omega
theorem X6 (b : Int) : ∀ n : Nat, zv b (List.replicate n 0) = 0
 | 0 => rfl
 | n + 1 => by rw [List.replicate_succ]; show 0 + b * zv b _ = 0; rw [X6 b n]; simp
theorem Zp.zeros {b : Int} (hb : 0 < b) (n : Nat) : Zp b (List.replicate n 0) := fun x hx => by rw [List.eq_of_mem_replicate hx]; exact ⟨Int.le_refl _, hb⟩
theorem yQ {b : Nat} (hb : 2 ≤ b) (n : Nat) : zv b (zu b n) = (n : Int) := by
 induction n using Nat.strongRecOn with
 | _ n ih =>
  by_cases h : n = 0
  ·subst h; rw [ZB]; rfl
  ·rw [x3 hb h]
   show ((n % b : Nat) : Int) + (b : Int) * zv b (zu b (n / b)) = n
   rw [ih (n / b) (Nat.div_lt_self (by omega) (by omega))]
   exact_mod_cast Nat.mod_add_div n b
theorem YB {b : Nat} (hb : 2 ≤ b) (n : Nat) : Zp b (zu b n) := by
 induction n using Nat.strongRecOn with
 | _ n ih =>
  by_cases h : n = 0
  ·subst h; rw [ZB]; exact .nil _
  ·rw [x3 hb h]
   intro x hx
   rcases List.mem_cons.1 hx with rfl | hx
   ·have := Nat.mod_lt n (y := b) (by omega)
    omega
   ·exact ih (n / b) (Nat.div_lt_self (by omega) (by omega)) x hx
theorem tG {b : Nat} (hb : 2 ≤ b) (n : Nat) : zI (zu b n) = zu b n := by
 induction n using Nat.strongRecOn with
 | _ n ih =>
  by_cases h : n = 0
  ·subst h; rw [ZB]; rfl
  ·rw [x3 hb h]
   unfold zI
   rw [ih (n / b) (Nat.div_lt_self (by omega) (by omega)), if_neg]
   rintro ⟨h1, h2⟩
   have h3 := yQ hb (n / b)
   rw [h1] at h3
   have h3 : (0 : Int) = ((n / b : Nat) : Int) := h3
   have h4 := Nat.mod_add_div n b
   grind
theorem Ya {b : Nat} (hb : 2 ≤ b) : ∀ {l : List Int}, Zp b l → zI l = zu b (zv b l).toNat
 | [], _ => by
  show [] = zu b 0
  rw [ZB]
 | x :: l, h => by
  have ih := Ya hb h.tail
  have h0 := zG (b := (b : Int)) (by omega) h.tail
  have hx := h.head
  obtain ⟨m, hm⟩ : ∃ m : Nat, zv b l = m := ⟨(zv b l).toNat, by omega⟩
  obtain ⟨y, rfl⟩ : ∃ y : Nat, x = y := ⟨x.toNat, by omega⟩
  have e : (zv b ((y : Int) :: l)).toNat = y + b * m := by
   show ((y : Int) + (b : Int) * zv b l).toNat = _
   grind
  rw [hm, Int.toNat_natCast] at ih
  rw [e]
  have hy : y < b := by omega
  by_cases hz : y + b * m = 0
  ·rw [hz, ZB]
   have hy0 : y = 0 := by omega
   have hm0 : b * m = 0 := by omega
   have hm1 : m = 0 := by
    rcases Nat.mul_eq_zero.1 hm0 with h | h
    all_goals omega
   unfold zI
   rw [if_pos ⟨by rw [ih, hm1, ZB], by omega⟩]
  ·rw [x3 hb hz, Nat.add_mul_mod_self_left, Nat.mod_eq_of_lt hy, Nat.add_mul_div_left _ _ (by omega), Nat.div_eq_of_lt hy, Nat.zero_add, ← ih]
   show (if zI l = [] ∧ (y : Int) = 0 then [] else (y : Int) :: zI l) = _
   rw [if_neg]
   rintro ⟨h1, h2⟩
   rw [ih] at h1
   have h3 := yQ hb m
   rw [h1] at h3
   have h3 : (0 : Int) = (m : Int) := h3
   grind
theorem X0 {b : Nat} (hb : 2 ≤ b) {l : List Int} (h : Zp b l) (ht : zI l = l) : l = zu b (zv b l).toNat := by rw [← Ya hb h, ht]
theorem WE : ∀ {l : List Int} {z : Nat}, z ≤ l.length → (∀ i, z ≤ i → l.getD i 0 = 0) → (z = 0 ∨ l.getD (z - 1) 0 ≠ 0) → zI l = l.take z
 | [], z, h, _, _ => by simp [zI]
 | x :: l, 0, _, h1, _ => by
  have h2 : zI l = l.take 0 := WE (Nat.zero_le _) (fun i _ => h1 (i + 1) (by omega)) (.inl rfl)
  unfold zI
  rw [if_pos ⟨h2, h1 0 (Nat.le_refl _)⟩]; rfl
 | x :: l, z + 1, h0, h1, h2 => by
  have h2 : (x :: l).getD z 0 ≠ 0 := h2.elim (fun h => absurd h (Nat.succ_ne_zero z)) fun h => h
  have h0 : z ≤ l.length := by simpa using h0
  have h3 : zI l = l.take z := by
   refine WE h0 (fun i hi => h1 (i + 1) (by omega)) ?_
   grind
  unfold zI
  rw [h3, if_neg]
  ·rfl
  ·rintro ⟨h4, h5⟩
   match z, h2, h4 with
   | 0, h2, _ => exact h2 h5
   | z + 1, h2, h4 =>
    simp_all
theorem T9 {l : List Int} (h : zI l = l) : l.length = 0 ∨ l.getD (l.length - 1) 0 ≠ 0 := by
 induction l with
 | nil => simp
 | cons x l ih =>
  refine .inr ?_
  unfold zI at h
  grind
theorem vY {b : Nat} (hb : 2 ≤ b) {n : Nat} (h : n ≠ 0) : 0 < (zu b n).length ∧ (zu b n).getD ((zu b n).length - 1) 0 ≠ 0 := by
 have h1 : 0 < (zu b n).length := by rw [x3 hb h]; simp
 exact ⟨h1, (T9 (tG hb n)).resolve_left (by omega)⟩
theorem NA {b : Nat} (hb : 2 ≤ b) (n : Nat) : (n : Int) < (b : Int) ^ (zu b n).length := by
 have := YI (b := (b : Int)) (by omega) (YB hb n)
 rwa [yQ hb] at this
theorem RQ {b : Nat} (hb : 2 ≤ b) {n : Nat} (h : n ≠ 0) : (b : Int) ^ ((zu b n).length - 1) ≤ (n : Int) := by
 obtain ⟨h1, h2⟩ := vY hb h
 have e := yQ hb n
 have h3 := tv (l := zu b n) (i := (zu b n).length - 1) (by omega)
 rw [show (zu b n).length - 1 + 1 = (zu b n).length by omega, List.take_length] at h3
 have h4 := xa b ((zu b n).take ((zu b n).length - 1)) ((zu b n).getD ((zu b n).length - 1) 0)
 rw [← h3, e, List.length_take, Nat.min_eq_left (by omega)] at h4
 have h5 := zG (b := (b : Int)) (by omega) ((YB hb n).take ((zu b n).length - 1))
 have h6 := (YB hb n).get (by omega) ((zu b n).length - 1)
 have h7 : (b : Int) ^ ((zu b n).length - 1) * 1 ≤ (b : Int) ^ ((zu b n).length - 1) * (zu b n).getD ((zu b n).length - 1) 0 :=
  Int.mul_le_mul_of_nonneg_left (by omega) (Int.pow_nonneg (by omega))
 omega
theorem X9 {b : Nat} (hb : 2 ≤ b) {m n : Nat} (h : (zu b m).length < (zu b n).length) : m < n := by
 have h0 : n ≠ 0 := fun e => by rw [e, ZB] at h; cases h
 have h1 := NA hb m
 have h2 := RQ hb h0
 have h3 : b ^ (zu b m).length ≤ b ^ ((zu b n).length - 1) := Nat.pow_le_pow_right (by omega) (by omega)
 grind
end Go.Ar

namespace Go.Ar
open Go Go.Sx Go.Lib
set_option maxRecDepth 100000
def XB (s : zj) : Nat := match s with | 45 :: r => r.length | r => r.length
def ZQ (s : zj) : Int := bif Zy s then (bif Nat.blt 300 (XB s) then 4 else 0) else 11
def zD (a b : zj) : Int := bif ZQ a != 0 then ZQ a else ZQ b
def Zm (n : Int) : Int := bif Nat.blt 300 (Xx n) then 4 else 0
def YL (n : Int) : zj := bif Zm n == 0 then itoa n else []
def Yd (f : Int → Int → Int) (a b : zj) : Int := bif zD a b != 0 then zD a b else Zm (f (zY a) (zY b))
def y5 (f : Int → Int → Int) (a b : zj) : zj := bif Yd f a b == 0 then itoa (f (zY a) (zY b)) else []
def xS (a b : Int) : Int := bif zg a b then -1 else bif a == b then 0 else 1
def yc (a b : zj) : Int := bif zD a b != 0 then 0 else xS (zY a) (zY b)
def Xy (a b : zj) : Int := bif zD a b != 0 then zD a b else bif b == [48] then 12 else 0
def Yw (a b : zj) : zj := bif Xy a b == 0 then itoa (Int.fdiv (zY a) (zY b)) else []
def VD (a b : zj) : zj := bif Xy a b == 0 then itoa (Int.fmod (zY a) (zY b)) else []
theorem yU {s : zj} : ZQ s = 0 ↔ Zy s = true ∧ XB s ≤ 300 := by
 unfold ZQ
 cases h : Zy s with
 | false => simp
 | true =>
  cases h2 : Nat.blt 300 (XB s) with
  | true => simp_all
  | false =>
   have : ¬ 300 < XB s := fun e => by rw [(Zx _ _).2 e] at h2; cases h2
   simp; omega
theorem xx {a b : zj} (h : zD a b = 0) : ZQ a = 0 ∧ ZQ b = 0 := by
 unfold zD at h
 grind
theorem wY {s : zj} (h : Zy s = true) : XB s = Xx (zY s) := by
 rcases yj h with ⟨r, rfl, h1, h2, h3⟩ | ⟨h1, h2⟩
 ·rw [h3]
  unfold Xx
  rw [Int.natAbs_neg, Int.natAbs_natCast, ← Rr h1]; rfl
 ·rw [h2]
  unfold Xx
  rw [Int.natAbs_natCast, ← Rr h1]
  match s, h1 with
  | [], _ => rfl
  | c :: r, h1 =>
   by_cases hc : c = 45
   ·subst hc; exact (wS h1).elim
   ·unfold XB; split
    all_goals simp_all
theorem wW (s : zj) : XB s ≤ s.length ∧ s.length ≤ XB s + 1 := by
 unfold XB
 grind
theorem Qm {s : zj} (h : Zy s = true) {k : Nat} (hl : s.length ≤ k) : -(10 ^ k : Int) < zY s ∧ zY s < 10 ^ k := by
 have key : ∀ r : zj, Z1 r = true → r.length ≤ k → (ze r : Int) < 10 ^ k := fun r hr hl => by
  have h1 := WO (List.all_eq_true.2 (Zr.1 hr).2.1)
  have h2 : 10 ^ r.length ≤ 10 ^ k := Nat.pow_le_pow_right (by decide) hl
  grind
 have hp : (0 : Int) < 10 ^ k := Int.pow_pos (by decide)
 rcases yj h with ⟨r, rfl, h1, h2, h3⟩ | ⟨h1, h2⟩
 all_goals grind
theorem xK {n : Int} {k : Nat} (hk : 0 < k) (h : n.natAbs < 10 ^ k) : Xx n ≤ k := (ZX hk).2 h
end Go.Ar

namespace Go.Ar
open Go Go.Sx Go.Lib
set_option maxRecDepth 100000
theorem YJ {b : Int} (hb : 0 < b) (n : Nat) : 0 < b ^ n := Int.pow_pos hb
theorem WH (b : Int) (n : Nat) : b ^ (n + 1) = b ^ n * b := Int.pow_succ b n
theorem js {n b : Int} (h : 0 ≤ n) (hb : 0 < b) : n.tmod b + b * n.tdiv b = n ∧ 0 ≤ n.tmod b ∧ n.tmod b < b ∧ 0 ≤ n.tdiv b := by
 rw [Int.tmod_eq_emod_of_nonneg h, Int.tdiv_eq_ediv_of_nonneg h]
 exact ⟨Int.emod_add_mul_ediv n b, Int.emod_nonneg n (by omega), Int.emod_lt_of_pos n hb, Int.ediv_nonneg h (by omega)⟩
structure uP (b : Int) (x y : List Int) (z : Nat) (out : List Int) (c : Int) : Prop where
 len : out.length = z
 in_ : Zp b out
 c0 : 0 ≤ c
 c1 : c ≤ 1
 val : zv b out + b ^ z * c = zv b (x.take z) + zv b (y.take z)
theorem uP.zero (b : Int) (x y : List Int) : uP b x y 0 [] 0 := ⟨rfl, .nil b, Int.le_refl _, by omega, by simp [zv]⟩
theorem uP.step {b : Int} (hb : 2 ≤ b) {x y : List Int} (hx : Zp b x) (hy : Zp b y) {z : Nat} {out : List Int} {c : Int} (h : uP b x y z out c) :
  uP b x y (z + 1) (out ++ [(x.getD z 0 + y.getD z 0 + c).tmod b]) ((x.getD z 0 + y.getD z 0 + c).tdiv b) := by
 have x1 := hx.get (by omega) z
 have y1 := hy.get (by omega) z
 have h0 := h.c0
 have h1 := h.c1
 obtain ⟨e, m0, m1, d0⟩ := js (n := x.getD z 0 + y.getD z 0 + c) (b := b) (by omega) (by omega)
 have hd : (x.getD z 0 + y.getD z 0 + c).tdiv b ≤ 1 := by
  refine Decidable.byContradiction fun hn => ?_
  have : b * 2 ≤ b * (x.getD z 0 + y.getD z 0 + c).tdiv b := Int.mul_le_mul_of_nonneg_left (by omega) (by omega)
  omega
 refine ⟨by simp [h.len], h.in_.snoc m0 m1, d0, hd, ?_⟩
 rw [xa, h.len, Zs, Zs]
 have hv := h.val
 grind
theorem Y2 {x : List Int} {n : Nat} (h : x.length ≤ n) : x.take n = x := List.take_of_length_le h
theorem uP.end_ {b : Nat} (hb : 2 ≤ b) {x y : List Int} (hx : Zp b x) (hy : Zp b y) {z : Nat} {out : List Int} {c : Int} (h : uP b x y z out c) (h1 : x.length < z) (h2 : y.length < z) :
  zI out = zu b (zv b x + zv b y).toNat := by
 have hv := h.val
 rw [Y2 (by omega), Y2 (by omega)] at hv
 have x1 := YI (b := (b : Int)) (by omega) hx
 have y1 := YI (b := (b : Int)) (by omega) hy
 have hp : ∀ n, n < z → (b : Int) ^ n * 2 ≤ (b : Int) ^ z := fun n hn => by
  have p1 : b ^ n * 2 ≤ b ^ n * b := Nat.mul_le_mul_left _ hb
  have p2 : b ^ (n + 1) ≤ b ^ z := Nat.pow_le_pow_right (by omega) (by omega)
  grind
 have p1 := hp _ h1
 have p2 := hp _ h2
 have o0 := zG (b := (b : Int)) (by omega) h.in_
 have hc : c = 0 := by
  refine Decidable.byContradiction fun hn => ?_
  have : c = 1 := by have := h.c0; have := h.c1; omega
  grind
 rw [hc, Int.mul_zero, Int.add_zero] at hv
 rw [Ya hb h.in_, hv]
structure VF (b : Int) (x y : List Int) (z : Nat) (out : List Int) (c : Int) : Prop where
 len : out.length = z
 in_ : Zp b out
 c0 : 0 ≤ c
 c1 : c ≤ 1
 val : zv b out - b ^ z * c = zv b (x.take z) - zv b (y.take z)
theorem VF.zero (b : Int) (x y : List Int) : VF b x y 0 [] 0 := ⟨rfl, .nil b, Int.le_refl _, by omega, by simp [zv]⟩
theorem VF.step {b : Int} (hb : 2 ≤ b) {x y : List Int} (hx : Zp b x) (hy : Zp b y) {z : Nat} {out : List Int} {c : Int} (h : VF b x y z out c) :
  (0 ≤ x.getD z 0 - y.getD z 0 - c → VF b x y (z + 1) (out ++ [x.getD z 0 - y.getD z 0 - c]) 0) ∧
  (x.getD z 0 - y.getD z 0 - c < 0 → VF b x y (z + 1) (out ++ [x.getD z 0 - y.getD z 0 - c + b]) 1) := by
 have x1 := hx.get (by omega) z
 have y1 := hy.get (by omega) z
 have h0 := h.c0
 have h1 := h.c1
 have hv := h.val
 refine ⟨fun hn => ⟨by simp [h.len], h.in_.snoc hn (by omega), Int.le_refl _, by omega, ?_⟩, fun hn => ⟨by simp [h.len], h.in_.snoc (by omega) (by omega), by omega, Int.le_refl _, ?_⟩⟩
 ·rw [xa, h.len, Zs, Zs, Int.mul_sub, Int.mul_sub]
  omega
 ·rw [xa, h.len, Zs, Zs, Int.mul_add, Int.mul_sub, Int.mul_sub, WH]
  omega
theorem VF.end_ {b : Nat} (hb : 2 ≤ b) {x y : List Int} {z : Nat} {out : List Int} {c : Int} (h : VF b x y z out c) (h1 : x.length ≤ z) (h2 : y.length ≤ z) (hle : zv b y ≤ zv b x) :
  zI out = zu b (zv b x - zv b y).toNat := by
 have hv := h.val
 rw [Y2 (by omega), Y2 (by omega)] at hv
 have o1 := YI (b := (b : Int)) (by omega) h.in_
 rw [h.len] at o1
 have hc : c = 0 := by
  refine Decidable.byContradiction fun hn => ?_
  have : c = 1 := by have := h.c0; have := h.c1; omega
  grind
 rw [hc, Int.mul_zero, Int.sub_zero] at hv
 rw [Ya hb h.in_, hv]
def VR (x y : List Int) : Nat → Int
 | 0 => 0
 | n + 1 => bif x.getD n 0 != y.getD n 0 then x.getD n 0 - y.getD n 0 else VR x y n
def cmpL (x y : List Int) : Int := bif Nat.beq x.length y.length then VR x y x.length else (x.length : Int) - (y.length : Int)
theorem Tn {b : Int} (hb : 2 ≤ b) {x y : List Int} (hx : Zp b x) (hy : Zp b y) : ∀ n, (VR x y n < 0 ↔ zv b (x.take n) < zv b (y.take n)) ∧ (VR x y n = 0 ↔ zv b (x.take n) = zv b (y.take n))
 | 0 => by simp [VR]
 | n + 1 => by
  have ih := Tn hb hx hy n
  have x1 := hx.get (by omega) n
  have y1 := hy.get (by omega) n
  have v1 := zG (b := b) (by omega) (hx.take n)
  have v2 := zG (b := b) (by omega) (hy.take n)
  have w1 := YI (b := b) (by omega) (hx.take n)
  have w2 := YI (b := b) (by omega) (hy.take n)
  have l1 : b ^ (x.take n).length ≤ b ^ n := by
   obtain ⟨m, rfl⟩ : ∃ m : Nat, b = m := ⟨b.toNat, by omega⟩
   have : m ^ (x.take n).length ≤ m ^ n := Nat.pow_le_pow_right (by omega) (by simp; omega)
   grind
  have l2 : b ^ (y.take n).length ≤ b ^ n := by
   obtain ⟨m, rfl⟩ : ∃ m : Nat, b = m := ⟨b.toNat, by omega⟩
   have : m ^ (y.take n).length ≤ m ^ n := Nat.pow_le_pow_right (by omega) (by simp; omega)
   grind
  rw [Zs, Zs]
  unfold VR
  generalize x.getD n 0 = p at *
  generalize y.getD n 0 = q at *
  by_cases e : p = q
  ·simp_all
  ·rw [bne_iff_ne.2 e]
   simp only [cond_true]
   rcases Int.lt_or_lt_of_ne e with h | h
   ·have : b ^ n * (p + 1) ≤ b ^ n * q := Int.mul_le_mul_of_nonneg_left (by omega) (Int.le_of_lt (YJ (by omega) n))
    grind
   ·have : b ^ n * (q + 1) ≤ b ^ n * p := Int.mul_le_mul_of_nonneg_left (by omega) (Int.le_of_lt (YJ (by omega) n))
    grind
theorem OD {b : Nat} (hb : 2 ≤ b) (m n : Nat) : (cmpL (zu b m) (zu b n) < 0 ↔ m < n) ∧ (cmpL (zu b m) (zu b n) = 0 ↔ m = n) := by
 unfold cmpL
 by_cases h : (zu b m).length = (zu b n).length
 ·have h1 := Tn (b := (b : Int)) (by omega) (YB hb m) (YB hb n) (zu b m).length
  rw [List.take_length, h, List.take_length, yQ hb, yQ hb] at h1
  rw [h, Nat.beq_refl]
  grind
 ·rw [show Nat.beq (zu b m).length (zu b n).length = false from Bool.eq_false_iff.2 fun e => h (Nat.eq_of_beq_eq_true e)]
  simp only [cond_false]
  rcases Nat.lt_or_gt_of_ne h with h1 | h1
  ·have := X9 hb h1; omega
  ·have := X9 hb h1; omega
structure Wz (b : Int) (x y : List Int) (z : Nat) (out : List Int) : Prop where
 len : out.length = x.length + y.length + 1
 in_ : Zp b out
 zero : ∀ i, z + y.length ≤ i → out.getD i 0 = 0
 val : zv b out = zv b (x.take z) * zv b y
structure MulK (b : Int) (x y : List Int) (z k : Nat) (out : List Int) (c : Int) : Prop where
 len : out.length = x.length + y.length + 1
 in_ : Zp b out
 zero : ∀ i, z + y.length ≤ i → z + k ≤ i → out.getD i 0 = 0
 c0 : 0 ≤ c
 c1 : c < b
 val : zv b out + b ^ (z + k) * c = zv b (x.take z) * zv b y + b ^ z * (x.getD z 0 * zv b (y.take k))
theorem xN (b : Int) : zv b [] = 0 := rfl
theorem VY (n i : Nat) : (List.replicate n (0 : Int)).getD i 0 = 0 := by
 grind
theorem Wz.zero_ {b : Int} (hb : 0 < b) (x y : List Int) : Wz b x y 0 (List.replicate (x.length + y.length + 1) 0) := by
 refine ⟨by simp, .zeros hb _, fun i _ => VY _ _, ?_⟩
 rw [X6, List.take_zero, xN, Int.zero_mul]
theorem Wz.start {b : Int} {x y : List Int} {z : Nat} {out : List Int} (hb : 0 < b) (h : Wz b x y z out) : MulK b x y z 0 out 0 :=
 ⟨h.len, h.in_, fun i hi _ => h.zero i hi, Int.le_refl _, hb, by rw [List.take_zero, xN, h.val]; simp⟩
theorem YO (l : List Int) (i j : Nat) (v : Int) (hj : j < l.length) : (l.set j v).getD i 0 = if i = j then v else l.getD i 0 := by
 grind
theorem MulK.step {b : Int} (hb : 2 ≤ b) {x y : List Int} (hx : Zp b x) (hy : Zp b y) {z k : Nat} (hz : z < x.length) (hk : k ≤ y.length) {out : List Int} {c : Int} (h : MulK b x y z k out c) :
  (0 ≤ out.getD (z + k) 0 + x.getD z 0 * y.getD k 0 + c ∧ out.getD (z + k) 0 + x.getD z 0 * y.getD k 0 + c < b * b) ∧
  MulK b x y z (k + 1) (out.set (z + k) ((out.getD (z + k) 0 + x.getD z 0 * y.getD k 0 + c).tmod b)) ((out.getD (z + k) 0 + x.getD z 0 * y.getD k 0 + c).tdiv b) := by
 have x1 := hx.get (by omega) z
 have y1 := hy.get (by omega) k
 have o1 := h.in_.get (by omega) (z + k)
 have h0 := h.c0
 have h1 := h.c1
 have p0 : 0 ≤ x.getD z 0 * y.getD k 0 := Int.mul_nonneg x1.1 y1.1
 have p1 : x.getD z 0 * y.getD k 0 ≤ (b - 1) * (b - 1) := Int.mul_le_mul (by omega) (by omega) y1.1 (by omega)
 have p2 : (b - 1) * (b - 1) = b * b - 2 * b + 1 := by rw [Int.sub_mul, Int.mul_sub]; omega
 have hn0 : 0 ≤ out.getD (z + k) 0 + x.getD z 0 * y.getD k 0 + c := by omega
 have hn1 : out.getD (z + k) 0 + x.getD z 0 * y.getD k 0 + c < b * b := by omega
 obtain ⟨e, m0, m1, d0⟩ := js (b := b) hn0 (by omega)
 have hd : (out.getD (z + k) 0 + x.getD z 0 * y.getD k 0 + c).tdiv b < b := by
  refine Decidable.byContradiction fun hn => ?_
  have : b * b ≤ b * (out.getD (z + k) 0 + x.getD z 0 * y.getD k 0 + c).tdiv b := Int.mul_le_mul_of_nonneg_left (by omega) (by omega)
  omega
 have hlen : z + k < out.length := by rw [h.len]; omega
 refine ⟨⟨hn0, hn1⟩, by rw [List.length_set]; exact h.len, h.in_.set m0 m1 _, fun i hi hi2 => ?_, d0, hd, ?_⟩
 ·rw [YO _ _ _ _ hlen, if_neg (by omega)]
  exact h.zero i hi (by omega)
 ·rw [wG b _ hlen, Zs]
  have hv := h.val
  grind
theorem MulK.end_ {b : Int} (hb : 2 ≤ b) {x y : List Int} (hx : Zp b x) (hy : Zp b y) {z : Nat} (hz : z < x.length) {out : List Int} {c : Int} (h : MulK b x y z (y.length + 1) out c) (hc : c = 0) : Wz b x y (z + 1) out := by
 subst hc
 refine ⟨h.len, h.in_, fun i hi => h.zero i (by omega) (by omega), ?_⟩
 have hv := h.val
 rw [Int.mul_zero, Int.add_zero, Y2 (x := y) (by omega)] at hv
 rw [hv, Zs b x, Int.add_mul, Int.mul_assoc]
theorem MulK.last {b : Int} (hb : 2 ≤ b) {x y : List Int} {z : Nat} {out : List Int} {c : Int} (h : MulK b x y z y.length out c) : (out.getD (z + y.length) 0 + x.getD z 0 * y.getD y.length 0 + c).tdiv b = 0 := by
 have e : y.getD y.length 0 = 0 := by rw [List.getD_eq_getElem?_getD, List.getElem?_eq_none (Nat.le_refl _)]; rfl
 rw [h.zero _ (Nat.le_refl _) (Nat.le_refl _), e]
 rw [Int.mul_zero, Int.add_zero, Int.zero_add]
 exact Int.tdiv_eq_zero_of_lt h.c0 h.c1
theorem Wz.end_ {b : Nat} (hb : 2 ≤ b) {x y : List Int} {out : List Int} (h : Wz b x y x.length out) : zI out = zu b (zv b x * zv b y).toNat := by
 have hv := h.val
 rw [List.take_length] at hv
 rw [Ya hb h.in_, hv]
end Go.Ar

namespace Go.Ar
open Go Go.Sx Go.Lib
set_option maxRecDepth 100000
theorem TC {l : List Int} {z : Nat} (h : z < l.length) : l.drop z = l.getD z 0 :: l.drop (z + 1) := by
 simp_all
theorem xB (b : Int) {l : List Int} {z : Nat} (h : z < l.length) : zv b (l.drop z) = l.getD z 0 + b * zv b (l.drop (z + 1)) := by rw [TC h]; rfl
theorem x8 (b : Int) (l : List Int) {z : Nat} (h : z ≤ l.length) : zv b l = zv b (l.take z) + b ^ z * zv b (l.drop z) := by
 conv => lhs; rw [← List.take_append_drop z l]
 rw [vj, List.length_take, Nat.min_eq_left h]
theorem R8 (l : List Int) (z : Nat) (v : Int) (h : z < l.length) : (l.set z v).drop z = v :: l.drop (z + 1) := by
 rw [TC (by simpa using h), YO _ _ _ _ h, if_pos rfl, List.drop_set]
 simp
structure OR (b d : Int) (a : List Int) (z : Nat) (q : List Int) (r : Int) : Prop where
 len : q.length = a.length
 le : z ≤ a.length
 in_ : Zp b q
 r0 : 0 ≤ r
 r1 : r < d
 val : zv b (a.drop z) = d * zv b (q.drop z) + r
theorem OR.start {b d : Int} (hb : 0 < b) (hd : 0 < d) (a : List Int) : OR b d a a.length (List.replicate a.length 0) 0 :=
 ⟨by simp, Nat.le_refl _, .zeros hb _, Int.le_refl _, hd, by rw [List.drop_of_length_le (Nat.le_refl _), List.drop_of_length_le (by simp)]; simp [zv]⟩
theorem OR.step {b d : Int} (hb : 0 < b) {a : List Int} (ha : Zp b a) {z : Nat} {q : List Int} {r : Int} (h : OR b d a (z + 1) q r) :
  (0 ≤ a.getD z 0 + r * b ∧ a.getD z 0 + r * b < d * b) ∧ OR b d a z (q.set z ((a.getD z 0 + r * b).tdiv d)) ((a.getD z 0 + r * b).tmod d) := by
 have a1 := ha.get hb z
 have h0 := h.r0
 have h1 := h.r1
 have hz := h.le
 have p0 : 0 ≤ r * b := Int.mul_nonneg h0 (by omega)
 have p1 : (r + 1) * b ≤ d * b := Int.mul_le_mul_of_nonneg_right (by omega) (by omega)
 rw [Int.add_mul, Int.one_mul] at p1
 have n0 : 0 ≤ a.getD z 0 + r * b := by omega
 have n1 : a.getD z 0 + r * b < d * b := by omega
 obtain ⟨e, m0, m1, d0⟩ := js n0 (b := d) (by omega)
 have hq : (a.getD z 0 + r * b).tdiv d < b := by
  refine Decidable.byContradiction fun hn => ?_
  have : d * b ≤ d * (a.getD z 0 + r * b).tdiv d := Int.mul_le_mul_of_nonneg_left (by omega) (by omega)
  omega
 refine ⟨⟨n0, n1⟩, by rw [List.length_set]; exact h.len, by omega, h.in_.set d0 hq _, m0, m1, ?_⟩
 rw [R8 _ _ _ (by rw [h.len]; omega), xB b (by omega), h.val]
 show _ = d * (_ + b * _) + _
 grind
theorem OR.end_ {b : Nat} (hb : 2 ≤ b) {d : Nat} (hd : 0 < d) (hdb : d ≤ b) {a : List Int} {q : List Int} {r : Int} (h : OR b d a 0 q r) (n : Nat) (hn : zv b a = n) :
  zI q = zu b (n / d) ∧ r = (n % d : Nat) ∧ zI [r] = zu b (n % d) := by
 have hv := h.val
 rw [List.drop_zero, List.drop_zero, hn] at hv
 have q0 := zG (b := (b : Int)) (by omega) h.in_
 have h0 := h.r0
 have h1 := h.r1
 obtain ⟨Q, hQ⟩ : ∃ Q : Nat, zv b q = Q := ⟨(zv b q).toNat, by omega⟩
 obtain ⟨R, rfl⟩ : ∃ R : Nat, r = R := ⟨r.toNat, by omega⟩
 rw [hQ] at hv
 have hv : n = d * Q + R := by exact_mod_cast hv
 have hR : R < d := by omega
 have e1 : n / d = Q := by rw [hv, Nat.mul_add_div hd, Nat.div_eq_of_lt hR, Nat.add_zero]
 have e2 : n % d = R := by rw [hv, Nat.mul_add_mod, Nat.mod_eq_of_lt hR]
 refine ⟨?_, by rw [e2], ?_⟩
 ·rw [Ya hb h.in_, hQ, e1, Int.toNat_natCast]
 ·rw [Ya hb (.one (by omega) (by omega)), e2]
  rfl
def Out (j n : Nat) (u w : List Int) : Prop := ∀ i, i < j ∨ n ≤ i → w.getD i 0 = u.getD i 0
structure Ws (b : Int) (u v : List Int) (j : Nat) (q : Int) (i : Nat) (w : List Int) (c : Int) : Prop where
 len : w.length = u.length
 in_ : Zp b w
 out : Out j (j + i) u w
 c0 : 0 ≤ c
 c1 : c ≤ q + 1
 val : zv b w - b ^ (j + i) * c = zv b u - b ^ j * (q * zv b (v.take i))
theorem Ws.start {b : Int} {u v : List Int} {j : Nat} {q : Int} (hu : Zp b u) (hq : 0 ≤ q) : Ws b u v j q 0 u 0 :=
 ⟨rfl, hu, fun _ _ => rfl, Int.le_refl _, by omega, by rw [List.take_zero, xN]; simp⟩
def Xr (b n : Int) : Int := bif zg n 0 then (-n + b - 1).tdiv b else 0
theorem oh {b n : Int} (hb : 2 ≤ b) : 0 ≤ Xr b n ∧ 0 ≤ n + Xr b n * b ∧ (n < b → n + Xr b n * b < b) ∧ ∀ q, -(q * b) ≤ n → 0 ≤ q → Xr b n ≤ q := by
 unfold Xr
 cases h : zg n 0 with
 | true =>
  have h := (zq _ _).1 h
  simp only [cond_true]
  obtain ⟨e, m0, m1, d0⟩ := js (n := -n + b - 1) (b := b) (by omega) (by omega)
  rw [Int.mul_comm] at e
  refine ⟨d0, by omega, fun _ => by omega, fun q hq hq0 => ?_⟩
  refine Decidable.byContradiction fun hn => ?_
  have : (q + 1) * b ≤ (-n + b - 1).tdiv b * b := Int.mul_le_mul_of_nonneg_right (by omega) (by omega)
  grind
 | false =>
  have h : ¬ n < 0 := fun e => by rw [(zq _ _).2 e] at h; cases h
  simp_all
theorem Ws.step {b : Int} (hb : 2 ≤ b) {u v : List Int} (hv : Zp b v) {j : Nat} {q : Int} (hq : 0 ≤ q) {i : Nat} (hj : j + i < u.length) {w : List Int} {c : Int} (h : Ws b u v j q i w c) :
  (-((q + 1) * b) ≤ w.getD (j + i) 0 - c - q * v.getD i 0 ∧ w.getD (j + i) 0 - c - q * v.getD i 0 < b) ∧
  Ws b u v j q (i + 1) (w.set (j + i) (w.getD (j + i) 0 - c - q * v.getD i 0 + Xr b (w.getD (j + i) 0 - c - q * v.getD i 0) * b)) (Xr b (w.getD (j + i) 0 - c - q * v.getD i 0)) := by
 have v1 := hv.get (by omega) i
 have w1 := h.in_.get (by omega) (j + i)
 have h0 := h.c0
 have h1 := h.c1
 have p0 : 0 ≤ q * v.getD i 0 := Int.mul_nonneg hq v1.1
 have p1 : q * v.getD i 0 ≤ q * (b - 1) := Int.mul_le_mul_of_nonneg_left (by omega) hq
 rw [Int.mul_sub, Int.mul_one] at p1
 have n1 : -((q + 1) * b) ≤ w.getD (j + i) 0 - c - q * v.getD i 0 := by rw [Int.add_mul, Int.one_mul]; omega
 have n2 : w.getD (j + i) 0 - c - q * v.getD i 0 < b := by omega
 have hl : j + i < w.length := by rw [h.len]; exact hj
 have hval := h.val
 refine ⟨⟨n1, n2⟩, ?_⟩
 obtain ⟨k0, k1, k2, k3⟩ := oh (b := b) (n := w.getD (j + i) 0 - c - q * v.getD i 0) hb
 refine ⟨by rw [List.length_set]; exact h.len, h.in_.set k1 (k2 n2) _, fun x hx => ?_, k0, k3 _ n1 (by omega), ?_⟩
 ·rw [YO _ _ _ _ hl, if_neg (by omega)]
  exact h.out x (by omega)
 ·rw [wG b _ hl, Zs]
  grind
structure Vq (b : Int) (u v : List Int) (j : Nat) (q : Int) (i : Nat) (w : List Int) (c : Int) : Prop where
 len : w.length = u.length
 in_ : Zp b w
 out : Out j (j + i) u w
 c0 : 0 ≤ c
 c1 : c ≤ q
 val : zv b w + b ^ (j + i) * c = zv b u + b ^ j * (q * zv b (v.take i))
theorem Vq.start {b : Int} {u v : List Int} {j : Nat} {q : Int} (hu : Zp b u) (hq : 0 ≤ q) : Vq b u v j q 0 u 0 :=
 ⟨rfl, hu, fun _ _ => rfl, Int.le_refl _, hq, by rw [List.take_zero, xN]; simp⟩
theorem Vq.step {b : Int} (hb : 2 ≤ b) {u v : List Int} (hv : Zp b v) {j : Nat} {q : Int} (hq : 0 ≤ q) {i : Nat} (hj : j + i < u.length) {w : List Int} {c : Int} (h : Vq b u v j q i w c) :
  (0 ≤ w.getD (j + i) 0 + q * v.getD i 0 + c ∧ w.getD (j + i) 0 + q * v.getD i 0 + c < (q + 1) * b) ∧
  Vq b u v j q (i + 1) (w.set (j + i) ((w.getD (j + i) 0 + q * v.getD i 0 + c).tmod b)) ((w.getD (j + i) 0 + q * v.getD i 0 + c).tdiv b) := by
 have v1 := hv.get (by omega) i
 have w1 := h.in_.get (by omega) (j + i)
 have h0 := h.c0
 have h1 := h.c1
 have p0 : 0 ≤ q * v.getD i 0 := Int.mul_nonneg hq v1.1
 have p1 : q * v.getD i 0 ≤ q * (b - 1) := Int.mul_le_mul_of_nonneg_left (by omega) hq
 rw [Int.mul_sub, Int.mul_one] at p1
 have n1 : 0 ≤ w.getD (j + i) 0 + q * v.getD i 0 + c := by omega
 have n2 : w.getD (j + i) 0 + q * v.getD i 0 + c < (q + 1) * b := by rw [Int.add_mul, Int.one_mul]; omega
 have hl : j + i < w.length := by rw [h.len]; exact hj
 have hval := h.val
 refine ⟨⟨n1, n2⟩, ?_⟩
 obtain ⟨e, m0, m1, d0⟩ := js n1 (b := b) (by omega)
 have hd : (w.getD (j + i) 0 + q * v.getD i 0 + c).tdiv b ≤ q := by
  refine Decidable.byContradiction fun hn => ?_
  have : b * (q + 1) ≤ b * (w.getD (j + i) 0 + q * v.getD i 0 + c).tdiv b := Int.mul_le_mul_of_nonneg_left (by omega) (by omega)
  grind
 refine ⟨by rw [List.length_set]; exact h.len, h.in_.set m0 m1 _, fun x hx => ?_, d0, hd, ?_⟩
 ·rw [YO _ _ _ _ hl, if_neg (by omega)]
  exact h.out x (by omega)
 ·rw [wG b _ hl, Zs]
  grind
theorem Zp.ext {b : Int} (hb : 0 < b) : ∀ {l m : List Int}, Zp b l → Zp b m → l.length = m.length → zv b l = zv b m → l = m
 | [], [], _, _, _, _ => rfl
 | [], _ :: _, _, _, h, _ => by cases h
 | _ :: _, [], _, _, h, _ => by cases h
 | x :: l, y :: m, hl, hm, h, hv => by
  have hx := hl.head
  have hy := hm.head
  have hv : x + b * zv b l = y + b * zv b m := hv
  have e1 : x = (x + b * zv b l) % b := by rw [Int.add_mul_emod_self_left, Int.emod_eq_of_lt hx.1 hx.2]
  have e2 : y = (y + b * zv b m) % b := by rw [Int.add_mul_emod_self_left, Int.emod_eq_of_lt hy.1 hy.2]
  have e3 : x = y := by rw [e1, e2, hv]
  subst e3
  have e4 : b * zv b l = b * zv b m := by omega
  rw [Zp.ext hb hl.tail hm.tail (by simpa using h) (Int.eq_of_mul_eq_mul_left (by omega) e4)]
theorem M2 {b : Int} {u : List Int} {j n : Nat} (h : ∀ i, n ≤ i → u.getD i 0 = 0) (hj : j ≤ n) : zv b (u.drop j) = zv b ((u.take n).drop j) := by
 have e : ∀ {l : List Int}, (∀ i, l.getD i 0 = 0) → zv b l = 0 := by
  intro l
  induction l with
  | nil => intro _; rfl
  | cons x l ih =>
   intro hl
   have h0 : x = 0 := hl 0
   show x + b * zv b l = 0
   rw [h0, ih fun i => hl (i + 1)]; simp
 by_cases hn : n ≤ u.length
 ·have e1 : u.drop j = (u.take n).drop j ++ u.drop n := by
   conv => lhs; rw [← List.take_append_drop n u]
   grind
  rw [e1, vj, e (l := u.drop n), Int.mul_zero, Int.add_zero]
  simp_all
 ·rw [List.take_of_length_le (by omega)]
end Go.Ar

namespace Go.Ar
open Go Go.Sx Go.Lib
set_option maxRecDepth 100000
theorem yL (l : List Int) (j i : Nat) : (l.drop j).getD i 0 = l.getD (j + i) 0 := by
 simp
theorem XA {b : Int} {l : List Int} {n : Nat} (h : ∀ i, n ≤ i → l.getD i 0 = 0) : zv b l = zv b (l.take n) := by
 have := M2 (b := b) (j := 0) h (Nat.zero_le _)
 assumption
theorem xU {b : Int} (hb : 0 < b) {l : List Int} (h : Zp b l) (n : Nat) : 0 ≤ zv b (l.take n) ∧ zv b (l.take n) < b ^ n := by
 refine ⟨zG (Int.le_of_lt hb) (h.take n), ?_⟩
 have h1 := YI hb (h.take n)
 have h2 : b ^ (l.take n).length ≤ b ^ n := by
  obtain ⟨m, rfl⟩ : ∃ m : Nat, b = m := ⟨b.toNat, by omega⟩
  have : m ^ (l.take n).length ≤ m ^ n := Nat.pow_le_pow_right (by omega) (by simp; omega)
  grind
 omega
theorem sX {b : Int} (hb : 0 < b) {l : List Int} (h : Zp b l) {n : Nat} (hv : zv b l < b ^ n) {i : Nat} (hi : n ≤ i) : l.getD i 0 = 0 := by
 by_cases hl : i < l.length
 ·have e := x8 b l (z := i) (by omega)
  rw [xB b hl] at e
  have h1 := (h.get hb i).1
  have h2 := (xU hb h i).1
  have h3 := zG (Int.le_of_lt hb) (h.drop (i + 1))
  refine Decidable.byContradiction fun hn => ?_
  have h4 : b ^ i * 1 ≤ b ^ i * (l.getD i 0 + b * zv b (l.drop (i + 1))) := by
   refine Int.mul_le_mul_of_nonneg_left ?_ (Int.le_of_lt (YJ hb i))
   have := Int.mul_nonneg (Int.le_of_lt hb) h3
   omega
  have h5 : b ^ n ≤ b ^ i := by
   obtain ⟨m, rfl⟩ : ∃ m : Nat, b = m := ⟨b.toNat, by omega⟩
   have : m ^ n ≤ m ^ i := Nat.pow_le_pow_right (by omega) hi
   grind
  omega
 simp_all
theorem Hb {b : Int} (hb : 0 < b) {l : List Int} (h : Zp b l) {k : Nat} (hz : ∀ i, k + 3 ≤ i → l.getD i 0 = 0) :
  ∃ low, 0 ≤ low ∧ low < b ^ k ∧ zv b l = low + b ^ k * (l.getD k 0 + b * l.getD (k + 1) 0 + b * b * l.getD (k + 2) 0) := by
 refine ⟨_, (xU hb h k).1, (xU hb h k).2, ?_⟩
 rw [XA hz, show k + 3 = k + 2 + 1 from rfl, Zs, show k + 2 = k + 1 + 1 from rfl, Zs, Zs, WH b (k + 1), WH b k, Int.mul_add, Int.mul_add]
 grind
structure ni (b top v1 W V q r : Int) : Prop where
 eq : q * v1 + r = top
 r0 : 0 ≤ r
 q0 : 0 ≤ q
 lt : W < (q + 1) * V
 le : q < 2 * b
structure oJ (b : Int) (k : Nat) (u0 u1 u2 v1 v2 W V : Int) : Prop where
 hb : 2 ≤ b
 hu0 : 0 ≤ u0 ∧ u0 ≤ v1
 hu1 : 0 ≤ u1 ∧ u1 < b
 hu2 : 0 ≤ u2 ∧ u2 < b
 hv1 : 0 < v1 ∧ v1 < b
 hv2 : 0 ≤ v2 ∧ v2 < b
 w : W < b ^ k * (u2 + 1 + b * (u0 * b + u1))
 v : b ^ k * (v2 + b * v1) ≤ V
theorem oJ.start {b : Int} {k : Nat} {u0 u1 u2 v1 v2 W V : Int} (h : oJ b k u0 u1 u2 v1 v2 W V) : ni b (u0 * b + u1) v1 W V ((u0 * b + u1).tdiv v1) ((u0 * b + u1).tmod v1) := by
 have hb := h.hb
 have a0 := h.hu0
 have a1 := h.hu1
 have a2 := h.hu2
 have b1 := h.hv1
 have b2 := h.hv2
 have p0 : 0 ≤ u0 * b := Int.mul_nonneg a0.1 (by omega)
 obtain ⟨e, m0, m1, d0⟩ := js (n := u0 * b + u1) (b := v1) (by omega) b1.1
 have hp := YJ (b := b) (by omega) k
 refine ⟨by rw [Int.mul_comm]; omega, m0, d0, ?_, ?_⟩
 ·generalize hq : (u0 * b + u1).tdiv v1 = q at *
  have t1 : u0 * b + u1 + 1 ≤ (q + 1) * v1 := by rw [Int.add_mul, Int.one_mul, Int.mul_comm q]; omega
  have t2 : b * (u0 * b + u1 + 1) ≤ b * ((q + 1) * v1) := Int.mul_le_mul_of_nonneg_left t1 (by omega)
  have t3 : b ^ k * (u2 + 1 + b * (u0 * b + u1)) ≤ b ^ k * (b * ((q + 1) * v1)) := Int.mul_le_mul_of_nonneg_left (by rw [Int.mul_add, Int.mul_one] at t2; omega) (Int.le_of_lt hp)
  have t4 : (q + 1) * (b ^ k * (v2 + b * v1)) ≤ (q + 1) * V := Int.mul_le_mul_of_nonneg_left h.v (by omega)
  have t5 : b ^ k * (b * ((q + 1) * v1)) ≤ (q + 1) * (b ^ k * (v2 + b * v1)) := by
   rw [← Int.mul_assoc (q + 1), Int.mul_comm (q + 1) (b ^ k), Int.mul_assoc]
   refine Int.mul_le_mul_of_nonneg_left ?_ (Int.le_of_lt hp)
   rw [Int.mul_add]
   have := Int.mul_nonneg (show 0 ≤ q + 1 by omega) b2.1
   grind
  have := h.w
  omega
 ·refine Decidable.byContradiction fun hn => ?_
  have t1 : v1 * (2 * b) ≤ v1 * (u0 * b + u1).tdiv v1 := Int.mul_le_mul_of_nonneg_left (by omega) (by omega)
  have t2 : u0 * b ≤ v1 * b := Int.mul_le_mul_of_nonneg_right a0.2 (by omega)
  have t3 : v1 * (2 * b) = v1 * b + v1 * b := by rw [Int.two_mul, Int.mul_add]
  have t4 : 1 * b ≤ v1 * b := Int.mul_le_mul_of_nonneg_right (by omega) (by omega)
  omega
theorem oJ.step {b : Int} {k : Nat} {u0 u1 u2 v1 v2 W V q r : Int} (h : oJ b k u0 u1 u2 v1 v2 W V) (hi : ni b (u0 * b + u1) v1 W V q r) (hW : W < b * V) (hV : 0 < V)
  (hc : b ≤ q ∨ r * b + u2 < q * v2) : 0 < q ∧ ni b (u0 * b + u1) v1 W V (q - 1) (r + v1) := by
 have hb := h.hb
 have a2 := h.hu2
 have b1 := h.hv1
 have b2 := h.hv2
 have q0 := hi.q0
 have r0 := hi.r0
 have hp := YJ (b := b) (by omega) k
 have hq : 0 < q := by
  rcases hc with hc | hc
  ·omega
  ·refine Decidable.byContradiction fun hn => ?_
   have : q = 0 := by omega
   subst this
   have := Int.mul_nonneg r0 (show 0 ≤ b by omega)
   omega
 refine ⟨hq, by rw [Int.sub_mul, Int.one_mul]; have := hi.eq; omega, by omega, by omega, ?_, by have := hi.le; omega⟩
 rw [Int.sub_add_cancel]
 rcases hc with hc | hc
 ·have : b * V ≤ q * V := Int.mul_le_mul_of_nonneg_right hc (by omega)
  omega
 ·have t1 : q * (b ^ k * (v2 + b * v1)) ≤ q * V := Int.mul_le_mul_of_nonneg_left h.v q0
  have t2 : b ^ k * (u2 + 1 + b * (u0 * b + u1)) ≤ q * (b ^ k * (v2 + b * v1)) := by
   rw [← Int.mul_assoc q, Int.mul_comm q (b ^ k), Int.mul_assoc]
   refine Int.mul_le_mul_of_nonneg_left ?_ (Int.le_of_lt hp)
   rw [← hi.eq, Int.mul_add, Int.mul_add, ← Int.mul_assoc q b, Int.mul_comm q b, Int.mul_assoc b q, Int.mul_comm b r]
   omega
  have := h.w
  omega
structure wK (b A V : Int) (n m j : Nat) (q u : List Int) : Prop where
 ql : q.length = m
 ul : u.length = m + n
 qi : Zp b q
 ui : Zp b u
 hi : ∀ i, j + n ≤ i → u.getD i 0 = 0
 top : zv b (u.drop j) < V
 val : A = V * (b ^ j * zv b (q.drop j)) + zv b u
theorem wK.start {b A V : Int} (hb : 0 < b) {n m : Nat} {u : List Int} (hl : u.length = m + n) (hu : Zp b u) (hV : zv b (u.drop m) < V) (hA : A = zv b u) : wK b A V n m m (List.replicate m 0) u :=
 ⟨by simp, hl, .zeros hb m, hu, fun i hi => by rw [List.getD_eq_getElem?_getD, List.getElem?_eq_none (by omega)]; rfl, hV, by
  rw [List.drop_of_length_le (by simp), xN, Int.mul_zero, Int.mul_zero, Int.zero_add]; exact hA⟩
theorem wK.win {b A V : Int} (hb : 0 < b) {n m j : Nat} {q u : List Int} (hn : 0 < n) (hj : j < m) (h : wK b A V n m (j + 1) q u) : 0 ≤ zv b (u.drop j) ∧ zv b (u.drop j) < b * V := by
 have h1 := h.ui.get hb j
 have h2 := h.top
 rw [xB b (by rw [h.ul]; omega)]
 have h3 : b * (zv b (u.drop (j + 1)) + 1) ≤ b * V := Int.mul_le_mul_of_nonneg_left (by omega) (by omega)
 rw [Int.mul_add, Int.mul_one] at h3
 have h4 := Int.mul_nonneg (Int.le_of_lt hb) (zG (Int.le_of_lt hb) (h.ui.drop (j + 1)))
 omega
theorem Ug {u w : List Int} {j n : Nat} (hl : w.length = u.length) (h : Out j n u w) : w.take j = u.take j := by
 refine List.ext_getElem (by simp [hl]) fun i h1 h2 => ?_
 have hi : i < j := by simp at h1; omega
 have hiw : i < w.length := by simp at h1; omega
 have e := h i (.inl hi)
 simp_all
theorem RZ {b : Int} {u w : List Int} {j n : Nat} (hl : w.length = u.length) (hj : j ≤ u.length) (h : Out j n u w) : zv b w - zv b u = b ^ j * (zv b (w.drop j) - zv b (u.drop j)) := by
 rw [x8 b w (z := j) (by omega), x8 b u (z := j) hj, Ug hl h, Int.mul_sub]
 omega
theorem Ws.end_ {b : Int} (hb : 2 ≤ b) {u v : List Int} {j : Nat} {q : Int} {w : List Int} {c : Int} (hj : j ≤ u.length) (hz : ∀ i, j + 1 + v.length ≤ i → u.getD i 0 = 0) (h : Ws b u v j q (v.length + 1) w c) :
  zv b (w.drop j) - b ^ (v.length + 1) * c = zv b (u.drop j) - q * zv b v ∧ 0 ≤ zv b (w.drop j) ∧ zv b (w.drop j) < b ^ (v.length + 1) := by
 have hv := h.val
 rw [Y2 (by omega)] at hv
 have hl := RZ (b := b) h.len hj h.out
 refine ⟨?_, zG (by omega) (h.in_.drop j), ?_⟩
 ·have e : b ^ j * (zv b (w.drop j) - b ^ (v.length + 1) * c) = b ^ j * (zv b (u.drop j) - q * zv b v) := by
   grind
  exact Int.eq_of_mul_eq_mul_left (by have := YJ (b := b) (by omega) j; omega) e
 ·have hz2 : ∀ i, v.length + 1 ≤ i → (w.drop j).getD i 0 = 0 := fun i hi => by
   rw [yL, h.out _ (.inr (by omega)), hz _ (by omega)]
  rw [XA hz2]
  exact (xU (by omega) (h.in_.drop j) _).2
theorem Ws.fits {b : Int} (hb : 2 ≤ b) {u v : List Int} {j : Nat} {q : Int} {w : List Int} {c : Int} (hj : j ≤ u.length) (hz : ∀ i, j + 1 + v.length ≤ i → u.getD i 0 = 0) (h : Ws b u v j q (v.length + 1) w c) :
  (c ≤ 0 → zv b (w.drop j) = zv b (u.drop j) - q * zv b v) ∧ (0 < c → zv b (u.drop j) < q * zv b v) := by
 obtain ⟨e, e0, e1⟩ := h.end_ hb hj hz
 have hp := YJ (b := b) (by omega) (v.length + 1)
 constructor
 ·intro hc
  have : c = 0 := by have := h.c0; omega
  simp_all
 ·intro hc
  have : b ^ (v.length + 1) * 1 ≤ b ^ (v.length + 1) * c := Int.mul_le_mul_of_nonneg_left (by omega) (by omega)
  omega
theorem Vq.end_ {b : Int} (hb : 2 ≤ b) {u v : List Int} {j : Nat} {q : Int} {w : List Int} {c : Int} (hu : Zp b u) (hj : j ≤ u.length) (hz : ∀ i, j + 1 + v.length ≤ i → u.getD i 0 = 0) (h : Ws b u v j q (v.length + 1) w c)
  {w2 : List Int} {c2 : Int} (h2 : Vq b w v j q (v.length + 1) w2 c2) : w2 = u := by
 obtain ⟨e, e0, e1⟩ := h.end_ hb hj hz
 have hp := YJ (b := b) (by omega) (v.length + 1)
 have hv := h2.val
 rw [Y2 (by omega)] at hv
 have hl := RZ (b := b) h2.len (by rw [h.len]; exact hj) h2.out
 have o2 : ∀ i, v.length + 1 ≤ i → (w2.drop j).getD i 0 = 0 := fun i hi => by
  rw [yL, h2.out _ (.inr (by omega)), h.out _ (.inr (by omega)), hz _ (by omega)]
 have ou : ∀ i, v.length + 1 ≤ i → (u.drop j).getD i 0 = 0 := fun i hi => by rw [yL, hz _ (by omega)]
 have b2 := (xU (by omega) (h2.in_.drop j) (v.length + 1))
 rw [← XA o2] at b2
 have bu := (xU (by omega) (hu.drop j) (v.length + 1))
 rw [← XA ou] at bu
 have e2 : zv b (w2.drop j) + b ^ (v.length + 1) * c2 = zv b (w.drop j) + q * zv b v := by
  have e3 : b ^ j * (zv b (w2.drop j) + b ^ (v.length + 1) * c2) = b ^ j * (zv b (w.drop j) + q * zv b v) := by
   grind
  exact Int.eq_of_mul_eq_mul_left (by have := YJ (b := b) (by omega) j; omega) e3
 have e4 : zv b (w2.drop j) - zv b (u.drop j) = b ^ (v.length + 1) * (c - c2) := by rw [Int.mul_sub]; omega
 have e5 : c = c2 := by
  rcases Int.lt_trichotomy c c2 with hlt | heq | hgt
  ·have : b ^ (v.length + 1) * (c - c2) ≤ b ^ (v.length + 1) * (-1) := Int.mul_le_mul_of_nonneg_left (by omega) (by omega)
   omega
  ·exact heq
  ·have : b ^ (v.length + 1) * 1 ≤ b ^ (v.length + 1) * (c - c2) := Int.mul_le_mul_of_nonneg_left (by omega) (by omega)
   omega
 have e6 : zv b (w2.drop j) = zv b (u.drop j) := by rw [e5, Int.sub_self, Int.mul_zero] at e4; omega
 refine Zp.ext (by omega) h2.in_ hu (h2.len.trans h.len) ?_
 rw [x8 b w2 (z := j) (by rw [h2.len, h.len]; exact hj), x8 b u (z := j) hj, Ug h2.len h2.out, Ug h.len h.out, e6]
theorem wK.step {b A V : Int} (hb : 2 ≤ b) {v : List Int} (hv : Zp b v) (hV : zv b v = V) {m j : Nat} {q u : List Int} (hj : j < m) (h : wK b A V v.length m (j + 1) q u) {Q : Int} (hQ : 0 ≤ Q) (hlt : zv b (u.drop j) < (Q + 1) * V)
  {w : List Int} {c : Int} (ht : Ws b u v j Q (v.length + 1) w c) (hc : c ≤ 0) : wK b A V v.length m j (q.set j Q) w := by
 have hul := h.ul
 obtain ⟨t1, _⟩ := ht.fits hb (by omega) (fun i hi => h.hi i (by omega))
 have t1 := t1 hc
 rw [hV] at t1
 have w0 := zG (b := b) (by omega) (ht.in_.drop j)
 have hw : zv b (w.drop j) < V := by rw [t1]; rw [Int.add_mul, Int.one_mul] at hlt; omega
 have hVb : V < b ^ v.length := by rw [← hV]; exact YI (by omega) hv
 have hV0 : 0 < V := by omega
 have hvl : 0 < v.length := by
  refine Nat.pos_of_ne_zero fun e => ?_
  rw [e, Int.pow_zero] at hVb
  omega
 obtain ⟨z1, z2⟩ := h.win (by omega) hvl hj
 have hQb : Q < b := by
  refine Decidable.byContradiction fun hn => ?_
  have : b * V ≤ Q * V := Int.mul_le_mul_of_nonneg_right (by omega) (by omega)
  omega
 refine ⟨by rw [List.length_set]; exact h.ql, by rw [ht.len]; exact hul, h.qi.set hQ hQb _, ht.in_, fun i hi => ?_, hw, ?_⟩
 ·by_cases e : i = j + v.length
  ·have := sX (by omega) (ht.in_.drop j) (n := v.length) (i := v.length) (by omega) (Nat.le_refl _)
   simp_all
  ·rw [ht.out i (.inr (by omega))]
   exact h.hi i (by omega)
 ·have hvv := ht.val
  have hc0 : c = 0 := by have := ht.c0; omega
  rw [hc0, Int.mul_zero, Int.sub_zero, Y2 (by omega), hV] at hvv
  rw [R8 _ _ _ (by rw [h.ql]; omega)]
  show A = V * (b ^ j * (Q + b * zv b (q.drop (j + 1)))) + zv b w
  rw [hvv, h.val, WH, Int.mul_add, Int.mul_add, ← Int.mul_assoc (b ^ j) b]
  grind
theorem wK.est {b A V : Int} (hb : 2 ≤ b) {v : List Int} (hv : Zp b v) (hV : zv b v = V) {k : Nat} (hk : v.length = k + 2) (h1 : 0 < v.getD (k + 1) 0) {m j : Nat} {q u : List Int} (hj : j < m) (h : wK b A V v.length m (j + 1) q u) :
  oJ b k (u.getD (j + (k + 2)) 0) (u.getD (j + (k + 1)) 0) (u.getD (j + k) 0) (v.getD (k + 1) 0) (v.getD k 0) (zv b (u.drop j)) V := by
 have hz : ∀ i, k + 3 ≤ i → (u.drop j).getD i 0 = 0 := fun i hi => by rw [yL]; exact h.hi _ (by omega)
 obtain ⟨low, l0, l1, le⟩ := Hb (by omega) (h.ui.drop j) hz
 rw [yL, yL, yL] at le
 have hzv : ∀ i, k + 3 ≤ i → v.getD i 0 = 0 := fun i hi => by rw [List.getD_eq_getElem?_getD, List.getElem?_eq_none (by omega)]; rfl
 obtain ⟨lv, v0, v1, ve⟩ := Hb (by omega) hv hzv
 rw [show v.getD (k + 2) 0 = 0 by rw [List.getD_eq_getElem?_getD, List.getElem?_eq_none (by omega)]; rfl, Int.mul_zero, Int.add_zero, hV] at ve
 have a0 := h.ui.get (by omega) (j + (k + 2))
 have a1 := h.ui.get (by omega) (j + (k + 1))
 have a2 := h.ui.get (by omega) (j + k)
 have c1 := hv.get (by omega) (k + 1)
 have c2 := hv.get (by omega) k
 refine ⟨hb, ⟨a0.1, ?_⟩, a1, a2, ⟨h1, c1.2⟩, c2, ?_, by omega⟩
 ·-- the first limb is at most that of the divisor
  have ht := h.top
  have hz2 : ∀ i, k + 2 ≤ i → (u.drop (j + 1)).getD i 0 = 0 := fun i hi => by rw [yL]; exact h.hi _ (by omega)
  have e1 : zv b (u.drop (j + 1)) = zv b ((u.drop (j + 1)).take (k + 1)) + b ^ (k + 1) * u.getD (j + (k + 2)) 0 := by
   rw [XA hz2, show k + 2 = k + 1 + 1 from rfl, Zs, yL, show j + 1 + (k + 1) = j + (k + 1 + 1) by omega]
  have e2 := (xU (b := b) (by omega) (h.ui.drop (j + 1)) (k + 1)).1
  have e3 : zv b v = zv b (v.take (k + 1)) + b ^ (k + 1) * v.getD (k + 1) 0 := by
   rw [← Zs, List.take_of_length_le (by omega)]
  have e4 := (xU (b := b) (by omega) hv (k + 1)).2
  rw [hV] at e3
  refine Decidable.byContradiction fun hn => ?_
  have : b ^ (k + 1) * (v.getD (k + 1) 0 + 1) ≤ b ^ (k + 1) * u.getD (j + (k + 2)) 0 := Int.mul_le_mul_of_nonneg_left (by omega) (Int.le_of_lt (YJ (by omega) _))
  grind
 grind
theorem wK.end_ {b : Nat} (hb : 2 ≤ b) {A V : Nat} (hV0 : 0 < V) {n m : Nat} {q u : List Int} (h : wK b A V n m 0 q u) : zI q = zu b (A / V) ∧ zI u = zu b (A % V) := by
 have hv := h.val
 rw [Int.pow_zero, Int.one_mul, List.drop_zero] at hv
 have ht := h.top
 rw [List.drop_zero] at ht
 have q0 := zG (b := (b : Int)) (by omega) h.qi
 have u0 := zG (b := (b : Int)) (by omega) h.ui
 obtain ⟨Q, hQ⟩ : ∃ Q : Nat, zv b q = Q := ⟨(zv b q).toNat, by omega⟩
 obtain ⟨R, hR⟩ : ∃ R : Nat, zv b u = R := ⟨(zv b u).toNat, by omega⟩
 rw [hQ, hR] at hv
 rw [hR] at ht
 have hv : A = V * Q + R := by exact_mod_cast hv
 have hR' : R < V := by omega
 rw [Ya hb h.qi, Ya hb h.ui, hQ, hR, Int.toNat_natCast, Int.toNat_natCast]
 rw [hv, Nat.mul_add_div hV0, Nat.div_eq_of_lt hR', Nat.add_zero, Nat.mul_add_mod, Nat.mod_eq_of_lt hR']
 simp
end Go.Ar

namespace Go.Ar
open Go Go.Sx Go.Lib
set_option maxRecDepth 100000
def zO (s : zj) : zj := s.takeWhile (· != 47)
def zb (s : zj) : zj := (s.dropWhile (· != 47)).drop 1
def zJ (s : zj) : Bool := s.any (· == 47)
def Zn (s : zj) : Bool := Zy (zO s) && (!zJ s || Z1 (zb s) && !(zb s == [48]) && !(zb s == [49]))
def zM (s : zj) : Int := zY (zO s)
def zP (s : zj) : Nat := bif zJ s then ze (zb s) else 1
def zh (s : zj) : Int :=
 bif !Zn s then 11 else bif Nat.blt 300 (XB (zO s)) || Nat.blt 300 (zb s).length then 4 else bif Nat.beq (Nat.gcd (zM s).natAbs (zP s)) 1 then 0 else 11
def YM (n : Int) (d : Nat) : zj := itoa n ++ bif Nat.beq d 1 then [] else 47 :: decDigits d
def ZW (n : Int) (d : Nat) : zj := YM (n / (Nat.gcd n.natAbs d : Int)) (d / Nat.gcd n.natAbs d)
theorem U9 {c : UInt8} (h : Zd c = true) : (c != 47) = true := by
 rw [y9] at h
 rw [bne_iff_ne]
 intro e
 simp_all
theorem VS {s : zj} (h : Zy s = true) : ∀ c ∈ s, (c != 47) = true := by
 rcases yj h with ⟨r, rfl, h1, _, _⟩ | ⟨h1, _⟩
 ·intro c hc
  rcases List.mem_cons.1 hc with rfl | hc
  ·decide
  ·exact U9 ((Zr.1 h1).2.1 c hc)
 ·exact fun c hc => U9 ((Zr.1 h1).2.1 c hc)
theorem Wa {p : UInt8 → Bool} : ∀ {a : zj}, (∀ c ∈ a, p c = true) → a.takeWhile p = a ∧ a.dropWhile p = []
 | [], _ => ⟨rfl, rfl⟩
 | c :: a, h => by
  obtain ⟨h1, h2⟩ := Wa (a := a) fun x hx => h x (List.mem_cons_of_mem _ hx)
  simp_all
theorem TZ {p : UInt8 → Bool} {x : UInt8} {b : zj} (hx : p x = false) : ∀ {a : zj}, (∀ c ∈ a, p c = true) → (a ++ x :: b).takeWhile p = a ∧ (a ++ x :: b).dropWhile p = x :: b
 | [], _ => by simp [List.takeWhile_cons, List.dropWhile_cons, hx]
 | c :: a, h => by
  simp_all
theorem XS {s : zj} (h : zJ s = false) : zO s = s ∧ zb s = [] := by
 unfold zJ at h
 rw [List.any_eq_false] at h
 obtain ⟨h1, h2⟩ := Wa (p := (· != 47)) (a := s) fun c hc => by
  simp_all
 exact ⟨h1, by unfold zb; rw [h2]; rfl⟩
theorem Ul {a b : zj} (h : ∀ c ∈ a, (c != 47) = true) : zO (a ++ 47 :: b) = a ∧ zb (a ++ 47 :: b) = b ∧ zJ (a ++ 47 :: b) = true := by
 obtain ⟨h1, h2⟩ := TZ (p := (· != 47)) (x := 47) (b := b) (by decide) h
 exact ⟨h1, by unfold zb; rw [h2]; rfl, by unfold zJ; simp⟩
theorem U8 {s : zj} (h : ∀ c ∈ s, (c != 47) = true) : zJ s = false := by
 unfold zJ
 simp_all
theorem uW {s : zj} (h : zJ s = true) : s = zO s ++ 47 :: zb s := by
 have e := List.takeWhile_append_dropWhile (p := (· != (47 : UInt8))) (l := s)
 unfold zO zb
 have hd : ∃ b, s.dropWhile (· != (47 : UInt8)) = 47 :: b := by
  clear e
  induction s with
  | nil => cases h
  | cons c s ih =>
   by_cases hc : c = 47
   ·simp_all
   ·have h' : zJ s = true := by
     unfold zJ at h ⊢
     simp_all
    simp_all
 grind
theorem vV {s : zj} (h : zJ s = false) : Zn s = Zy s := by
 unfold Zn
 rw [h, (XS h).1]; simp
theorem UD {s : zj} (h : Zn s = true) : (Zy s = true ∧ zJ s = false ∧ zO s = s ∧ zM s = zY s ∧ zP s = 1) ∨
  (zJ s = true ∧ s = zO s ++ 47 :: zb s ∧ Zy (zO s) = true ∧ Z1 (zb s) = true ∧ 2 ≤ zP s ∧ zP s = ze (zb s)) := by
 cases hs : zJ s with
 | false =>
  rw [vV hs] at h
  obtain ⟨h1, h2⟩ := XS hs
  exact .inl ⟨h, rfl, h1, by unfold zM; rw [h1], by unfold zP; rw [hs]; rfl⟩
 | true =>
  unfold Zn at h
  rw [hs] at h
  simp only [Bool.not_true, Bool.false_or, Bool.and_eq_true, Bool.not_eq_true'] at h
  obtain ⟨h1, ⟨h2, h3⟩, h4⟩ := h
  have e : zP s = ze (zb s) := by unfold zP; rw [hs]; rfl
  refine .inr ⟨rfl, uW hs, h1, h2, ?_, e⟩
  rw [e]
  have h5 := ZG h2
  refine Decidable.byContradiction fun hn => ?_
  have : ze (zb s) = 0 ∨ ze (zb s) = 1 := by omega
  rcases this with h6 | h6
  ·rw [h6, z8 (by decide)] at h5
   rw [← h5] at h3
   exact absurd h3 (by decide)
  ·rw [h6, z8 (by decide)] at h5
   rw [← h5] at h4
   exact absurd h4 (by decide)
theorem yn {s : zj} (h : Zn s = true) : 1 ≤ zP s := by rcases UD h with ⟨_, _, _, _, h⟩ | ⟨_, _, _, _, h, _⟩ <;> omega
theorem Zq {s : zj} : zh s = 0 ↔ Zn s = true ∧ XB (zO s) ≤ 300 ∧ (zb s).length ≤ 300 ∧ Nat.gcd (zM s).natAbs (zP s) = 1 := by
 unfold zh
 cases h : Zn s with
 | false => simp
 | true =>
  cases h2 : Nat.blt 300 (XB (zO s)) || Nat.blt 300 (zb s).length with
  | true =>
   rw [Bool.or_eq_true, Zx, Zx] at h2
   simp; omega
  | false =>
   rw [Bool.or_eq_false_iff, Bool.eq_false_iff, Bool.eq_false_iff, Ne, Ne, Zx, Zx] at h2
   cases h3 : Nat.beq (Nat.gcd (zM s).natAbs (zP s)) 1 with
   | true =>
    simp_all
   | false =>
    have h3 : Nat.gcd (zM s).natAbs (zP s) ≠ 1 := fun e => by rw [e] at h3; cases h3
    simp_all
theorem wv {s : zj} (h : Zn s = true) : YM (zM s) (zP s) = s := by
 unfold YM
 rcases UD h with ⟨h1, _, _, h4, h5⟩ | ⟨_, h2, h3, h4, h5, h6⟩
 ·rw [h4, h5, YG h1]; exact List.append_nil s
 ·rw [show Nat.beq (zP s) 1 = false from Bool.eq_false_iff.2 fun e => by have := Nat.eq_of_beq_eq_true e; omega]
  conv => rhs; rw [h2]
  unfold zM
  rw [YG h3, h6, ZG h4]; rfl
theorem TA {n : Int} {d : Nat} (h : Nat.gcd n.natAbs d = 1) : ZW n d = YM n d := by unfold ZW; rw [h]; simp
theorem qP {s : zj} (h : zh s = 0) : ZW (zM s) (zP s) = s := by
 obtain ⟨h1, _, _, h4⟩ := Zq.1 h
 rw [TA h4, wv h1]
theorem Xo (n : Int) {d : Nat} (hd : 0 < d) : Zn (YM n d) = true ∧ zM (YM n d) = n ∧ zP (YM n d) = d ∧ XB (zO (YM n d)) = Xx n ∧ (zb (YM n d)).length = (if d = 1 then 0 else nDigits d) := by
 obtain ⟨i1, i2⟩ := zC n
 unfold YM
 by_cases h : d = 1
 ·subst h
  rw [Nat.beq_refl]
  simp only [cond_true, List.append_nil, if_true]
  have hs := U8 (VS i1)
  obtain ⟨c1, c2⟩ := XS hs
  refine ⟨by rw [vV hs]; exact i1, by unfold zM; rw [c1, i2], by unfold zP; rw [hs]; rfl, by rw [c1, wY i1, i2], by rw [c2]; rfl⟩
 ·rw [show Nat.beq d 1 = false from Bool.eq_false_iff.2 fun e => h (Nat.eq_of_beq_eq_true e)]
  simp only [cond_false, if_neg h]
  obtain ⟨c1, c2, c3⟩ := Ul (b := decDigits d) (VS i1)
  have hd0 : ¬ decDigits d = [48] := fun e => by
   have := Z7 d
   rw [e] at this
   have : (0 : Nat) = d := this
   omega
  have hd1 : ¬ decDigits d = [49] := fun e => by
   have := Z7 d
   rw [e] at this
   have : (1 : Nat) = d := this
   omega
  refine ⟨?_, by unfold zM; rw [c1, i2], by unfold zP; rw [c3, c2]; exact Z7 d, by rw [c1, wY i1, i2], by rw [c2, decDigits_length]⟩
  unfold Zn
  rw [c1, c2, c3, i1, Yu, beq_false_of_ne hd0, beq_false_of_ne hd1]; rfl
theorem uf {n : Int} {d : Nat} (hd : 0 < d) : Nat.gcd (n / (Nat.gcd n.natAbs d : Int)).natAbs (d / Nat.gcd n.natAbs d) = 1 ∧ 0 < d / Nat.gcd n.natAbs d ∧
  n / (Nat.gcd n.natAbs d : Int) * (Nat.gcd n.natAbs d : Int) = n ∧ d / Nat.gcd n.natAbs d * Nat.gcd n.natAbs d = d := by
 have hg : 0 < Nat.gcd n.natAbs d := Nat.gcd_pos_of_pos_right _ hd
 have h1 : Nat.gcd n.natAbs d ∣ n.natAbs := Nat.gcd_dvd_left _ _
 have h2 : Nat.gcd n.natAbs d ∣ d := Nat.gcd_dvd_right _ _
 have h3 : ((Nat.gcd n.natAbs d : Nat) : Int) ∣ n := Int.ofNat_dvd_left.2 h1
 have e1 : (n / (Nat.gcd n.natAbs d : Int)).natAbs = n.natAbs / Nat.gcd n.natAbs d := by
  rw [Int.natAbs_ediv_of_dvd h3, Int.natAbs_natCast]
 refine ⟨?_, Nat.div_pos (Nat.le_of_dvd hd h2) hg, Int.ediv_mul_cancel h3, Nat.div_mul_cancel h2⟩
 rw [e1]
 exact Nat.coprime_div_gcd_div_gcd hg
theorem WV (n : Int) {d : Nat} (hd : 0 < d) : Zn (ZW n d) = true ∧ zM (ZW n d) = n / (Nat.gcd n.natAbs d : Int) ∧ zP (ZW n d) = d / Nat.gcd n.natAbs d ∧ Nat.gcd (zM (ZW n d)).natAbs (zP (ZW n d)) = 1 := by
 obtain ⟨g1, g2, _, _⟩ := uf (n := n) hd
 obtain ⟨a, b, c, _, _⟩ := Xo (n / (Nat.gcd n.natAbs d : Int)) g2
 unfold ZW
 simp_all
theorem TT (n : Int) {d : Nat} (hd : 0 < d) : zM (ZW n d) * (d : Int) = n * (zP (ZW n d) : Int) := by
 obtain ⟨_, b, c, _⟩ := WV n hd
 obtain ⟨_, _, g3, g4⟩ := uf (n := n) hd
 rw [b, c]
 have g4 : ((d / Nat.gcd n.natAbs d : Nat) : Int) * ((Nat.gcd n.natAbs d : Nat) : Int) = (d : Int) := by exact_mod_cast g4
 grind
theorem JO {n m : Int} {d e : Nat} (hd : 0 < d) (he : 0 < e) (h1 : Nat.gcd n.natAbs d = 1) (h2 : Nat.gcd m.natAbs e = 1) (h : n * (e : Int) = m * (d : Int)) : n = m ∧ d = e := by
 have ha : n.natAbs * e = m.natAbs * d := by
  have := congrArg Int.natAbs h
  rwa [Int.natAbs_mul, Int.natAbs_mul, Int.natAbs_natCast, Int.natAbs_natCast] at this
 have c1 : Nat.Coprime d n.natAbs := (Nat.coprime_comm).1 h1
 have c2 : Nat.Coprime e m.natAbs := (Nat.coprime_comm).1 h2
 have d1 : d ∣ e := c1.dvd_of_dvd_mul_left ⟨m.natAbs, by rw [ha, Nat.mul_comm]⟩
 have d2 : e ∣ d := c2.dvd_of_dvd_mul_left ⟨n.natAbs, by rw [← ha, Nat.mul_comm]⟩
 have e1 : d = e := Nat.dvd_antisymm d1 d2
 refine ⟨?_, e1⟩
 subst e1
 exact Int.eq_of_mul_eq_mul_right (by omega) h
theorem Nw {n m : Int} {d e : Nat} (hd : 0 < d) (he : 0 < e) : ZW n d = ZW m e ↔ n * (e : Int) = m * (d : Int) := by
 obtain ⟨a1, a2, a3, a4⟩ := WV n hd
 obtain ⟨b1, b2, b3, b4⟩ := WV m he
 have v1 := TT n hd
 have v2 := TT m he
 constructor
 ·intro h
  rw [← h] at v2
  have hp : (0 : Int) < (zP (ZW n d) : Int) := by have := yn a1; omega
  refine Int.eq_of_mul_eq_mul_right (a := (zP (ZW n d) : Int)) (by omega) ?_
  grind
 ·intro h
  have key : n / (Nat.gcd n.natAbs d : Int) = m / (Nat.gcd m.natAbs e : Int) ∧ d / Nat.gcd n.natAbs d = e / Nat.gcd m.natAbs e := by
   obtain ⟨g1, g2, g3, g4⟩ := uf (n := n) hd
   obtain ⟨k1, k2, k3, k4⟩ := uf (n := m) he
   refine JO g2 k2 g1 k1 ?_
   have hg : 0 < Nat.gcd n.natAbs d := Nat.gcd_pos_of_pos_right _ hd
   have hk : 0 < Nat.gcd m.natAbs e := Nat.gcd_pos_of_pos_right _ he
   generalize n / (Nat.gcd n.natAbs d : Int) = n' at *
   generalize d / Nat.gcd n.natAbs d = d' at *
   generalize m / (Nat.gcd m.natAbs e : Int) = m' at *
   generalize e / Nat.gcd m.natAbs e = e' at *
   generalize hG : Nat.gcd n.natAbs d = G at *
   generalize hK : Nat.gcd m.natAbs e = K at *
   rw [← g3, ← k3, ← g4, ← k4] at h
   push_cast at h
   have h' : n' * (e' : Int) * ((G : Int) * (K : Int)) = m' * (d' : Int) * ((G : Int) * (K : Int)) := by
    grind
   have hp : (0 : Int) < (G : Int) * (K : Int) := Int.mul_pos (by omega) (by omega)
   exact Int.eq_of_mul_eq_mul_right (by omega) h'
  unfold ZW
  simp_all
end Go.Ar

namespace Go.Ar
open Go Go.Sx Go.Lib
set_option maxRecDepth 100000
def Um (k x : Nat) : zj := List.replicate (k - (decDigits x).length) 48 ++ decDigits x
theorem UA : ∀ (k : Nat) (l : zj), ze (List.replicate k 48 ++ l) = ze l
 | 0, _ => rfl
 | k + 1, l => by
  rw [List.replicate_succ, List.cons_append, xy, UA k l]
  show 0 * _ + _ = _
  omega
theorem nI {k x : Nat} (hk : 0 < k) (hx : x < 10 ^ k) : (Um k x).length = k := by
 have := (ZX hk).2 hx
 unfold Um
 rw [List.length_append, List.length_replicate, decDigits_length]
 omega
theorem mI (k x : Nat) : ze (Um k x) = x := by unfold Um; rw [UA, Z7]
theorem KP (k x : Nat) : ∀ c ∈ Um k x, Zd c = true := fun c hc => by
 unfold Um at hc
 rcases List.mem_append.1 hc with hc | hc
 ·rw [List.eq_of_mem_replicate hc]; decide
 ·exact List.all_eq_true.1 (Xm x) c hc
theorem tA {k n x : Nat} (hk : 0 < k) (hn : n ≠ 0) (hx : x < 10 ^ k) : decDigits (n * 10 ^ k + x) = decDigits n ++ Um k x := by
 have hv : ze (decDigits n ++ Um k x) = n * 10 ^ k + x := by rw [Uh, Z7, mI, nI hk hx]
 rw [← hv]
 refine ZG (Zr.2 ⟨?_, fun c hc => ?_, fun _ => ?_⟩)
 ·have := yk n
  grind
 ·rcases List.mem_append.1 hc with hc | hc
  ·exact List.all_eq_true.1 (Xm n) c hc
  ·exact KP k x c hc
 ·rw [List.getD_eq_getElem?_getD, List.getElem?_append_left (yk n), ← List.getD_eq_getElem?_getD]
  exact x9 hn
def wk (b : Nat) (l : List Int) (i : Nat) : Nat := (zv b (l.drop i)).toNat
theorem OK {k : Nat} (hk : 0 < k) {l : List Int} (hl : Zp (10 ^ k : Nat) l) {i : Nat} (hi : i < l.length) (h0 : wk (10 ^ k) l (i + 1) ≠ 0) :
  decDigits (wk (10 ^ k) l i) = decDigits (wk (10 ^ k) l (i + 1)) ++ Um k (l.getD i 0).toNat := by
 have h10 : 0 < 10 ^ k := Nat.pow_pos (by decide)
 have x1 := hl.get (by omega) i
 have v0 := zG (b := ((10 ^ k : Nat) : Int)) (by omega) (hl.drop (i + 1))
 have e := xB ((10 ^ k : Nat) : Int) hi
 have e2 : wk (10 ^ k) l i = wk (10 ^ k) l (i + 1) * 10 ^ k + (l.getD i 0).toNat := by
  unfold wk
  grind
 rw [e2]
 exact tA hk h0 (by omega)
theorem oP {b : Nat} {l : List Int} (h : 0 < l.length) : wk b l (l.length - 1) = (l.getD (l.length - 1) 0).toNat := by
 unfold wk
 rw [xB b (by omega), List.drop_of_length_le (by omega), xN, Int.mul_zero, Int.add_zero]
theorem na {b : Nat} (hb : 2 ≤ b) {n : Nat} (hn : n ≠ 0) {i : Nat} (hi : i < (zu b n).length) : wk b (zu b n) i ≠ 0 := by
 obtain ⟨h1, h2⟩ := vY hb hn
 have hin := YB hb n
 unfold wk
 intro e
 have v0 := zG (b := (b : Int)) (by omega) (hin.drop i)
 have hz : zv b ((zu b n).drop i) = 0 := by omega
 have := sX (b := (b : Int)) (by omega) (hin.drop i) (n := 0) (by rw [hz, Int.pow_zero]; decide) (i := (zu b n).length - 1 - i) (Nat.zero_le _)
 grind
structure pK (k : Nat) (r : zj) (z : Nat) (L : List Int) : Prop where
 le : z ≤ r.length
 len : L.length = (r.length + k - 1) / k
 in_ : Zp (10 ^ k : Nat) L
 zero : ∀ i, z ≤ k * i → L.getD i 0 = 0
 part : L.getD (z / k) 0 < 10 ^ (z % k)
 val : zv (10 ^ k : Nat) L = (ze (r.drop (r.length - z)) : Int)
theorem pK.start {k : Nat} (hk : 0 < k) (r : zj) : pK k r 0 (List.replicate ((r.length + k - 1) / k) 0) := by
 have h10 : 0 < 10 ^ k := Nat.pow_pos (by decide)
 refine ⟨Nat.zero_le _, by simp, .zeros (by omega) _, fun i _ => VY _ _, ?_, ?_⟩
 ·rw [VY, Nat.zero_mod]; decide
 ·rw [X6, Nat.sub_zero, List.drop_of_length_le (Nat.le_refl _)]; rfl
theorem UB {r : zj} {i : Nat} (h : i < r.length) : r.drop i = r.getD i 0 :: r.drop (i + 1) := by
 simp_all
theorem pK.step {k : Nat} (hk : 0 < k) {r : zj} (hr : ∀ c ∈ r, Zd c = true) {z : Nat} (hz : z < r.length) {L : List Int} (h : pK k r z L) :
  z / k < L.length ∧ pK k r (z + 1) (L.set (z / k) (L.getD (z / k) 0 + (vm (r.getD (r.length - 1 - z) 0) : Int) * 10 ^ (z % k))) := by
 have h10 : 0 < 10 ^ k := Nat.pow_pos (by decide)
 have hi : r.length - 1 - z < r.length := by omega
 have hd : Zd (r.getD (r.length - 1 - z) 0) = true := by
  simp_all
 have hv := U6 hd
 have hdm := Nat.div_add_mod z k
 have hmod := Nat.mod_lt z hk
 have hlen : z / k < L.length := by
  rw [h.len]
  have : k * (z / k) < r.length := by omega
  have h2 : (k * (z / k) + k) / k ≤ (r.length + k - 1) / k := Nat.div_le_div_right (by omega)
  rw [Nat.add_div_right _ hk, Nat.mul_div_cancel_left _ hk] at h2
  omega
 have hp := h.part
 have hL := h.in_.get (by omega) (z / k)
 generalize hdd : vm (r.getD (r.length - 1 - z) 0) = d at *
 have hp0 : (0 : Int) < 10 ^ (z % k) := Int.pow_pos (by decide)
 have hdp : (d : Int) * 10 ^ (z % k) ≤ 9 * 10 ^ (z % k) := Int.mul_le_mul_of_nonneg_right (by omega) (Int.le_of_lt hp0)
 have hdp0 : 0 ≤ (d : Int) * 10 ^ (z % k) := Int.mul_nonneg (by omega) (Int.le_of_lt hp0)
 have hnew : L.getD (z / k) 0 + (d : Int) * 10 ^ (z % k) < 10 ^ (z % k + 1) := by rw [Int.pow_succ]; omega
 have hle : (10 : Int) ^ (z % k + 1) ≤ ((10 ^ k : Nat) : Int) := by
  have : 10 ^ (z % k + 1) ≤ 10 ^ k := Nat.pow_le_pow_right (by decide) (by omega)
  grind
 refine ⟨hlen, by omega, by rw [List.length_set]; exact h.len, h.in_.set (by omega) (by omega) _, fun i hzi => ?_, ?_, ?_⟩
 ·have hne : i ≠ z / k := fun e => by
   grind
  rw [YO _ _ _ _ hlen, if_neg hne]
  exact h.zero i (by omega)
 ·by_cases e : (z + 1) % k = 0
  ·have hz1 : k * ((z + 1) / k) = z + 1 := by have := Nat.div_add_mod (z + 1) k; omega
   have hne : (z + 1) / k ≠ z / k := fun e2 => by rw [e2] at hz1; omega
   rw [YO _ _ _ _ hlen, if_neg hne, h.zero _ (by omega)]
   simp_all
  ·have e1 : (z + 1) % k = z % k + 1 ∧ (z + 1) / k = z / k := by
    have h1 : z % k + 1 < k := by
     refine Nat.lt_of_le_of_ne (by omega) fun e2 => e ?_
     have : z + 1 = k * (z / k + 1) := by rw [Nat.mul_add, Nat.mul_one]; omega
     simp_all
    have h2 : z + 1 = k * (z / k) + (z % k + 1) := by omega
    constructor
    ·rw [h2, Nat.mul_add_mod, Nat.mod_eq_of_lt h1]
    ·rw [h2, Nat.mul_add_div hk, Nat.div_eq_of_lt h1, Nat.add_zero]
   simp_all
 ·rw [wG _ _ hlen, h.val, show r.length - (z + 1) = r.length - 1 - z by omega, UB hi, xy, show r.length - 1 - z + 1 = r.length - z by omega, hdd, List.length_drop, show r.length - (r.length - z) = z by omega]
  have e1 : ((10 ^ k : Nat) : Int) ^ (z / k) * (10 : Int) ^ (z % k) = 10 ^ z := by
   have : (10 ^ k) ^ (z / k) * 10 ^ (z % k) = 10 ^ z := by rw [← Nat.pow_mul, ← Nat.pow_add, hdm]
   exact_mod_cast this
  grind
theorem pK.end_ {k : Nat} (hk : 0 < k) {r : zj} {L : List Int} (h : pK k r r.length L) : zI L = zu (10 ^ k) (ze r) := by
 have hv := h.val
 rw [Nat.sub_self, List.drop_zero] at hv
 have h2 : 2 ≤ 10 ^ k := by
  grind
 rw [Ya h2 h.in_, hv, Int.toNat_natCast]
end Go.Ar

namespace Go.Ar
open Go Go.Sx Go.Lib
set_option maxRecDepth 100000
theorem Z6 {b m n : Nat} (hb : 2 ≤ b) (h : m ≤ n) : (zu b m).length ≤ (zu b n).length := by
 refine Decidable.byContradiction fun hn => ?_
 have := X9 hb (m := n) (n := m) (by omega)
 omega
theorem Xf {b n : Nat} (hb : 2 ≤ b) (h : (zu b n).length = 0) : n = 0 := by
 refine Decidable.byContradiction fun h0 => ?_
 rw [x3 hb h0] at h
 cases h
theorem UT {x y : Nat} (h : y ≠ 0) : Nat.gcd x y = Nat.gcd y (x % y) := by
 rw [Nat.gcd_comm x y, Nat.gcd_rec y x, Nat.gcd_comm]
end Go.Ar

namespace Go.Ar
open Go Go.Sx Go.Lib
set_option maxRecDepth 100000
theorem WL {l : List Int} {i : Nat} (h : l.length ≤ i) : l.getD i 0 = 0 := by rw [List.getD_eq_getElem?_getD, List.getElem?_eq_none h]; rfl
theorem G1 (c : UInt8) : (zg (c.toNat : Int) 48 || zg 57 (c.toNat : Int)) = !Zd c := by
 unfold Zd
 rw [Bool.eq_iff_iff, Bool.or_eq_true, zq, zq, Bool.not_eq_true', Bool.and_eq_false_iff]
 constructor
 ·rintro (h | h)
  ·exact .inl (Bool.eq_false_iff.2 fun e => by have := Nat.le_of_ble_eq_true e; omega)
  ·exact .inr (Bool.eq_false_iff.2 fun e => by have := Nat.le_of_ble_eq_true e; omega)
 ·rintro (h | h)
  ·exact .inl (by have : ¬ 48 ≤ c.toNat := fun e => by rw [Nat.ble_eq_true_of_le e] at h; cases h
                  omega)
  ·exact .inr (by have : ¬ c.toNat ≤ 57 := fun e => by rw [Nat.ble_eq_true_of_le e] at h; cases h
                  omega)
theorem vo (c : UInt8) (n : Nat) (hn : n < 256) : ((c.toNat : Int) == (n : Int)) = (c == UInt8.ofNat n) := by
 rw [Bool.eq_iff_iff, beq_iff_eq, beq_iff_eq]
 constructor
 ·intro h
  have : c.toNat = n := by omega
  rw [← this, UInt8.ofNat_toNat]
 ·intro h
  subst h
  rw [UInt8.toNat_ofNat']
  omega
theorem Wl {a : zj} (h : ¬ (0 < a.length ∧ a.getD 0 0 = 45)) : Zy a = Z1 a ∧ XB a = a.length ∧ zY a = (ze a : Int) := by
 match a, h with
 | [], _ => exact ⟨rfl, rfl, rfl⟩
 | c :: r, h =>
  have hc : c ≠ 45 := fun e => h ⟨by simp, e⟩
  refine ⟨?_, ?_, ?_⟩
  ·unfold Zy; split
   all_goals simp_all
  ·unfold XB; split
   all_goals simp_all
  ·unfold zY; split
   all_goals simp_all
theorem sW {a : zj} (h0 : 0 < a.length) (h : a.getD 0 0 = 45) : a = 45 :: a.drop 1 ∧ Zy a = (Z1 (a.drop 1) && !(a.drop 1 == [48])) ∧ XB a = a.length - 1 ∧ zY a = -(ze (a.drop 1) : Int) := by
 match a, h0, h with
 | c :: r, _, h =>
  have hc : c = 45 := h
  subst hc
  exact ⟨rfl, rfl, rfl, rfl⟩
theorem Kw {a : zj} (h : Zy a = true) : ZQ a = bif Nat.blt 300 (XB a) then 4 else 0 := by unfold ZQ; rw [h]; rfl
theorem N7 {a : zj} (h : ¬ Zy a = true) : ZQ a = 11 := by unfold ZQ; rw [Bool.eq_false_iff.2 h]; rfl
theorem Vn {x y : List Int} {z : Nat} : ∀ {n : Nat}, z ≤ n → (∀ i, z ≤ i → i < n → x.getD i 0 = y.getD i 0) → VR x y n = VR x y z
 | 0, h, _ => by rw [show z = 0 by omega]
 | n + 1, h, hh => by
  by_cases e : z = n + 1
  ·rw [e]
  ·have h1 := hh n (by omega) (by omega)
   show (bif x.getD n 0 != y.getD n 0 then x.getD n 0 - y.getD n 0 else VR x y n) = _
   rw [h1, bne_self_eq_false]
   exact Vn (n := n) (by omega) fun i h2 h3 => hh i h2 (by omega)
theorem KH {x y : List Int} (h : x.length ≠ y.length) : cmpL x y = (x.length : Int) - (y.length : Int) := by
 unfold cmpL
 rw [show Nat.beq x.length y.length = false from Bool.eq_false_iff.2 fun e => h (Nat.eq_of_beq_eq_true e)]; rfl
theorem cmpL_eq {x y : List Int} (h : x.length = y.length) : cmpL x y = VR x y x.length := by unfold cmpL; rw [h, Nat.beq_refl]; rfl
end Go.Ar

namespace Go.Ar
open Go Go.Sx Go.Lib
set_option maxRecDepth 100000
theorem qH {l : zj} {i : Nat} (h : i < l.length) : l.take (i + 1) = l.take i ++ [l.getD i 0] := by
 simp_all
structure gP where
 k : Nat
 L : List Int
structure J0 (s : zj) (z : gP) : Prop where
 le : 6 * z.k ≤ s.length + 5
 len : z.L.length = z.k
 in_ : Zp 1000000 z.L
 val : zv 1000000 z.L = (ze (s.drop (s.length - 6 * z.k)) : Int)
theorem J0.start (s : zj) : J0 s ⟨0, []⟩ := ⟨by simp, rfl, .nil _, by rw [Nat.mul_zero, Nat.sub_zero, List.drop_length]; rfl⟩
def V3 (s : zj) (k i : Nat) : zj := (s.take i).drop (s.length - 6 * k - 6)
theorem oG {s : zj} {k i : Nat} (h1 : i ≤ s.length - 6 * k) : (V3 s k i).length ≤ 6 := by
 unfold V3
 grind
theorem ng {s : zj} (hs : ∀ c ∈ s, Zd c = true) (k i : Nat) : (V3 s k i).all Zd = true := by
 rw [List.all_eq_true]
 intro c hc
 exact hs c (List.mem_of_mem_take (List.mem_of_mem_drop hc))
theorem Mb {s : zj} (hs : ∀ c ∈ s, Zd c = true) {k i : Nat} (h1 : i ≤ s.length - 6 * k) : (ze (V3 s k i) : Int) < 1000000 := by
 have h2 := WO (ng hs k i)
 have h3 : 10 ^ (V3 s k i).length ≤ 10 ^ 6 := Nat.pow_le_pow_right (by decide) (oG h1)
 omega
theorem J0.step {s : zj} (hs : ∀ c ∈ s, Zd c = true) {z : gP} (h : J0 s z) (hz : 6 * z.k < s.length) : J0 s ⟨z.k + 1, z.L ++ [(ze (V3 s z.k (s.length - 6 * z.k)) : Int)]⟩ := by
 refine ⟨by simp only; omega, by simp [h.len], h.in_.snoc (by omega) (Mb hs (Nat.le_refl _)), ?_⟩
 show zv 1000000 (z.L ++ [_]) = (ze (s.drop (s.length - 6 * (z.k + 1))) : Int)
 rw [xa, h.val, h.len]
 have e : s.drop (s.length - 6 * (z.k + 1)) = V3 s z.k (s.length - 6 * z.k) ++ s.drop (s.length - 6 * z.k) := by
  unfold V3
  rw [show s.length - 6 * (z.k + 1) = s.length - 6 * z.k - 6 by omega]
  have e1 := List.drop_append_of_le_length (l₁ := s.take (s.length - 6 * z.k)) (l₂ := s.drop (s.length - 6 * z.k)) (i := s.length - 6 * z.k - 6) (by rw [List.length_take]; omega)
  simp_all
 rw [e, Uh, List.length_drop, show s.length - (s.length - 6 * z.k) = 6 * z.k by omega]
 have e2 : (1000000 : Int) ^ z.k = ((10 ^ (6 * z.k) : Nat) : Int) := by
  have e3 : 1000000 ^ z.k = 10 ^ (6 * z.k) := by rw [Nat.pow_mul]
  grind
 grind
theorem J0.end_ {s : zj} {z : gP} (h : J0 s z) (hz : s.length ≤ 6 * z.k) : zI z.L = zu 1000000 (ze s) := by
 have hv := h.val
 rw [show s.length - 6 * z.k = 0 by omega, List.drop_zero] at hv
 have := Ya (b := 1000000) (by decide) h.in_
 simp_all
end Go.Ar
