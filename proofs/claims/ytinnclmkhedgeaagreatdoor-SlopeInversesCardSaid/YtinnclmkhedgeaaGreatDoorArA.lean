/- Decimal strings of integers: what they are and what they mean. -/
import Derived.Test.YtinnclmkhedgeaaGreatDoorSxU
import Derived.Lib.ItoaLen
set_option linter.unusedSimpArgs false
set_option linter.unusedVariables false
namespace Go.Ar
open Go Go.Sx Go.Lib
set_option maxRecDepth 100000
abbrev zK := List UInt8
def Zx (c : UInt8) : Bool := Nat.ble 48 c.toNat && Nat.ble c.toNat 57
def wJ (c : UInt8) : Nat := c.toNat - 48
def R9 (d : Nat) : UInt8 := UInt8.ofNat (48 + d)
theorem yY {c : UInt8} : Zx c = true ↔ 48 ≤ c.toNat ∧ c.toNat ≤ 57 := by
 unfold Zx
 simp
theorem xS {d : Nat} (h : d < 10) : (R9 d).toNat = 48 + d := by
 unfold R9
 rw [UInt8.toNat_ofNat']
 omega
theorem UW {d : Nat} (h : d < 10) : Zx (R9 d) = true := by rw [yY, xS h]; omega
theorem Tt {d : Nat} (h : d < 10) : wJ (R9 d) = d := by unfold wJ; rw [xS h]; omega
theorem Tx {c : UInt8} (h : Zx c = true) : R9 (wJ c) = c := by
 rw [yY] at h
 refine UInt8.toNat_inj.1 ?_
 rw [xS (by unfold wJ; omega)]
 unfold wJ
 omega
theorem Vs {c : UInt8} (h : Zx c = true) : wJ c < 10 := by rw [yY] at h; unfold wJ; omega
def zI (l : zK) : Nat := l.foldl (fun a c => 10 * a + wJ c) 0
theorem Xb (l : zK) (c : UInt8) : zI (l ++ [c]) = 10 * zI l + wJ c := by unfold zI; rw [List.foldl_append]; rfl
theorem fold_acc (l : zK) : ∀ a : Nat, l.foldl (fun a c => 10 * a + wJ c) a = a * 10 ^ l.length + zI l := by
 induction l with
 | nil => intro a; simp [zI]
 | cons c l ih =>
  intro a
  unfold zI
  grind
theorem un (a b : zK) : zI (a ++ b) = zI a * 10 ^ b.length + zI b := by
 conv => lhs; unfold zI
 rw [List.foldl_append, fold_acc]; rfl
theorem Xd (c : UInt8) (l : zK) : zI (c :: l) = wJ c * 10 ^ l.length + zI l := by
 have := un [c] l
 simpa [zI] using this
theorem XS {l : zK} (h : l.all Zx = true) : zI l < 10 ^ l.length := by
 induction l with
 | nil => simp [zI]
 | cons c l ih =>
  rw [List.all_cons, Bool.and_eq_true] at h
  have h1 := ih h.2
  have h2 := Vs h.1
  rw [Xd, List.length_cons, Nat.pow_succ]
  generalize 10 ^ l.length = p at *
  have : wJ c * p ≤ 9 * p := Nat.mul_le_mul_right p (by omega)
  omega
def Zt (l : zK) : Bool := Nat.blt 0 l.length && l.all Zx && !(Nat.blt 1 l.length && (l.getD 0 0 == 48))
theorem zg {u : Nat} (h : u < 10) : decDigits u = [R9 u] := by rw [decDigits, dif_pos h]; rfl
theorem yp {u : Nat} (h : ¬ u < 10) : decDigits u = decDigits (u / 10) ++ [R9 (u % 10)] := by rw [decDigits, dif_neg h]; rfl
theorem W1 (u : Nat) : (decDigits u).all Zx = true := by
 induction u using Nat.strongRecOn with
 | _ u ih =>
  by_cases h : u < 10
  ·rw [zg h]; simp [UW h]
  ·rw [yp h, List.all_append, ih (u / 10) (by omega)]
   simp [UW (Nat.mod_lt u (by decide : 10 > 0))]
theorem Zj (u : Nat) : zI (decDigits u) = u := by
 induction u using Nat.strongRecOn with
 | _ u ih =>
  by_cases h : u < 10
  ·rw [zg h]
   show 10 * 0 + wJ (R9 u) = u
   rw [Tt h]; omega
  ·rw [yp h, Xb, ih (u / 10) (by omega), Tt (Nat.mod_lt u (by decide : 10 > 0))]
   omega
theorem xG (u : Nat) : 0 < (decDigits u).length := by rw [decDigits_length]; exact nDigits_pos u
theorem Y4 {u : Nat} (h : u ≠ 0) : (decDigits u).getD 0 0 ≠ 48 := by
 induction u using Nat.strongRecOn with
 | _ u ih =>
  by_cases h1 : u < 10
  ·rw [zg h1]
   intro e
   have e : R9 u = 48 := e
   have := congrArg UInt8.toNat e
   rw [xS h1] at this
   simp_all
  ·rw [yp h1, List.getD_eq_getElem?_getD, List.getElem?_append_left (xG _), ← List.getD_eq_getElem?_getD]
   grind
theorem ya (u : Nat) : Zt (decDigits u) = true := by
 unfold Zt
 rw [W1, (zF _ _).2 (xG u)]
 by_cases h : u = 0
 ·subst h
  rw [zg (by decide)]; rfl
 ·rw [beq_false_of_ne (Y4 h), Bool.and_false]; rfl
theorem ZT {l : zK} : Zt l = true ↔ 0 < l.length ∧ (∀ c ∈ l, Zx c = true) ∧ (1 < l.length → l.getD 0 0 ≠ 48) := by
 unfold Zt
 rw [Bool.and_eq_true, Bool.and_eq_true, zF, List.all_eq_true, Bool.not_eq_true', Bool.and_eq_false_iff]
 constructor
 ·rintro ⟨⟨h1, h2⟩, h3⟩
  refine ⟨h1, h2, fun h4 => ?_⟩
  rcases h3 with h3 | h3
  ·rw [(zF _ _).2 h4] at h3; cases h3
  simp_all
 ·rintro ⟨h1, h2, h3⟩
  refine ⟨⟨h1, h2⟩, ?_⟩
  by_cases h4 : 1 < l.length
  ·simp_all
  ·exact .inl (by rw [Bool.eq_false_iff]; intro e; exact h4 ((zF _ _).1 e))
theorem Rz {l : zK} (h : 0 < l.length) : ∃ a c, l = a ++ [c] := by
 have hn : l ≠ [] := fun e => by rw [e] at h; cases h
 exact ⟨l.dropLast, l.getLast hn, (List.dropLast_concat_getLast hn).symm⟩
theorem ZQ {l : zK} (h : Zt l = true) : decDigits (zI l) = l := by
 generalize hn : l.length = n
 induction n generalizing l with
 | zero => obtain ⟨h1, _⟩ := ZT.1 h; omega
 | succ n ih =>
  obtain ⟨h1, h2, h3⟩ := ZT.1 h
  obtain ⟨a, c, rfl⟩ := Rz h1
  have hc : Zx c = true := h2 c (by simp)
  have hl : a.length = n := by simpa using hn
  rw [Xb]
  by_cases ha : a.length = 0
  ·obtain rfl := List.length_eq_zero_iff.1 ha
   have : 10 * zI [] + wJ c = wJ c := by simp [zI]
   rw [this, zg (Vs hc), Tx hc]; rfl
  ·have hg : (a ++ [c]).getD 0 0 = a.getD 0 0 := by
    grind
   have ha0 : a.getD 0 0 ≠ 48 := by rw [← hg]; exact h3 (by simp; omega)
   have hda : Zt a = true := ZT.2 ⟨by omega, fun x hx => h2 x (List.mem_append_left _ hx), fun _ => ha0⟩
   have ih' := ih hda hl
   have hv := Vs hc
   have hpos : zI a ≠ 0 := fun e => by
    rw [e, zg (by decide)] at ih'
    rw [← ih'] at ha0
    exact ha0 rfl
   rw [yp (by omega), show (10 * zI a + wJ c) / 10 = zI a by omega, show (10 * zI a + wJ c) % 10 = wJ c by omega, ih', Tx hc]
def Zw (s : zK) : Bool := match s with | 45 :: r => Zt r && !(r == [48]) | r => Zt r
def zt (s : zK) : Int := match s with | 45 :: r => -(zI r : Int) | r => (zI r : Int)
theorem y8 (n : Nat) : itoa (n : Int) = decDigits n := by unfold itoa; rw [if_neg (by omega), Int.toNat_natCast]
theorem itoa_neg {n : Nat} (h : n ≠ 0) : itoa (-(n : Int)) = 45 :: decDigits n := by
 unfold itoa
 simp_all
theorem YL {r : zK} (h : Zt (45 :: r) = true) : False := by
 have := (ZT.1 h).2.1 45 List.mem_cons_self
 rw [yY] at this
 simp_all
theorem Wx {r : zK} (h : Zt r = true) : Zw r = true ∧ zt r = (zI r : Int) := by
 match r, h with
 | [], h => exact ⟨h, rfl⟩
 | c :: r, h =>
  by_cases hc : c = 45
  ·subst hc; exact (YL h).elim
  ·constructor
   ·unfold Zw; split
    all_goals simp_all
   ·unfold zt; split
    all_goals simp_all
theorem ye (n : Int) : Zw (itoa n) = true ∧ zt (itoa n) = n := by
 by_cases h : n < 0
 ·obtain ⟨m, rfl⟩ : ∃ m : Nat, n = -(m : Int) := ⟨n.natAbs, by omega⟩
  have hm : m ≠ 0 := by omega
  rw [itoa_neg hm]
  refine ⟨?_, ?_⟩
  ·show (Zt (decDigits m) && !(decDigits m == [48])) = true
   rw [ya]
   have : decDigits m ≠ [48] := fun e => Y4 hm (by rw [e]; rfl)
   simp_all
  ·show -((zI (decDigits m) : Nat) : Int) = _
   rw [Zj]
 ·obtain ⟨m, rfl⟩ : ∃ m : Nat, n = (m : Int) := ⟨n.toNat, by omega⟩
  rw [y8]
  obtain ⟨a, b⟩ := Wx (ya m)
  exact ⟨a, by rw [b, Zj]⟩
theorem vo {r : zK} (h : Zt r = true) (h0 : zI r = 0) : r = [48] := by
 have := ZQ h
 rw [h0, zg (by decide)] at this
 exact this.symm
theorem yr {s : zK} (h : Zw s = true) : (∃ r, s = 45 :: r ∧ Zt r = true ∧ zI r ≠ 0 ∧ zt s = -(zI r : Int)) ∨ (Zt s = true ∧ zt s = (zI s : Int)) := by
 unfold Zw at h
 split at h
 ·rename_i r
  rw [Bool.and_eq_true, Bool.not_eq_true'] at h
  refine .inl ⟨r, rfl, h.1, fun e => ?_, rfl⟩
  have := vo h.1 e
  simp_all
 ·exact .inr ⟨h, (Wx h).2⟩
theorem Ym {s : zK} (h : Zw s = true) : itoa (zt s) = s := by
 rcases yr h with ⟨r, rfl, h1, h2, h3⟩ | ⟨h1, h2⟩
 ·rw [h3, itoa_neg h2, ZQ h1]
 ·rw [h2, y8, ZQ h1]
def Wa (n : Int) : Nat := nDigits n.natAbs
theorem YZ (n : Int) : (itoa n).length = Wa n + if n < 0 then 1 else 0 := by
 unfold itoa Wa
 by_cases h : n < 0
 ·rw [if_pos h, if_pos h, List.length_cons, decDigits_length]
 ·rw [if_neg h, if_neg h, decDigits_length, show n.toNat = n.natAbs by omega]; rfl
theorem WQ : ∀ {k u : Nat}, u < 10 ^ (k + 1) → nDigits u ≤ k + 1
 | 0, u, h => by rw [nDigits_small (by simpa using h)]; exact Nat.le_refl _
 | k + 1, u, h => by
  by_cases hu : u < 10
  ·rw [nDigits_small hu]; omega
  ·rw [nDigits_big hu]
   have := WQ (k := k) (u := u / 10) (by rw [Nat.pow_succ] at h; omega)
   omega
theorem yw {k u : Nat} (hk : 0 < k) : nDigits u ≤ k ↔ u < 10 ^ k := by
 constructor
 ·intro h
  exact Nat.lt_of_lt_of_le (lt_pow_nDigits u) (Nat.pow_le_pow_right (by decide) h)
 ·intro h
  obtain ⟨m, rfl⟩ : ∃ m, k = m + 1 := ⟨k - 1, by omega⟩
  exact WQ h
theorem uH {l : zK} (h : Zt l = true) : l.length = nDigits (zI l) := by
 conv => lhs; rw [← ZQ h]
 rw [decDigits_length]
end Go.Ar

namespace Go.Ar
open Go Go.Sx Go.Lib
set_option maxRecDepth 100000
def zn (b : Int) : List Int → Int
 | [] => 0
 | x :: l => x + b * zn b l
def Za (b : Int) (l : List Int) : Prop := ∀ x ∈ l, 0 ≤ x ∧ x < b
def y7 : List Int → List Int
 | [] => []
 | x :: l => if y7 l = [] ∧ x = 0 then [] else x :: y7 l
def yx (b n : Nat) : List Int :=
 if h : n = 0 ∨ b < 2 then [] else ((n % b : Nat) : Int) :: yx b (n / b)
termination_by n
decreasing_by
 have h2 : n / b < n := Nat.div_lt_self (by omega) (by omega)
 exact h2
theorem YM (b : Nat) : yx b 0 = [] := by rw [yx, dif_pos (.inl rfl)]
theorem vE {b n : Nat} (hb : 2 ≤ b) (h : n ≠ 0) : yx b n = ((n % b : Nat) : Int) :: yx b (n / b) := by
 conv => lhs; rw [yx]
 simp_all
theorem Za.nil (b : Int) : Za b [] := fun _ h => by cases h
theorem Za.tail {b x : Int} {l : List Int} (h : Za b (x :: l)) : Za b l := fun y hy => h y (List.mem_cons_of_mem _ hy)
theorem Za.head {b x : Int} {l : List Int} (h : Za b (x :: l)) : 0 ≤ x ∧ x < b := h x List.mem_cons_self
theorem Za.app {b : Int} {l m : List Int} (h : Za b l) (h2 : Za b m) : Za b (l ++ m) := fun x hx => (List.mem_append.1 hx).elim (h x) (h2 x)
theorem Za.one {b x : Int} (h0 : 0 ≤ x) (h1 : x < b) : Za b [x] := fun y hy => by rw [List.mem_singleton] at hy; subst hy; exact ⟨h0, h1⟩
theorem Za.snoc {b x : Int} {l : List Int} (h : Za b l) (h0 : 0 ≤ x) (h1 : x < b) : Za b (l ++ [x]) := h.app (.one h0 h1)
theorem Za.take {b : Int} {l : List Int} (h : Za b l) (n : Nat) : Za b (l.take n) := fun x hx => h x (List.mem_of_mem_take hx)
theorem Za.drop {b : Int} {l : List Int} (h : Za b l) (n : Nat) : Za b (l.drop n) := fun x hx => h x (List.mem_of_mem_drop hx)
theorem Za.get {b : Int} {l : List Int} (h : Za b l) (hb : 0 < b) (i : Nat) : 0 ≤ l.getD i 0 ∧ l.getD i 0 < b := by
 rw [List.getD_eq_getElem?_getD]
 by_cases hi : i < l.length
 ·rw [List.getElem?_eq_getElem hi]; exact h _ (List.getElem_mem hi)
 simp_all
theorem Za.set {b x : Int} {l : List Int} (h : Za b l) (h0 : 0 ≤ x) (h1 : x < b) (i : Nat) : Za b (l.set i x) := fun y hy => by
 rcases List.mem_or_eq_of_mem_set hy with hy | rfl
 ·exact h y hy
 omega
theorem Zv {b : Int} (hb : 0 ≤ b) : ∀ {l : List Int}, Za b l → 0 ≤ zn b l
 | [], _ => Int.le_refl _
 | x :: l, h => by
  have h1 := h.head
  have h2 := Int.mul_nonneg hb (Zv hb h.tail)
  show 0 ≤ x + b * zn b l
  omega
theorem WS (b : Int) (l m : List Int) : zn b (l ++ m) = zn b l + b ^ l.length * zn b m := by
 induction l with
 | nil => simp [zn]
 | cons x l ih =>
  show x + b * zn b (l ++ m) = x + b * zn b l + b ^ (l.length + 1) * zn b m
  grind
theorem Ys (b : Int) (l : List Int) (x : Int) : zn b (l ++ [x]) = zn b l + b ^ l.length * x := by
 rw [WS]
 show _ + _ * (x + b * 0) = _
 simp
theorem xO {b : Int} (hb : 0 < b) : ∀ {l : List Int}, Za b l → zn b l < b ^ l.length
 | [], _ => by simp [zn]
 | x :: l, h => by
  have h1 := h.head
  have h2 := xO hb h.tail
  show x + b * zn b l < b ^ (l.length + 1)
  rw [Int.pow_succ, Int.mul_comm _ b]
  have h3 : b * (zn b l + 1) ≤ b * b ^ l.length := Int.mul_le_mul_of_nonneg_left (by omega) (by omega)
  grind
theorem UG {l : List Int} {i : Nat} (h : i < l.length) : l.take (i + 1) = l.take i ++ [l.getD i 0] := by
 simp_all
theorem TJ (b : Int) {l : List Int} {i : Nat} (h : i < l.length) : zn b (l.take (i + 1)) = zn b (l.take i) + b ^ i * l.getD i 0 := by
 rw [UG h, Ys, List.length_take, Nat.min_eq_left (by omega)]
theorem Zk (b : Int) (l : List Int) (i : Nat) : zn b (l.take (i + 1)) = zn b (l.take i) + b ^ i * l.getD i 0 := by
 by_cases h : i < l.length
 ·exact TJ b h
 ·rw [List.take_of_length_le (by omega), List.take_of_length_le (by omega), List.getD_eq_getElem?_getD, List.getElem?_eq_none (by omega)]
  simp
theorem Y5 (b : Int) : ∀ {l : List Int} {i : Nat} (x : Int), i < l.length → zn b (l.set i x) = zn b l + b ^ i * (x - l.getD i 0)
 | [], i, x, h => by cases h
 | y :: l, 0, x, h => by
  show x + b * zn b l = y + b * zn b l + b ^ 0 * (x - y)
  grind
 | y :: l, i + 1, x, h => by
  show y + b * zn b (l.set i x) = y + b * zn b l + b ^ (i + 1) * (x - l.getD i 0)
  rw [Y5 b x (by simpa using h), Int.mul_add, Int.pow_succ, Int.mul_comm _ b, Int.mul_assoc]
  omega
theorem WX (b : Int) : ∀ n : Nat, zn b (List.replicate n 0) = 0
 | 0 => rfl
 | n + 1 => by rw [List.replicate_succ]; show 0 + b * zn b _ = 0; rw [WX b n]; simp
theorem Za.zeros {b : Int} (hb : 0 < b) (n : Nat) : Za b (List.replicate n 0) := fun x hx => by rw [List.eq_of_mem_replicate hx]; exact ⟨Int.le_refl _, hb⟩
theorem sT {b : Nat} (hb : 2 ≤ b) (n : Nat) : zn b (yx b n) = (n : Int) := by
 induction n using Nat.strongRecOn with
 | _ n ih =>
  by_cases h : n = 0
  ·subst h; rw [YM]; rfl
  ·rw [vE hb h]
   show ((n % b : Nat) : Int) + (b : Int) * zn b (yx b (n / b)) = n
   rw [ih (n / b) (Nat.div_lt_self (by omega) (by omega))]
   exact_mod_cast Nat.mod_add_div n b
theorem yO {b : Nat} (hb : 2 ≤ b) : ∀ {l : List Int}, Za b l → y7 l = yx b (zn b l).toNat
 | [], _ => by
  show [] = yx b 0
  rw [YM]
 | x :: l, h => by
  have ih := yO hb h.tail
  have h0 := Zv (b := (b : Int)) (by omega) h.tail
  have hx := h.head
  obtain ⟨m, hm⟩ : ∃ m : Nat, zn b l = m := ⟨(zn b l).toNat, by omega⟩
  obtain ⟨y, rfl⟩ : ∃ y : Nat, x = y := ⟨x.toNat, by omega⟩
  have e : (zn b ((y : Int) :: l)).toNat = y + b * m := by
   show ((y : Int) + (b : Int) * zn b l).toNat = _
   grind
  rw [hm, Int.toNat_natCast] at ih
  rw [e]
  have hy : y < b := by omega
  by_cases hz : y + b * m = 0
  ·rw [hz, YM]
   have hy0 : y = 0 := by omega
   have hm0 : b * m = 0 := by omega
   have hm1 : m = 0 := by
    rcases Nat.mul_eq_zero.1 hm0 with h | h
    all_goals omega
   unfold y7
   rw [if_pos ⟨by rw [ih, hm1, YM], by omega⟩]
  ·rw [vE hb hz, Nat.add_mul_mod_self_left, Nat.mod_eq_of_lt hy, Nat.add_mul_div_left _ _ (by omega), Nat.div_eq_of_lt hy, Nat.zero_add, ← ih]
   show (if y7 l = [] ∧ (y : Int) = 0 then [] else (y : Int) :: y7 l) = _
   rw [if_neg]
   rintro ⟨h1, h2⟩
   rw [ih] at h1
   have h3 := sT hb m
   rw [h1] at h3
   have h3 : (0 : Int) = (m : Int) := h3
   grind
end Go.Ar

namespace Go.Ar
open Go Go.Sx Go.Lib
set_option maxRecDepth 100000
def YN (s : zK) : Nat := match s with | 45 :: r => r.length | r => r.length
def YB (s : zK) : Int := bif Zw s then (bif Nat.blt 300 (YN s) then 4 else 0) else 11
theorem Zg {s : zK} : YB s = 0 ↔ Zw s = true ∧ YN s ≤ 300 := by
 unfold YB
 cases h : Zw s with
 | false => simp
 | true =>
  cases h2 : Nat.blt 300 (YN s) with
  | true => simp_all
  | false =>
   have : ¬ 300 < YN s := fun e => by rw [(zF _ _).2 e] at h2; cases h2
   simp; omega
theorem V0 {s : zK} (h : Zw s = true) : YN s = Wa (zt s) := by
 rcases yr h with ⟨r, rfl, h1, h2, h3⟩ | ⟨h1, h2⟩
 ·rw [h3]
  unfold Wa
  rw [Int.natAbs_neg, Int.natAbs_natCast, ← uH h1]; rfl
 ·rw [h2]
  unfold Wa
  rw [Int.natAbs_natCast, ← uH h1]
  match s, h1 with
  | [], _ => rfl
  | c :: r, h1 =>
   by_cases hc : c = 45
   ·subst hc; exact (YL h1).elim
   ·unfold YN; split
    all_goals simp_all
theorem wN (s : zK) : YN s ≤ s.length ∧ s.length ≤ YN s + 1 := by
 unfold YN
 grind
theorem Yg {n : Int} {k : Nat} (hk : 0 < k) (h : n.natAbs < 10 ^ k) : Wa n ≤ k := (yw hk).2 h
end Go.Ar

namespace Go.Ar
open Go Go.Sx Go.Lib
set_option maxRecDepth 100000
theorem yC {b : Int} (hb : 0 < b) (n : Nat) : 0 < b ^ n := Int.pow_pos hb
theorem vp (b : Int) (n : Nat) : b ^ (n + 1) = b ^ n * b := Int.pow_succ b n
theorem pD {n b : Int} (h : 0 ≤ n) (hb : 0 < b) : n.tmod b + b * n.tdiv b = n ∧ 0 ≤ n.tmod b ∧ n.tmod b < b ∧ 0 ≤ n.tdiv b := by
 rw [Int.tmod_eq_emod_of_nonneg h, Int.tdiv_eq_ediv_of_nonneg h]
 exact ⟨Int.emod_add_mul_ediv n b, Int.emod_nonneg n (by omega), Int.emod_lt_of_pos n hb, Int.ediv_nonneg h (by omega)⟩
structure U4 (b : Int) (x y : List Int) (z : Nat) (out : List Int) (c : Int) : Prop where
 len : out.length = z
 in_ : Za b out
 c0 : 0 ≤ c
 c1 : c ≤ 1
 val : zn b out + b ^ z * c = zn b (x.take z) + zn b (y.take z)
theorem U4.zero (b : Int) (x y : List Int) : U4 b x y 0 [] 0 := ⟨rfl, .nil b, Int.le_refl _, by omega, by simp [zn]⟩
theorem U4.step {b : Int} (hb : 2 ≤ b) {x y : List Int} (hx : Za b x) (hy : Za b y) {z : Nat} {out : List Int} {c : Int} (h : U4 b x y z out c) :
  U4 b x y (z + 1) (out ++ [(x.getD z 0 + y.getD z 0 + c).tmod b]) ((x.getD z 0 + y.getD z 0 + c).tdiv b) := by
 have x1 := hx.get (by omega) z
 have y1 := hy.get (by omega) z
 have h0 := h.c0
 have h1 := h.c1
 obtain ⟨e, m0, m1, d0⟩ := pD (n := x.getD z 0 + y.getD z 0 + c) (b := b) (by omega) (by omega)
 have hd : (x.getD z 0 + y.getD z 0 + c).tdiv b ≤ 1 := by
  refine Decidable.byContradiction fun hn => ?_
  have : b * 2 ≤ b * (x.getD z 0 + y.getD z 0 + c).tdiv b := Int.mul_le_mul_of_nonneg_left (by omega) (by omega)
  omega
 refine ⟨by simp [h.len], h.in_.snoc m0 m1, d0, hd, ?_⟩
 rw [Ys, h.len, Zk, Zk]
 have hv := h.val
 grind
theorem yk {x : List Int} {n : Nat} (h : x.length ≤ n) : x.take n = x := List.take_of_length_le h
theorem U4.end_ {b : Nat} (hb : 2 ≤ b) {x y : List Int} (hx : Za b x) (hy : Za b y) {z : Nat} {out : List Int} {c : Int} (h : U4 b x y z out c) (h1 : x.length < z) (h2 : y.length < z) :
  y7 out = yx b (zn b x + zn b y).toNat := by
 have hv := h.val
 rw [yk (by omega), yk (by omega)] at hv
 have x1 := xO (b := (b : Int)) (by omega) hx
 have y1 := xO (b := (b : Int)) (by omega) hy
 have hp : ∀ n, n < z → (b : Int) ^ n * 2 ≤ (b : Int) ^ z := fun n hn => by
  have p1 : b ^ n * 2 ≤ b ^ n * b := Nat.mul_le_mul_left _ hb
  have p2 : b ^ (n + 1) ≤ b ^ z := Nat.pow_le_pow_right (by omega) (by omega)
  grind
 have p1 := hp _ h1
 have p2 := hp _ h2
 have o0 := Zv (b := (b : Int)) (by omega) h.in_
 have hc : c = 0 := by
  refine Decidable.byContradiction fun hn => ?_
  have : c = 1 := by have := h.c0; have := h.c1; omega
  grind
 rw [hc, Int.mul_zero, Int.add_zero] at hv
 rw [yO hb h.in_, hv]
structure Uy (b : Int) (x y : List Int) (z : Nat) (out : List Int) (c : Int) : Prop where
 len : out.length = z
 in_ : Za b out
 c0 : 0 ≤ c
 c1 : c ≤ 1
 val : zn b out - b ^ z * c = zn b (x.take z) - zn b (y.take z)
theorem Uy.zero (b : Int) (x y : List Int) : Uy b x y 0 [] 0 := ⟨rfl, .nil b, Int.le_refl _, by omega, by simp [zn]⟩
theorem Uy.step {b : Int} (hb : 2 ≤ b) {x y : List Int} (hx : Za b x) (hy : Za b y) {z : Nat} {out : List Int} {c : Int} (h : Uy b x y z out c) :
  (0 ≤ x.getD z 0 - y.getD z 0 - c → Uy b x y (z + 1) (out ++ [x.getD z 0 - y.getD z 0 - c]) 0) ∧
  (x.getD z 0 - y.getD z 0 - c < 0 → Uy b x y (z + 1) (out ++ [x.getD z 0 - y.getD z 0 - c + b]) 1) := by
 have x1 := hx.get (by omega) z
 have y1 := hy.get (by omega) z
 have h0 := h.c0
 have h1 := h.c1
 have hv := h.val
 refine ⟨fun hn => ⟨by simp [h.len], h.in_.snoc hn (by omega), Int.le_refl _, by omega, ?_⟩, fun hn => ⟨by simp [h.len], h.in_.snoc (by omega) (by omega), by omega, Int.le_refl _, ?_⟩⟩
 ·rw [Ys, h.len, Zk, Zk, Int.mul_sub, Int.mul_sub]
  omega
 ·rw [Ys, h.len, Zk, Zk, Int.mul_add, Int.mul_sub, Int.mul_sub, vp]
  omega
theorem Uy.end_ {b : Nat} (hb : 2 ≤ b) {x y : List Int} {z : Nat} {out : List Int} {c : Int} (h : Uy b x y z out c) (h1 : x.length ≤ z) (h2 : y.length ≤ z) (hle : zn b y ≤ zn b x) :
  y7 out = yx b (zn b x - zn b y).toNat := by
 have hv := h.val
 rw [yk (by omega), yk (by omega)] at hv
 have o1 := xO (b := (b : Int)) (by omega) h.in_
 rw [h.len] at o1
 have hc : c = 0 := by
  refine Decidable.byContradiction fun hn => ?_
  have : c = 1 := by have := h.c0; have := h.c1; omega
  grind
 rw [hc, Int.mul_zero, Int.sub_zero] at hv
 rw [yO hb h.in_, hv]
structure Sz (b : Int) (x y : List Int) (z : Nat) (out : List Int) : Prop where
 len : out.length = x.length + y.length + 1
 in_ : Za b out
 zero : ∀ i, z + y.length ≤ i → out.getD i 0 = 0
 val : zn b out = zn b (x.take z) * zn b y
structure Tm (b : Int) (x y : List Int) (z k : Nat) (out : List Int) (c : Int) : Prop where
 len : out.length = x.length + y.length + 1
 in_ : Za b out
 zero : ∀ i, z + y.length ≤ i → z + k ≤ i → out.getD i 0 = 0
 c0 : 0 ≤ c
 c1 : c < b
 val : zn b out + b ^ (z + k) * c = zn b (x.take z) * zn b y + b ^ z * (x.getD z 0 * zn b (y.take k))
theorem XT (b : Int) : zn b [] = 0 := rfl
theorem uS (n i : Nat) : (List.replicate n (0 : Int)).getD i 0 = 0 := by
 grind
theorem Sz.start {b : Int} {x y : List Int} {z : Nat} {out : List Int} (hb : 0 < b) (h : Sz b x y z out) : Tm b x y z 0 out 0 :=
 ⟨h.len, h.in_, fun i hi _ => h.zero i hi, Int.le_refl _, hb, by rw [List.take_zero, XT, h.val]; simp⟩
theorem yF (l : List Int) (i j : Nat) (v : Int) (hj : j < l.length) : (l.set j v).getD i 0 = if i = j then v else l.getD i 0 := by
 grind
theorem Tm.step {b : Int} (hb : 2 ≤ b) {x y : List Int} (hx : Za b x) (hy : Za b y) {z k : Nat} (hz : z < x.length) (hk : k ≤ y.length) {out : List Int} {c : Int} (h : Tm b x y z k out c) :
  (0 ≤ out.getD (z + k) 0 + x.getD z 0 * y.getD k 0 + c ∧ out.getD (z + k) 0 + x.getD z 0 * y.getD k 0 + c < b * b) ∧
  Tm b x y z (k + 1) (out.set (z + k) ((out.getD (z + k) 0 + x.getD z 0 * y.getD k 0 + c).tmod b)) ((out.getD (z + k) 0 + x.getD z 0 * y.getD k 0 + c).tdiv b) := by
 have x1 := hx.get (by omega) z
 have y1 := hy.get (by omega) k
 have o1 := h.in_.get (by omega) (z + k)
 have h0 := h.c0
 have h1 := h.c1
 have p0 : 0 ≤ x.getD z 0 * y.getD k 0 := Int.mul_nonneg x1.1 y1.1
 have p1 : x.getD z 0 * y.getD k 0 ≤ (b - 1) * (b - 1) := Int.mul_le_mul (by omega) (by omega) y1.1 (by omega)
 have p2 : (b - 1) * (b - 1) = b * b - 2 * b + 1 := by rw [Int.sub_mul, Int.mul_sub]; omega
 have hn0 : 0 ≤ out.getD (z + k) 0 + x.getD z 0 * y.getD k 0 + c := by omega
 have hn1 : out.getD (z + k) 0 + x.getD z 0 * y.getD k 0 + c < b * b := by omega
 obtain ⟨e, m0, m1, d0⟩ := pD (b := b) hn0 (by omega)
 have hd : (out.getD (z + k) 0 + x.getD z 0 * y.getD k 0 + c).tdiv b < b := by
  refine Decidable.byContradiction fun hn => ?_
  have : b * b ≤ b * (out.getD (z + k) 0 + x.getD z 0 * y.getD k 0 + c).tdiv b := Int.mul_le_mul_of_nonneg_left (by omega) (by omega)
  omega
 have hlen : z + k < out.length := by rw [h.len]; omega
 refine ⟨⟨hn0, hn1⟩, by rw [List.length_set]; exact h.len, h.in_.set m0 m1 _, fun i hi hi2 => ?_, d0, hd, ?_⟩
 ·rw [yF _ _ _ _ hlen, if_neg (by omega)]
  exact h.zero i hi (by omega)
 ·rw [Y5 b _ hlen, Zk]
  have hv := h.val
  grind
theorem Tm.end_ {b : Int} (hb : 2 ≤ b) {x y : List Int} (hx : Za b x) (hy : Za b y) {z : Nat} (hz : z < x.length) {out : List Int} {c : Int} (h : Tm b x y z (y.length + 1) out c) (hc : c = 0) : Sz b x y (z + 1) out := by
 subst hc
 refine ⟨h.len, h.in_, fun i hi => h.zero i (by omega) (by omega), ?_⟩
 have hv := h.val
 rw [Int.mul_zero, Int.add_zero, yk (x := y) (by omega)] at hv
 rw [hv, Zk b x, Int.add_mul, Int.mul_assoc]
theorem Sz.end_ {b : Nat} (hb : 2 ≤ b) {x y : List Int} {out : List Int} (h : Sz b x y x.length out) : y7 out = yx b (zn b x * zn b y).toNat := by
 have hv := h.val
 rw [List.take_length] at hv
 rw [yO hb h.in_, hv]
end Go.Ar

namespace Go.Ar
open Go Go.Sx Go.Lib
set_option maxRecDepth 100000
theorem vL {l : List Int} {z : Nat} (h : z < l.length) : l.drop z = l.getD z 0 :: l.drop (z + 1) := by
 simp_all
theorem Xg (b : Int) {l : List Int} {z : Nat} (h : z < l.length) : zn b (l.drop z) = l.getD z 0 + b * zn b (l.drop (z + 1)) := by rw [vL h]; rfl
theorem yb (b : Int) (l : List Int) {z : Nat} (h : z ≤ l.length) : zn b l = zn b (l.take z) + b ^ z * zn b (l.drop z) := by
 conv => lhs; rw [← List.take_append_drop z l]
 rw [WS, List.length_take, Nat.min_eq_left h]
theorem uE (l : List Int) (z : Nat) (v : Int) (h : z < l.length) : (l.set z v).drop z = v :: l.drop (z + 1) := by
 rw [vL (by simpa using h), yF _ _ _ _ h, if_pos rfl, List.drop_set]
 simp
structure pw (b d : Int) (a : List Int) (z : Nat) (q : List Int) (r : Int) : Prop where
 len : q.length = a.length
 le : z ≤ a.length
 in_ : Za b q
 r0 : 0 ≤ r
 r1 : r < d
 val : zn b (a.drop z) = d * zn b (q.drop z) + r
theorem pw.start {b d : Int} (hb : 0 < b) (hd : 0 < d) (a : List Int) : pw b d a a.length (List.replicate a.length 0) 0 :=
 ⟨by simp, Nat.le_refl _, .zeros hb _, Int.le_refl _, hd, by rw [List.drop_of_length_le (Nat.le_refl _), List.drop_of_length_le (by simp)]; simp [zn]⟩
theorem pw.step {b d : Int} (hb : 0 < b) {a : List Int} (ha : Za b a) {z : Nat} {q : List Int} {r : Int} (h : pw b d a (z + 1) q r) :
  (0 ≤ a.getD z 0 + r * b ∧ a.getD z 0 + r * b < d * b) ∧ pw b d a z (q.set z ((a.getD z 0 + r * b).tdiv d)) ((a.getD z 0 + r * b).tmod d) := by
 have a1 := ha.get hb z
 have h0 := h.r0
 have h1 := h.r1
 have hz := h.le
 have p0 : 0 ≤ r * b := Int.mul_nonneg h0 (by omega)
 have p1 : (r + 1) * b ≤ d * b := Int.mul_le_mul_of_nonneg_right (by omega) (by omega)
 rw [Int.add_mul, Int.one_mul] at p1
 have n0 : 0 ≤ a.getD z 0 + r * b := by omega
 have n1 : a.getD z 0 + r * b < d * b := by omega
 obtain ⟨e, m0, m1, d0⟩ := pD n0 (b := d) (by omega)
 have hq : (a.getD z 0 + r * b).tdiv d < b := by
  refine Decidable.byContradiction fun hn => ?_
  have : d * b ≤ d * (a.getD z 0 + r * b).tdiv d := Int.mul_le_mul_of_nonneg_left (by omega) (by omega)
  omega
 refine ⟨⟨n0, n1⟩, by rw [List.length_set]; exact h.len, by omega, h.in_.set d0 hq _, m0, m1, ?_⟩
 rw [uE _ _ _ (by rw [h.len]; omega), Xg b (by omega), h.val]
 show _ = d * (_ + b * _) + _
 grind
theorem pw.end_ {b : Nat} (hb : 2 ≤ b) {d : Nat} (hd : 0 < d) (hdb : d ≤ b) {a : List Int} {q : List Int} {r : Int} (h : pw b d a 0 q r) (n : Nat) (hn : zn b a = n) :
  y7 q = yx b (n / d) ∧ r = (n % d : Nat) ∧ y7 [r] = yx b (n % d) := by
 have hv := h.val
 rw [List.drop_zero, List.drop_zero, hn] at hv
 have q0 := Zv (b := (b : Int)) (by omega) h.in_
 have h0 := h.r0
 have h1 := h.r1
 obtain ⟨Q, hQ⟩ : ∃ Q : Nat, zn b q = Q := ⟨(zn b q).toNat, by omega⟩
 obtain ⟨R, rfl⟩ : ∃ R : Nat, r = R := ⟨r.toNat, by omega⟩
 rw [hQ] at hv
 have hv : n = d * Q + R := by exact_mod_cast hv
 have hR : R < d := by omega
 have e1 : n / d = Q := by rw [hv, Nat.mul_add_div hd, Nat.div_eq_of_lt hR, Nat.add_zero]
 have e2 : n % d = R := by rw [hv, Nat.mul_add_mod, Nat.mod_eq_of_lt hR]
 refine ⟨?_, by rw [e2], ?_⟩
 ·rw [yO hb h.in_, hQ, e1, Int.toNat_natCast]
 ·rw [yO hb (.one (by omega) (by omega)), e2]
  rfl
def Out (j n : Nat) (u w : List Int) : Prop := ∀ i, i < j ∨ n ≤ i → w.getD i 0 = u.getD i 0
structure Wt (b : Int) (u v : List Int) (j : Nat) (q : Int) (i : Nat) (w : List Int) (c : Int) : Prop where
 len : w.length = u.length
 in_ : Za b w
 out : Out j (j + i) u w
 c0 : 0 ≤ c
 c1 : c ≤ q + 1
 val : zn b w - b ^ (j + i) * c = zn b u - b ^ j * (q * zn b (v.take i))
theorem Wt.start {b : Int} {u v : List Int} {j : Nat} {q : Int} (hu : Za b u) (hq : 0 ≤ q) : Wt b u v j q 0 u 0 :=
 ⟨rfl, hu, fun _ _ => rfl, Int.le_refl _, by omega, by rw [List.take_zero, XT]; simp⟩
def xA (b n : Int) : Int := bif z7 n 0 then (-n + b - 1).tdiv b else 0
theorem T7 {b n : Int} (hb : 2 ≤ b) : 0 ≤ xA b n ∧ 0 ≤ n + xA b n * b ∧ (n < b → n + xA b n * b < b) ∧ ∀ q, -(q * b) ≤ n → 0 ≤ q → xA b n ≤ q := by
 unfold xA
 cases h : z7 n 0 with
 | true =>
  have h := (zm _ _).1 h
  simp only [cond_true]
  obtain ⟨e, m0, m1, d0⟩ := pD (n := -n + b - 1) (b := b) (by omega) (by omega)
  rw [Int.mul_comm] at e
  refine ⟨d0, by omega, fun _ => by omega, fun q hq hq0 => ?_⟩
  refine Decidable.byContradiction fun hn => ?_
  have : (q + 1) * b ≤ (-n + b - 1).tdiv b * b := Int.mul_le_mul_of_nonneg_right (by omega) (by omega)
  grind
 | false =>
  have h : ¬ n < 0 := fun e => by rw [(zm _ _).2 e] at h; cases h
  simp_all
theorem Wt.step {b : Int} (hb : 2 ≤ b) {u v : List Int} (hv : Za b v) {j : Nat} {q : Int} (hq : 0 ≤ q) {i : Nat} (hj : j + i < u.length) {w : List Int} {c : Int} (h : Wt b u v j q i w c) :
  (-((q + 1) * b) ≤ w.getD (j + i) 0 - c - q * v.getD i 0 ∧ w.getD (j + i) 0 - c - q * v.getD i 0 < b) ∧
  Wt b u v j q (i + 1) (w.set (j + i) (w.getD (j + i) 0 - c - q * v.getD i 0 + xA b (w.getD (j + i) 0 - c - q * v.getD i 0) * b)) (xA b (w.getD (j + i) 0 - c - q * v.getD i 0)) := by
 have v1 := hv.get (by omega) i
 have w1 := h.in_.get (by omega) (j + i)
 have h0 := h.c0
 have h1 := h.c1
 have p0 : 0 ≤ q * v.getD i 0 := Int.mul_nonneg hq v1.1
 have p1 : q * v.getD i 0 ≤ q * (b - 1) := Int.mul_le_mul_of_nonneg_left (by omega) hq
 rw [Int.mul_sub, Int.mul_one] at p1
 have n1 : -((q + 1) * b) ≤ w.getD (j + i) 0 - c - q * v.getD i 0 := by rw [Int.add_mul, Int.one_mul]; omega
 have n2 : w.getD (j + i) 0 - c - q * v.getD i 0 < b := by omega
 have hl : j + i < w.length := by rw [h.len]; exact hj
 have hval := h.val
 refine ⟨⟨n1, n2⟩, ?_⟩
 obtain ⟨k0, k1, k2, k3⟩ := T7 (b := b) (n := w.getD (j + i) 0 - c - q * v.getD i 0) hb
 refine ⟨by rw [List.length_set]; exact h.len, h.in_.set k1 (k2 n2) _, fun x hx => ?_, k0, k3 _ n1 (by omega), ?_⟩
 ·rw [yF _ _ _ _ hl, if_neg (by omega)]
  exact h.out x (by omega)
 ·rw [Y5 b _ hl, Zk]
  grind
structure tj (b : Int) (u v : List Int) (j : Nat) (q : Int) (i : Nat) (w : List Int) (c : Int) : Prop where
 len : w.length = u.length
 in_ : Za b w
 out : Out j (j + i) u w
 c0 : 0 ≤ c
 c1 : c ≤ q
 val : zn b w + b ^ (j + i) * c = zn b u + b ^ j * (q * zn b (v.take i))
theorem tj.start {b : Int} {u v : List Int} {j : Nat} {q : Int} (hu : Za b u) (hq : 0 ≤ q) : tj b u v j q 0 u 0 :=
 ⟨rfl, hu, fun _ _ => rfl, Int.le_refl _, hq, by rw [List.take_zero, XT]; simp⟩
theorem tj.step {b : Int} (hb : 2 ≤ b) {u v : List Int} (hv : Za b v) {j : Nat} {q : Int} (hq : 0 ≤ q) {i : Nat} (hj : j + i < u.length) {w : List Int} {c : Int} (h : tj b u v j q i w c) :
  (0 ≤ w.getD (j + i) 0 + q * v.getD i 0 + c ∧ w.getD (j + i) 0 + q * v.getD i 0 + c < (q + 1) * b) ∧
  tj b u v j q (i + 1) (w.set (j + i) ((w.getD (j + i) 0 + q * v.getD i 0 + c).tmod b)) ((w.getD (j + i) 0 + q * v.getD i 0 + c).tdiv b) := by
 have v1 := hv.get (by omega) i
 have w1 := h.in_.get (by omega) (j + i)
 have h0 := h.c0
 have h1 := h.c1
 have p0 : 0 ≤ q * v.getD i 0 := Int.mul_nonneg hq v1.1
 have p1 : q * v.getD i 0 ≤ q * (b - 1) := Int.mul_le_mul_of_nonneg_left (by omega) hq
 rw [Int.mul_sub, Int.mul_one] at p1
 have n1 : 0 ≤ w.getD (j + i) 0 + q * v.getD i 0 + c := by omega
 have n2 : w.getD (j + i) 0 + q * v.getD i 0 + c < (q + 1) * b := by rw [Int.add_mul, Int.one_mul]; omega
 have hl : j + i < w.length := by rw [h.len]; exact hj
 have hval := h.val
 refine ⟨⟨n1, n2⟩, ?_⟩
 obtain ⟨e, m0, m1, d0⟩ := pD n1 (b := b) (by omega)
 have hd : (w.getD (j + i) 0 + q * v.getD i 0 + c).tdiv b ≤ q := by
  refine Decidable.byContradiction fun hn => ?_
  have : b * (q + 1) ≤ b * (w.getD (j + i) 0 + q * v.getD i 0 + c).tdiv b := Int.mul_le_mul_of_nonneg_left (by omega) (by omega)
  grind
 refine ⟨by rw [List.length_set]; exact h.len, h.in_.set m0 m1 _, fun x hx => ?_, d0, hd, ?_⟩
 ·rw [yF _ _ _ _ hl, if_neg (by omega)]
  exact h.out x (by omega)
 ·rw [Y5 b _ hl, Zk]
  grind
theorem Za.ext {b : Int} (hb : 0 < b) : ∀ {l m : List Int}, Za b l → Za b m → l.length = m.length → zn b l = zn b m → l = m
 | [], [], _, _, _, _ => rfl
 | [], _ :: _, _, _, h, _ => by cases h
 | _ :: _, [], _, _, h, _ => by cases h
 | x :: l, y :: m, hl, hm, h, hv => by
  have hx := hl.head
  have hy := hm.head
  have hv : x + b * zn b l = y + b * zn b m := hv
  have e1 : x = (x + b * zn b l) % b := by rw [Int.add_mul_emod_self_left, Int.emod_eq_of_lt hx.1 hx.2]
  have e2 : y = (y + b * zn b m) % b := by rw [Int.add_mul_emod_self_left, Int.emod_eq_of_lt hy.1 hy.2]
  have e3 : x = y := by rw [e1, e2, hv]
  subst e3
  have e4 : b * zn b l = b * zn b m := by omega
  rw [Za.ext hb hl.tail hm.tail (by simpa using h) (Int.eq_of_mul_eq_mul_left (by omega) e4)]
theorem SI {b : Int} {u : List Int} {j n : Nat} (h : ∀ i, n ≤ i → u.getD i 0 = 0) (hj : j ≤ n) : zn b (u.drop j) = zn b ((u.take n).drop j) := by
 have e : ∀ {l : List Int}, (∀ i, l.getD i 0 = 0) → zn b l = 0 := by
  intro l
  induction l with
  | nil => intro _; rfl
  | cons x l ih =>
   intro hl
   have h0 : x = 0 := hl 0
   show x + b * zn b l = 0
   rw [h0, ih fun i => hl (i + 1)]; simp
 by_cases hn : n ≤ u.length
 ·have e1 : u.drop j = (u.take n).drop j ++ u.drop n := by
   conv => lhs; rw [← List.take_append_drop n u]
   grind
  rw [e1, WS, e (l := u.drop n), Int.mul_zero, Int.add_zero]
  simp_all
 ·rw [List.take_of_length_le (by omega)]
end Go.Ar

namespace Go.Ar
open Go Go.Sx Go.Lib
set_option maxRecDepth 100000
theorem XY (l : List Int) (j i : Nat) : (l.drop j).getD i 0 = l.getD (j + i) 0 := by
 simp
theorem wD {b : Int} {l : List Int} {n : Nat} (h : ∀ i, n ≤ i → l.getD i 0 = 0) : zn b l = zn b (l.take n) := by
 have := SI (b := b) (j := 0) h (Nat.zero_le _)
 assumption
theorem wo {b : Int} (hb : 0 < b) {l : List Int} (h : Za b l) (n : Nat) : 0 ≤ zn b (l.take n) ∧ zn b (l.take n) < b ^ n := by
 refine ⟨Zv (Int.le_of_lt hb) (h.take n), ?_⟩
 have h1 := xO hb (h.take n)
 have h2 : b ^ (l.take n).length ≤ b ^ n := by
  obtain ⟨m, rfl⟩ : ∃ m : Nat, b = m := ⟨b.toNat, by omega⟩
  have : m ^ (l.take n).length ≤ m ^ n := Nat.pow_le_pow_right (by omega) (by simp; omega)
  grind
 omega
theorem T5 {b : Int} (hb : 0 < b) {l : List Int} (h : Za b l) {n : Nat} (hv : zn b l < b ^ n) {i : Nat} (hi : n ≤ i) : l.getD i 0 = 0 := by
 by_cases hl : i < l.length
 ·have e := yb b l (z := i) (by omega)
  rw [Xg b hl] at e
  have h1 := (h.get hb i).1
  have h2 := (wo hb h i).1
  have h3 := Zv (Int.le_of_lt hb) (h.drop (i + 1))
  refine Decidable.byContradiction fun hn => ?_
  have h4 : b ^ i * 1 ≤ b ^ i * (l.getD i 0 + b * zn b (l.drop (i + 1))) := by
   refine Int.mul_le_mul_of_nonneg_left ?_ (Int.le_of_lt (yC hb i))
   have := Int.mul_nonneg (Int.le_of_lt hb) h3
   omega
  have h5 : b ^ n ≤ b ^ i := by
   obtain ⟨m, rfl⟩ : ∃ m : Nat, b = m := ⟨b.toNat, by omega⟩
   have : m ^ n ≤ m ^ i := Nat.pow_le_pow_right (by omega) hi
   grind
  omega
 simp_all
structure Qf (b top v1 W V q r : Int) : Prop where
 eq : q * v1 + r = top
 r0 : 0 ≤ r
 q0 : 0 ≤ q
 lt : W < (q + 1) * V
 le : q < 2 * b
structure qF (b : Int) (k : Nat) (u0 u1 u2 v1 v2 W V : Int) : Prop where
 hb : 2 ≤ b
 hu0 : 0 ≤ u0 ∧ u0 ≤ v1
 hu1 : 0 ≤ u1 ∧ u1 < b
 hu2 : 0 ≤ u2 ∧ u2 < b
 hv1 : 0 < v1 ∧ v1 < b
 hv2 : 0 ≤ v2 ∧ v2 < b
 w : W < b ^ k * (u2 + 1 + b * (u0 * b + u1))
 v : b ^ k * (v2 + b * v1) ≤ V
theorem qF.start {b : Int} {k : Nat} {u0 u1 u2 v1 v2 W V : Int} (h : qF b k u0 u1 u2 v1 v2 W V) : Qf b (u0 * b + u1) v1 W V ((u0 * b + u1).tdiv v1) ((u0 * b + u1).tmod v1) := by
 have hb := h.hb
 have a0 := h.hu0
 have a1 := h.hu1
 have a2 := h.hu2
 have b1 := h.hv1
 have b2 := h.hv2
 have p0 : 0 ≤ u0 * b := Int.mul_nonneg a0.1 (by omega)
 obtain ⟨e, m0, m1, d0⟩ := pD (n := u0 * b + u1) (b := v1) (by omega) b1.1
 have hp := yC (b := b) (by omega) k
 refine ⟨by rw [Int.mul_comm]; omega, m0, d0, ?_, ?_⟩
 ·generalize hq : (u0 * b + u1).tdiv v1 = q at *
  have t1 : u0 * b + u1 + 1 ≤ (q + 1) * v1 := by rw [Int.add_mul, Int.one_mul, Int.mul_comm q]; omega
  have t2 : b * (u0 * b + u1 + 1) ≤ b * ((q + 1) * v1) := Int.mul_le_mul_of_nonneg_left t1 (by omega)
  have t3 : b ^ k * (u2 + 1 + b * (u0 * b + u1)) ≤ b ^ k * (b * ((q + 1) * v1)) := Int.mul_le_mul_of_nonneg_left (by rw [Int.mul_add, Int.mul_one] at t2; omega) (Int.le_of_lt hp)
  have t4 : (q + 1) * (b ^ k * (v2 + b * v1)) ≤ (q + 1) * V := Int.mul_le_mul_of_nonneg_left h.v (by omega)
  have t5 : b ^ k * (b * ((q + 1) * v1)) ≤ (q + 1) * (b ^ k * (v2 + b * v1)) := by
   rw [← Int.mul_assoc (q + 1), Int.mul_comm (q + 1) (b ^ k), Int.mul_assoc]
   refine Int.mul_le_mul_of_nonneg_left ?_ (Int.le_of_lt hp)
   rw [Int.mul_add]
   have := Int.mul_nonneg (show 0 ≤ q + 1 by omega) b2.1
   grind
  have := h.w
  omega
 ·refine Decidable.byContradiction fun hn => ?_
  have t1 : v1 * (2 * b) ≤ v1 * (u0 * b + u1).tdiv v1 := Int.mul_le_mul_of_nonneg_left (by omega) (by omega)
  have t2 : u0 * b ≤ v1 * b := Int.mul_le_mul_of_nonneg_right a0.2 (by omega)
  have t3 : v1 * (2 * b) = v1 * b + v1 * b := by rw [Int.two_mul, Int.mul_add]
  have t4 : 1 * b ≤ v1 * b := Int.mul_le_mul_of_nonneg_right (by omega) (by omega)
  omega
theorem qF.step {b : Int} {k : Nat} {u0 u1 u2 v1 v2 W V q r : Int} (h : qF b k u0 u1 u2 v1 v2 W V) (hi : Qf b (u0 * b + u1) v1 W V q r) (hW : W < b * V) (hV : 0 < V)
  (hc : b ≤ q ∨ r * b + u2 < q * v2) : 0 < q ∧ Qf b (u0 * b + u1) v1 W V (q - 1) (r + v1) := by
 have hb := h.hb
 have a2 := h.hu2
 have b1 := h.hv1
 have b2 := h.hv2
 have q0 := hi.q0
 have r0 := hi.r0
 have hp := yC (b := b) (by omega) k
 have hq : 0 < q := by
  rcases hc with hc | hc
  ·omega
  ·refine Decidable.byContradiction fun hn => ?_
   have : q = 0 := by omega
   subst this
   have := Int.mul_nonneg r0 (show 0 ≤ b by omega)
   omega
 refine ⟨hq, by rw [Int.sub_mul, Int.one_mul]; have := hi.eq; omega, by omega, by omega, ?_, by have := hi.le; omega⟩
 rw [Int.sub_add_cancel]
 rcases hc with hc | hc
 ·have : b * V ≤ q * V := Int.mul_le_mul_of_nonneg_right hc (by omega)
  omega
 ·have t1 : q * (b ^ k * (v2 + b * v1)) ≤ q * V := Int.mul_le_mul_of_nonneg_left h.v q0
  have t2 : b ^ k * (u2 + 1 + b * (u0 * b + u1)) ≤ q * (b ^ k * (v2 + b * v1)) := by
   rw [← Int.mul_assoc q, Int.mul_comm q (b ^ k), Int.mul_assoc]
   refine Int.mul_le_mul_of_nonneg_left ?_ (Int.le_of_lt hp)
   rw [← hi.eq, Int.mul_add, Int.mul_add, ← Int.mul_assoc q b, Int.mul_comm q b, Int.mul_assoc b q, Int.mul_comm b r]
   omega
  have := h.w
  omega
structure VL (b A V : Int) (n m j : Nat) (q u : List Int) : Prop where
 ql : q.length = m
 ul : u.length = m + n
 qi : Za b q
 ui : Za b u
 hi : ∀ i, j + n ≤ i → u.getD i 0 = 0
 top : zn b (u.drop j) < V
 val : A = V * (b ^ j * zn b (q.drop j)) + zn b u
theorem VL.start {b A V : Int} (hb : 0 < b) {n m : Nat} {u : List Int} (hl : u.length = m + n) (hu : Za b u) (hV : zn b (u.drop m) < V) (hA : A = zn b u) : VL b A V n m m (List.replicate m 0) u :=
 ⟨by simp, hl, .zeros hb m, hu, fun i hi => by rw [List.getD_eq_getElem?_getD, List.getElem?_eq_none (by omega)]; rfl, hV, by
  rw [List.drop_of_length_le (by simp), XT, Int.mul_zero, Int.mul_zero, Int.zero_add]; exact hA⟩
theorem VL.win {b A V : Int} (hb : 0 < b) {n m j : Nat} {q u : List Int} (hn : 0 < n) (hj : j < m) (h : VL b A V n m (j + 1) q u) : 0 ≤ zn b (u.drop j) ∧ zn b (u.drop j) < b * V := by
 have h1 := h.ui.get hb j
 have h2 := h.top
 rw [Xg b (by rw [h.ul]; omega)]
 have h3 : b * (zn b (u.drop (j + 1)) + 1) ≤ b * V := Int.mul_le_mul_of_nonneg_left (by omega) (by omega)
 rw [Int.mul_add, Int.mul_one] at h3
 have h4 := Int.mul_nonneg (Int.le_of_lt hb) (Zv (Int.le_of_lt hb) (h.ui.drop (j + 1)))
 omega
theorem wg {u w : List Int} {j n : Nat} (hl : w.length = u.length) (h : Out j n u w) : w.take j = u.take j := by
 refine List.ext_getElem (by simp [hl]) fun i h1 h2 => ?_
 have hi : i < j := by simp at h1; omega
 have hiw : i < w.length := by simp at h1; omega
 have e := h i (.inl hi)
 simp_all
theorem Uz {b : Int} {u w : List Int} {j n : Nat} (hl : w.length = u.length) (hj : j ≤ u.length) (h : Out j n u w) : zn b w - zn b u = b ^ j * (zn b (w.drop j) - zn b (u.drop j)) := by
 rw [yb b w (z := j) (by omega), yb b u (z := j) hj, wg hl h, Int.mul_sub]
 omega
theorem Wt.end_ {b : Int} (hb : 2 ≤ b) {u v : List Int} {j : Nat} {q : Int} {w : List Int} {c : Int} (hj : j ≤ u.length) (hz : ∀ i, j + 1 + v.length ≤ i → u.getD i 0 = 0) (h : Wt b u v j q (v.length + 1) w c) :
  zn b (w.drop j) - b ^ (v.length + 1) * c = zn b (u.drop j) - q * zn b v ∧ 0 ≤ zn b (w.drop j) ∧ zn b (w.drop j) < b ^ (v.length + 1) := by
 have hv := h.val
 rw [yk (by omega)] at hv
 have hl := Uz (b := b) h.len hj h.out
 refine ⟨?_, Zv (by omega) (h.in_.drop j), ?_⟩
 ·have e : b ^ j * (zn b (w.drop j) - b ^ (v.length + 1) * c) = b ^ j * (zn b (u.drop j) - q * zn b v) := by
   grind
  exact Int.eq_of_mul_eq_mul_left (by have := yC (b := b) (by omega) j; omega) e
 ·have hz2 : ∀ i, v.length + 1 ≤ i → (w.drop j).getD i 0 = 0 := fun i hi => by
   rw [XY, h.out _ (.inr (by omega)), hz _ (by omega)]
  rw [wD hz2]
  exact (wo (by omega) (h.in_.drop j) _).2
theorem Wt.fits {b : Int} (hb : 2 ≤ b) {u v : List Int} {j : Nat} {q : Int} {w : List Int} {c : Int} (hj : j ≤ u.length) (hz : ∀ i, j + 1 + v.length ≤ i → u.getD i 0 = 0) (h : Wt b u v j q (v.length + 1) w c) :
  (c ≤ 0 → zn b (w.drop j) = zn b (u.drop j) - q * zn b v) ∧ (0 < c → zn b (u.drop j) < q * zn b v) := by
 obtain ⟨e, e0, e1⟩ := h.end_ hb hj hz
 have hp := yC (b := b) (by omega) (v.length + 1)
 constructor
 ·intro hc
  have : c = 0 := by have := h.c0; omega
  simp_all
 ·intro hc
  have : b ^ (v.length + 1) * 1 ≤ b ^ (v.length + 1) * c := Int.mul_le_mul_of_nonneg_left (by omega) (by omega)
  omega
theorem tj.end_ {b : Int} (hb : 2 ≤ b) {u v : List Int} {j : Nat} {q : Int} {w : List Int} {c : Int} (hu : Za b u) (hj : j ≤ u.length) (hz : ∀ i, j + 1 + v.length ≤ i → u.getD i 0 = 0) (h : Wt b u v j q (v.length + 1) w c)
  {w2 : List Int} {c2 : Int} (h2 : tj b w v j q (v.length + 1) w2 c2) : w2 = u := by
 obtain ⟨e, e0, e1⟩ := h.end_ hb hj hz
 have hp := yC (b := b) (by omega) (v.length + 1)
 have hv := h2.val
 rw [yk (by omega)] at hv
 have hl := Uz (b := b) h2.len (by rw [h.len]; exact hj) h2.out
 have o2 : ∀ i, v.length + 1 ≤ i → (w2.drop j).getD i 0 = 0 := fun i hi => by
  rw [XY, h2.out _ (.inr (by omega)), h.out _ (.inr (by omega)), hz _ (by omega)]
 have ou : ∀ i, v.length + 1 ≤ i → (u.drop j).getD i 0 = 0 := fun i hi => by rw [XY, hz _ (by omega)]
 have b2 := (wo (by omega) (h2.in_.drop j) (v.length + 1))
 rw [← wD o2] at b2
 have bu := (wo (by omega) (hu.drop j) (v.length + 1))
 rw [← wD ou] at bu
 have e2 : zn b (w2.drop j) + b ^ (v.length + 1) * c2 = zn b (w.drop j) + q * zn b v := by
  have e3 : b ^ j * (zn b (w2.drop j) + b ^ (v.length + 1) * c2) = b ^ j * (zn b (w.drop j) + q * zn b v) := by
   grind
  exact Int.eq_of_mul_eq_mul_left (by have := yC (b := b) (by omega) j; omega) e3
 have e4 : zn b (w2.drop j) - zn b (u.drop j) = b ^ (v.length + 1) * (c - c2) := by rw [Int.mul_sub]; omega
 have e5 : c = c2 := by
  rcases Int.lt_trichotomy c c2 with hlt | heq | hgt
  ·have : b ^ (v.length + 1) * (c - c2) ≤ b ^ (v.length + 1) * (-1) := Int.mul_le_mul_of_nonneg_left (by omega) (by omega)
   omega
  ·exact heq
  ·have : b ^ (v.length + 1) * 1 ≤ b ^ (v.length + 1) * (c - c2) := Int.mul_le_mul_of_nonneg_left (by omega) (by omega)
   omega
 have e6 : zn b (w2.drop j) = zn b (u.drop j) := by rw [e5, Int.sub_self, Int.mul_zero] at e4; omega
 refine Za.ext (by omega) h2.in_ hu (h2.len.trans h.len) ?_
 rw [yb b w2 (z := j) (by rw [h2.len, h.len]; exact hj), yb b u (z := j) hj, wg h2.len h2.out, wg h.len h.out, e6]
theorem VL.step {b A V : Int} (hb : 2 ≤ b) {v : List Int} (hv : Za b v) (hV : zn b v = V) {m j : Nat} {q u : List Int} (hj : j < m) (h : VL b A V v.length m (j + 1) q u) {Q : Int} (hQ : 0 ≤ Q) (hlt : zn b (u.drop j) < (Q + 1) * V)
  {w : List Int} {c : Int} (ht : Wt b u v j Q (v.length + 1) w c) (hc : c ≤ 0) : VL b A V v.length m j (q.set j Q) w := by
 have hul := h.ul
 obtain ⟨t1, _⟩ := ht.fits hb (by omega) (fun i hi => h.hi i (by omega))
 have t1 := t1 hc
 rw [hV] at t1
 have w0 := Zv (b := b) (by omega) (ht.in_.drop j)
 have hw : zn b (w.drop j) < V := by rw [t1]; rw [Int.add_mul, Int.one_mul] at hlt; omega
 have hVb : V < b ^ v.length := by rw [← hV]; exact xO (by omega) hv
 have hV0 : 0 < V := by omega
 have hvl : 0 < v.length := by
  refine Nat.pos_of_ne_zero fun e => ?_
  rw [e, Int.pow_zero] at hVb
  omega
 obtain ⟨z1, z2⟩ := h.win (by omega) hvl hj
 have hQb : Q < b := by
  refine Decidable.byContradiction fun hn => ?_
  have : b * V ≤ Q * V := Int.mul_le_mul_of_nonneg_right (by omega) (by omega)
  omega
 refine ⟨by rw [List.length_set]; exact h.ql, by rw [ht.len]; exact hul, h.qi.set hQ hQb _, ht.in_, fun i hi => ?_, hw, ?_⟩
 ·by_cases e : i = j + v.length
  ·have := T5 (by omega) (ht.in_.drop j) (n := v.length) (i := v.length) (by omega) (Nat.le_refl _)
   simp_all
  ·rw [ht.out i (.inr (by omega))]
   exact h.hi i (by omega)
 ·have hvv := ht.val
  have hc0 : c = 0 := by have := ht.c0; omega
  rw [hc0, Int.mul_zero, Int.sub_zero, yk (by omega), hV] at hvv
  rw [uE _ _ _ (by rw [h.ql]; omega)]
  show A = V * (b ^ j * (Q + b * zn b (q.drop (j + 1)))) + zn b w
  rw [hvv, h.val, vp, Int.mul_add, Int.mul_add, ← Int.mul_assoc (b ^ j) b]
  grind
theorem VL.end_ {b : Nat} (hb : 2 ≤ b) {A V : Nat} (hV0 : 0 < V) {n m : Nat} {q u : List Int} (h : VL b A V n m 0 q u) : y7 q = yx b (A / V) ∧ y7 u = yx b (A % V) := by
 have hv := h.val
 rw [Int.pow_zero, Int.one_mul, List.drop_zero] at hv
 have ht := h.top
 rw [List.drop_zero] at ht
 have q0 := Zv (b := (b : Int)) (by omega) h.qi
 have u0 := Zv (b := (b : Int)) (by omega) h.ui
 obtain ⟨Q, hQ⟩ : ∃ Q : Nat, zn b q = Q := ⟨(zn b q).toNat, by omega⟩
 obtain ⟨R, hR⟩ : ∃ R : Nat, zn b u = R := ⟨(zn b u).toNat, by omega⟩
 rw [hQ, hR] at hv
 rw [hR] at ht
 have hv : A = V * Q + R := by exact_mod_cast hv
 have hR' : R < V := by omega
 rw [yO hb h.qi, yO hb h.ui, hQ, hR, Int.toNat_natCast, Int.toNat_natCast]
 rw [hv, Nat.mul_add_div hV0, Nat.div_eq_of_lt hR', Nat.add_zero, Nat.mul_add_mod, Nat.mod_eq_of_lt hR']
 simp
end Go.Ar

namespace Go.Ar
open Go Go.Sx Go.Lib
set_option maxRecDepth 100000
def zR (s : zK) : zK := s.takeWhile (· != 47)
def zi (s : zK) : zK := (s.dropWhile (· != 47)).drop 1
def zT (s : zK) : Bool := s.any (· == 47)
def Zz (s : zK) : Bool := Zw (zR s) && (!zT s || Zt (zi s) && !(zi s == [48]) && !(zi s == [49]))
def zV (s : zK) : Int := zt (zR s)
def zS (s : zK) : Nat := bif zT s then zI (zi s) else 1
def Zq (s : zK) : Int :=
 bif !Zz s then 11 else bif Nat.blt 300 (YN (zR s)) || Nat.blt 300 (zi s).length then 4 else bif Nat.beq (Nat.gcd (zV s).natAbs (zS s)) 1 then 0 else 11
def yL (n : Int) (d : Nat) : zK := itoa n ++ bif Nat.beq d 1 then [] else 47 :: decDigits d
def zX (n : Int) (d : Nat) : zK := yL (n / (Nat.gcd n.natAbs d : Int)) (d / Nat.gcd n.natAbs d)
theorem wl {c : UInt8} (h : Zx c = true) : (c != 47) = true := by
 rw [yY] at h
 rw [bne_iff_ne]
 intro e
 simp_all
theorem XD {s : zK} (h : Zw s = true) : ∀ c ∈ s, (c != 47) = true := by
 rcases yr h with ⟨r, rfl, h1, _, _⟩ | ⟨h1, _⟩
 ·intro c hc
  rcases List.mem_cons.1 hc with rfl | hc
  ·decide
  ·exact wl ((ZT.1 h1).2.1 c hc)
 ·exact fun c hc => wl ((ZT.1 h1).2.1 c hc)
theorem xe {p : UInt8 → Bool} : ∀ {a : zK}, (∀ c ∈ a, p c = true) → a.takeWhile p = a ∧ a.dropWhile p = []
 | [], _ => ⟨rfl, rfl⟩
 | c :: a, h => by
  obtain ⟨h1, h2⟩ := xe (a := a) fun x hx => h x (List.mem_cons_of_mem _ hx)
  simp_all
theorem vw {p : UInt8 → Bool} {x : UInt8} {b : zK} (hx : p x = false) : ∀ {a : zK}, (∀ c ∈ a, p c = true) → (a ++ x :: b).takeWhile p = a ∧ (a ++ x :: b).dropWhile p = x :: b
 | [], _ => by simp [List.takeWhile_cons, List.dropWhile_cons, hx]
 | c :: a, h => by
  simp_all
theorem Z3 {s : zK} (h : zT s = false) : zR s = s ∧ zi s = [] := by
 unfold zT at h
 rw [List.any_eq_false] at h
 obtain ⟨h1, h2⟩ := xe (p := (· != 47)) (a := s) fun c hc => by
  simp_all
 exact ⟨h1, by unfold zi; rw [h2]; rfl⟩
theorem WR {a b : zK} (h : ∀ c ∈ a, (c != 47) = true) : zR (a ++ 47 :: b) = a ∧ zi (a ++ 47 :: b) = b ∧ zT (a ++ 47 :: b) = true := by
 obtain ⟨h1, h2⟩ := vw (p := (· != 47)) (x := 47) (b := b) (by decide) h
 exact ⟨h1, by unfold zi; rw [h2]; rfl, by unfold zT; simp⟩
theorem WW {s : zK} (h : ∀ c ∈ s, (c != 47) = true) : zT s = false := by
 unfold zT
 simp_all
theorem xV {s : zK} (h : zT s = true) : s = zR s ++ 47 :: zi s := by
 have e := List.takeWhile_append_dropWhile (p := (· != (47 : UInt8))) (l := s)
 unfold zR zi
 have hd : ∃ b, s.dropWhile (· != (47 : UInt8)) = 47 :: b := by
  clear e
  induction s with
  | nil => cases h
  | cons c s ih =>
   by_cases hc : c = 47
   ·simp_all
   ·have h' : zT s = true := by
     unfold zT at h ⊢
     simp_all
    simp_all
 grind
theorem Xz {s : zK} (h : zT s = false) : Zz s = Zw s := by
 unfold Zz
 rw [h, (Z3 h).1]; simp
theorem Ww {s : zK} (h : Zz s = true) : (Zw s = true ∧ zT s = false ∧ zR s = s ∧ zV s = zt s ∧ zS s = 1) ∨
  (zT s = true ∧ s = zR s ++ 47 :: zi s ∧ Zw (zR s) = true ∧ Zt (zi s) = true ∧ 2 ≤ zS s ∧ zS s = zI (zi s)) := by
 cases hs : zT s with
 | false =>
  rw [Xz hs] at h
  obtain ⟨h1, h2⟩ := Z3 hs
  exact .inl ⟨h, rfl, h1, by unfold zV; rw [h1], by unfold zS; rw [hs]; rfl⟩
 | true =>
  unfold Zz at h
  rw [hs] at h
  simp only [Bool.not_true, Bool.false_or, Bool.and_eq_true, Bool.not_eq_true'] at h
  obtain ⟨h1, ⟨h2, h3⟩, h4⟩ := h
  have e : zS s = zI (zi s) := by unfold zS; rw [hs]; rfl
  refine .inr ⟨rfl, xV hs, h1, h2, ?_, e⟩
  rw [e]
  have h5 := ZQ h2
  refine Decidable.byContradiction fun hn => ?_
  have : zI (zi s) = 0 ∨ zI (zi s) = 1 := by omega
  rcases this with h6 | h6
  ·rw [h6, zg (by decide)] at h5
   rw [← h5] at h3
   exact absurd h3 (by decide)
  ·rw [h6, zg (by decide)] at h5
   rw [← h5] at h4
   exact absurd h4 (by decide)
theorem yK {s : zK} (h : Zz s = true) : 1 ≤ zS s := by rcases Ww h with ⟨_, _, _, _, h⟩ | ⟨_, _, _, _, h, _⟩ <;> omega
theorem ZP {s : zK} : Zq s = 0 ↔ Zz s = true ∧ YN (zR s) ≤ 300 ∧ (zi s).length ≤ 300 ∧ Nat.gcd (zV s).natAbs (zS s) = 1 := by
 unfold Zq
 cases h : Zz s with
 | false => simp
 | true =>
  cases h2 : Nat.blt 300 (YN (zR s)) || Nat.blt 300 (zi s).length with
  | true =>
   rw [Bool.or_eq_true, zF, zF] at h2
   simp; omega
  | false =>
   rw [Bool.or_eq_false_iff, Bool.eq_false_iff, Bool.eq_false_iff, Ne, Ne, zF, zF] at h2
   cases h3 : Nat.beq (Nat.gcd (zV s).natAbs (zS s)) 1 with
   | true =>
    simp_all
   | false =>
    have h3 : Nat.gcd (zV s).natAbs (zS s) ≠ 1 := fun e => by rw [e] at h3; cases h3
    simp_all
theorem WG {s : zK} (h : Zz s = true) : yL (zV s) (zS s) = s := by
 unfold yL
 rcases Ww h with ⟨h1, _, _, h4, h5⟩ | ⟨_, h2, h3, h4, h5, h6⟩
 ·rw [h4, h5, Ym h1]; exact List.append_nil s
 ·rw [show Nat.beq (zS s) 1 = false from Bool.eq_false_iff.2 fun e => by have := Nat.eq_of_beq_eq_true e; omega]
  conv => rhs; rw [h2]
  unfold zV
  rw [Ym h3, h6, ZQ h4]; rfl
theorem Yx (n : Int) {d : Nat} (hd : 0 < d) : Zz (yL n d) = true ∧ zV (yL n d) = n ∧ zS (yL n d) = d ∧ YN (zR (yL n d)) = Wa n ∧ (zi (yL n d)).length = (if d = 1 then 0 else nDigits d) := by
 obtain ⟨i1, i2⟩ := ye n
 unfold yL
 by_cases h : d = 1
 ·subst h
  rw [Nat.beq_refl]
  simp only [cond_true, List.append_nil, if_true]
  have hs := WW (XD i1)
  obtain ⟨c1, c2⟩ := Z3 hs
  refine ⟨by rw [Xz hs]; exact i1, by unfold zV; rw [c1, i2], by unfold zS; rw [hs]; rfl, by rw [c1, V0 i1, i2], by rw [c2]; rfl⟩
 ·rw [show Nat.beq d 1 = false from Bool.eq_false_iff.2 fun e => h (Nat.eq_of_beq_eq_true e)]
  simp only [cond_false, if_neg h]
  obtain ⟨c1, c2, c3⟩ := WR (b := decDigits d) (XD i1)
  have hd0 : ¬ decDigits d = [48] := fun e => by
   have := Zj d
   rw [e] at this
   have : (0 : Nat) = d := this
   omega
  have hd1 : ¬ decDigits d = [49] := fun e => by
   have := Zj d
   rw [e] at this
   have : (1 : Nat) = d := this
   omega
  refine ⟨?_, by unfold zV; rw [c1, i2], by unfold zS; rw [c3, c2]; exact Zj d, by rw [c1, V0 i1, i2], by rw [c2, decDigits_length]⟩
  unfold Zz
  rw [c1, c2, c3, i1, ya, beq_false_of_ne hd0, beq_false_of_ne hd1]; rfl
theorem xN {n : Int} {d : Nat} (hd : 0 < d) : Nat.gcd (n / (Nat.gcd n.natAbs d : Int)).natAbs (d / Nat.gcd n.natAbs d) = 1 ∧ 0 < d / Nat.gcd n.natAbs d ∧
  n / (Nat.gcd n.natAbs d : Int) * (Nat.gcd n.natAbs d : Int) = n ∧ d / Nat.gcd n.natAbs d * Nat.gcd n.natAbs d = d := by
 have hg : 0 < Nat.gcd n.natAbs d := Nat.gcd_pos_of_pos_right _ hd
 have h1 : Nat.gcd n.natAbs d ∣ n.natAbs := Nat.gcd_dvd_left _ _
 have h2 : Nat.gcd n.natAbs d ∣ d := Nat.gcd_dvd_right _ _
 have h3 : ((Nat.gcd n.natAbs d : Nat) : Int) ∣ n := Int.ofNat_dvd_left.2 h1
 have e1 : (n / (Nat.gcd n.natAbs d : Int)).natAbs = n.natAbs / Nat.gcd n.natAbs d := by
  rw [Int.natAbs_ediv_of_dvd h3, Int.natAbs_natCast]
 refine ⟨?_, Nat.div_pos (Nat.le_of_dvd hd h2) hg, Int.ediv_mul_cancel h3, Nat.div_mul_cancel h2⟩
 rw [e1]
 exact Nat.coprime_div_gcd_div_gcd hg
theorem Ze (n : Int) {d : Nat} (hd : 0 < d) : Zz (zX n d) = true ∧ zV (zX n d) = n / (Nat.gcd n.natAbs d : Int) ∧ zS (zX n d) = d / Nat.gcd n.natAbs d ∧ Nat.gcd (zV (zX n d)).natAbs (zS (zX n d)) = 1 := by
 obtain ⟨g1, g2, _, _⟩ := xN (n := n) hd
 obtain ⟨a, b, c, _, _⟩ := Yx (n / (Nat.gcd n.natAbs d : Int)) g2
 unfold zX
 simp_all
theorem Zr (n : Int) {d : Nat} (hd : 0 < d) : zV (zX n d) * (d : Int) = n * (zS (zX n d) : Int) := by
 obtain ⟨_, b, c, _⟩ := Ze n hd
 obtain ⟨_, _, g3, g4⟩ := xN (n := n) hd
 rw [b, c]
 have g4 : ((d / Nat.gcd n.natAbs d : Nat) : Int) * ((Nat.gcd n.natAbs d : Nat) : Int) = (d : Int) := by exact_mod_cast g4
 grind
theorem re {n m : Int} {d e : Nat} (hd : 0 < d) (he : 0 < e) (h1 : Nat.gcd n.natAbs d = 1) (h2 : Nat.gcd m.natAbs e = 1) (h : n * (e : Int) = m * (d : Int)) : n = m ∧ d = e := by
 have ha : n.natAbs * e = m.natAbs * d := by
  have := congrArg Int.natAbs h
  rwa [Int.natAbs_mul, Int.natAbs_mul, Int.natAbs_natCast, Int.natAbs_natCast] at this
 have c1 : Nat.Coprime d n.natAbs := (Nat.coprime_comm).1 h1
 have c2 : Nat.Coprime e m.natAbs := (Nat.coprime_comm).1 h2
 have d1 : d ∣ e := c1.dvd_of_dvd_mul_left ⟨m.natAbs, by rw [ha, Nat.mul_comm]⟩
 have d2 : e ∣ d := c2.dvd_of_dvd_mul_left ⟨n.natAbs, by rw [← ha, Nat.mul_comm]⟩
 have e1 : d = e := Nat.dvd_antisymm d1 d2
 refine ⟨?_, e1⟩
 subst e1
 exact Int.eq_of_mul_eq_mul_right (by omega) h
theorem YR {n m : Int} {d e : Nat} (hd : 0 < d) (he : 0 < e) : zX n d = zX m e ↔ n * (e : Int) = m * (d : Int) := by
 obtain ⟨a1, a2, a3, a4⟩ := Ze n hd
 obtain ⟨b1, b2, b3, b4⟩ := Ze m he
 have v1 := Zr n hd
 have v2 := Zr m he
 constructor
 ·intro h
  rw [← h] at v2
  have hp : (0 : Int) < (zS (zX n d) : Int) := by have := yK a1; omega
  refine Int.eq_of_mul_eq_mul_right (a := (zS (zX n d) : Int)) (by omega) ?_
  grind
 ·intro h
  have key : n / (Nat.gcd n.natAbs d : Int) = m / (Nat.gcd m.natAbs e : Int) ∧ d / Nat.gcd n.natAbs d = e / Nat.gcd m.natAbs e := by
   obtain ⟨g1, g2, g3, g4⟩ := xN (n := n) hd
   obtain ⟨k1, k2, k3, k4⟩ := xN (n := m) he
   refine re g2 k2 g1 k1 ?_
   have hg : 0 < Nat.gcd n.natAbs d := Nat.gcd_pos_of_pos_right _ hd
   have hk : 0 < Nat.gcd m.natAbs e := Nat.gcd_pos_of_pos_right _ he
   generalize n / (Nat.gcd n.natAbs d : Int) = n' at *
   generalize d / Nat.gcd n.natAbs d = d' at *
   generalize m / (Nat.gcd m.natAbs e : Int) = m' at *
   generalize e / Nat.gcd m.natAbs e = e' at *
   generalize hG : Nat.gcd n.natAbs d = G at *
   generalize hK : Nat.gcd m.natAbs e = K at *
   rw [← g3, ← k3, ← g4, ← k4] at h
   push_cast at h
   have h' : n' * (e' : Int) * ((G : Int) * (K : Int)) = m' * (d' : Int) * ((G : Int) * (K : Int)) := by
    grind
   have hp : (0 : Int) < (G : Int) * (K : Int) := Int.mul_pos (by omega) (by omega)
   exact Int.eq_of_mul_eq_mul_right (by omega) h'
  unfold zX
  simp_all
end Go.Ar

namespace Go.Ar
open Go Go.Sx Go.Lib
set_option maxRecDepth 100000
structure QQ (k : Nat) (r : zK) (z : Nat) (L : List Int) : Prop where
 le : z ≤ r.length
 len : L.length = (r.length + k - 1) / k
 in_ : Za (10 ^ k : Nat) L
 zero : ∀ i, z ≤ k * i → L.getD i 0 = 0
 part : L.getD (z / k) 0 < 10 ^ (z % k)
 val : zn (10 ^ k : Nat) L = (zI (r.drop (r.length - z)) : Int)
theorem QQ.start {k : Nat} (hk : 0 < k) (r : zK) : QQ k r 0 (List.replicate ((r.length + k - 1) / k) 0) := by
 have h10 : 0 < 10 ^ k := Nat.pow_pos (by decide)
 refine ⟨Nat.zero_le _, by simp, .zeros (by omega) _, fun i _ => uS _ _, ?_, ?_⟩
 ·rw [uS, Nat.zero_mod]; decide
 ·rw [WX, Nat.sub_zero, List.drop_of_length_le (Nat.le_refl _)]; rfl
theorem wB {r : zK} {i : Nat} (h : i < r.length) : r.drop i = r.getD i 0 :: r.drop (i + 1) := by
 simp_all
theorem QQ.step {k : Nat} (hk : 0 < k) {r : zK} (hr : ∀ c ∈ r, Zx c = true) {z : Nat} (hz : z < r.length) {L : List Int} (h : QQ k r z L) :
  z / k < L.length ∧ QQ k r (z + 1) (L.set (z / k) (L.getD (z / k) 0 + (wJ (r.getD (r.length - 1 - z) 0) : Int) * 10 ^ (z % k))) := by
 have h10 : 0 < 10 ^ k := Nat.pow_pos (by decide)
 have hi : r.length - 1 - z < r.length := by omega
 have hd : Zx (r.getD (r.length - 1 - z) 0) = true := by
  simp_all
 have hv := Vs hd
 have hdm := Nat.div_add_mod z k
 have hmod := Nat.mod_lt z hk
 have hlen : z / k < L.length := by
  rw [h.len]
  have : k * (z / k) < r.length := by omega
  have h2 : (k * (z / k) + k) / k ≤ (r.length + k - 1) / k := Nat.div_le_div_right (by omega)
  rw [Nat.add_div_right _ hk, Nat.mul_div_cancel_left _ hk] at h2
  omega
 have hp := h.part
 have hL := h.in_.get (by omega) (z / k)
 generalize hdd : wJ (r.getD (r.length - 1 - z) 0) = d at *
 have hp0 : (0 : Int) < 10 ^ (z % k) := Int.pow_pos (by decide)
 have hdp : (d : Int) * 10 ^ (z % k) ≤ 9 * 10 ^ (z % k) := Int.mul_le_mul_of_nonneg_right (by omega) (Int.le_of_lt hp0)
 have hdp0 : 0 ≤ (d : Int) * 10 ^ (z % k) := Int.mul_nonneg (by omega) (Int.le_of_lt hp0)
 have hnew : L.getD (z / k) 0 + (d : Int) * 10 ^ (z % k) < 10 ^ (z % k + 1) := by rw [Int.pow_succ]; omega
 have hle : (10 : Int) ^ (z % k + 1) ≤ ((10 ^ k : Nat) : Int) := by
  have : 10 ^ (z % k + 1) ≤ 10 ^ k := Nat.pow_le_pow_right (by decide) (by omega)
  grind
 refine ⟨hlen, by omega, by rw [List.length_set]; exact h.len, h.in_.set (by omega) (by omega) _, fun i hzi => ?_, ?_, ?_⟩
 ·have hne : i ≠ z / k := fun e => by
   grind
  rw [yF _ _ _ _ hlen, if_neg hne]
  exact h.zero i (by omega)
 ·by_cases e : (z + 1) % k = 0
  ·have hz1 : k * ((z + 1) / k) = z + 1 := by have := Nat.div_add_mod (z + 1) k; omega
   have hne : (z + 1) / k ≠ z / k := fun e2 => by rw [e2] at hz1; omega
   rw [yF _ _ _ _ hlen, if_neg hne, h.zero _ (by omega)]
   simp_all
  ·have e1 : (z + 1) % k = z % k + 1 ∧ (z + 1) / k = z / k := by
    have h1 : z % k + 1 < k := by
     refine Nat.lt_of_le_of_ne (by omega) fun e2 => e ?_
     have : z + 1 = k * (z / k + 1) := by rw [Nat.mul_add, Nat.mul_one]; omega
     simp_all
    have h2 : z + 1 = k * (z / k) + (z % k + 1) := by omega
    constructor
    ·rw [h2, Nat.mul_add_mod, Nat.mod_eq_of_lt h1]
    ·rw [h2, Nat.mul_add_div hk, Nat.div_eq_of_lt h1, Nat.add_zero]
   simp_all
 ·rw [Y5 _ _ hlen, h.val, show r.length - (z + 1) = r.length - 1 - z by omega, wB hi, Xd, show r.length - 1 - z + 1 = r.length - z by omega, hdd, List.length_drop, show r.length - (r.length - z) = z by omega]
  have e1 : ((10 ^ k : Nat) : Int) ^ (z / k) * (10 : Int) ^ (z % k) = 10 ^ z := by
   have : (10 ^ k) ^ (z / k) * 10 ^ (z % k) = 10 ^ z := by rw [← Nat.pow_mul, ← Nat.pow_add, hdm]
   exact_mod_cast this
  grind
theorem QQ.end_ {k : Nat} (hk : 0 < k) {r : zK} {L : List Int} (h : QQ k r r.length L) : y7 L = yx (10 ^ k) (zI r) := by
 have hv := h.val
 rw [Nat.sub_self, List.drop_zero] at hv
 have h2 : 2 ≤ 10 ^ k := by
  grind
 rw [yO h2 h.in_, hv, Int.toNat_natCast]
end Go.Ar

namespace Go.Ar
open Go Go.Sx Go.Lib
set_option maxRecDepth 100000
theorem uG {x y : Nat} (h : y ≠ 0) : Nat.gcd x y = Nat.gcd y (x % y) := by
 rw [Nat.gcd_comm x y, Nat.gcd_rec y x, Nat.gcd_comm]
end Go.Ar

namespace Go.Ar
open Go Go.Sx Go.Lib
set_option maxRecDepth 100000
theorem oA (c : UInt8) : (z7 (c.toNat : Int) 48 || z7 57 (c.toNat : Int)) = !Zx c := by
 unfold Zx
 rw [Bool.eq_iff_iff, Bool.or_eq_true, zm, zm, Bool.not_eq_true', Bool.and_eq_false_iff]
 constructor
 ·rintro (h | h)
  ·exact .inl (Bool.eq_false_iff.2 fun e => by have := Nat.le_of_ble_eq_true e; omega)
  ·exact .inr (Bool.eq_false_iff.2 fun e => by have := Nat.le_of_ble_eq_true e; omega)
 ·rintro (h | h)
  ·exact .inl (by have : ¬ 48 ≤ c.toNat := fun e => by rw [Nat.ble_eq_true_of_le e] at h; cases h
                  omega)
  ·exact .inr (by have : ¬ c.toNat ≤ 57 := fun e => by rw [Nat.ble_eq_true_of_le e] at h; cases h
                  omega)
theorem Xo (c : UInt8) (n : Nat) (hn : n < 256) : ((c.toNat : Int) == (n : Int)) = (c == UInt8.ofNat n) := by
 rw [Bool.eq_iff_iff, beq_iff_eq, beq_iff_eq]
 constructor
 ·intro h
  have : c.toNat = n := by omega
  rw [← this, UInt8.ofNat_toNat]
 ·intro h
  subst h
  rw [UInt8.toNat_ofNat']
  omega
theorem xJ {a : zK} (h : ¬ (0 < a.length ∧ a.getD 0 0 = 45)) : Zw a = Zt a ∧ YN a = a.length ∧ zt a = (zI a : Int) := by
 match a, h with
 | [], _ => exact ⟨rfl, rfl, rfl⟩
 | c :: r, h =>
  have hc : c ≠ 45 := fun e => h ⟨by simp, e⟩
  refine ⟨?_, ?_, ?_⟩
  ·unfold Zw; split
   all_goals simp_all
  ·unfold YN; split
   all_goals simp_all
  ·unfold zt; split
   all_goals simp_all
theorem vS {a : zK} (h0 : 0 < a.length) (h : a.getD 0 0 = 45) : a = 45 :: a.drop 1 ∧ Zw a = (Zt (a.drop 1) && !(a.drop 1 == [48])) ∧ YN a = a.length - 1 ∧ zt a = -(zI (a.drop 1) : Int) := by
 match a, h0, h with
 | c :: r, _, h =>
  have hc : c = 45 := h
  subst hc
  exact ⟨rfl, rfl, rfl, rfl⟩
theorem qe {a : zK} (h : Zw a = true) : YB a = bif Nat.blt 300 (YN a) then 4 else 0 := by unfold YB; rw [h]; rfl
theorem Sw {a : zK} (h : ¬ Zw a = true) : YB a = 11 := by unfold YB; rw [Bool.eq_false_iff.2 h]; rfl
def pc (n : Int) : Int := bif z7 n 0 then -1 else bif z7 0 n then 1 else 0
end Go.Ar

namespace Go.Ar
open Go Go.Sx Go.Lib
set_option maxRecDepth 100000
theorem Un {l : zK} {i : Nat} (h : i < l.length) : l.take (i + 1) = l.take i ++ [l.getD i 0] := by
 simp_all
structure oZ where
 k : Nat
 L : List Int
structure pK (s : zK) (z : oZ) : Prop where
 le : 6 * z.k ≤ s.length + 5
 len : z.L.length = z.k
 in_ : Za 1000000 z.L
 val : zn 1000000 z.L = (zI (s.drop (s.length - 6 * z.k)) : Int)
theorem pK.start (s : zK) : pK s ⟨0, []⟩ := ⟨by simp, rfl, .nil _, by rw [Nat.mul_zero, Nat.sub_zero, List.drop_length]; rfl⟩
def X6 (s : zK) (k i : Nat) : zK := (s.take i).drop (s.length - 6 * k - 6)
theorem T9 {s : zK} {k i : Nat} (h1 : i ≤ s.length - 6 * k) : (X6 s k i).length ≤ 6 := by
 unfold X6
 grind
theorem rf {s : zK} (hs : ∀ c ∈ s, Zx c = true) (k i : Nat) : (X6 s k i).all Zx = true := by
 rw [List.all_eq_true]
 intro c hc
 exact hs c (List.mem_of_mem_take (List.mem_of_mem_drop hc))
theorem rm {s : zK} (hs : ∀ c ∈ s, Zx c = true) {k i : Nat} (h1 : i ≤ s.length - 6 * k) : (zI (X6 s k i) : Int) < 1000000 := by
 have h2 := XS (rf hs k i)
 have h3 : 10 ^ (X6 s k i).length ≤ 10 ^ 6 := Nat.pow_le_pow_right (by decide) (T9 h1)
 omega
theorem pK.step {s : zK} (hs : ∀ c ∈ s, Zx c = true) {z : oZ} (h : pK s z) (hz : 6 * z.k < s.length) : pK s ⟨z.k + 1, z.L ++ [(zI (X6 s z.k (s.length - 6 * z.k)) : Int)]⟩ := by
 refine ⟨by simp only; omega, by simp [h.len], h.in_.snoc (by omega) (rm hs (Nat.le_refl _)), ?_⟩
 show zn 1000000 (z.L ++ [_]) = (zI (s.drop (s.length - 6 * (z.k + 1))) : Int)
 rw [Ys, h.val, h.len]
 have e : s.drop (s.length - 6 * (z.k + 1)) = X6 s z.k (s.length - 6 * z.k) ++ s.drop (s.length - 6 * z.k) := by
  unfold X6
  rw [show s.length - 6 * (z.k + 1) = s.length - 6 * z.k - 6 by omega]
  have e1 := List.drop_append_of_le_length (l₁ := s.take (s.length - 6 * z.k)) (l₂ := s.drop (s.length - 6 * z.k)) (i := s.length - 6 * z.k - 6) (by rw [List.length_take]; omega)
  simp_all
 rw [e, un, List.length_drop, show s.length - (s.length - 6 * z.k) = 6 * z.k by omega]
 have e2 : (1000000 : Int) ^ z.k = ((10 ^ (6 * z.k) : Nat) : Int) := by
  have e3 : 1000000 ^ z.k = 10 ^ (6 * z.k) := by rw [Nat.pow_mul]
  grind
 grind
theorem pK.end_ {s : zK} {z : oZ} (h : pK s z) (hz : s.length ≤ 6 * z.k) : y7 z.L = yx 1000000 (zI s) := by
 have hv := h.val
 rw [show s.length - 6 * z.k = 0 by omega, List.drop_zero] at hv
 have := yO (b := 1000000) (by decide) h.in_
 simp_all
end Go.Ar

namespace Go.Ar
open Go Go.Sx Go.Lib
set_option maxRecDepth 100000
theorem uO {s : zK} {i : Nat} (h : i < s.length) : s.getD i 0 ∈ s := by
 simp_all
theorem wL {s : zK} {c : UInt8} (h : c ∈ s) : ∃ i, i < s.length ∧ s.getD i 0 = c := by
 obtain ⟨i, hi, rfl⟩ := List.mem_iff_getElem.1 h
 exact ⟨i, hi, by rw [List.getD_eq_getElem?_getD, List.getElem?_eq_getElem hi]; rfl⟩
theorem getD_takeS {s : zK} {z i : Nat} (h : i < z) : (s.take z).getD i 0 = s.getD i 0 := by
 simp_all
theorem pn {s : zK} {z : Nat} (hz : z < s.length) (h : ∀ i, i < z → s.getD i 0 ≠ 47) (e : s.getD z 0 = 47) :
  zR s = s.take z ∧ zi s = s.drop (z + 1) ∧ zT s = true := by
 have e1 : s.take z ++ 47 :: s.drop (z + 1) = s := by
  conv => rhs; rw [← List.take_append_drop z s]
  congr 1
  rw [List.drop_eq_getElem_cons hz, ← e, List.getD_eq_getElem?_getD, List.getElem?_eq_getElem hz]; rfl
 have h1 : ∀ c ∈ s.take z, (c != 47) = true := by
  intro c hc
  obtain ⟨i, hi, rfl⟩ := wL hc
  grind
 have := WR (b := s.drop (z + 1)) h1
 simp_all
theorem sF {s : zK} (h : ∀ i, i < s.length → s.getD i 0 ≠ 47) : zT s = false ∧ zR s = s ∧ zi s = [] := by
 have hs : zT s = false := WW fun c hc => by
  obtain ⟨i, hi, rfl⟩ := wL hc
  simp_all
 exact ⟨hs, Z3 hs⟩
def zE (a : zK) : Bool := a.getD 0 0 == 45
def zU (a : zK) : zK := bif zE a then a.drop 1 else a
theorem XV (a : zK) : (zU a).length ≤ a.length := by
 unfold zU
 grind
theorem rT (s : zK) : (zR s).length ≤ s.length := by
 unfold zR
 exact List.Sublist.length_le (List.takeWhile_sublist _)
theorem Ux (s : zK) : (zi s).length ≤ s.length := by
 unfold zi
 rw [List.length_drop]
 have := List.Sublist.length_le (List.dropWhile_sublist (· != (47 : UInt8)) (l := s))
 omega
theorem TE (a : zK) : (zE a = true ∧ a = 45 :: zU a) ∨ (zE a = false ∧ zU a = a ∧ ¬ (0 < (zR a).length ∧ (zR a).getD 0 0 = 45)) := by
 unfold zU zE
 match a with
 | [] => exact .inr ⟨rfl, rfl, fun h => by cases h.1⟩
 | c :: r =>
  by_cases hc : c = 45
  ·simp_all
  ·have e : ((c :: r).getD 0 0 == (45 : UInt8)) = false := beq_eq_false_iff_ne.2 hc
   rw [e]
   refine .inr ⟨rfl, rfl, fun h => ?_⟩
   unfold zR at h
   rw [List.takeWhile_cons] at h
   grind
theorem Qo (r : zK) : zR (45 :: r) = 45 :: zR r ∧ zi (45 :: r) = zi r ∧ zT (45 :: r) = zT r := by
 refine ⟨?_, ?_, ?_⟩
 all_goals rfl
theorem yS (a : zK) : zR a = (bif zE a then 45 :: zR (zU a) else zR (zU a)) ∧ zi a = zi (zU a) ∧ zT a = zT (zU a) ∧
  Zw (zR a) = (Zt (zR (zU a)) && !(zE a && zR (zU a) == [48])) ∧ YN (zR a) = (zR (zU a)).length ∧
  zV a = (bif zE a then -(zI (zR (zU a)) : Int) else (zI (zR (zU a)) : Int)) ∧ zS a = (bif zT (zU a) then zI (zi (zU a)) else 1) := by
 rcases TE a with ⟨h1, h2⟩ | ⟨h1, h2, h3⟩
 ·obtain ⟨c1, c2, c3⟩ := Qo (zU a)
  rw [← h2] at c1 c2 c3
  unfold zV zS
  rw [c1, c2, c3, h1]
  exact ⟨rfl, rfl, rfl, by show (Zt _ && _) = _; simp, rfl, rfl, rfl⟩
 ·obtain ⟨p1, p2, p3⟩ := xJ h3
  unfold zV zS
  simp_all
theorem UU (a : zK) : (zV a).natAbs = zI (zR (zU a)) := by
 obtain ⟨_, _, _, _, _, h, _⟩ := yS a
 grind
def Xq (a : zK) : Bool := Zt (zR (zU a)) && !(zE a && zR (zU a) == [48]) && (!zT (zU a) || Zt (zi (zU a)) && !(zi (zU a) == [48]) && !(zi (zU a) == [49]))
theorem XA (a : zK) : Zz a = Xq a := by
 obtain ⟨h1, h2, h3, h4, _⟩ := yS a
 unfold Zz Xq
 simp_all
theorem SR {a : zK} (h : Xq a = false) : Zq a = 11 := by
 unfold Zq
 rw [XA, h]; rfl
theorem Uv {a : zK} (h : Xq a = true) (hl : (zR (zU a)).length ≤ 300 ∧ (zi (zU a)).length ≤ 300) (hs : zT (zU a) = true) :
  Zq a = bif Nat.beq (Nat.gcd (zI (zR (zU a))) (zI (zi (zU a)))) 1 then 0 else 11 := by
 obtain ⟨_, h2, _, _, h5, _, h7⟩ := yS a
 unfold Zq
 rw [XA, h, h5, h2, UU, h7, hs, show (Nat.blt 300 (zR (zU a)).length || Nat.blt 300 (zi (zU a)).length) = false by
  rw [Bool.or_eq_false_iff, Bool.eq_false_iff, Bool.eq_false_iff, Ne, Ne, zF, zF]; omega]
 rfl
theorem S8 {a : zK} (h : Xq a = true) (hl : (zR (zU a)).length ≤ 300) (hs : zT (zU a) = false) : Zq a = 0 := by
 obtain ⟨_, h2, _, _, h5, _, h7⟩ := yS a
 have hd : zi (zU a) = [] := (Z3 hs).2
 unfold Zq
 rw [XA, h, h5, h2, h7, hs, hd, show (Nat.blt 300 (zR (zU a)).length || Nat.blt 300 ([] : zK).length) = false by
  rw [Bool.or_eq_false_iff, Bool.eq_false_iff, Bool.eq_false_iff, Ne, Ne, zF, zF]
  simp_all]
 simp
theorem XZ {s : zK} (h : Zt s = true) {k : Nat} (hl : s.length ≤ k) : zI s < 10 ^ k := by
 have h1 := XS (l := s) (List.all_eq_true.2 (ZT.1 h).2.1)
 exact Nat.lt_of_lt_of_le h1 (Nat.pow_le_pow_right (by omega) hl)
end Go.Ar

namespace Go.Ar
open Go Go.Sx Go.Lib
set_option maxRecDepth 100000
class xX (α : Type) [yo α] : Prop where
 dec : ∀ a : α, yo.dec (yo.enc a) = a
 ok : ∀ a : α, yo.ok (α := α) (yo.enc a) = true
theorem tD {f : Nat → Bool} : ∀ {n : Nat}, (∀ i, i < n → f i = true) → Wp f n = true
 | 0, _ => rfl
 | n + 1, h => by simp only [Wp, Bool.and_eq_true]; exact ⟨tD fun i hi => h i (by omega), h n (by omega)⟩
section
variable {α : Type} [yo α] [xX α]
theorem Vr (f : Bool) (l : List α) (n : Nat) : pd (AV.xl f n l.length fun i j => yo.enc (l.getD i yo.dflt) j) = l := by
 show Vh l.length (fun i => yo.dec (yo.enc (l.getD i yo.dflt))) = l
 simp only [xX.dec]
 exact uo l _
theorem TU (f : Bool) (l : List α) : rN α (AV.xl f (yo.n α) l.length fun i j => yo.enc (l.getD i yo.dflt) j) = true := by
 show (Nat.beq (yo.n α) (yo.n α) && Wp (fun i => yo.ok (α := α) (yo.enc (l.getD i yo.dflt))) l.length) = true
 rw [Bool.and_eq_true]
 exact ⟨Nat.beq_refl _, tD fun i _ => xX.ok _⟩
end
instance : xX Int := ⟨fun _ => rfl, fun _ => rfl⟩
instance : xX Bool := ⟨fun _ => rfl, fun _ => rfl⟩
instance : xX (List UInt8) := ⟨fun _ => rfl, fun _ => rfl⟩
theorem Pz (k : IntKind) (n : Int) : AV.int (.v (.int k n)) = n := rfl
theorem xI (z : Nat) : z7 0 (z : Int) = Nat.blt 0 z := by rw [Bool.eq_iff_iff, zm, zF]; omega
theorem rO {A B : Prop} : zv true A B ↔ A := by simp [zr]
theorem PC {A B : Prop} : zv false A B ↔ B := by simp [zr]
def VY (x : AV) : List Int := pd x
theorem oW (f : Bool) (l : List Int) : rN Int (AV.xl f 1 l.length fun i j => AV.v (Value.int IntKind.i64 (l.getD i 0))) = true := TU f l
theorem PW (f : Bool) (l : List Int) : rN Int (AV.xl f 1 l.length fun i j => AV.v (Value.int IntKind.i64 (l.getD i yo.dflt))) = true := TU f l
theorem oa (f : Bool) (l : List Int) : pd (AV.xl f 1 l.length fun i j => AV.v (Value.int IntKind.i64 (l.getD i 0))) = l := Vr f l 1
theorem P6 (f : Bool) (l : List Int) : pd (AV.xl f 1 l.length fun i j => AV.v (Value.int IntKind.i64 (l.getD i yo.dflt))) = l := Vr f l 1
theorem oU (f : Bool) (l : List Int) : VY (AV.xl f 1 l.length fun i j => AV.v (Value.int IntKind.i64 (l.getD i 0))) = l := Vr f l 1
theorem PT (f : Bool) (l : List Int) : VY (AV.xl f 1 l.length fun i j => AV.v (Value.int IntKind.i64 (l.getD i yo.dflt))) = l := Vr f l 1
theorem vW {c : Bool} {A B : Prop} (h : c = true) (ha : A) : zv c A B := by rw [h, rO]; exact ha
theorem sS : (∀ x : AV, yy x x) ∧ (∀ p : Prop, (True ∧ p) = p) ∧ (∀ p : Prop, (p ∧ True) = p) ∧ (∀ x : Bool, zq true x = x) ∧ (∀ x : Bool, zq false x = !x) ∧
  (∀ {x : Bool} {A : Prop}, zv (!x || x) A False ↔ A) ∧ (∀ a b : Bool, (bif a then true else b) = (a || b)) ∧ (∀ a b : Bool, (bif a then b else false) = (a && b)) ∧
  (∀ {x : Bool} {p : Prop} [DB p] {A : Prop}, zv (!x || DB.db p) A False ↔ (x = true → p) ∧ A) ∧ (∀ {p : Prop} [DB p] {A : Prop}, zv (DB.db p) A False ↔ p ∧ A) ∧
  (∀ {a b : Int} {A B : Prop}, zv (z7 a b) A B ↔ (a < b → A) ∧ (b ≤ a → B)) ∧ (∀ {a b : Int} {A B : Prop}, zv (leB a b) A B ↔ (a ≤ b → A) ∧ (b < a → B)) ∧
  (∀ {a b : Int} {A B : Prop}, zv (a != b) A B ↔ (a ≠ b → A) ∧ (a = b → B)) ∧ (∀ {a b : Int} {A B : Prop}, zv (a == b) A B ↔ (a = b → A) ∧ (a ≠ b → B)) ∧
  (∀ {A B : Prop}, zv true A B ↔ A) ∧ (∀ n : Nat, (n : Int).toNat = n) ∧ (∀ n : Nat, 0 + n = n) ∧ (∀ n : Nat, 0 ≤ n) ∧ (∀ n : Nat, n - 0 = n) ∧
  (∀ (k : IntKind) (n : Int), AV.int (.v (.int k n)) = n) ∧ (∀ b : Bool, (b || true) = true) ∧ (∀ {α : Type} (a b : α), (bif true then a else b) = a) ∧ (∀ {α : Type} (a b : α), (bif false then a else b) = b) :=
 ⟨zw, true_and, and_true, Tg, Ue, pq, pH, R8, Qm, PD, p5, Pn, PR, Pf, rO, Int.toNat_natCast, Nat.zero_add, Nat.zero_le, Nat.sub_zero, Pz, Bool.or_true, cond_true, cond_false⟩
theorem dS : (∀ (f : Bool) (l : List Int), rN Int (AV.xl f 1 l.length fun i j => AV.v (Value.int IntKind.i64 (l.getD i 0))) = true) ∧ (∀ (f : Bool) (l : List Int), rN Int (AV.xl f 1 l.length fun i j => AV.v (Value.int IntKind.i64 (l.getD i yo.dflt))) = true) ∧
  (∀ (f : Bool) (l : List Int), pd (AV.xl f 1 l.length fun i j => AV.v (Value.int IntKind.i64 (l.getD i 0))) = l) ∧ (∀ (f : Bool) (l : List Int), pd (AV.xl f 1 l.length fun i j => AV.v (Value.int IntKind.i64 (l.getD i yo.dflt))) = l) ∧
  (∀ (f : Bool) (l : List Int), VY (AV.xl f 1 l.length fun i j => AV.v (Value.int IntKind.i64 (l.getD i 0))) = l) ∧ (∀ (f : Bool) (l : List Int), VY (AV.xl f 1 l.length fun i j => AV.v (Value.int IntKind.i64 (l.getD i yo.dflt))) = l) :=
 ⟨oW, PW, oa, P6, oU, PT⟩
def p8 : List zN → Prop
 | [] => True
 | p :: ps => p.holds ∧ p8 ps
theorem Zs : ∀ {ps : List zN}, (∀ p ∈ ps, p.holds) → p8 ps
 | [], _ => trivial
 | _ :: _, h => ⟨h _ List.mem_cons_self, Zs fun q hq => h q (List.mem_cons_of_mem _ hq)⟩
abbrev bF (t : Bool) (A : Prop) : Prop := zv t A False
abbrev dK (x : Int) : Bool := DB.db (YT .i64 x)
abbrev bA (a : Array UInt8) : List UInt8 := Array.toList (ByteArray.data (ByteArray.mk a))
abbrev nX : Nat := 9223372036854775807
abbrev nM : Nat := 4294967280
abbrev cI (n : Nat) : Int := n
abbrev kI : Prop := IntKind.i64 = .i64
abbrev j2 : Prop := 2 = List.length [AV.junk, AV.junk]
abbrev lN {α : Type} (l : List α) : Nat := List.length l
abbrev lZ {α : Type} (l : List α) : Int := (↑(List.length l) : Int)
abbrev gD {α : Type} (l : List α) (i : Nat) (d : α) : α := List.getD l i d
abbrev iZ : Int := 0
abbrev iO : Int := 1
abbrev iX : Int := 9223372036854775807
abbrev iN : Int := -9223372036854775808
abbrev aI (n : Int) : AV := AV.v (Value.int .i64 n)
end Go.Ar
