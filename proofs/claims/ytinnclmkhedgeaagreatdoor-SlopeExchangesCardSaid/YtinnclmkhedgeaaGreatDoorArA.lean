/- Decimal strings of integers: what they are and what they mean. -/
import Derived.Test.YtinnclmkhedgeaaGreatDoorSxU
import Derived.Lib.ItoaLen
set_option linter.unusedSimpArgs false
set_option linter.unusedVariables false
namespace Go.Ar
open Go Go.Sx Go.Lib
set_option maxRecDepth 100000
abbrev zL := List UInt8
def ZZ (c : UInt8) : Bool := Nat.ble 48 c.toNat && Nat.ble c.toNat 57
def WS (c : UInt8) : Nat := c.toNat - 48
def RN (d : Nat) : UInt8 := UInt8.ofNat (48 + d)
theorem yy {c : UInt8} : ZZ c = true ↔ 48 ≤ c.toNat ∧ c.toNat ≤ 57 := by
 unfold ZZ
 simp
theorem xn {d : Nat} (h : d < 10) : (RN d).toNat = 48 + d := by
 unfold RN
 rw [UInt8.toNat_ofNat']
 omega
theorem uI {d : Nat} (h : d < 10) : ZZ (RN d) = true := by rw [yy, xn h]; omega
theorem ti {d : Nat} (h : d < 10) : WS (RN d) = d := by unfold WS; rw [xn h]; omega
theorem tG {c : UInt8} (h : ZZ c = true) : RN (WS c) = c := by
 rw [yy] at h
 refine UInt8.toNat_inj.1 ?_
 rw [xn (by unfold WS; omega)]
 unfold WS
 omega
theorem ve {c : UInt8} (h : ZZ c = true) : WS c < 10 := by rw [yy] at h; unfold WS; omega
def zi (l : zL) : Nat := l.foldl (fun a c => 10 * a + WS c) 0
theorem XL (l : zL) (c : UInt8) : zi (l ++ [c]) = 10 * zi l + WS c := by unfold zi; rw [List.foldl_append]; rfl
theorem fold_acc (l : zL) : ∀ a : Nat, l.foldl (fun a c => 10 * a + WS c) a = a * 10 ^ l.length + zi l := by
 induction l with
 | nil => intro a; simp [zi]
 | cons c l ih =>
  intro a
  unfold zi
  grind
theorem uu (a b : zL) : zi (a ++ b) = zi a * 10 ^ b.length + zi b := by
 conv => lhs; unfold zi
 rw [List.foldl_append, fold_acc]; rfl
theorem Xi (c : UInt8) (l : zL) : zi (c :: l) = WS c * 10 ^ l.length + zi l := by
 have := uu [c] l
 simpa [zi] using this
theorem Xr {l : zL} (h : l.all ZZ = true) : zi l < 10 ^ l.length := by
 induction l with
 | nil => simp [zi]
 | cons c l ih =>
  rw [List.all_cons, Bool.and_eq_true] at h
  have h1 := ih h.2
  have h2 := ve h.1
  rw [Xi, List.length_cons, Nat.pow_succ]
  generalize 10 ^ l.length = p at *
  have : WS c * p ≤ 9 * p := Nat.mul_le_mul_right p (by omega)
  omega
def Zt (l : zL) : Bool := Nat.blt 0 l.length && l.all ZZ && !(Nat.blt 1 l.length && (l.getD 0 0 == 48))
theorem zH {u : Nat} (h : u < 10) : decDigits u = [RN u] := by rw [decDigits, dif_pos h]; rfl
theorem yS {u : Nat} (h : ¬ u < 10) : decDigits u = decDigits (u / 10) ++ [RN (u % 10)] := by rw [decDigits, dif_neg h]; rfl
theorem WB (u : Nat) : (decDigits u).all ZZ = true := by
 induction u using Nat.strongRecOn with
 | _ u ih =>
  by_cases h : u < 10
  ·rw [zH h]; simp [uI h]
  ·rw [yS h, List.all_append, ih (u / 10) (by omega)]
   simp [uI (Nat.mod_lt u (by decide : 10 > 0))]
theorem Zm (u : Nat) : zi (decDigits u) = u := by
 induction u using Nat.strongRecOn with
 | _ u ih =>
  by_cases h : u < 10
  ·rw [zH h]
   show 10 * 0 + WS (RN u) = u
   rw [ti h]; omega
  ·rw [yS h, XL, ih (u / 10) (by omega), ti (Nat.mod_lt u (by decide : 10 > 0))]
   omega
theorem xh (u : Nat) : 0 < (decDigits u).length := by rw [decDigits_length]; exact nDigits_pos u
theorem Y0 {u : Nat} (h : u ≠ 0) : (decDigits u).getD 0 0 ≠ 48 := by
 induction u using Nat.strongRecOn with
 | _ u ih =>
  by_cases h1 : u < 10
  ·rw [zH h1]
   intro e
   have e : RN u = 48 := e
   have := congrArg UInt8.toNat e
   rw [xn h1] at this
   simp_all
  ·rw [yS h1, List.getD_eq_getElem?_getD, List.getElem?_append_left (xh _), ← List.getD_eq_getElem?_getD]
   grind
theorem yF (u : Nat) : Zt (decDigits u) = true := by
 unfold Zt
 rw [WB, (zf _ _).2 (xh u)]
 by_cases h : u = 0
 ·subst h
  rw [zH (by decide)]; rfl
 ·rw [beq_false_of_ne (Y0 h), Bool.and_false]; rfl
theorem ZT {l : zL} : Zt l = true ↔ 0 < l.length ∧ (∀ c ∈ l, ZZ c = true) ∧ (1 < l.length → l.getD 0 0 ≠ 48) := by
 unfold Zt
 rw [Bool.and_eq_true, Bool.and_eq_true, zf, List.all_eq_true, Bool.not_eq_true', Bool.and_eq_false_iff]
 constructor
 ·rintro ⟨⟨h1, h2⟩, h3⟩
  refine ⟨h1, h2, fun h4 => ?_⟩
  rcases h3 with h3 | h3
  ·rw [(zf _ _).2 h4] at h3; cases h3
  simp_all
 ·rintro ⟨h1, h2, h3⟩
  refine ⟨⟨h1, h2⟩, ?_⟩
  by_cases h4 : 1 < l.length
  ·simp_all
  ·exact .inl (by rw [Bool.eq_false_iff]; intro e; exact h4 ((zf _ _).1 e))
theorem RV {l : zL} (h : 0 < l.length) : ∃ a c, l = a ++ [c] := by
 have hn : l ≠ [] := fun e => by rw [e] at h; cases h
 exact ⟨l.dropLast, l.getLast hn, (List.dropLast_concat_getLast hn).symm⟩
theorem ZS {l : zL} (h : Zt l = true) : decDigits (zi l) = l := by
 generalize hn : l.length = n
 induction n generalizing l with
 | zero => obtain ⟨h1, _⟩ := ZT.1 h; omega
 | succ n ih =>
  obtain ⟨h1, h2, h3⟩ := ZT.1 h
  obtain ⟨a, c, rfl⟩ := RV h1
  have hc : ZZ c = true := h2 c (by simp)
  have hl : a.length = n := by simpa using hn
  rw [XL]
  by_cases ha : a.length = 0
  ·obtain rfl := List.length_eq_zero_iff.1 ha
   have : 10 * zi [] + WS c = WS c := by simp [zi]
   rw [this, zH (ve hc), tG hc]; rfl
  ·have hg : (a ++ [c]).getD 0 0 = a.getD 0 0 := by
    grind
   have ha0 : a.getD 0 0 ≠ 48 := by rw [← hg]; exact h3 (by simp; omega)
   have hda : Zt a = true := ZT.2 ⟨by omega, fun x hx => h2 x (List.mem_append_left _ hx), fun _ => ha0⟩
   have ih' := ih hda hl
   have hv := ve hc
   have hpos : zi a ≠ 0 := fun e => by
    rw [e, zH (by decide)] at ih'
    rw [← ih'] at ha0
    exact ha0 rfl
   rw [yS (by omega), show (10 * zi a + WS c) / 10 = zi a by omega, show (10 * zi a + WS c) % 10 = WS c by omega, ih', tG hc]
def ZX (s : zL) : Bool := match s with | 45 :: r => Zt r && !(r == [48]) | r => Zt r
def zu (s : zL) : Int := match s with | 45 :: r => -(zi r : Int) | r => (zi r : Int)
theorem y6 (n : Nat) : itoa (n : Int) = decDigits n := by unfold itoa; rw [if_neg (by omega), Int.toNat_natCast]
theorem itoa_neg {n : Nat} (h : n ≠ 0) : itoa (-(n : Int)) = 45 :: decDigits n := by
 unfold itoa
 simp_all
theorem Yi {r : zL} (h : Zt (45 :: r) = true) : False := by
 have := (ZT.1 h).2.1 45 List.mem_cons_self
 rw [yy] at this
 simp_all
theorem wI {r : zL} (h : Zt r = true) : ZX r = true ∧ zu r = (zi r : Int) := by
 match r, h with
 | [], h => exact ⟨h, rfl⟩
 | c :: r, h =>
  by_cases hc : c = 45
  ·subst hc; exact (Yi h).elim
  ·constructor
   ·unfold ZX; split
    all_goals simp_all
   ·unfold zu; split
    all_goals simp_all
theorem yh (n : Int) : ZX (itoa n) = true ∧ zu (itoa n) = n := by
 by_cases h : n < 0
 ·obtain ⟨m, rfl⟩ : ∃ m : Nat, n = -(m : Int) := ⟨n.natAbs, by omega⟩
  have hm : m ≠ 0 := by omega
  rw [itoa_neg hm]
  refine ⟨?_, ?_⟩
  ·show (Zt (decDigits m) && !(decDigits m == [48])) = true
   rw [yF]
   have : decDigits m ≠ [48] := fun e => Y0 hm (by rw [e]; rfl)
   simp_all
  ·show -((zi (decDigits m) : Nat) : Int) = _
   rw [Zm]
 ·obtain ⟨m, rfl⟩ : ∃ m : Nat, n = (m : Int) := ⟨n.toNat, by omega⟩
  rw [y6]
  obtain ⟨a, b⟩ := wI (yF m)
  exact ⟨a, by rw [b, Zm]⟩
theorem vx {r : zL} (h : Zt r = true) (h0 : zi r = 0) : r = [48] := by
 have := ZS h
 rw [h0, zH (by decide)] at this
 exact this.symm
theorem yu {s : zL} (h : ZX s = true) : (∃ r, s = 45 :: r ∧ Zt r = true ∧ zi r ≠ 0 ∧ zu s = -(zi r : Int)) ∨ (Zt s = true ∧ zu s = (zi s : Int)) := by
 unfold ZX at h
 split at h
 ·rename_i r
  rw [Bool.and_eq_true, Bool.not_eq_true'] at h
  refine .inl ⟨r, rfl, h.1, fun e => ?_, rfl⟩
  have := vx h.1 e
  simp_all
 ·exact .inr ⟨h, (wI h).2⟩
theorem YR {s : zL} (h : ZX s = true) : itoa (zu s) = s := by
 rcases yu h with ⟨r, rfl, h1, h2, h3⟩ | ⟨h1, h2⟩
 ·rw [h3, itoa_neg h2, ZS h1]
 ·rw [h2, y6, ZS h1]
def Wd (n : Int) : Nat := nDigits n.natAbs
theorem YS (n : Int) : (itoa n).length = Wd n + if n < 0 then 1 else 0 := by
 unfold itoa Wd
 by_cases h : n < 0
 ·rw [if_pos h, if_pos h, List.length_cons, decDigits_length]
 ·rw [if_neg h, if_neg h, decDigits_length, show n.toNat = n.natAbs by omega]; rfl
theorem Wp : ∀ {k u : Nat}, u < 10 ^ (k + 1) → nDigits u ≤ k + 1
 | 0, u, h => by rw [nDigits_small (by simpa using h)]; exact Nat.le_refl _
 | k + 1, u, h => by
  by_cases hu : u < 10
  ·rw [nDigits_small hu]; omega
  ·rw [nDigits_big hu]
   have := Wp (k := k) (u := u / 10) (by rw [Nat.pow_succ] at h; omega)
   omega
theorem yx {k u : Nat} (hk : 0 < k) : nDigits u ≤ k ↔ u < 10 ^ k := by
 constructor
 ·intro h
  exact Nat.lt_of_lt_of_le (lt_pow_nDigits u) (Nat.pow_le_pow_right (by decide) h)
 ·intro h
  obtain ⟨m, rfl⟩ : ∃ m, k = m + 1 := ⟨k - 1, by omega⟩
  exact Wp h
theorem uG {l : zL} (h : Zt l = true) : l.length = nDigits (zi l) := by
 conv => lhs; rw [← ZS h]
 rw [decDigits_length]
end Go.Ar

namespace Go.Ar
open Go Go.Sx Go.Lib
set_option maxRecDepth 100000
def zo (b : Int) : List Int → Int
 | [] => 0
 | x :: l => x + b * zo b l
def ZC (b : Int) (l : List Int) : Prop := ∀ x ∈ l, 0 ≤ x ∧ x < b
def ya : List Int → List Int
 | [] => []
 | x :: l => if ya l = [] ∧ x = 0 then [] else x :: ya l
def Z8 (b n : Nat) : List Int :=
 if h : n = 0 ∨ b < 2 then [] else ((n % b : Nat) : Int) :: Z8 b (n / b)
termination_by n
decreasing_by
 have h2 : n / b < n := Nat.div_lt_self (by omega) (by omega)
 exact h2
theorem YI (b : Nat) : Z8 b 0 = [] := by rw [Z8, dif_pos (.inl rfl)]
theorem vU {b n : Nat} (hb : 2 ≤ b) (h : n ≠ 0) : Z8 b n = ((n % b : Nat) : Int) :: Z8 b (n / b) := by
 conv => lhs; rw [Z8]
 simp_all
theorem ZC.nil (b : Int) : ZC b [] := fun _ h => by cases h
theorem ZC.tail {b x : Int} {l : List Int} (h : ZC b (x :: l)) : ZC b l := fun y hy => h y (List.mem_cons_of_mem _ hy)
theorem ZC.head {b x : Int} {l : List Int} (h : ZC b (x :: l)) : 0 ≤ x ∧ x < b := h x List.mem_cons_self
theorem ZC.app {b : Int} {l m : List Int} (h : ZC b l) (h2 : ZC b m) : ZC b (l ++ m) := fun x hx => (List.mem_append.1 hx).elim (h x) (h2 x)
theorem ZC.one {b x : Int} (h0 : 0 ≤ x) (h1 : x < b) : ZC b [x] := fun y hy => by rw [List.mem_singleton] at hy; subst hy; exact ⟨h0, h1⟩
theorem ZC.snoc {b x : Int} {l : List Int} (h : ZC b l) (h0 : 0 ≤ x) (h1 : x < b) : ZC b (l ++ [x]) := h.app (.one h0 h1)
theorem ZC.take {b : Int} {l : List Int} (h : ZC b l) (n : Nat) : ZC b (l.take n) := fun x hx => h x (List.mem_of_mem_take hx)
theorem ZC.drop {b : Int} {l : List Int} (h : ZC b l) (n : Nat) : ZC b (l.drop n) := fun x hx => h x (List.mem_of_mem_drop hx)
theorem ZC.get {b : Int} {l : List Int} (h : ZC b l) (hb : 0 < b) (i : Nat) : 0 ≤ l.getD i 0 ∧ l.getD i 0 < b := by
 rw [List.getD_eq_getElem?_getD]
 by_cases hi : i < l.length
 ·rw [List.getElem?_eq_getElem hi]; exact h _ (List.getElem_mem hi)
 simp_all
theorem ZC.set {b x : Int} {l : List Int} (h : ZC b l) (h0 : 0 ≤ x) (h1 : x < b) (i : Nat) : ZC b (l.set i x) := fun y hy => by
 rcases List.mem_or_eq_of_mem_set hy with hy | rfl
 ·exact h y hy
 omega
theorem Zv {b : Int} (hb : 0 ≤ b) : ∀ {l : List Int}, ZC b l → 0 ≤ zo b l
 | [], _ => Int.le_refl _
 | x :: l, h => by
  have h1 := h.head
  have h2 := Int.mul_nonneg hb (Zv hb h.tail)
  show 0 ≤ x + b * zo b l
  omega
theorem Wu (b : Int) (l m : List Int) : zo b (l ++ m) = zo b l + b ^ l.length * zo b m := by
 induction l with
 | nil => simp [zo]
 | cons x l ih =>
  show x + b * zo b (l ++ m) = x + b * zo b l + b ^ (l.length + 1) * zo b m
  grind
theorem Yo (b : Int) (l : List Int) (x : Int) : zo b (l ++ [x]) = zo b l + b ^ l.length * x := by
 rw [Wu]
 show _ + _ * (x + b * 0) = _
 simp
theorem xT {b : Int} (hb : 0 < b) : ∀ {l : List Int}, ZC b l → zo b l < b ^ l.length
 | [], _ => by simp [zo]
 | x :: l, h => by
  have h1 := h.head
  have h2 := xT hb h.tail
  show x + b * zo b l < b ^ (l.length + 1)
  rw [Int.pow_succ, Int.mul_comm _ b]
  have h3 : b * (zo b l + 1) ≤ b * b ^ l.length := Int.mul_le_mul_of_nonneg_left (by omega) (by omega)
  grind
theorem U8 {l : List Int} {i : Nat} (h : i < l.length) : l.take (i + 1) = l.take i ++ [l.getD i 0] := by
 simp_all
theorem Td (b : Int) {l : List Int} {i : Nat} (h : i < l.length) : zo b (l.take (i + 1)) = zo b (l.take i) + b ^ i * l.getD i 0 := by
 rw [U8 h, Yo, List.length_take, Nat.min_eq_left (by omega)]
theorem Zn (b : Int) (l : List Int) (i : Nat) : zo b (l.take (i + 1)) = zo b (l.take i) + b ^ i * l.getD i 0 := by
 by_cases h : i < l.length
 ·exact Td b h
 ·rw [List.take_of_length_le (by omega), List.take_of_length_le (by omega), List.getD_eq_getElem?_getD, List.getElem?_eq_none (by omega)]
  simp
theorem Y9 (b : Int) : ∀ {l : List Int} {i : Nat} (x : Int), i < l.length → zo b (l.set i x) = zo b l + b ^ i * (x - l.getD i 0)
 | [], i, x, h => by cases h
 | y :: l, 0, x, h => by
  show x + b * zo b l = y + b * zo b l + b ^ 0 * (x - y)
  grind
 | y :: l, i + 1, x, h => by
  show y + b * zo b (l.set i x) = y + b * zo b l + b ^ (i + 1) * (x - l.getD i 0)
  rw [Y9 b x (by simpa using h), Int.mul_add, Int.pow_succ, Int.mul_comm _ b, Int.mul_assoc]
  omega
theorem wd (b : Int) : ∀ n : Nat, zo b (List.replicate n 0) = 0
 | 0 => rfl
 | n + 1 => by rw [List.replicate_succ]; show 0 + b * zo b _ = 0; rw [wd b n]; simp
theorem ZC.zeros {b : Int} (hb : 0 < b) (n : Nat) : ZC b (List.replicate n 0) := fun x hx => by rw [List.eq_of_mem_replicate hx]; exact ⟨Int.le_refl _, hb⟩
theorem Tg {b : Nat} (hb : 2 ≤ b) (n : Nat) : zo b (Z8 b n) = (n : Int) := by
 induction n using Nat.strongRecOn with
 | _ n ih =>
  by_cases h : n = 0
  ·subst h; rw [YI]; rfl
  ·rw [vU hb h]
   show ((n % b : Nat) : Int) + (b : Int) * zo b (Z8 b (n / b)) = n
   rw [ih (n / b) (Nat.div_lt_self (by omega) (by omega))]
   exact_mod_cast Nat.mod_add_div n b
theorem yR {b : Nat} (hb : 2 ≤ b) : ∀ {l : List Int}, ZC b l → ya l = Z8 b (zo b l).toNat
 | [], _ => by
  show [] = Z8 b 0
  rw [YI]
 | x :: l, h => by
  have ih := yR hb h.tail
  have h0 := Zv (b := (b : Int)) (by omega) h.tail
  have hx := h.head
  obtain ⟨m, hm⟩ : ∃ m : Nat, zo b l = m := ⟨(zo b l).toNat, by omega⟩
  obtain ⟨y, rfl⟩ : ∃ y : Nat, x = y := ⟨x.toNat, by omega⟩
  have e : (zo b ((y : Int) :: l)).toNat = y + b * m := by
   show ((y : Int) + (b : Int) * zo b l).toNat = _
   grind
  rw [hm, Int.toNat_natCast] at ih
  rw [e]
  have hy : y < b := by omega
  by_cases hz : y + b * m = 0
  ·rw [hz, YI]
   have hy0 : y = 0 := by omega
   have hm0 : b * m = 0 := by omega
   have hm1 : m = 0 := by
    rcases Nat.mul_eq_zero.1 hm0 with h | h
    all_goals omega
   unfold ya
   rw [if_pos ⟨by rw [ih, hm1, YI], by omega⟩]
  ·rw [vU hb hz, Nat.add_mul_mod_self_left, Nat.mod_eq_of_lt hy, Nat.add_mul_div_left _ _ (by omega), Nat.div_eq_of_lt hy, Nat.zero_add, ← ih]
   show (if ya l = [] ∧ (y : Int) = 0 then [] else (y : Int) :: ya l) = _
   rw [if_neg]
   rintro ⟨h1, h2⟩
   rw [ih] at h1
   have h3 := Tg hb m
   rw [h1] at h3
   have h3 : (0 : Int) = (m : Int) := h3
   grind
end Go.Ar

namespace Go.Ar
open Go Go.Sx Go.Lib
set_option maxRecDepth 100000
def Yu (s : zL) : Nat := match s with | 45 :: r => r.length | r => r.length
def YE (s : zL) : Int := bif ZX s then (bif Nat.blt 300 (Yu s) then 4 else 0) else 11
theorem Zh {s : zL} : YE s = 0 ↔ ZX s = true ∧ Yu s ≤ 300 := by
 unfold YE
 cases h : ZX s with
 | false => simp
 | true =>
  cases h2 : Nat.blt 300 (Yu s) with
  | true => simp_all
  | false =>
   have : ¬ 300 < Yu s := fun e => by rw [(zf _ _).2 e] at h2; cases h2
   simp; omega
theorem vF {s : zL} (h : ZX s = true) : Yu s = Wd (zu s) := by
 rcases yu h with ⟨r, rfl, h1, h2, h3⟩ | ⟨h1, h2⟩
 ·rw [h3]
  unfold Wd
  rw [Int.natAbs_neg, Int.natAbs_natCast, ← uG h1]; rfl
 ·rw [h2]
  unfold Wd
  rw [Int.natAbs_natCast, ← uG h1]
  match s, h1 with
  | [], _ => rfl
  | c :: r, h1 =>
   by_cases hc : c = 45
   ·subst hc; exact (Yi h1).elim
   ·unfold Yu; split
    all_goals simp_all
theorem wR (s : zL) : Yu s ≤ s.length ∧ s.length ≤ Yu s + 1 := by
 unfold Yu
 grind
theorem Y3 {n : Int} {k : Nat} (hk : 0 < k) (h : n.natAbs < 10 ^ k) : Wd n ≤ k := (yx hk).2 h
end Go.Ar

namespace Go.Ar
open Go Go.Sx Go.Lib
set_option maxRecDepth 100000
theorem yD {b : Int} (hb : 0 < b) (n : Nat) : 0 < b ^ n := Int.pow_pos hb
theorem vm (b : Int) (n : Nat) : b ^ (n + 1) = b ^ n * b := Int.pow_succ b n
theorem px {n b : Int} (h : 0 ≤ n) (hb : 0 < b) : n.tmod b + b * n.tdiv b = n ∧ 0 ≤ n.tmod b ∧ n.tmod b < b ∧ 0 ≤ n.tdiv b := by
 rw [Int.tmod_eq_emod_of_nonneg h, Int.tdiv_eq_ediv_of_nonneg h]
 exact ⟨Int.emod_add_mul_ediv n b, Int.emod_nonneg n (by omega), Int.emod_lt_of_pos n hb, Int.ediv_nonneg h (by omega)⟩
structure UU (b : Int) (x y : List Int) (z : Nat) (out : List Int) (c : Int) : Prop where
 len : out.length = z
 in_ : ZC b out
 c0 : 0 ≤ c
 c1 : c ≤ 1
 val : zo b out + b ^ z * c = zo b (x.take z) + zo b (y.take z)
theorem UU.zero (b : Int) (x y : List Int) : UU b x y 0 [] 0 := ⟨rfl, .nil b, Int.le_refl _, by omega, by simp [zo]⟩
theorem UU.step {b : Int} (hb : 2 ≤ b) {x y : List Int} (hx : ZC b x) (hy : ZC b y) {z : Nat} {out : List Int} {c : Int} (h : UU b x y z out c) :
  UU b x y (z + 1) (out ++ [(x.getD z 0 + y.getD z 0 + c).tmod b]) ((x.getD z 0 + y.getD z 0 + c).tdiv b) := by
 have x1 := hx.get (by omega) z
 have y1 := hy.get (by omega) z
 have h0 := h.c0
 have h1 := h.c1
 obtain ⟨e, m0, m1, d0⟩ := px (n := x.getD z 0 + y.getD z 0 + c) (b := b) (by omega) (by omega)
 have hd : (x.getD z 0 + y.getD z 0 + c).tdiv b ≤ 1 := by
  refine Decidable.byContradiction fun hn => ?_
  have : b * 2 ≤ b * (x.getD z 0 + y.getD z 0 + c).tdiv b := Int.mul_le_mul_of_nonneg_left (by omega) (by omega)
  omega
 refine ⟨by simp [h.len], h.in_.snoc m0 m1, d0, hd, ?_⟩
 rw [Yo, h.len, Zn, Zn]
 have hv := h.val
 grind
theorem yn {x : List Int} {n : Nat} (h : x.length ≤ n) : x.take n = x := List.take_of_length_le h
theorem UU.end_ {b : Nat} (hb : 2 ≤ b) {x y : List Int} (hx : ZC b x) (hy : ZC b y) {z : Nat} {out : List Int} {c : Int} (h : UU b x y z out c) (h1 : x.length < z) (h2 : y.length < z) :
  ya out = Z8 b (zo b x + zo b y).toNat := by
 have hv := h.val
 rw [yn (by omega), yn (by omega)] at hv
 have x1 := xT (b := (b : Int)) (by omega) hx
 have y1 := xT (b := (b : Int)) (by omega) hy
 have hp : ∀ n, n < z → (b : Int) ^ n * 2 ≤ (b : Int) ^ z := fun n hn => by
  have p1 : b ^ n * 2 ≤ b ^ n * b := Nat.mul_le_mul_left _ hb
  have p2 : b ^ (n + 1) ≤ b ^ z := Nat.pow_le_pow_right (by omega) (by omega)
  grind
 have p1 := hp _ h1
 have p2 := hp _ h2
 have o0 := Zv (b := (b : Int)) (by omega) h.in_
 have hc : c = 0 := by
  refine Decidable.byContradiction fun hn => ?_
  have : c = 1 := by have := h.c0; have := h.c1; omega
  grind
 rw [hc, Int.mul_zero, Int.add_zero] at hv
 rw [yR hb h.in_, hv]
structure uO (b : Int) (x y : List Int) (z : Nat) (out : List Int) (c : Int) : Prop where
 len : out.length = z
 in_ : ZC b out
 c0 : 0 ≤ c
 c1 : c ≤ 1
 val : zo b out - b ^ z * c = zo b (x.take z) - zo b (y.take z)
theorem uO.zero (b : Int) (x y : List Int) : uO b x y 0 [] 0 := ⟨rfl, .nil b, Int.le_refl _, by omega, by simp [zo]⟩
theorem uO.step {b : Int} (hb : 2 ≤ b) {x y : List Int} (hx : ZC b x) (hy : ZC b y) {z : Nat} {out : List Int} {c : Int} (h : uO b x y z out c) :
  (0 ≤ x.getD z 0 - y.getD z 0 - c → uO b x y (z + 1) (out ++ [x.getD z 0 - y.getD z 0 - c]) 0) ∧
  (x.getD z 0 - y.getD z 0 - c < 0 → uO b x y (z + 1) (out ++ [x.getD z 0 - y.getD z 0 - c + b]) 1) := by
 have x1 := hx.get (by omega) z
 have y1 := hy.get (by omega) z
 have h0 := h.c0
 have h1 := h.c1
 have hv := h.val
 refine ⟨fun hn => ⟨by simp [h.len], h.in_.snoc hn (by omega), Int.le_refl _, by omega, ?_⟩, fun hn => ⟨by simp [h.len], h.in_.snoc (by omega) (by omega), by omega, Int.le_refl _, ?_⟩⟩
 ·rw [Yo, h.len, Zn, Zn, Int.mul_sub, Int.mul_sub]
  omega
 ·rw [Yo, h.len, Zn, Zn, Int.mul_add, Int.mul_sub, Int.mul_sub, vm]
  omega
theorem uO.end_ {b : Nat} (hb : 2 ≤ b) {x y : List Int} {z : Nat} {out : List Int} {c : Int} (h : uO b x y z out c) (h1 : x.length ≤ z) (h2 : y.length ≤ z) (hle : zo b y ≤ zo b x) :
  ya out = Z8 b (zo b x - zo b y).toNat := by
 have hv := h.val
 rw [yn (by omega), yn (by omega)] at hv
 have o1 := xT (b := (b : Int)) (by omega) h.in_
 rw [h.len] at o1
 have hc : c = 0 := by
  refine Decidable.byContradiction fun hn => ?_
  have : c = 1 := by have := h.c0; have := h.c1; omega
  grind
 rw [hc, Int.mul_zero, Int.sub_zero] at hv
 rw [yR hb h.in_, hv]
structure sW (b : Int) (x y : List Int) (z : Nat) (out : List Int) : Prop where
 len : out.length = x.length + y.length + 1
 in_ : ZC b out
 zero : ∀ i, z + y.length ≤ i → out.getD i 0 = 0
 val : zo b out = zo b (x.take z) * zo b y
structure TU (b : Int) (x y : List Int) (z k : Nat) (out : List Int) (c : Int) : Prop where
 len : out.length = x.length + y.length + 1
 in_ : ZC b out
 zero : ∀ i, z + y.length ≤ i → z + k ≤ i → out.getD i 0 = 0
 c0 : 0 ≤ c
 c1 : c < b
 val : zo b out + b ^ (z + k) * c = zo b (x.take z) * zo b y + b ^ z * (x.getD z 0 * zo b (y.take k))
theorem Xu (b : Int) : zo b [] = 0 := rfl
theorem uf (n i : Nat) : (List.replicate n (0 : Int)).getD i 0 = 0 := by
 grind
theorem sW.start {b : Int} {x y : List Int} {z : Nat} {out : List Int} (hb : 0 < b) (h : sW b x y z out) : TU b x y z 0 out 0 :=
 ⟨h.len, h.in_, fun i hi _ => h.zero i hi, Int.le_refl _, hb, by rw [List.take_zero, Xu, h.val]; simp⟩
theorem yg (l : List Int) (i j : Nat) (v : Int) (hj : j < l.length) : (l.set j v).getD i 0 = if i = j then v else l.getD i 0 := by
 grind
theorem TU.step {b : Int} (hb : 2 ≤ b) {x y : List Int} (hx : ZC b x) (hy : ZC b y) {z k : Nat} (hz : z < x.length) (hk : k ≤ y.length) {out : List Int} {c : Int} (h : TU b x y z k out c) :
  (0 ≤ out.getD (z + k) 0 + x.getD z 0 * y.getD k 0 + c ∧ out.getD (z + k) 0 + x.getD z 0 * y.getD k 0 + c < b * b) ∧
  TU b x y z (k + 1) (out.set (z + k) ((out.getD (z + k) 0 + x.getD z 0 * y.getD k 0 + c).tmod b)) ((out.getD (z + k) 0 + x.getD z 0 * y.getD k 0 + c).tdiv b) := by
 have x1 := hx.get (by omega) z
 have y1 := hy.get (by omega) k
 have o1 := h.in_.get (by omega) (z + k)
 have h0 := h.c0
 have h1 := h.c1
 have p0 : 0 ≤ x.getD z 0 * y.getD k 0 := Int.mul_nonneg x1.1 y1.1
 have p1 : x.getD z 0 * y.getD k 0 ≤ (b - 1) * (b - 1) := Int.mul_le_mul (by omega) (by omega) y1.1 (by omega)
 have p2 : (b - 1) * (b - 1) = b * b - 2 * b + 1 := by rw [Int.sub_mul, Int.mul_sub]; omega
 have hn0 : 0 ≤ out.getD (z + k) 0 + x.getD z 0 * y.getD k 0 + c := by omega
 have hn1 : out.getD (z + k) 0 + x.getD z 0 * y.getD k 0 + c < b * b := by omega
 obtain ⟨e, m0, m1, d0⟩ := px (b := b) hn0 (by omega)
 have hd : (out.getD (z + k) 0 + x.getD z 0 * y.getD k 0 + c).tdiv b < b := by
  refine Decidable.byContradiction fun hn => ?_
  have : b * b ≤ b * (out.getD (z + k) 0 + x.getD z 0 * y.getD k 0 + c).tdiv b := Int.mul_le_mul_of_nonneg_left (by omega) (by omega)
  omega
 have hlen : z + k < out.length := by rw [h.len]; omega
 refine ⟨⟨hn0, hn1⟩, by rw [List.length_set]; exact h.len, h.in_.set m0 m1 _, fun i hi hi2 => ?_, d0, hd, ?_⟩
 ·rw [yg _ _ _ _ hlen, if_neg (by omega)]
  exact h.zero i hi (by omega)
 ·rw [Y9 b _ hlen, Zn]
  have hv := h.val
  grind
theorem TU.end_ {b : Int} (hb : 2 ≤ b) {x y : List Int} (hx : ZC b x) (hy : ZC b y) {z : Nat} (hz : z < x.length) {out : List Int} {c : Int} (h : TU b x y z (y.length + 1) out c) (hc : c = 0) : sW b x y (z + 1) out := by
 subst hc
 refine ⟨h.len, h.in_, fun i hi => h.zero i (by omega) (by omega), ?_⟩
 have hv := h.val
 rw [Int.mul_zero, Int.add_zero, yn (x := y) (by omega)] at hv
 rw [hv, Zn b x, Int.add_mul, Int.mul_assoc]
theorem sW.end_ {b : Nat} (hb : 2 ≤ b) {x y : List Int} {out : List Int} (h : sW b x y x.length out) : ya out = Z8 b (zo b x * zo b y).toNat := by
 have hv := h.val
 rw [List.take_length] at hv
 rw [yR hb h.in_, hv]
end Go.Ar

namespace Go.Ar
open Go Go.Sx Go.Lib
set_option maxRecDepth 100000
theorem W9 {l : List Int} {z : Nat} (h : z < l.length) : l.drop z = l.getD z 0 :: l.drop (z + 1) := by
 simp_all
theorem Xc (b : Int) {l : List Int} {z : Nat} (h : z < l.length) : zo b (l.drop z) = l.getD z 0 + b * zo b (l.drop (z + 1)) := by rw [W9 h]; rfl
theorem yC (b : Int) (l : List Int) {z : Nat} (h : z ≤ l.length) : zo b l = zo b (l.take z) + b ^ z * zo b (l.drop z) := by
 conv => lhs; rw [← List.take_append_drop z l]
 rw [Wu, List.length_take, Nat.min_eq_left h]
theorem uZ (l : List Int) (z : Nat) (v : Int) (h : z < l.length) : (l.set z v).drop z = v :: l.drop (z + 1) := by
 rw [W9 (by simpa using h), yg _ _ _ _ h, if_pos rfl, List.drop_set]
 simp
structure Qi (b d : Int) (a : List Int) (z : Nat) (q : List Int) (r : Int) : Prop where
 len : q.length = a.length
 le : z ≤ a.length
 in_ : ZC b q
 r0 : 0 ≤ r
 r1 : r < d
 val : zo b (a.drop z) = d * zo b (q.drop z) + r
theorem Qi.start {b d : Int} (hb : 0 < b) (hd : 0 < d) (a : List Int) : Qi b d a a.length (List.replicate a.length 0) 0 :=
 ⟨by simp, Nat.le_refl _, .zeros hb _, Int.le_refl _, hd, by rw [List.drop_of_length_le (Nat.le_refl _), List.drop_of_length_le (by simp)]; simp [zo]⟩
theorem Qi.step {b d : Int} (hb : 0 < b) {a : List Int} (ha : ZC b a) {z : Nat} {q : List Int} {r : Int} (h : Qi b d a (z + 1) q r) :
  (0 ≤ a.getD z 0 + r * b ∧ a.getD z 0 + r * b < d * b) ∧ Qi b d a z (q.set z ((a.getD z 0 + r * b).tdiv d)) ((a.getD z 0 + r * b).tmod d) := by
 have a1 := ha.get hb z
 have h0 := h.r0
 have h1 := h.r1
 have hz := h.le
 have p0 : 0 ≤ r * b := Int.mul_nonneg h0 (by omega)
 have p1 : (r + 1) * b ≤ d * b := Int.mul_le_mul_of_nonneg_right (by omega) (by omega)
 rw [Int.add_mul, Int.one_mul] at p1
 have n0 : 0 ≤ a.getD z 0 + r * b := by omega
 have n1 : a.getD z 0 + r * b < d * b := by omega
 obtain ⟨e, m0, m1, d0⟩ := px n0 (b := d) (by omega)
 have hq : (a.getD z 0 + r * b).tdiv d < b := by
  refine Decidable.byContradiction fun hn => ?_
  have : d * b ≤ d * (a.getD z 0 + r * b).tdiv d := Int.mul_le_mul_of_nonneg_left (by omega) (by omega)
  omega
 refine ⟨⟨n0, n1⟩, by rw [List.length_set]; exact h.len, by omega, h.in_.set d0 hq _, m0, m1, ?_⟩
 rw [uZ _ _ _ (by rw [h.len]; omega), Xc b (by omega), h.val]
 show _ = d * (_ + b * _) + _
 grind
theorem Qi.end_ {b : Nat} (hb : 2 ≤ b) {d : Nat} (hd : 0 < d) (hdb : d ≤ b) {a : List Int} {q : List Int} {r : Int} (h : Qi b d a 0 q r) (n : Nat) (hn : zo b a = n) :
  ya q = Z8 b (n / d) ∧ r = (n % d : Nat) ∧ ya [r] = Z8 b (n % d) := by
 have hv := h.val
 rw [List.drop_zero, List.drop_zero, hn] at hv
 have q0 := Zv (b := (b : Int)) (by omega) h.in_
 have h0 := h.r0
 have h1 := h.r1
 obtain ⟨Q, hQ⟩ : ∃ Q : Nat, zo b q = Q := ⟨(zo b q).toNat, by omega⟩
 obtain ⟨R, rfl⟩ : ∃ R : Nat, r = R := ⟨r.toNat, by omega⟩
 rw [hQ] at hv
 have hv : n = d * Q + R := by exact_mod_cast hv
 have hR : R < d := by omega
 have e1 : n / d = Q := by rw [hv, Nat.mul_add_div hd, Nat.div_eq_of_lt hR, Nat.add_zero]
 have e2 : n % d = R := by rw [hv, Nat.mul_add_mod, Nat.mod_eq_of_lt hR]
 refine ⟨?_, by rw [e2], ?_⟩
 ·rw [yR hb h.in_, hQ, e1, Int.toNat_natCast]
 ·rw [yR hb (.one (by omega) (by omega)), e2]
  rfl
def Out (j n : Nat) (u w : List Int) : Prop := ∀ i, i < j ∨ n ≤ i → w.getD i 0 = u.getD i 0
structure Wr (b : Int) (u v : List Int) (j : Nat) (q : Int) (i : Nat) (w : List Int) (c : Int) : Prop where
 len : w.length = u.length
 in_ : ZC b w
 out : Out j (j + i) u w
 c0 : 0 ≤ c
 c1 : c ≤ q + 1
 val : zo b w - b ^ (j + i) * c = zo b u - b ^ j * (q * zo b (v.take i))
theorem Wr.start {b : Int} {u v : List Int} {j : Nat} {q : Int} (hu : ZC b u) (hq : 0 ≤ q) : Wr b u v j q 0 u 0 :=
 ⟨rfl, hu, fun _ _ => rfl, Int.le_refl _, by omega, by rw [List.take_zero, Xu]; simp⟩
def xb (b n : Int) : Int := bif Zz n 0 then (-n + b - 1).tdiv b else 0
theorem T3 {b n : Int} (hb : 2 ≤ b) : 0 ≤ xb b n ∧ 0 ≤ n + xb b n * b ∧ (n < b → n + xb b n * b < b) ∧ ∀ q, -(q * b) ≤ n → 0 ≤ q → xb b n ≤ q := by
 unfold xb
 cases h : Zz n 0 with
 | true =>
  have h := (zm _ _).1 h
  simp only [cond_true]
  obtain ⟨e, m0, m1, d0⟩ := px (n := -n + b - 1) (b := b) (by omega) (by omega)
  rw [Int.mul_comm] at e
  refine ⟨d0, by omega, fun _ => by omega, fun q hq hq0 => ?_⟩
  refine Decidable.byContradiction fun hn => ?_
  have : (q + 1) * b ≤ (-n + b - 1).tdiv b * b := Int.mul_le_mul_of_nonneg_right (by omega) (by omega)
  grind
 | false =>
  have h : ¬ n < 0 := fun e => by rw [(zm _ _).2 e] at h; cases h
  simp_all
theorem Wr.step {b : Int} (hb : 2 ≤ b) {u v : List Int} (hv : ZC b v) {j : Nat} {q : Int} (hq : 0 ≤ q) {i : Nat} (hj : j + i < u.length) {w : List Int} {c : Int} (h : Wr b u v j q i w c) :
  (-((q + 1) * b) ≤ w.getD (j + i) 0 - c - q * v.getD i 0 ∧ w.getD (j + i) 0 - c - q * v.getD i 0 < b) ∧
  Wr b u v j q (i + 1) (w.set (j + i) (w.getD (j + i) 0 - c - q * v.getD i 0 + xb b (w.getD (j + i) 0 - c - q * v.getD i 0) * b)) (xb b (w.getD (j + i) 0 - c - q * v.getD i 0)) := by
 have v1 := hv.get (by omega) i
 have w1 := h.in_.get (by omega) (j + i)
 have h0 := h.c0
 have h1 := h.c1
 have p0 : 0 ≤ q * v.getD i 0 := Int.mul_nonneg hq v1.1
 have p1 : q * v.getD i 0 ≤ q * (b - 1) := Int.mul_le_mul_of_nonneg_left (by omega) hq
 rw [Int.mul_sub, Int.mul_one] at p1
 have n1 : -((q + 1) * b) ≤ w.getD (j + i) 0 - c - q * v.getD i 0 := by rw [Int.add_mul, Int.one_mul]; omega
 have n2 : w.getD (j + i) 0 - c - q * v.getD i 0 < b := by omega
 have hl : j + i < w.length := by rw [h.len]; exact hj
 have hval := h.val
 refine ⟨⟨n1, n2⟩, ?_⟩
 obtain ⟨k0, k1, k2, k3⟩ := T3 (b := b) (n := w.getD (j + i) 0 - c - q * v.getD i 0) hb
 refine ⟨by rw [List.length_set]; exact h.len, h.in_.set k1 (k2 n2) _, fun x hx => ?_, k0, k3 _ n1 (by omega), ?_⟩
 ·rw [yg _ _ _ _ hl, if_neg (by omega)]
  exact h.out x (by omega)
 ·rw [Y9 b _ hl, Zn]
  grind
structure Ur (b : Int) (u v : List Int) (j : Nat) (q : Int) (i : Nat) (w : List Int) (c : Int) : Prop where
 len : w.length = u.length
 in_ : ZC b w
 out : Out j (j + i) u w
 c0 : 0 ≤ c
 c1 : c ≤ q
 val : zo b w + b ^ (j + i) * c = zo b u + b ^ j * (q * zo b (v.take i))
theorem Ur.start {b : Int} {u v : List Int} {j : Nat} {q : Int} (hu : ZC b u) (hq : 0 ≤ q) : Ur b u v j q 0 u 0 :=
 ⟨rfl, hu, fun _ _ => rfl, Int.le_refl _, hq, by rw [List.take_zero, Xu]; simp⟩
theorem Ur.step {b : Int} (hb : 2 ≤ b) {u v : List Int} (hv : ZC b v) {j : Nat} {q : Int} (hq : 0 ≤ q) {i : Nat} (hj : j + i < u.length) {w : List Int} {c : Int} (h : Ur b u v j q i w c) :
  (0 ≤ w.getD (j + i) 0 + q * v.getD i 0 + c ∧ w.getD (j + i) 0 + q * v.getD i 0 + c < (q + 1) * b) ∧
  Ur b u v j q (i + 1) (w.set (j + i) ((w.getD (j + i) 0 + q * v.getD i 0 + c).tmod b)) ((w.getD (j + i) 0 + q * v.getD i 0 + c).tdiv b) := by
 have v1 := hv.get (by omega) i
 have w1 := h.in_.get (by omega) (j + i)
 have h0 := h.c0
 have h1 := h.c1
 have p0 : 0 ≤ q * v.getD i 0 := Int.mul_nonneg hq v1.1
 have p1 : q * v.getD i 0 ≤ q * (b - 1) := Int.mul_le_mul_of_nonneg_left (by omega) hq
 rw [Int.mul_sub, Int.mul_one] at p1
 have n1 : 0 ≤ w.getD (j + i) 0 + q * v.getD i 0 + c := by omega
 have n2 : w.getD (j + i) 0 + q * v.getD i 0 + c < (q + 1) * b := by rw [Int.add_mul, Int.one_mul]; omega
 have hl : j + i < w.length := by rw [h.len]; exact hj
 have hval := h.val
 refine ⟨⟨n1, n2⟩, ?_⟩
 obtain ⟨e, m0, m1, d0⟩ := px n1 (b := b) (by omega)
 have hd : (w.getD (j + i) 0 + q * v.getD i 0 + c).tdiv b ≤ q := by
  refine Decidable.byContradiction fun hn => ?_
  have : b * (q + 1) ≤ b * (w.getD (j + i) 0 + q * v.getD i 0 + c).tdiv b := Int.mul_le_mul_of_nonneg_left (by omega) (by omega)
  grind
 refine ⟨by rw [List.length_set]; exact h.len, h.in_.set m0 m1 _, fun x hx => ?_, d0, hd, ?_⟩
 ·rw [yg _ _ _ _ hl, if_neg (by omega)]
  exact h.out x (by omega)
 ·rw [Y9 b _ hl, Zn]
  grind
theorem ZC.ext {b : Int} (hb : 0 < b) : ∀ {l m : List Int}, ZC b l → ZC b m → l.length = m.length → zo b l = zo b m → l = m
 | [], [], _, _, _, _ => rfl
 | [], _ :: _, _, _, h, _ => by cases h
 | _ :: _, [], _, _, h, _ => by cases h
 | x :: l, y :: m, hl, hm, h, hv => by
  have hx := hl.head
  have hy := hm.head
  have hv : x + b * zo b l = y + b * zo b m := hv
  have e1 : x = (x + b * zo b l) % b := by rw [Int.add_mul_emod_self_left, Int.emod_eq_of_lt hx.1 hx.2]
  have e2 : y = (y + b * zo b m) % b := by rw [Int.add_mul_emod_self_left, Int.emod_eq_of_lt hy.1 hy.2]
  have e3 : x = y := by rw [e1, e2, hv]
  subst e3
  have e4 : b * zo b l = b * zo b m := by omega
  rw [ZC.ext hb hl.tail hm.tail (by simpa using h) (Int.eq_of_mul_eq_mul_left (by omega) e4)]
theorem sT {b : Int} {u : List Int} {j n : Nat} (h : ∀ i, n ≤ i → u.getD i 0 = 0) (hj : j ≤ n) : zo b (u.drop j) = zo b ((u.take n).drop j) := by
 have e : ∀ {l : List Int}, (∀ i, l.getD i 0 = 0) → zo b l = 0 := by
  intro l
  induction l with
  | nil => intro _; rfl
  | cons x l ih =>
   intro hl
   have h0 : x = 0 := hl 0
   show x + b * zo b l = 0
   rw [h0, ih fun i => hl (i + 1)]; simp
 by_cases hn : n ≤ u.length
 ·have e1 : u.drop j = (u.take n).drop j ++ u.drop n := by
   conv => lhs; rw [← List.take_append_drop n u]
   grind
  rw [e1, Wu, e (l := u.drop n), Int.mul_zero, Int.add_zero]
  simp_all
 ·rw [List.take_of_length_le (by omega)]
end Go.Ar

namespace Go.Ar
open Go Go.Sx Go.Lib
set_option maxRecDepth 100000
theorem xE (l : List Int) (j i : Nat) : (l.drop j).getD i 0 = l.getD (j + i) 0 := by
 simp
theorem WY {b : Int} {l : List Int} {n : Nat} (h : ∀ i, n ≤ i → l.getD i 0 = 0) : zo b l = zo b (l.take n) := by
 have := sT (b := b) (j := 0) h (Nat.zero_le _)
 assumption
theorem wP {b : Int} (hb : 0 < b) {l : List Int} (h : ZC b l) (n : Nat) : 0 ≤ zo b (l.take n) ∧ zo b (l.take n) < b ^ n := by
 refine ⟨Zv (Int.le_of_lt hb) (h.take n), ?_⟩
 have h1 := xT hb (h.take n)
 have h2 : b ^ (l.take n).length ≤ b ^ n := by
  obtain ⟨m, rfl⟩ : ∃ m : Nat, b = m := ⟨b.toNat, by omega⟩
  have : m ^ (l.take n).length ≤ m ^ n := Nat.pow_le_pow_right (by omega) (by simp; omega)
  grind
 omega
theorem T9 {b : Int} (hb : 0 < b) {l : List Int} (h : ZC b l) {n : Nat} (hv : zo b l < b ^ n) {i : Nat} (hi : n ≤ i) : l.getD i 0 = 0 := by
 by_cases hl : i < l.length
 ·have e := yC b l (z := i) (by omega)
  rw [Xc b hl] at e
  have h1 := (h.get hb i).1
  have h2 := (wP hb h i).1
  have h3 := Zv (Int.le_of_lt hb) (h.drop (i + 1))
  refine Decidable.byContradiction fun hn => ?_
  have h4 : b ^ i * 1 ≤ b ^ i * (l.getD i 0 + b * zo b (l.drop (i + 1))) := by
   refine Int.mul_le_mul_of_nonneg_left ?_ (Int.le_of_lt (yD hb i))
   have := Int.mul_nonneg (Int.le_of_lt hb) h3
   omega
  have h5 : b ^ n ≤ b ^ i := by
   obtain ⟨m, rfl⟩ : ∃ m : Nat, b = m := ⟨b.toNat, by omega⟩
   have : m ^ n ≤ m ^ i := Nat.pow_le_pow_right (by omega) hi
   grind
  omega
 simp_all
structure qo (b top v1 W V q r : Int) : Prop where
 eq : q * v1 + r = top
 r0 : 0 ≤ r
 q0 : 0 ≤ q
 lt : W < (q + 1) * V
 le : q < 2 * b
structure rH (b : Int) (k : Nat) (u0 u1 u2 v1 v2 W V : Int) : Prop where
 hb : 2 ≤ b
 hu0 : 0 ≤ u0 ∧ u0 ≤ v1
 hu1 : 0 ≤ u1 ∧ u1 < b
 hu2 : 0 ≤ u2 ∧ u2 < b
 hv1 : 0 < v1 ∧ v1 < b
 hv2 : 0 ≤ v2 ∧ v2 < b
 w : W < b ^ k * (u2 + 1 + b * (u0 * b + u1))
 v : b ^ k * (v2 + b * v1) ≤ V
theorem rH.start {b : Int} {k : Nat} {u0 u1 u2 v1 v2 W V : Int} (h : rH b k u0 u1 u2 v1 v2 W V) : qo b (u0 * b + u1) v1 W V ((u0 * b + u1).tdiv v1) ((u0 * b + u1).tmod v1) := by
 have hb := h.hb
 have a0 := h.hu0
 have a1 := h.hu1
 have a2 := h.hu2
 have b1 := h.hv1
 have b2 := h.hv2
 have p0 : 0 ≤ u0 * b := Int.mul_nonneg a0.1 (by omega)
 obtain ⟨e, m0, m1, d0⟩ := px (n := u0 * b + u1) (b := v1) (by omega) b1.1
 have hp := yD (b := b) (by omega) k
 refine ⟨by rw [Int.mul_comm]; omega, m0, d0, ?_, ?_⟩
 ·generalize hq : (u0 * b + u1).tdiv v1 = q at *
  have t1 : u0 * b + u1 + 1 ≤ (q + 1) * v1 := by rw [Int.add_mul, Int.one_mul, Int.mul_comm q]; omega
  have t2 : b * (u0 * b + u1 + 1) ≤ b * ((q + 1) * v1) := Int.mul_le_mul_of_nonneg_left t1 (by omega)
  have t3 : b ^ k * (u2 + 1 + b * (u0 * b + u1)) ≤ b ^ k * (b * ((q + 1) * v1)) := Int.mul_le_mul_of_nonneg_left (by rw [Int.mul_add, Int.mul_one] at t2; omega) (Int.le_of_lt hp)
  have t4 : (q + 1) * (b ^ k * (v2 + b * v1)) ≤ (q + 1) * V := Int.mul_le_mul_of_nonneg_left h.v (by omega)
  have t5 : b ^ k * (b * ((q + 1) * v1)) ≤ (q + 1) * (b ^ k * (v2 + b * v1)) := by
   rw [← Int.mul_assoc (q + 1), Int.mul_comm (q + 1) (b ^ k), Int.mul_assoc]
   refine Int.mul_le_mul_of_nonneg_left ?_ (Int.le_of_lt hp)
   rw [Int.mul_add]
   have := Int.mul_nonneg (show 0 ≤ q + 1 by omega) b2.1
   grind
  have := h.w
  omega
 ·refine Decidable.byContradiction fun hn => ?_
  have t1 : v1 * (2 * b) ≤ v1 * (u0 * b + u1).tdiv v1 := Int.mul_le_mul_of_nonneg_left (by omega) (by omega)
  have t2 : u0 * b ≤ v1 * b := Int.mul_le_mul_of_nonneg_right a0.2 (by omega)
  have t3 : v1 * (2 * b) = v1 * b + v1 * b := by rw [Int.two_mul, Int.mul_add]
  have t4 : 1 * b ≤ v1 * b := Int.mul_le_mul_of_nonneg_right (by omega) (by omega)
  omega
theorem rH.step {b : Int} {k : Nat} {u0 u1 u2 v1 v2 W V q r : Int} (h : rH b k u0 u1 u2 v1 v2 W V) (hi : qo b (u0 * b + u1) v1 W V q r) (hW : W < b * V) (hV : 0 < V)
  (hc : b ≤ q ∨ r * b + u2 < q * v2) : 0 < q ∧ qo b (u0 * b + u1) v1 W V (q - 1) (r + v1) := by
 have hb := h.hb
 have a2 := h.hu2
 have b1 := h.hv1
 have b2 := h.hv2
 have q0 := hi.q0
 have r0 := hi.r0
 have hp := yD (b := b) (by omega) k
 have hq : 0 < q := by
  rcases hc with hc | hc
  ·omega
  ·refine Decidable.byContradiction fun hn => ?_
   have : q = 0 := by omega
   subst this
   have := Int.mul_nonneg r0 (show 0 ≤ b by omega)
   omega
 refine ⟨hq, by rw [Int.sub_mul, Int.one_mul]; have := hi.eq; omega, by omega, by omega, ?_, by have := hi.le; omega⟩
 rw [Int.sub_add_cancel]
 rcases hc with hc | hc
 ·have : b * V ≤ q * V := Int.mul_le_mul_of_nonneg_right hc (by omega)
  omega
 ·have t1 : q * (b ^ k * (v2 + b * v1)) ≤ q * V := Int.mul_le_mul_of_nonneg_left h.v q0
  have t2 : b ^ k * (u2 + 1 + b * (u0 * b + u1)) ≤ q * (b ^ k * (v2 + b * v1)) := by
   rw [← Int.mul_assoc q, Int.mul_comm q (b ^ k), Int.mul_assoc]
   refine Int.mul_le_mul_of_nonneg_left ?_ (Int.le_of_lt hp)
   rw [← hi.eq, Int.mul_add, Int.mul_add, ← Int.mul_assoc q b, Int.mul_comm q b, Int.mul_assoc b q, Int.mul_comm b r]
   omega
  have := h.w
  omega
structure VO (b A V : Int) (n m j : Nat) (q u : List Int) : Prop where
 ql : q.length = m
 ul : u.length = m + n
 qi : ZC b q
 ui : ZC b u
 hi : ∀ i, j + n ≤ i → u.getD i 0 = 0
 top : zo b (u.drop j) < V
 val : A = V * (b ^ j * zo b (q.drop j)) + zo b u
theorem VO.start {b A V : Int} (hb : 0 < b) {n m : Nat} {u : List Int} (hl : u.length = m + n) (hu : ZC b u) (hV : zo b (u.drop m) < V) (hA : A = zo b u) : VO b A V n m m (List.replicate m 0) u :=
 ⟨by simp, hl, .zeros hb m, hu, fun i hi => by rw [List.getD_eq_getElem?_getD, List.getElem?_eq_none (by omega)]; rfl, hV, by
  rw [List.drop_of_length_le (by simp), Xu, Int.mul_zero, Int.mul_zero, Int.zero_add]; exact hA⟩
theorem VO.win {b A V : Int} (hb : 0 < b) {n m j : Nat} {q u : List Int} (hn : 0 < n) (hj : j < m) (h : VO b A V n m (j + 1) q u) : 0 ≤ zo b (u.drop j) ∧ zo b (u.drop j) < b * V := by
 have h1 := h.ui.get hb j
 have h2 := h.top
 rw [Xc b (by rw [h.ul]; omega)]
 have h3 : b * (zo b (u.drop (j + 1)) + 1) ≤ b * V := Int.mul_le_mul_of_nonneg_left (by omega) (by omega)
 rw [Int.mul_add, Int.mul_one] at h3
 have h4 := Int.mul_nonneg (Int.le_of_lt hb) (Zv (Int.le_of_lt hb) (h.ui.drop (j + 1)))
 omega
theorem wC {u w : List Int} {j n : Nat} (hl : w.length = u.length) (h : Out j n u w) : w.take j = u.take j := by
 refine List.ext_getElem (by simp [hl]) fun i h1 h2 => ?_
 have hi : i < j := by simp at h1; omega
 have hiw : i < w.length := by simp at h1; omega
 have e := h i (.inl hi)
 simp_all
theorem ux {b : Int} {u w : List Int} {j n : Nat} (hl : w.length = u.length) (hj : j ≤ u.length) (h : Out j n u w) : zo b w - zo b u = b ^ j * (zo b (w.drop j) - zo b (u.drop j)) := by
 rw [yC b w (z := j) (by omega), yC b u (z := j) hj, wC hl h, Int.mul_sub]
 omega
theorem Wr.end_ {b : Int} (hb : 2 ≤ b) {u v : List Int} {j : Nat} {q : Int} {w : List Int} {c : Int} (hj : j ≤ u.length) (hz : ∀ i, j + 1 + v.length ≤ i → u.getD i 0 = 0) (h : Wr b u v j q (v.length + 1) w c) :
  zo b (w.drop j) - b ^ (v.length + 1) * c = zo b (u.drop j) - q * zo b v ∧ 0 ≤ zo b (w.drop j) ∧ zo b (w.drop j) < b ^ (v.length + 1) := by
 have hv := h.val
 rw [yn (by omega)] at hv
 have hl := ux (b := b) h.len hj h.out
 refine ⟨?_, Zv (by omega) (h.in_.drop j), ?_⟩
 ·have e : b ^ j * (zo b (w.drop j) - b ^ (v.length + 1) * c) = b ^ j * (zo b (u.drop j) - q * zo b v) := by
   grind
  exact Int.eq_of_mul_eq_mul_left (by have := yD (b := b) (by omega) j; omega) e
 ·have hz2 : ∀ i, v.length + 1 ≤ i → (w.drop j).getD i 0 = 0 := fun i hi => by
   rw [xE, h.out _ (.inr (by omega)), hz _ (by omega)]
  rw [WY hz2]
  exact (wP (by omega) (h.in_.drop j) _).2
theorem Wr.fits {b : Int} (hb : 2 ≤ b) {u v : List Int} {j : Nat} {q : Int} {w : List Int} {c : Int} (hj : j ≤ u.length) (hz : ∀ i, j + 1 + v.length ≤ i → u.getD i 0 = 0) (h : Wr b u v j q (v.length + 1) w c) :
  (c ≤ 0 → zo b (w.drop j) = zo b (u.drop j) - q * zo b v) ∧ (0 < c → zo b (u.drop j) < q * zo b v) := by
 obtain ⟨e, e0, e1⟩ := h.end_ hb hj hz
 have hp := yD (b := b) (by omega) (v.length + 1)
 constructor
 ·intro hc
  have : c = 0 := by have := h.c0; omega
  simp_all
 ·intro hc
  have : b ^ (v.length + 1) * 1 ≤ b ^ (v.length + 1) * c := Int.mul_le_mul_of_nonneg_left (by omega) (by omega)
  omega
theorem Ur.end_ {b : Int} (hb : 2 ≤ b) {u v : List Int} {j : Nat} {q : Int} {w : List Int} {c : Int} (hu : ZC b u) (hj : j ≤ u.length) (hz : ∀ i, j + 1 + v.length ≤ i → u.getD i 0 = 0) (h : Wr b u v j q (v.length + 1) w c)
  {w2 : List Int} {c2 : Int} (h2 : Ur b w v j q (v.length + 1) w2 c2) : w2 = u := by
 obtain ⟨e, e0, e1⟩ := h.end_ hb hj hz
 have hp := yD (b := b) (by omega) (v.length + 1)
 have hv := h2.val
 rw [yn (by omega)] at hv
 have hl := ux (b := b) h2.len (by rw [h.len]; exact hj) h2.out
 have o2 : ∀ i, v.length + 1 ≤ i → (w2.drop j).getD i 0 = 0 := fun i hi => by
  rw [xE, h2.out _ (.inr (by omega)), h.out _ (.inr (by omega)), hz _ (by omega)]
 have ou : ∀ i, v.length + 1 ≤ i → (u.drop j).getD i 0 = 0 := fun i hi => by rw [xE, hz _ (by omega)]
 have b2 := (wP (by omega) (h2.in_.drop j) (v.length + 1))
 rw [← WY o2] at b2
 have bu := (wP (by omega) (hu.drop j) (v.length + 1))
 rw [← WY ou] at bu
 have e2 : zo b (w2.drop j) + b ^ (v.length + 1) * c2 = zo b (w.drop j) + q * zo b v := by
  have e3 : b ^ j * (zo b (w2.drop j) + b ^ (v.length + 1) * c2) = b ^ j * (zo b (w.drop j) + q * zo b v) := by
   grind
  exact Int.eq_of_mul_eq_mul_left (by have := yD (b := b) (by omega) j; omega) e3
 have e4 : zo b (w2.drop j) - zo b (u.drop j) = b ^ (v.length + 1) * (c - c2) := by rw [Int.mul_sub]; omega
 have e5 : c = c2 := by
  rcases Int.lt_trichotomy c c2 with hlt | heq | hgt
  ·have : b ^ (v.length + 1) * (c - c2) ≤ b ^ (v.length + 1) * (-1) := Int.mul_le_mul_of_nonneg_left (by omega) (by omega)
   omega
  ·exact heq
  ·have : b ^ (v.length + 1) * 1 ≤ b ^ (v.length + 1) * (c - c2) := Int.mul_le_mul_of_nonneg_left (by omega) (by omega)
   omega
 have e6 : zo b (w2.drop j) = zo b (u.drop j) := by rw [e5, Int.sub_self, Int.mul_zero] at e4; omega
 refine ZC.ext (by omega) h2.in_ hu (h2.len.trans h.len) ?_
 rw [yC b w2 (z := j) (by rw [h2.len, h.len]; exact hj), yC b u (z := j) hj, wC h2.len h2.out, wC h.len h.out, e6]
theorem VO.step {b A V : Int} (hb : 2 ≤ b) {v : List Int} (hv : ZC b v) (hV : zo b v = V) {m j : Nat} {q u : List Int} (hj : j < m) (h : VO b A V v.length m (j + 1) q u) {Q : Int} (hQ : 0 ≤ Q) (hlt : zo b (u.drop j) < (Q + 1) * V)
  {w : List Int} {c : Int} (ht : Wr b u v j Q (v.length + 1) w c) (hc : c ≤ 0) : VO b A V v.length m j (q.set j Q) w := by
 have hul := h.ul
 obtain ⟨t1, _⟩ := ht.fits hb (by omega) (fun i hi => h.hi i (by omega))
 have t1 := t1 hc
 rw [hV] at t1
 have w0 := Zv (b := b) (by omega) (ht.in_.drop j)
 have hw : zo b (w.drop j) < V := by rw [t1]; rw [Int.add_mul, Int.one_mul] at hlt; omega
 have hVb : V < b ^ v.length := by rw [← hV]; exact xT (by omega) hv
 have hV0 : 0 < V := by omega
 have hvl : 0 < v.length := by
  refine Nat.pos_of_ne_zero fun e => ?_
  rw [e, Int.pow_zero] at hVb
  omega
 obtain ⟨z1, z2⟩ := h.win (by omega) hvl hj
 have hQb : Q < b := by
  refine Decidable.byContradiction fun hn => ?_
  have : b * V ≤ Q * V := Int.mul_le_mul_of_nonneg_right (by omega) (by omega)
  omega
 refine ⟨by rw [List.length_set]; exact h.ql, by rw [ht.len]; exact hul, h.qi.set hQ hQb _, ht.in_, fun i hi => ?_, hw, ?_⟩
 ·by_cases e : i = j + v.length
  ·have := T9 (by omega) (ht.in_.drop j) (n := v.length) (i := v.length) (by omega) (Nat.le_refl _)
   simp_all
  ·rw [ht.out i (.inr (by omega))]
   exact h.hi i (by omega)
 ·have hvv := ht.val
  have hc0 : c = 0 := by have := ht.c0; omega
  rw [hc0, Int.mul_zero, Int.sub_zero, yn (by omega), hV] at hvv
  rw [uZ _ _ _ (by rw [h.ql]; omega)]
  show A = V * (b ^ j * (Q + b * zo b (q.drop (j + 1)))) + zo b w
  rw [hvv, h.val, vm, Int.mul_add, Int.mul_add, ← Int.mul_assoc (b ^ j) b]
  grind
theorem VO.end_ {b : Nat} (hb : 2 ≤ b) {A V : Nat} (hV0 : 0 < V) {n m : Nat} {q u : List Int} (h : VO b A V n m 0 q u) : ya q = Z8 b (A / V) ∧ ya u = Z8 b (A % V) := by
 have hv := h.val
 rw [Int.pow_zero, Int.one_mul, List.drop_zero] at hv
 have ht := h.top
 rw [List.drop_zero] at ht
 have q0 := Zv (b := (b : Int)) (by omega) h.qi
 have u0 := Zv (b := (b : Int)) (by omega) h.ui
 obtain ⟨Q, hQ⟩ : ∃ Q : Nat, zo b q = Q := ⟨(zo b q).toNat, by omega⟩
 obtain ⟨R, hR⟩ : ∃ R : Nat, zo b u = R := ⟨(zo b u).toNat, by omega⟩
 rw [hQ, hR] at hv
 rw [hR] at ht
 have hv : A = V * Q + R := by exact_mod_cast hv
 have hR' : R < V := by omega
 rw [yR hb h.qi, yR hb h.ui, hQ, hR, Int.toNat_natCast, Int.toNat_natCast]
 rw [hv, Nat.mul_add_div hV0, Nat.div_eq_of_lt hR', Nat.add_zero, Nat.mul_add_mod, Nat.mod_eq_of_lt hR']
 simp
end Go.Ar

namespace Go.Ar
open Go Go.Sx Go.Lib
set_option maxRecDepth 100000
def zR (s : zL) : zL := s.takeWhile (· != 47)
def zI (s : zL) : zL := (s.dropWhile (· != 47)).drop 1
def zr (s : zL) : Bool := s.any (· == 47)
def z6 (s : zL) : Bool := ZX (zR s) && (!zr s || Zt (zI s) && !(zI s == [48]) && !(zI s == [49]))
def zU (s : zL) : Int := zu (zR s)
def zS (s : zL) : Nat := bif zr s then zi (zI s) else 1
def Zj (s : zL) : Int :=
 bif !z6 s then 11 else bif Nat.blt 300 (Yu (zR s)) || Nat.blt 300 (zI s).length then 4 else bif Nat.beq (Nat.gcd (zU s).natAbs (zS s)) 1 then 0 else 11
def yq (n : Int) (d : Nat) : zL := itoa n ++ bif Nat.beq d 1 then [] else 47 :: decDigits d
def zt (n : Int) (d : Nat) : zL := yq (n / (Nat.gcd n.natAbs d : Int)) (d / Nat.gcd n.natAbs d)
theorem Wz {c : UInt8} (h : ZZ c = true) : (c != 47) = true := by
 rw [yy] at h
 rw [bne_iff_ne]
 intro e
 simp_all
theorem Xm {s : zL} (h : ZX s = true) : ∀ c ∈ s, (c != 47) = true := by
 rcases yu h with ⟨r, rfl, h1, _, _⟩ | ⟨h1, _⟩
 ·intro c hc
  rcases List.mem_cons.1 hc with rfl | hc
  ·decide
  ·exact Wz ((ZT.1 h1).2.1 c hc)
 ·exact fun c hc => Wz ((ZT.1 h1).2.1 c hc)
theorem xG {p : UInt8 → Bool} : ∀ {a : zL}, (∀ c ∈ a, p c = true) → a.takeWhile p = a ∧ a.dropWhile p = []
 | [], _ => ⟨rfl, rfl⟩
 | c :: a, h => by
  obtain ⟨h1, h2⟩ := xG (a := a) fun x hx => h x (List.mem_cons_of_mem _ hx)
  simp_all
theorem W5 {p : UInt8 → Bool} {x : UInt8} {b : zL} (hx : p x = false) : ∀ {a : zL}, (∀ c ∈ a, p c = true) → (a ++ x :: b).takeWhile p = a ∧ (a ++ x :: b).dropWhile p = x :: b
 | [], _ => by simp [List.takeWhile_cons, List.dropWhile_cons, hx]
 | c :: a, h => by
  simp_all
theorem Z6 {s : zL} (h : zr s = false) : zR s = s ∧ zI s = [] := by
 unfold zr at h
 rw [List.any_eq_false] at h
 obtain ⟨h1, h2⟩ := xG (p := (· != 47)) (a := s) fun c hc => by
  simp_all
 exact ⟨h1, by unfold zI; rw [h2]; rfl⟩
theorem Wj {a b : zL} (h : ∀ c ∈ a, (c != 47) = true) : zR (a ++ 47 :: b) = a ∧ zI (a ++ 47 :: b) = b ∧ zr (a ++ 47 :: b) = true := by
 obtain ⟨h1, h2⟩ := W5 (p := (· != 47)) (x := 47) (b := b) (by decide) h
 exact ⟨h1, by unfold zI; rw [h2]; rfl, by unfold zr; simp⟩
theorem wM {s : zL} (h : ∀ c ∈ s, (c != 47) = true) : zr s = false := by
 unfold zr
 simp_all
theorem xy {s : zL} (h : zr s = true) : s = zR s ++ 47 :: zI s := by
 have e := List.takeWhile_append_dropWhile (p := (· != (47 : UInt8))) (l := s)
 unfold zR zI
 have hd : ∃ b, s.dropWhile (· != (47 : UInt8)) = 47 :: b := by
  clear e
  induction s with
  | nil => cases h
  | cons c s ih =>
   by_cases hc : c = 47
   ·simp_all
   ·have h' : zr s = true := by
     unfold zr at h ⊢
     simp_all
    simp_all
 grind
theorem xD {s : zL} (h : zr s = false) : z6 s = ZX s := by
 unfold z6
 rw [h, (Z6 h).1]; simp
theorem WT {s : zL} (h : z6 s = true) : (ZX s = true ∧ zr s = false ∧ zR s = s ∧ zU s = zu s ∧ zS s = 1) ∨
  (zr s = true ∧ s = zR s ++ 47 :: zI s ∧ ZX (zR s) = true ∧ Zt (zI s) = true ∧ 2 ≤ zS s ∧ zS s = zi (zI s)) := by
 cases hs : zr s with
 | false =>
  rw [xD hs] at h
  obtain ⟨h1, h2⟩ := Z6 hs
  exact .inl ⟨h, rfl, h1, by unfold zU; rw [h1], by unfold zS; rw [hs]; rfl⟩
 | true =>
  unfold z6 at h
  rw [hs] at h
  simp only [Bool.not_true, Bool.false_or, Bool.and_eq_true, Bool.not_eq_true'] at h
  obtain ⟨h1, ⟨h2, h3⟩, h4⟩ := h
  have e : zS s = zi (zI s) := by unfold zS; rw [hs]; rfl
  refine .inr ⟨rfl, xy hs, h1, h2, ?_, e⟩
  rw [e]
  have h5 := ZS h2
  refine Decidable.byContradiction fun hn => ?_
  have : zi (zI s) = 0 ∨ zi (zI s) = 1 := by omega
  rcases this with h6 | h6
  ·rw [h6, zH (by decide)] at h5
   rw [← h5] at h3
   exact absurd h3 (by decide)
  ·rw [h6, zH (by decide)] at h5
   rw [← h5] at h4
   exact absurd h4 (by decide)
theorem yN {s : zL} (h : z6 s = true) : 1 ≤ zS s := by rcases WT h with ⟨_, _, _, _, h⟩ | ⟨_, _, _, _, h, _⟩ <;> omega
theorem ZR {s : zL} : Zj s = 0 ↔ z6 s = true ∧ Yu (zR s) ≤ 300 ∧ (zI s).length ≤ 300 ∧ Nat.gcd (zU s).natAbs (zS s) = 1 := by
 unfold Zj
 cases h : z6 s with
 | false => simp
 | true =>
  cases h2 : Nat.blt 300 (Yu (zR s)) || Nat.blt 300 (zI s).length with
  | true =>
   rw [Bool.or_eq_true, zf, zf] at h2
   simp; omega
  | false =>
   rw [Bool.or_eq_false_iff, Bool.eq_false_iff, Bool.eq_false_iff, Ne, Ne, zf, zf] at h2
   cases h3 : Nat.beq (Nat.gcd (zU s).natAbs (zS s)) 1 with
   | true =>
    simp_all
   | false =>
    have h3 : Nat.gcd (zU s).natAbs (zS s) ≠ 1 := fun e => by rw [e] at h3; cases h3
    simp_all
theorem WP {s : zL} (h : z6 s = true) : yq (zU s) (zS s) = s := by
 unfold yq
 rcases WT h with ⟨h1, _, _, h4, h5⟩ | ⟨_, h2, h3, h4, h5, h6⟩
 ·rw [h4, h5, YR h1]; exact List.append_nil s
 ·rw [show Nat.beq (zS s) 1 = false from Bool.eq_false_iff.2 fun e => by have := Nat.eq_of_beq_eq_true e; omega]
  conv => rhs; rw [h2]
  unfold zU
  rw [YR h3, h6, ZS h4]; rfl
theorem y8 (n : Int) {d : Nat} (hd : 0 < d) : z6 (yq n d) = true ∧ zU (yq n d) = n ∧ zS (yq n d) = d ∧ Yu (zR (yq n d)) = Wd n ∧ (zI (yq n d)).length = (if d = 1 then 0 else nDigits d) := by
 obtain ⟨i1, i2⟩ := yh n
 unfold yq
 by_cases h : d = 1
 ·subst h
  rw [Nat.beq_refl]
  simp only [cond_true, List.append_nil, if_true]
  have hs := wM (Xm i1)
  obtain ⟨c1, c2⟩ := Z6 hs
  refine ⟨by rw [xD hs]; exact i1, by unfold zU; rw [c1, i2], by unfold zS; rw [hs]; rfl, by rw [c1, vF i1, i2], by rw [c2]; rfl⟩
 ·rw [show Nat.beq d 1 = false from Bool.eq_false_iff.2 fun e => h (Nat.eq_of_beq_eq_true e)]
  simp only [cond_false, if_neg h]
  obtain ⟨c1, c2, c3⟩ := Wj (b := decDigits d) (Xm i1)
  have hd0 : ¬ decDigits d = [48] := fun e => by
   have := Zm d
   rw [e] at this
   have : (0 : Nat) = d := this
   omega
  have hd1 : ¬ decDigits d = [49] := fun e => by
   have := Zm d
   rw [e] at this
   have : (1 : Nat) = d := this
   omega
  refine ⟨?_, by unfold zU; rw [c1, i2], by unfold zS; rw [c3, c2]; exact Zm d, by rw [c1, vF i1, i2], by rw [c2, decDigits_length]⟩
  unfold z6
  rw [c1, c2, c3, i1, yF, beq_false_of_ne hd0, beq_false_of_ne hd1]; rfl
theorem xR {n : Int} {d : Nat} (hd : 0 < d) : Nat.gcd (n / (Nat.gcd n.natAbs d : Int)).natAbs (d / Nat.gcd n.natAbs d) = 1 ∧ 0 < d / Nat.gcd n.natAbs d ∧
  n / (Nat.gcd n.natAbs d : Int) * (Nat.gcd n.natAbs d : Int) = n ∧ d / Nat.gcd n.natAbs d * Nat.gcd n.natAbs d = d := by
 have hg : 0 < Nat.gcd n.natAbs d := Nat.gcd_pos_of_pos_right _ hd
 have h1 : Nat.gcd n.natAbs d ∣ n.natAbs := Nat.gcd_dvd_left _ _
 have h2 : Nat.gcd n.natAbs d ∣ d := Nat.gcd_dvd_right _ _
 have h3 : ((Nat.gcd n.natAbs d : Nat) : Int) ∣ n := Int.ofNat_dvd_left.2 h1
 have e1 : (n / (Nat.gcd n.natAbs d : Int)).natAbs = n.natAbs / Nat.gcd n.natAbs d := by
  rw [Int.natAbs_ediv_of_dvd h3, Int.natAbs_natCast]
 refine ⟨?_, Nat.div_pos (Nat.le_of_dvd hd h2) hg, Int.ediv_mul_cancel h3, Nat.div_mul_cancel h2⟩
 rw [e1]
 exact Nat.coprime_div_gcd_div_gcd hg
theorem yQ (n : Int) {d : Nat} (hd : 0 < d) : z6 (zt n d) = true ∧ zU (zt n d) = n / (Nat.gcd n.natAbs d : Int) ∧ zS (zt n d) = d / Nat.gcd n.natAbs d ∧ Nat.gcd (zU (zt n d)).natAbs (zS (zt n d)) = 1 := by
 obtain ⟨g1, g2, _, _⟩ := xR (n := n) hd
 obtain ⟨a, b, c, _, _⟩ := y8 (n / (Nat.gcd n.natAbs d : Int)) g2
 unfold zt
 simp_all
theorem ZJ (n : Int) {d : Nat} (hd : 0 < d) : zU (zt n d) * (d : Int) = n * (zS (zt n d) : Int) := by
 obtain ⟨_, b, c, _⟩ := yQ n hd
 obtain ⟨_, _, g3, g4⟩ := xR (n := n) hd
 rw [b, c]
 have g4 : ((d / Nat.gcd n.natAbs d : Nat) : Int) * ((Nat.gcd n.natAbs d : Nat) : Int) = (d : Int) := by exact_mod_cast g4
 grind
theorem Qs {n m : Int} {d e : Nat} (hd : 0 < d) (he : 0 < e) (h1 : Nat.gcd n.natAbs d = 1) (h2 : Nat.gcd m.natAbs e = 1) (h : n * (e : Int) = m * (d : Int)) : n = m ∧ d = e := by
 have ha : n.natAbs * e = m.natAbs * d := by
  have := congrArg Int.natAbs h
  rwa [Int.natAbs_mul, Int.natAbs_mul, Int.natAbs_natCast, Int.natAbs_natCast] at this
 have c1 : Nat.Coprime d n.natAbs := (Nat.coprime_comm).1 h1
 have c2 : Nat.Coprime e m.natAbs := (Nat.coprime_comm).1 h2
 have d1 : d ∣ e := c1.dvd_of_dvd_mul_left ⟨m.natAbs, by rw [ha, Nat.mul_comm]⟩
 have d2 : e ∣ d := c2.dvd_of_dvd_mul_left ⟨n.natAbs, by rw [← ha, Nat.mul_comm]⟩
 have e1 : d = e := Nat.dvd_antisymm d1 d2
 refine ⟨?_, e1⟩
 subst e1
 exact Int.eq_of_mul_eq_mul_right (by omega) h
theorem XP {n m : Int} {d e : Nat} (hd : 0 < d) (he : 0 < e) : zt n d = zt m e ↔ n * (e : Int) = m * (d : Int) := by
 obtain ⟨a1, a2, a3, a4⟩ := yQ n hd
 obtain ⟨b1, b2, b3, b4⟩ := yQ m he
 have v1 := ZJ n hd
 have v2 := ZJ m he
 constructor
 ·intro h
  rw [← h] at v2
  have hp : (0 : Int) < (zS (zt n d) : Int) := by have := yN a1; omega
  refine Int.eq_of_mul_eq_mul_right (a := (zS (zt n d) : Int)) (by omega) ?_
  grind
 ·intro h
  have key : n / (Nat.gcd n.natAbs d : Int) = m / (Nat.gcd m.natAbs e : Int) ∧ d / Nat.gcd n.natAbs d = e / Nat.gcd m.natAbs e := by
   obtain ⟨g1, g2, g3, g4⟩ := xR (n := n) hd
   obtain ⟨k1, k2, k3, k4⟩ := xR (n := m) he
   refine Qs g2 k2 g1 k1 ?_
   have hg : 0 < Nat.gcd n.natAbs d := Nat.gcd_pos_of_pos_right _ hd
   have hk : 0 < Nat.gcd m.natAbs e := Nat.gcd_pos_of_pos_right _ he
   generalize n / (Nat.gcd n.natAbs d : Int) = n' at *
   generalize d / Nat.gcd n.natAbs d = d' at *
   generalize m / (Nat.gcd m.natAbs e : Int) = m' at *
   generalize e / Nat.gcd m.natAbs e = e' at *
   generalize hG : Nat.gcd n.natAbs d = G at *
   generalize hK : Nat.gcd m.natAbs e = K at *
   rw [← g3, ← k3, ← g4, ← k4] at h
   push_cast at h
   have h' : n' * (e' : Int) * ((G : Int) * (K : Int)) = m' * (d' : Int) * ((G : Int) * (K : Int)) := by
    grind
   have hp : (0 : Int) < (G : Int) * (K : Int) := Int.mul_pos (by omega) (by omega)
   exact Int.eq_of_mul_eq_mul_right (by omega) h'
  unfold zt
  simp_all
end Go.Ar

namespace Go.Ar
open Go Go.Sx Go.Lib
set_option maxRecDepth 100000
structure Q5 (k : Nat) (r : zL) (z : Nat) (L : List Int) : Prop where
 le : z ≤ r.length
 len : L.length = (r.length + k - 1) / k
 in_ : ZC (10 ^ k : Nat) L
 zero : ∀ i, z ≤ k * i → L.getD i 0 = 0
 part : L.getD (z / k) 0 < 10 ^ (z % k)
 val : zo (10 ^ k : Nat) L = (zi (r.drop (r.length - z)) : Int)
theorem Q5.start {k : Nat} (hk : 0 < k) (r : zL) : Q5 k r 0 (List.replicate ((r.length + k - 1) / k) 0) := by
 have h10 : 0 < 10 ^ k := Nat.pow_pos (by decide)
 refine ⟨Nat.zero_le _, by simp, .zeros (by omega) _, fun i _ => uf _ _, ?_, ?_⟩
 ·rw [uf, Nat.zero_mod]; decide
 ·rw [wd, Nat.sub_zero, List.drop_of_length_le (Nat.le_refl _)]; rfl
theorem wN {r : zL} {i : Nat} (h : i < r.length) : r.drop i = r.getD i 0 :: r.drop (i + 1) := by
 simp_all
theorem Q5.step {k : Nat} (hk : 0 < k) {r : zL} (hr : ∀ c ∈ r, ZZ c = true) {z : Nat} (hz : z < r.length) {L : List Int} (h : Q5 k r z L) :
  z / k < L.length ∧ Q5 k r (z + 1) (L.set (z / k) (L.getD (z / k) 0 + (WS (r.getD (r.length - 1 - z) 0) : Int) * 10 ^ (z % k))) := by
 have h10 : 0 < 10 ^ k := Nat.pow_pos (by decide)
 have hi : r.length - 1 - z < r.length := by omega
 have hd : ZZ (r.getD (r.length - 1 - z) 0) = true := by
  simp_all
 have hv := ve hd
 have hdm := Nat.div_add_mod z k
 have hmod := Nat.mod_lt z hk
 have hlen : z / k < L.length := by
  rw [h.len]
  have : k * (z / k) < r.length := by omega
  have h2 : (k * (z / k) + k) / k ≤ (r.length + k - 1) / k := Nat.div_le_div_right (by omega)
  rw [Nat.add_div_right _ hk, Nat.mul_div_cancel_left _ hk] at h2
  omega
 have hp := h.part
 have hL := h.in_.get (by omega) (z / k)
 generalize hdd : WS (r.getD (r.length - 1 - z) 0) = d at *
 have hp0 : (0 : Int) < 10 ^ (z % k) := Int.pow_pos (by decide)
 have hdp : (d : Int) * 10 ^ (z % k) ≤ 9 * 10 ^ (z % k) := Int.mul_le_mul_of_nonneg_right (by omega) (Int.le_of_lt hp0)
 have hdp0 : 0 ≤ (d : Int) * 10 ^ (z % k) := Int.mul_nonneg (by omega) (Int.le_of_lt hp0)
 have hnew : L.getD (z / k) 0 + (d : Int) * 10 ^ (z % k) < 10 ^ (z % k + 1) := by rw [Int.pow_succ]; omega
 have hle : (10 : Int) ^ (z % k + 1) ≤ ((10 ^ k : Nat) : Int) := by
  have : 10 ^ (z % k + 1) ≤ 10 ^ k := Nat.pow_le_pow_right (by decide) (by omega)
  grind
 refine ⟨hlen, by omega, by rw [List.length_set]; exact h.len, h.in_.set (by omega) (by omega) _, fun i hzi => ?_, ?_, ?_⟩
 ·have hne : i ≠ z / k := fun e => by
   grind
  rw [yg _ _ _ _ hlen, if_neg hne]
  exact h.zero i (by omega)
 ·by_cases e : (z + 1) % k = 0
  ·have hz1 : k * ((z + 1) / k) = z + 1 := by have := Nat.div_add_mod (z + 1) k; omega
   have hne : (z + 1) / k ≠ z / k := fun e2 => by rw [e2] at hz1; omega
   rw [yg _ _ _ _ hlen, if_neg hne, h.zero _ (by omega)]
   simp_all
  ·have e1 : (z + 1) % k = z % k + 1 ∧ (z + 1) / k = z / k := by
    have h1 : z % k + 1 < k := by
     refine Nat.lt_of_le_of_ne (by omega) fun e2 => e ?_
     have : z + 1 = k * (z / k + 1) := by rw [Nat.mul_add, Nat.mul_one]; omega
     simp_all
    have h2 : z + 1 = k * (z / k) + (z % k + 1) := by omega
    constructor
    ·rw [h2, Nat.mul_add_mod, Nat.mod_eq_of_lt h1]
    ·rw [h2, Nat.mul_add_div hk, Nat.div_eq_of_lt h1, Nat.add_zero]
   simp_all
 ·rw [Y9 _ _ hlen, h.val, show r.length - (z + 1) = r.length - 1 - z by omega, wN hi, Xi, show r.length - 1 - z + 1 = r.length - z by omega, hdd, List.length_drop, show r.length - (r.length - z) = z by omega]
  have e1 : ((10 ^ k : Nat) : Int) ^ (z / k) * (10 : Int) ^ (z % k) = 10 ^ z := by
   have : (10 ^ k) ^ (z / k) * 10 ^ (z % k) = 10 ^ z := by rw [← Nat.pow_mul, ← Nat.pow_add, hdm]
   exact_mod_cast this
  grind
theorem Q5.end_ {k : Nat} (hk : 0 < k) {r : zL} {L : List Int} (h : Q5 k r r.length L) : ya L = Z8 (10 ^ k) (zi r) := by
 have hv := h.val
 rw [Nat.sub_self, List.drop_zero] at hv
 have h2 : 2 ≤ 10 ^ k := by
  grind
 rw [yR h2 h.in_, hv, Int.toNat_natCast]
end Go.Ar

namespace Go.Ar
open Go Go.Sx Go.Lib
set_option maxRecDepth 100000
theorem uT {x y : Nat} (h : y ≠ 0) : Nat.gcd x y = Nat.gcd y (x % y) := by
 rw [Nat.gcd_comm x y, Nat.gcd_rec y x, Nat.gcd_comm]
end Go.Ar

namespace Go.Ar
open Go Go.Sx Go.Lib
set_option maxRecDepth 100000
theorem Pa (c : UInt8) : (Zz (c.toNat : Int) 48 || Zz 57 (c.toNat : Int)) = !ZZ c := by
 unfold ZZ
 rw [Bool.eq_iff_iff, Bool.or_eq_true, zm, zm, Bool.not_eq_true', Bool.and_eq_false_iff]
 constructor
 ·rintro (h | h)
  ·exact .inl (Bool.eq_false_iff.2 fun e => by have := Nat.le_of_ble_eq_true e; omega)
  ·exact .inr (Bool.eq_false_iff.2 fun e => by have := Nat.le_of_ble_eq_true e; omega)
 ·rintro (h | h)
  ·exact .inl (by have : ¬ 48 ≤ c.toNat := fun e => by rw [Nat.ble_eq_true_of_le e] at h; cases h
                  omega)
  ·exact .inr (by have : ¬ c.toNat ≤ 57 := fun e => by rw [Nat.ble_eq_true_of_le e] at h; cases h
                  omega)
theorem XQ (c : UInt8) (n : Nat) (hn : n < 256) : ((c.toNat : Int) == (n : Int)) = (c == UInt8.ofNat n) := by
 rw [Bool.eq_iff_iff, beq_iff_eq, beq_iff_eq]
 constructor
 ·intro h
  have : c.toNat = n := by omega
  rw [← this, UInt8.ofNat_toNat]
 ·intro h
  subst h
  rw [UInt8.toNat_ofNat']
  omega
theorem xp {a : zL} (h : ¬ (0 < a.length ∧ a.getD 0 0 = 45)) : ZX a = Zt a ∧ Yu a = a.length ∧ zu a = (zi a : Int) := by
 match a, h with
 | [], _ => exact ⟨rfl, rfl, rfl⟩
 | c :: r, h =>
  have hc : c ≠ 45 := fun e => h ⟨by simp, e⟩
  refine ⟨?_, ?_, ?_⟩
  ·unfold ZX; split
   all_goals simp_all
  ·unfold Yu; split
   all_goals simp_all
  ·unfold zu; split
   all_goals simp_all
theorem vO {a : zL} (h0 : 0 < a.length) (h : a.getD 0 0 = 45) : a = 45 :: a.drop 1 ∧ ZX a = (Zt (a.drop 1) && !(a.drop 1 == [48])) ∧ Yu a = a.length - 1 ∧ zu a = -(zi (a.drop 1) : Int) := by
 match a, h0, h with
 | c :: r, _, h =>
  have hc : c = 45 := h
  subst hc
  exact ⟨rfl, rfl, rfl, rfl⟩
theorem R5 {a : zL} (h : ZX a = true) : YE a = bif Nat.blt 300 (Yu a) then 4 else 0 := by unfold YE; rw [h]; rfl
theorem SN {a : zL} (h : ¬ ZX a = true) : YE a = 11 := by unfold YE; rw [Bool.eq_false_iff.2 h]; rfl
end Go.Ar

namespace Go.Ar
open Go Go.Sx Go.Lib
set_option maxRecDepth 100000
theorem U6 {l : zL} {i : Nat} (h : i < l.length) : l.take (i + 1) = l.take i ++ [l.getD i 0] := by
 simp_all
structure Pn where
 k : Nat
 L : List Int
structure py (s : zL) (z : Pn) : Prop where
 le : 6 * z.k ≤ s.length + 5
 len : z.L.length = z.k
 in_ : ZC 1000000 z.L
 val : zo 1000000 z.L = (zi (s.drop (s.length - 6 * z.k)) : Int)
theorem py.start (s : zL) : py s ⟨0, []⟩ := ⟨by simp, rfl, .nil _, by rw [Nat.mul_zero, Nat.sub_zero, List.drop_length]; rfl⟩
def X7 (s : zL) (k i : Nat) : zL := (s.take i).drop (s.length - 6 * k - 6)
theorem Ts {s : zL} {k i : Nat} (h1 : i ≤ s.length - 6 * k) : (X7 s k i).length ≤ 6 := by
 unfold X7
 grind
theorem Sa {s : zL} (hs : ∀ c ∈ s, ZZ c = true) (k i : Nat) : (X7 s k i).all ZZ = true := by
 rw [List.all_eq_true]
 intro c hc
 exact hs c (List.mem_of_mem_take (List.mem_of_mem_drop hc))
theorem S7 {s : zL} (hs : ∀ c ∈ s, ZZ c = true) {k i : Nat} (h1 : i ≤ s.length - 6 * k) : (zi (X7 s k i) : Int) < 1000000 := by
 have h2 := Xr (Sa hs k i)
 have h3 : 10 ^ (X7 s k i).length ≤ 10 ^ 6 := Nat.pow_le_pow_right (by decide) (Ts h1)
 omega
theorem py.step {s : zL} (hs : ∀ c ∈ s, ZZ c = true) {z : Pn} (h : py s z) (hz : 6 * z.k < s.length) : py s ⟨z.k + 1, z.L ++ [(zi (X7 s z.k (s.length - 6 * z.k)) : Int)]⟩ := by
 refine ⟨by simp only; omega, by simp [h.len], h.in_.snoc (by omega) (S7 hs (Nat.le_refl _)), ?_⟩
 show zo 1000000 (z.L ++ [_]) = (zi (s.drop (s.length - 6 * (z.k + 1))) : Int)
 rw [Yo, h.val, h.len]
 have e : s.drop (s.length - 6 * (z.k + 1)) = X7 s z.k (s.length - 6 * z.k) ++ s.drop (s.length - 6 * z.k) := by
  unfold X7
  rw [show s.length - 6 * (z.k + 1) = s.length - 6 * z.k - 6 by omega]
  have e1 := List.drop_append_of_le_length (l₁ := s.take (s.length - 6 * z.k)) (l₂ := s.drop (s.length - 6 * z.k)) (i := s.length - 6 * z.k - 6) (by rw [List.length_take]; omega)
  simp_all
 rw [e, uu, List.length_drop, show s.length - (s.length - 6 * z.k) = 6 * z.k by omega]
 have e2 : (1000000 : Int) ^ z.k = ((10 ^ (6 * z.k) : Nat) : Int) := by
  have e3 : 1000000 ^ z.k = 10 ^ (6 * z.k) := by rw [Nat.pow_mul]
  grind
 grind
theorem py.end_ {s : zL} {z : Pn} (h : py s z) (hz : s.length ≤ 6 * z.k) : ya z.L = Z8 1000000 (zi s) := by
 have hv := h.val
 rw [show s.length - 6 * z.k = 0 by omega, List.drop_zero] at hv
 have := yR (b := 1000000) (by decide) h.in_
 simp_all
end Go.Ar

namespace Go.Ar
open Go Go.Sx Go.Lib
set_option maxRecDepth 100000
theorem Sb {s : zL} {i : Nat} (h : i < s.length) : s.getD i 0 ∈ s := by
 simp_all
theorem Wt {s : zL} {c : UInt8} (h : c ∈ s) : ∃ i, i < s.length ∧ s.getD i 0 = c := by
 obtain ⟨i, hi, rfl⟩ := List.mem_iff_getElem.1 h
 exact ⟨i, hi, by rw [List.getD_eq_getElem?_getD, List.getElem?_eq_getElem hi]; rfl⟩
theorem getD_takeS {s : zL} {z i : Nat} (h : i < z) : (s.take z).getD i 0 = s.getD i 0 := by
 simp_all
theorem QS {s : zL} {z : Nat} (hz : z < s.length) (h : ∀ i, i < z → s.getD i 0 ≠ 47) (e : s.getD z 0 = 47) :
  zR s = s.take z ∧ zI s = s.drop (z + 1) ∧ zr s = true := by
 have e1 : s.take z ++ 47 :: s.drop (z + 1) = s := by
  conv => rhs; rw [← List.take_append_drop z s]
  congr 1
  rw [List.drop_eq_getElem_cons hz, ← e, List.getD_eq_getElem?_getD, List.getElem?_eq_getElem hz]; rfl
 have h1 : ∀ c ∈ s.take z, (c != 47) = true := by
  intro c hc
  obtain ⟨i, hi, rfl⟩ := Wt hc
  grind
 have := Wj (b := s.drop (z + 1)) h1
 simp_all
theorem SY {s : zL} (h : ∀ i, i < s.length → s.getD i 0 ≠ 47) : zr s = false ∧ zR s = s ∧ zI s = [] := by
 have hs : zr s = false := wM fun c hc => by
  obtain ⟨i, hi, rfl⟩ := Wt hc
  simp_all
 exact ⟨hs, Z6 hs⟩
def zE (a : zL) : Bool := a.getD 0 0 == 45
def zv (a : zL) : zL := bif zE a then a.drop 1 else a
theorem XY (a : zL) : (zv a).length ≤ a.length := by
 unfold zv
 grind
theorem Sv (s : zL) : (zR s).length ≤ s.length := by
 unfold zR
 exact List.Sublist.length_le (List.takeWhile_sublist _)
theorem V9 (s : zL) : (zI s).length ≤ s.length := by
 unfold zI
 rw [List.length_drop]
 have := List.Sublist.length_le (List.dropWhile_sublist (· != (47 : UInt8)) (l := s))
 omega
theorem TM (a : zL) : (zE a = true ∧ a = 45 :: zv a) ∨ (zE a = false ∧ zv a = a ∧ ¬ (0 < (zR a).length ∧ (zR a).getD 0 0 = 45)) := by
 unfold zv zE
 match a with
 | [] => exact .inr ⟨rfl, rfl, fun h => by cases h.1⟩
 | c :: r =>
  by_cases hc : c = 45
  ·simp_all
  ·have e : ((c :: r).getD 0 0 == (45 : UInt8)) = false := beq_eq_false_iff_ne.2 hc
   rw [e]
   refine .inr ⟨rfl, rfl, fun h => ?_⟩
   unfold zR at h
   rw [List.takeWhile_cons] at h
   grind
theorem qb (r : zL) : zR (45 :: r) = 45 :: zR r ∧ zI (45 :: r) = zI r ∧ zr (45 :: r) = zr r := by
 refine ⟨?_, ?_, ?_⟩
 all_goals rfl
theorem yU (a : zL) : zR a = (bif zE a then 45 :: zR (zv a) else zR (zv a)) ∧ zI a = zI (zv a) ∧ zr a = zr (zv a) ∧
  ZX (zR a) = (Zt (zR (zv a)) && !(zE a && zR (zv a) == [48])) ∧ Yu (zR a) = (zR (zv a)).length ∧
  zU a = (bif zE a then -(zi (zR (zv a)) : Int) else (zi (zR (zv a)) : Int)) ∧ zS a = (bif zr (zv a) then zi (zI (zv a)) else 1) := by
 rcases TM a with ⟨h1, h2⟩ | ⟨h1, h2, h3⟩
 ·obtain ⟨c1, c2, c3⟩ := qb (zv a)
  rw [← h2] at c1 c2 c3
  unfold zU zS
  rw [c1, c2, c3, h1]
  exact ⟨rfl, rfl, rfl, by show (Zt _ && _) = _; simp, rfl, rfl, rfl⟩
 ·obtain ⟨p1, p2, p3⟩ := xp h3
  unfold zU zS
  simp_all
theorem uz (a : zL) : (zU a).natAbs = zi (zR (zv a)) := by
 obtain ⟨_, _, _, _, _, h, _⟩ := yU a
 grind
def Xs (a : zL) : Bool := Zt (zR (zv a)) && !(zE a && zR (zv a) == [48]) && (!zr (zv a) || Zt (zI (zv a)) && !(zI (zv a) == [48]) && !(zI (zv a) == [49]))
theorem XG (a : zL) : z6 a = Xs a := by
 obtain ⟨h1, h2, h3, h4, _⟩ := yU a
 unfold z6 Xs
 simp_all
theorem Su {a : zL} (h : Xs a = false) : Zj a = 11 := by
 unfold Zj
 rw [XG, h]; rfl
theorem uF {a : zL} (h : Xs a = true) (hl : (zR (zv a)).length ≤ 300 ∧ (zI (zv a)).length ≤ 300) (hs : zr (zv a) = true) :
  Zj a = bif Nat.beq (Nat.gcd (zi (zR (zv a))) (zi (zI (zv a)))) 1 then 0 else 11 := by
 obtain ⟨_, h2, _, _, h5, _, h7⟩ := yU a
 unfold Zj
 rw [XG, h, h5, h2, uz, h7, hs, show (Nat.blt 300 (zR (zv a)).length || Nat.blt 300 (zI (zv a)).length) = false by
  rw [Bool.or_eq_false_iff, Bool.eq_false_iff, Bool.eq_false_iff, Ne, Ne, zf, zf]; omega]
 rfl
theorem sM {a : zL} (h : Xs a = true) (hl : (zR (zv a)).length ≤ 300) (hs : zr (zv a) = false) : Zj a = 0 := by
 obtain ⟨_, h2, _, _, h5, _, h7⟩ := yU a
 have hd : zI (zv a) = [] := (Z6 hs).2
 unfold Zj
 rw [XG, h, h5, h2, h7, hs, hd, show (Nat.blt 300 (zR (zv a)).length || Nat.blt 300 ([] : zL).length) = false by
  rw [Bool.or_eq_false_iff, Bool.eq_false_iff, Bool.eq_false_iff, Ne, Ne, zf, zf]
  simp_all]
 simp
theorem xf {s : zL} (h : Zt s = true) {k : Nat} (hl : s.length ≤ k) : zi s < 10 ^ k := by
 have h1 := Xr (l := s) (List.all_eq_true.2 (ZT.1 h).2.1)
 exact Nat.lt_of_lt_of_le h1 (Nat.pow_le_pow_right (by omega) hl)
end Go.Ar

namespace Go.Ar
open Go Go.Sx Go.Lib
set_option maxRecDepth 100000
class xw (α : Type) [yo α] : Prop where
 dec : ∀ a : α, yo.dec (yo.enc a) = a
 ok : ∀ a : α, yo.ok (α := α) (yo.enc a) = true
theorem tA {f : Nat → Bool} : ∀ {n : Nat}, (∀ i, i < n → f i = true) → wa f n = true
 | 0, _ => rfl
 | n + 1, h => by simp only [wa, Bool.and_eq_true]; exact ⟨tA fun i hi => h i (by omega), h n (by omega)⟩
section
variable {α : Type} [yo α] [xw α]
theorem VY (f : Bool) (l : List α) (n : Nat) : pX (AV.xl f n l.length fun i j => yo.enc (l.getD i yo.dflt) j) = l := by
 show Vx l.length (fun i => yo.dec (yo.enc (l.getD i yo.dflt))) = l
 simp only [xw.dec]
 exact u6 l _
theorem tc (f : Bool) (l : List α) : SX α (AV.xl f (yo.n α) l.length fun i j => yo.enc (l.getD i yo.dflt) j) = true := by
 show (Nat.beq (yo.n α) (yo.n α) && wa (fun i => yo.ok (α := α) (yo.enc (l.getD i yo.dflt))) l.length) = true
 rw [Bool.and_eq_true]
 exact ⟨Nat.beq_refl _, tA fun i _ => xw.ok _⟩
end
instance : xw Int := ⟨fun _ => rfl, fun _ => rfl⟩
instance : xw Bool := ⟨fun _ => rfl, fun _ => rfl⟩
instance : xw (List UInt8) := ⟨fun _ => rfl, fun _ => rfl⟩
theorem pq (k : IntKind) (n : Int) : AV.int (.v (.int k n)) = n := rfl
theorem xU (z : Nat) : Zz 0 (z : Int) = Nat.blt 0 z := by rw [Bool.eq_iff_iff, zm, zf]; omega
theorem sO {A B : Prop} : zw true A B ↔ A := by simp [zT]
theorem po {A B : Prop} : zw false A B ↔ B := by simp [zT]
def vf (x : AV) : List Int := pX x
theorem Po (f : Bool) (l : List Int) : SX Int (AV.xl f 1 l.length fun i j => AV.v (Value.int IntKind.i64 (l.getD i 0))) = true := tc f l
theorem p6 (f : Bool) (l : List Int) : SX Int (AV.xl f 1 l.length fun i j => AV.v (Value.int IntKind.i64 (l.getD i yo.dflt))) = true := tc f l
theorem P7 (f : Bool) (l : List Int) : pX (AV.xl f 1 l.length fun i j => AV.v (Value.int IntKind.i64 (l.getD i 0))) = l := VY f l 1
theorem Pk (f : Bool) (l : List Int) : pX (AV.xl f 1 l.length fun i j => AV.v (Value.int IntKind.i64 (l.getD i yo.dflt))) = l := VY f l 1
theorem PP (f : Bool) (l : List Int) : vf (AV.xl f 1 l.length fun i j => AV.v (Value.int IntKind.i64 (l.getD i 0))) = l := VY f l 1
theorem p8 (f : Bool) (l : List Int) : vf (AV.xl f 1 l.length fun i j => AV.v (Value.int IntKind.i64 (l.getD i yo.dflt))) = l := VY f l 1
theorem vv {c : Bool} {A B : Prop} (h : c = true) (ha : A) : zw c A B := by rw [h, sO]; exact ha
theorem sS : (∀ x : AV, Z5 x x) ∧ (∀ p : Prop, (True ∧ p) = p) ∧ (∀ p : Prop, (p ∧ True) = p) ∧ (∀ x : Bool, zq true x = x) ∧ (∀ x : Bool, zq false x = !x) ∧
  (∀ {x : Bool} {A : Prop}, zw (!x || x) A False ↔ A) ∧ (∀ a b : Bool, (bif a then true else b) = (a || b)) ∧ (∀ a b : Bool, (bif a then b else false) = (a && b)) ∧
  (∀ {x : Bool} {p : Prop} [DB p] {A : Prop}, zw (!x || DB.db p) A False ↔ (x = true → p) ∧ A) ∧ (∀ {p : Prop} [DB p] {A : Prop}, zw (DB.db p) A False ↔ p ∧ A) ∧
  (∀ {a b : Int} {A B : Prop}, zw (Zz a b) A B ↔ (a < b → A) ∧ (b ≤ a → B)) ∧ (∀ {a b : Int} {A B : Prop}, zw (leB a b) A B ↔ (a ≤ b → A) ∧ (b < a → B)) ∧
  (∀ {a b : Int} {A B : Prop}, zw (a != b) A B ↔ (a ≠ b → A) ∧ (a = b → B)) ∧ (∀ {a b : Int} {A B : Prop}, zw (a == b) A B ↔ (a = b → A) ∧ (a ≠ b → B)) ∧
  (∀ {A B : Prop}, zw true A B ↔ A) ∧ (∀ n : Nat, (n : Int).toNat = n) ∧ (∀ n : Nat, 0 + n = n) ∧ (∀ n : Nat, 0 ≤ n) ∧ (∀ n : Nat, n - 0 = n) ∧
  (∀ (k : IntKind) (n : Int), AV.int (.v (.int k n)) = n) ∧ (∀ b : Bool, (b || true) = true) ∧ (∀ {α : Type} (a b : α), (bif true then a else b) = a) ∧ (∀ {α : Type} (a b : α), (bif false then a else b) = b) :=
 ⟨zX, true_and, and_true, TE, Un, Q9, qE, qy, QJ, pS, pC, pW, Pw, PX, sO, Int.toNat_natCast, Nat.zero_add, Nat.zero_le, Nat.sub_zero, pq, Bool.or_true, cond_true, cond_false⟩
theorem dS : (∀ (f : Bool) (l : List Int), SX Int (AV.xl f 1 l.length fun i j => AV.v (Value.int IntKind.i64 (l.getD i 0))) = true) ∧ (∀ (f : Bool) (l : List Int), SX Int (AV.xl f 1 l.length fun i j => AV.v (Value.int IntKind.i64 (l.getD i yo.dflt))) = true) ∧
  (∀ (f : Bool) (l : List Int), pX (AV.xl f 1 l.length fun i j => AV.v (Value.int IntKind.i64 (l.getD i 0))) = l) ∧ (∀ (f : Bool) (l : List Int), pX (AV.xl f 1 l.length fun i j => AV.v (Value.int IntKind.i64 (l.getD i yo.dflt))) = l) ∧
  (∀ (f : Bool) (l : List Int), vf (AV.xl f 1 l.length fun i j => AV.v (Value.int IntKind.i64 (l.getD i 0))) = l) ∧ (∀ (f : Bool) (l : List Int), vf (AV.xl f 1 l.length fun i j => AV.v (Value.int IntKind.i64 (l.getD i yo.dflt))) = l) :=
 ⟨Po, p6, P7, Pk, PP, p8⟩
def pM : List zO → Prop
 | [] => True
 | p :: ps => p.holds ∧ pM ps
theorem Zr : ∀ {ps : List zO}, (∀ p ∈ ps, p.holds) → pM ps
 | [], _ => trivial
 | _ :: _, h => ⟨h _ List.mem_cons_self, Zr fun q hq => h q (List.mem_cons_of_mem _ hq)⟩
abbrev bF (t : Bool) (A : Prop) : Prop := zw t A False
abbrev dK (x : Int) : Bool := DB.db (Ys .i64 x)
abbrev bA (a : Array UInt8) : List UInt8 := Array.toList (ByteArray.data (ByteArray.mk a))
abbrev nX : Nat := 9223372036854775807
abbrev nM : Nat := 4294967280
abbrev cI (n : Nat) : Int := n
abbrev kI : Prop := IntKind.i64 = .i64
abbrev j2 : Prop := 2 = List.length [AV.junk, AV.junk]
abbrev lN {α : Type} (l : List α) : Nat := List.length l
abbrev lZ {α : Type} (l : List α) : Int := (↑(List.length l) : Int)
abbrev gD {α : Type} (l : List α) (i : Nat) (d : α) : α := List.getD l i d
abbrev iZ : Int := 0
abbrev iO : Int := 1
abbrev iX : Int := 9223372036854775807
abbrev iN : Int := -9223372036854775808
abbrev aI (n : Int) : AV := AV.v (Value.int .i64 n)
end Go.Ar
