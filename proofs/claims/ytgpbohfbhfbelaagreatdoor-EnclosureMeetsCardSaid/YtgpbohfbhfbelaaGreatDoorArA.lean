/- Decimal strings of integers: what they are and what they mean. -/
import Derived.Test.YtgpbohfbhfbelaaGreatDoorSxU
import Derived.Lib.ItoaLen
set_option linter.unusedSimpArgs false
set_option linter.unusedVariables false
namespace Go.Ar
open Go Go.Sx Go.Lib
set_option maxRecDepth 100000
abbrev zL := List UInt8
def Zs (c : UInt8) : Bool := Nat.ble 48 c.toNat && Nat.ble c.toNat 57
def vZ (c : UInt8) : Nat := c.toNat - 48
def kX (d : Nat) : UInt8 := UInt8.ofNat (48 + d)
theorem yR {c : UInt8} : Zs c = true ↔ 48 ≤ c.toNat ∧ c.toNat ≤ 57 := by
 unfold Zs
 simp
theorem ww {d : Nat} (h : d < 10) : (kX d).toNat = 48 + d := by
 unfold kX
 rw [UInt8.toNat_ofNat']
 omega
theorem tV {d : Nat} (h : d < 10) : Zs (kX d) = true := by rw [yR, ww h]; omega
theorem Rp {d : Nat} (h : d < 10) : vZ (kX d) = d := by unfold vZ; rw [ww h]; omega
theorem oL {c : UInt8} (h : Zs c = true) : kX (vZ c) = c := by
 rw [yR] at h
 refine UInt8.toNat_inj.1 ?_
 rw [ww (by unfold vZ; omega)]
 unfold vZ
 omega
theorem U8 {c : UInt8} (h : Zs c = true) : vZ c < 10 := by rw [yR] at h; unfold vZ; omega
def zm (l : zL) : Nat := l.foldl (fun a c => 10 * a + vZ c) 0
theorem Y5 (l : zL) (c : UInt8) : zm (l ++ [c]) = 10 * zm l + vZ c := by unfold zm; rw [List.foldl_append]; rfl
theorem fold_acc (l : zL) : ∀ a : Nat, l.foldl (fun a c => 10 * a + vZ c) a = a * 10 ^ l.length + zm l := by
 induction l with
 | nil => intro a; simp [zm]
 | cons c l ih =>
  intro a
  unfold zm
  grind
theorem To (a b : zL) : zm (a ++ b) = zm a * 10 ^ b.length + zm b := by
 conv => lhs; unfold zm
 rw [List.foldl_append, fold_acc]; rfl
theorem YI (c : UInt8) (l : zL) : zm (c :: l) = vZ c * 10 ^ l.length + zm l := by
 have := To [c] l
 simpa [zm] using this
theorem Xh {l : zL} (h : l.all Zs = true) : zm l < 10 ^ l.length := by
 induction l with
 | nil => simp [zm]
 | cons c l ih =>
  rw [List.all_cons, Bool.and_eq_true] at h
  have h1 := ih h.2
  have h2 := U8 h.1
  rw [YI, List.length_cons, Nat.pow_succ]
  generalize 10 ^ l.length = p at *
  have : vZ c * p ≤ 9 * p := Nat.mul_le_mul_right p (by omega)
  omega
def z6 (l : zL) : Bool := Nat.blt 0 l.length && l.all Zs && !(Nat.blt 1 l.length && (l.getD 0 0 == 48))
theorem z7 {u : Nat} (h : u < 10) : decDigits u = [kX u] := by rw [decDigits, dif_pos h]; rfl
theorem xn {u : Nat} (h : ¬ u < 10) : decDigits u = decDigits (u / 10) ++ [kX (u % 10)] := by rw [decDigits, dif_neg h]; rfl
theorem Xe (u : Nat) : (decDigits u).all Zs = true := by
 induction u using Nat.strongRecOn with
 | _ u ih =>
  by_cases h : u < 10
  ·rw [z7 h]; simp [tV h]
  ·rw [xn h, List.all_append, ih (u / 10) (by omega)]
   simp [tV (Nat.mod_lt u (by decide : 10 > 0))]
theorem Zd (u : Nat) : zm (decDigits u) = u := by
 induction u using Nat.strongRecOn with
 | _ u ih =>
  by_cases h : u < 10
  ·rw [z7 h]
   show 10 * 0 + vZ (kX u) = u
   rw [Rp h]; omega
  ·rw [xn h, Y5, ih (u / 10) (by omega), Rp (Nat.mod_lt u (by decide : 10 > 0))]
   omega
theorem yA (u : Nat) : 0 < (decDigits u).length := by rw [decDigits_length]; exact nDigits_pos u
theorem XS {u : Nat} (h : u ≠ 0) : (decDigits u).getD 0 0 ≠ 48 := by
 induction u using Nat.strongRecOn with
 | _ u ih =>
  by_cases h1 : u < 10
  ·rw [z7 h1]
   intro e
   have e : kX u = 48 := e
   have := congrArg UInt8.toNat e
   rw [ww h1] at this
   simp_all
  ·rw [xn h1, List.getD_eq_getElem?_getD, List.getElem?_append_left (yA _), ← List.getD_eq_getElem?_getD]
   grind
theorem Xm (u : Nat) : z6 (decDigits u) = true := by
 unfold z6
 rw [Xe, (zA _ _).2 (yA u)]
 by_cases h : u = 0
 ·subst h
  rw [z7 (by decide)]; rfl
 ·rw [beq_false_of_ne (XS h), Bool.and_false]; rfl
theorem Zx {l : zL} : z6 l = true ↔ 0 < l.length ∧ (∀ c ∈ l, Zs c = true) ∧ (1 < l.length → l.getD 0 0 ≠ 48) := by
 unfold z6
 rw [Bool.and_eq_true, Bool.and_eq_true, zA, List.all_eq_true, Bool.not_eq_true', Bool.and_eq_false_iff]
 constructor
 ·rintro ⟨⟨h1, h2⟩, h3⟩
  refine ⟨h1, h2, fun h4 => ?_⟩
  rcases h3 with h3 | h3
  ·rw [(zA _ _).2 h4] at h3; cases h3
  simp_all
 ·rintro ⟨h1, h2, h3⟩
  refine ⟨⟨h1, h2⟩, ?_⟩
  by_cases h4 : 1 < l.length
  ·simp_all
  ·exact .inl (by rw [Bool.eq_false_iff]; intro e; exact h4 ((zA _ _).1 e))
theorem j0 {l : zL} (h : 0 < l.length) : ∃ a c, l = a ++ [c] := by
 have hn : l ≠ [] := fun e => by rw [e] at h; cases h
 exact ⟨l.dropLast, l.getLast hn, (List.dropLast_concat_getLast hn).symm⟩
theorem Zl {l : zL} (h : z6 l = true) : decDigits (zm l) = l := by
 generalize hn : l.length = n
 induction n generalizing l with
 | zero => obtain ⟨h1, _⟩ := Zx.1 h; omega
 | succ n ih =>
  obtain ⟨h1, h2, h3⟩ := Zx.1 h
  obtain ⟨a, c, rfl⟩ := j0 h1
  have hc : Zs c = true := h2 c (by simp)
  have hl : a.length = n := by simpa using hn
  rw [Y5]
  by_cases ha : a.length = 0
  ·obtain rfl := List.length_eq_zero_iff.1 ha
   have : 10 * zm [] + vZ c = vZ c := by simp [zm]
   rw [this, z7 (U8 hc), oL hc]; rfl
  ·have hg : (a ++ [c]).getD 0 0 = a.getD 0 0 := by
    grind
   have ha0 : a.getD 0 0 ≠ 48 := by rw [← hg]; exact h3 (by simp; omega)
   have hda : z6 a = true := Zx.2 ⟨by omega, fun x hx => h2 x (List.mem_append_left _ hx), fun _ => ha0⟩
   have ih' := ih hda hl
   have hv := U8 hc
   have hpos : zm a ≠ 0 := fun e => by
    rw [e, z7 (by decide)] at ih'
    rw [← ih'] at ha0
    exact ha0 rfl
   rw [xn (by omega), show (10 * zm a + vZ c) / 10 = zm a by omega, show (10 * zm a + vZ c) % 10 = vZ c by omega, ih', oL hc]
def zC (s : zL) : Bool := match s with | 45 :: r => z6 r && !(r == [48]) | r => z6 r
def zV (s : zL) : Int := match s with | 45 :: r => -(zm r : Int) | r => (zm r : Int)
theorem ym (n : Nat) : itoa (n : Int) = decDigits n := by unfold itoa; rw [if_neg (by omega), Int.toNat_natCast]
theorem itoa_neg {n : Nat} (h : n ≠ 0) : itoa (-(n : Int)) = 45 :: decDigits n := by
 unfold itoa
 simp_all
theorem wJ {r : zL} (h : z6 (45 :: r) = true) : False := by
 have := (Zx.1 h).2.1 45 List.mem_cons_self
 rw [yR] at this
 simp_all
theorem XV {r : zL} (h : z6 r = true) : zC r = true ∧ zV r = (zm r : Int) := by
 match r, h with
 | [], h => exact ⟨h, rfl⟩
 | c :: r, h =>
  by_cases hc : c = 45
  ·subst hc; exact (wJ h).elim
  ·constructor
   ·unfold zC; split
    all_goals simp_all
   ·unfold zV; split
    all_goals simp_all
theorem ya (n : Int) : zC (itoa n) = true ∧ zV (itoa n) = n := by
 by_cases h : n < 0
 ·obtain ⟨m, rfl⟩ : ∃ m : Nat, n = -(m : Int) := ⟨n.natAbs, by omega⟩
  have hm : m ≠ 0 := by omega
  rw [itoa_neg hm]
  refine ⟨?_, ?_⟩
  ·show (z6 (decDigits m) && !(decDigits m == [48])) = true
   rw [Xm]
   have : decDigits m ≠ [48] := fun e => XS hm (by rw [e]; rfl)
   simp_all
  ·show -((zm (decDigits m) : Nat) : Int) = _
   rw [Zd]
 ·obtain ⟨m, rfl⟩ : ∃ m : Nat, n = (m : Int) := ⟨n.toNat, by omega⟩
  rw [ym]
  obtain ⟨a, b⟩ := XV (Xm m)
  exact ⟨a, by rw [b, Zd]⟩
theorem uw {r : zL} (h : z6 r = true) (h0 : zm r = 0) : r = [48] := by
 have := Zl h
 rw [h0, z7 (by decide)] at this
 exact this.symm
theorem yQ {s : zL} (h : zC s = true) : (∃ r, s = 45 :: r ∧ z6 r = true ∧ zm r ≠ 0 ∧ zV s = -(zm r : Int)) ∨ (z6 s = true ∧ zV s = (zm s : Int)) := by
 unfold zC at h
 split at h
 ·rename_i r
  rw [Bool.and_eq_true, Bool.not_eq_true'] at h
  refine .inl ⟨r, rfl, h.1, fun e => ?_, rfl⟩
  have := uw h.1 e
  simp_all
 ·exact .inr ⟨h, (XV h).2⟩
theorem x9 {s : zL} (h : zC s = true) : itoa (zV s) = s := by
 rcases yQ h with ⟨r, rfl, h1, h2, h3⟩ | ⟨h1, h2⟩
 ·rw [h3, itoa_neg h2, Zl h1]
 ·rw [h2, ym, Zl h1]
def TA (n : Int) : Nat := nDigits n.natAbs
theorem WQ (n : Int) : (itoa n).length = TA n + if n < 0 then 1 else 0 := by
 unfold itoa TA
 by_cases h : n < 0
 ·rw [if_pos h, if_pos h, List.length_cons, decDigits_length]
 ·rw [if_neg h, if_neg h, decDigits_length, show n.toNat = n.natAbs by omega]; rfl
theorem Ua : ∀ {k u : Nat}, u < 10 ^ (k + 1) → nDigits u ≤ k + 1
 | 0, u, h => by rw [nDigits_small (by simpa using h)]; exact Nat.le_refl _
 | k + 1, u, h => by
  by_cases hu : u < 10
  ·rw [nDigits_small hu]; omega
  ·rw [nDigits_big hu]
   have := Ua (k := k) (u := u / 10) (by rw [Nat.pow_succ] at h; omega)
   omega
theorem yJ {k u : Nat} (hk : 0 < k) : nDigits u ≤ k ↔ u < 10 ^ k := by
 constructor
 ·intro h
  exact Nat.lt_of_lt_of_le (lt_pow_nDigits u) (Nat.pow_le_pow_right (by decide) h)
 ·intro h
  obtain ⟨m, rfl⟩ : ∃ m, k = m + 1 := ⟨k - 1, by omega⟩
  exact Ua h
theorem qN {l : zL} (h : z6 l = true) : l.length = nDigits (zm l) := by
 conv => lhs; rw [← Zl h]
 rw [decDigits_length]
end Go.Ar

namespace Go.Ar
open Go Go.Sx Go.Lib
set_option maxRecDepth 100000
def zX (b : Int) : List Int → Int
 | [] => 0
 | x :: l => x + b * zX b l
def z8 (b : Int) (l : List Int) : Prop := ∀ x ∈ l, 0 ≤ x ∧ x < b
def zO : List Int → List Int
 | [] => []
 | x :: l => if zO l = [] ∧ x = 0 then [] else x :: zO l
def zw (b n : Nat) : List Int :=
 if h : n = 0 ∨ b < 2 then [] else ((n % b : Nat) : Int) :: zw b (n / b)
termination_by n
decreasing_by
 have h2 : n / b < n := Nat.div_lt_self (by omega) (by omega)
 exact h2
theorem ZN (b : Nat) : zw b 0 = [] := by rw [zw, dif_pos (.inl rfl)]
theorem XX {b n : Nat} (hb : 2 ≤ b) (h : n ≠ 0) : zw b n = ((n % b : Nat) : Int) :: zw b (n / b) := by
 conv => lhs; rw [zw]
 simp_all
theorem z8.nil (b : Int) : z8 b [] := fun _ h => by cases h
theorem z8.tail {b x : Int} {l : List Int} (h : z8 b (x :: l)) : z8 b l := fun y hy => h y (List.mem_cons_of_mem _ hy)
theorem z8.head {b x : Int} {l : List Int} (h : z8 b (x :: l)) : 0 ≤ x ∧ x < b := h x List.mem_cons_self
theorem z8.app {b : Int} {l m : List Int} (h : z8 b l) (h2 : z8 b m) : z8 b (l ++ m) := fun x hx => (List.mem_append.1 hx).elim (h x) (h2 x)
theorem z8.one {b x : Int} (h0 : 0 ≤ x) (h1 : x < b) : z8 b [x] := fun y hy => by rw [List.mem_singleton] at hy; subst hy; exact ⟨h0, h1⟩
theorem z8.snoc {b x : Int} {l : List Int} (h : z8 b l) (h0 : 0 ≤ x) (h1 : x < b) : z8 b (l ++ [x]) := h.app (.one h0 h1)
theorem z8.take {b : Int} {l : List Int} (h : z8 b l) (n : Nat) : z8 b (l.take n) := fun x hx => h x (List.mem_of_mem_take hx)
theorem z8.drop {b : Int} {l : List Int} (h : z8 b l) (n : Nat) : z8 b (l.drop n) := fun x hx => h x (List.mem_of_mem_drop hx)
theorem z8.get {b : Int} {l : List Int} (h : z8 b l) (hb : 0 < b) (i : Nat) : 0 ≤ l.getD i 0 ∧ l.getD i 0 < b := by
 rw [List.getD_eq_getElem?_getD]
 by_cases hi : i < l.length
 ·rw [List.getElem?_eq_getElem hi]; exact h _ (List.getElem_mem hi)
 simp_all
theorem z8.set {b x : Int} {l : List Int} (h : z8 b l) (h0 : 0 ≤ x) (h1 : x < b) (i : Nat) : z8 b (l.set i x) := fun y hy => by
 rcases List.mem_or_eq_of_mem_set hy with hy | rfl
 ·exact h y hy
 omega
theorem zK {b : Int} (hb : 0 ≤ b) : ∀ {l : List Int}, z8 b l → 0 ≤ zX b l
 | [], _ => Int.le_refl _
 | x :: l, h => by
  have h1 := h.head
  have h2 := Int.mul_nonneg hb (zK hb h.tail)
  show 0 ≤ x + b * zX b l
  omega
theorem VR (b : Int) (l m : List Int) : zX b (l ++ m) = zX b l + b ^ l.length * zX b m := by
 induction l with
 | nil => simp [zX]
 | cons x l ih =>
  show x + b * zX b (l ++ m) = x + b * zX b l + b ^ (l.length + 1) * zX b m
  grind
theorem Xv (b : Int) (l : List Int) (x : Int) : zX b (l ++ [x]) = zX b l + b ^ l.length * x := by
 rw [VR]
 show _ + _ * (x + b * 0) = _
 simp
theorem yN {b : Int} (hb : 0 < b) : ∀ {l : List Int}, z8 b l → zX b l < b ^ l.length
 | [], _ => by simp [zX]
 | x :: l, h => by
  have h1 := h.head
  have h2 := yN hb h.tail
  show x + b * zX b l < b ^ (l.length + 1)
  rw [Int.pow_succ, Int.mul_comm _ b]
  have h3 : b * (zX b l + 1) ≤ b * b ^ l.length := Int.mul_le_mul_of_nonneg_left (by omega) (by omega)
  grind
theorem tQ {l : List Int} {i : Nat} (h : i < l.length) : l.take (i + 1) = l.take i ++ [l.getD i 0] := by
 simp_all
theorem nv (b : Int) {l : List Int} {i : Nat} (h : i < l.length) : zX b (l.take (i + 1)) = zX b (l.take i) + b ^ i * l.getD i 0 := by
 rw [tQ h, Xv, List.length_take, Nat.min_eq_left (by omega)]
theorem Zq (b : Int) (l : List Int) (i : Nat) : zX b (l.take (i + 1)) = zX b (l.take i) + b ^ i * l.getD i 0 := by
 by_cases h : i < l.length
 ·exact nv b h
 ·rw [List.take_of_length_le (by omega), List.take_of_length_le (by omega), List.getD_eq_getElem?_getD, List.getElem?_eq_none (by omega)]
  simp
theorem WP (b : Int) : ∀ {l : List Int} {i : Nat} (x : Int), i < l.length → zX b (l.set i x) = zX b l + b ^ i * (x - l.getD i 0)
 | [], i, x, h => by cases h
 | y :: l, 0, x, h => by
  show x + b * zX b l = y + b * zX b l + b ^ 0 * (x - y)
  grind
 | y :: l, i + 1, x, h => by
  show y + b * zX b (l.set i x) = y + b * zX b l + b ^ (i + 1) * (x - l.getD i 0)
  rw [WP b x (by simpa using h), Int.mul_add, Int.pow_succ, Int.mul_comm _ b, Int.mul_assoc]
  omega
theorem wj (b : Int) : ∀ n : Nat, zX b (List.replicate n 0) = 0
 | 0 => rfl
 | n + 1 => by rw [List.replicate_succ]; show 0 + b * zX b _ = 0; rw [wj b n]; simp
theorem z8.zeros {b : Int} (hb : 0 < b) (n : Nat) : z8 b (List.replicate n 0) := fun x hx => by rw [List.eq_of_mem_replicate hx]; exact ⟨Int.le_refl _, hb⟩
theorem yz {b : Nat} (hb : 2 ≤ b) (n : Nat) : zX b (zw b n) = (n : Int) := by
 induction n using Nat.strongRecOn with
 | _ n ih =>
  by_cases h : n = 0
  ·subst h; rw [ZN]; rfl
  ·rw [XX hb h]
   show ((n % b : Nat) : Int) + (b : Int) * zX b (zw b (n / b)) = n
   rw [ih (n / b) (Nat.div_lt_self (by omega) (by omega))]
   exact_mod_cast Nat.mod_add_div n b
theorem y9 {b : Nat} (hb : 2 ≤ b) (n : Nat) : z8 b (zw b n) := by
 induction n using Nat.strongRecOn with
 | _ n ih =>
  by_cases h : n = 0
  ·subst h; rw [ZN]; exact .nil _
  ·rw [XX hb h]
   intro x hx
   rcases List.mem_cons.1 hx with rfl | hx
   ·have := Nat.mod_lt n (y := b) (by omega)
    omega
   ·exact ih (n / b) (Nat.div_lt_self (by omega) (by omega)) x hx
theorem XT {b : Nat} (hb : 2 ≤ b) (n : Nat) : zO (zw b n) = zw b n := by
 induction n using Nat.strongRecOn with
 | _ n ih =>
  by_cases h : n = 0
  ·subst h; rw [ZN]; rfl
  ·rw [XX hb h]
   unfold zO
   rw [ih (n / b) (Nat.div_lt_self (by omega) (by omega)), if_neg]
   rintro ⟨h1, h2⟩
   have h3 := yz hb (n / b)
   rw [h1] at h3
   have h3 : (0 : Int) = ((n / b : Nat) : Int) := h3
   have h4 := Nat.mod_add_div n b
   grind
theorem y7 {b : Nat} (hb : 2 ≤ b) : ∀ {l : List Int}, z8 b l → zO l = zw b (zX b l).toNat
 | [], _ => by
  show [] = zw b 0
  rw [ZN]
 | x :: l, h => by
  have ih := y7 hb h.tail
  have h0 := zK (b := (b : Int)) (by omega) h.tail
  have hx := h.head
  obtain ⟨m, hm⟩ : ∃ m : Nat, zX b l = m := ⟨(zX b l).toNat, by omega⟩
  obtain ⟨y, rfl⟩ : ∃ y : Nat, x = y := ⟨x.toNat, by omega⟩
  have e : (zX b ((y : Int) :: l)).toNat = y + b * m := by
   show ((y : Int) + (b : Int) * zX b l).toNat = _
   grind
  rw [hm, Int.toNat_natCast] at ih
  rw [e]
  have hy : y < b := by omega
  by_cases hz : y + b * m = 0
  ·rw [hz, ZN]
   have hy0 : y = 0 := by omega
   have hm0 : b * m = 0 := by omega
   have hm1 : m = 0 := by
    rcases Nat.mul_eq_zero.1 hm0 with h | h
    all_goals omega
   unfold zO
   rw [if_pos ⟨by rw [ih, hm1, ZN], by omega⟩]
  ·rw [XX hb hz, Nat.add_mul_mod_self_left, Nat.mod_eq_of_lt hy, Nat.add_mul_div_left _ _ (by omega), Nat.div_eq_of_lt hy, Nat.zero_add, ← ih]
   show (if zO l = [] ∧ (y : Int) = 0 then [] else (y : Int) :: zO l) = _
   rw [if_neg]
   rintro ⟨h1, h2⟩
   rw [ih] at h1
   have h3 := yz hb m
   rw [h1] at h3
   have h3 : (0 : Int) = (m : Int) := h3
   grind
theorem YO {b : Nat} (hb : 2 ≤ b) {l : List Int} (h : z8 b l) (ht : zO l = l) : l = zw b (zX b l).toNat := by rw [← y7 hb h, ht]
theorem wT : ∀ {l : List Int} {z : Nat}, z ≤ l.length → (∀ i, z ≤ i → l.getD i 0 = 0) → (z = 0 ∨ l.getD (z - 1) 0 ≠ 0) → zO l = l.take z
 | [], z, h, _, _ => by simp [zO]
 | x :: l, 0, _, h1, _ => by
  have h2 : zO l = l.take 0 := wT (Nat.zero_le _) (fun i _ => h1 (i + 1) (by omega)) (.inl rfl)
  unfold zO
  rw [if_pos ⟨h2, h1 0 (Nat.le_refl _)⟩]; rfl
 | x :: l, z + 1, h0, h1, h2 => by
  have h2 : (x :: l).getD z 0 ≠ 0 := h2.elim (fun h => absurd h (Nat.succ_ne_zero z)) fun h => h
  have h0 : z ≤ l.length := by simpa using h0
  have h3 : zO l = l.take z := by
   refine wT h0 (fun i hi => h1 (i + 1) (by omega)) ?_
   grind
  unfold zO
  rw [h3, if_neg]
  ·rfl
  ·rintro ⟨h4, h5⟩
   match z, h2, h4 with
   | 0, h2, _ => exact h2 h5
   | z + 1, h2, h4 =>
    simp_all
theorem sF {l : List Int} (h : zO l = l) : l.length = 0 ∨ l.getD (l.length - 1) 0 ≠ 0 := by
 induction l with
 | nil => simp
 | cons x l ih =>
  refine .inr ?_
  unfold zO at h
  grind
theorem vE {b : Nat} (hb : 2 ≤ b) {n : Nat} (h : n ≠ 0) : 0 < (zw b n).length ∧ (zw b n).getD ((zw b n).length - 1) 0 ≠ 0 := by
 have h1 : 0 < (zw b n).length := by rw [XX hb h]; simp
 exact ⟨h1, (sF (XT hb n)).resolve_left (by omega)⟩
theorem Lm {b : Nat} (hb : 2 ≤ b) (n : Nat) : (n : Int) < (b : Int) ^ (zw b n).length := by
 have := yN (b := (b : Int)) (by omega) (y9 hb n)
 rwa [yz hb] at this
theorem Ql {b : Nat} (hb : 2 ≤ b) {n : Nat} (h : n ≠ 0) : (b : Int) ^ ((zw b n).length - 1) ≤ (n : Int) := by
 obtain ⟨h1, h2⟩ := vE hb h
 have e := yz hb n
 have h3 := tQ (l := zw b n) (i := (zw b n).length - 1) (by omega)
 rw [show (zw b n).length - 1 + 1 = (zw b n).length by omega, List.take_length] at h3
 have h4 := Xv b ((zw b n).take ((zw b n).length - 1)) ((zw b n).getD ((zw b n).length - 1) 0)
 rw [← h3, e, List.length_take, Nat.min_eq_left (by omega)] at h4
 have h5 := zK (b := (b : Int)) (by omega) ((y9 hb n).take ((zw b n).length - 1))
 have h6 := (y9 hb n).get (by omega) ((zw b n).length - 1)
 have h7 : (b : Int) ^ ((zw b n).length - 1) * 1 ≤ (b : Int) ^ ((zw b n).length - 1) * (zw b n).getD ((zw b n).length - 1) 0 :=
  Int.mul_le_mul_of_nonneg_left (by omega) (Int.pow_nonneg (by omega))
 omega
theorem wE {b : Nat} (hb : 2 ≤ b) {m n : Nat} (h : (zw b m).length < (zw b n).length) : m < n := by
 have h0 : n ≠ 0 := fun e => by rw [e, ZN] at h; cases h
 have h1 := Lm hb m
 have h2 := Ql hb h0
 have h3 : b ^ (zw b m).length ≤ b ^ ((zw b n).length - 1) := Nat.pow_le_pow_right (by omega) (by omega)
 grind
end Go.Ar

namespace Go.Ar
open Go Go.Sx Go.Lib
set_option maxRecDepth 100000
def wu (s : zL) : Nat := match s with | 45 :: r => r.length | r => r.length
def ZX (s : zL) : Int := bif zC s then (bif Nat.blt 300 (wu s) then 4 else 0) else 11
def zI (a b : zL) : Int := bif ZX a != 0 then ZX a else ZX b
def ZU (n : Int) : Int := bif Nat.blt 300 (TA n) then 4 else 0
def yp (n : Int) : zL := bif ZU n == 0 then itoa n else []
def yI (f : Int → Int → Int) (a b : zL) : Int := bif zI a b != 0 then zI a b else ZU (f (zV a) (zV b))
def YR (f : Int → Int → Int) (a b : zL) : zL := bif yI f a b == 0 then itoa (f (zV a) (zV b)) else []
def Xk (a b : Int) : Int := bif zH a b then -1 else bif a == b then 0 else 1
def x3 (a b : zL) : Int := bif zI a b != 0 then 0 else Xk (zV a) (zV b)
def xe (a b : zL) : Int := bif zI a b != 0 then zI a b else bif b == [48] then 12 else 0
def yF (a b : zL) : zL := bif xe a b == 0 then itoa (Int.fdiv (zV a) (zV b)) else []
def vo (a b : zL) : zL := bif xe a b == 0 then itoa (Int.fmod (zV a) (zV b)) else []
theorem Ze {s : zL} : ZX s = 0 ↔ zC s = true ∧ wu s ≤ 300 := by
 unfold ZX
 cases h : zC s with
 | false => simp
 | true =>
  cases h2 : Nat.blt 300 (wu s) with
  | true => simp_all
  | false =>
   have : ¬ 300 < wu s := fun e => by rw [(zA _ _).2 e] at h2; cases h2
   simp; omega
theorem yg {a b : zL} (h : zI a b = 0) : ZX a = 0 ∧ ZX b = 0 := by
 unfold zI at h
 grind
theorem wH {s : zL} (h : zC s = true) : wu s = TA (zV s) := by
 rcases yQ h with ⟨r, rfl, h1, h2, h3⟩ | ⟨h1, h2⟩
 ·rw [h3]
  unfold TA
  rw [Int.natAbs_neg, Int.natAbs_natCast, ← qN h1]; rfl
 ·rw [h2]
  unfold TA
  rw [Int.natAbs_natCast, ← qN h1]
  match s, h1 with
  | [], _ => rfl
  | c :: r, h1 =>
   by_cases hc : c = 45
   ·subst hc; exact (wJ h1).elim
   ·unfold wu; split
    all_goals simp_all
theorem xB (s : zL) : wu s ≤ s.length ∧ s.length ≤ wu s + 1 := by
 unfold wu
 grind
theorem PU {s : zL} (h : zC s = true) {k : Nat} (hl : s.length ≤ k) : -(10 ^ k : Int) < zV s ∧ zV s < 10 ^ k := by
 have key : ∀ r : zL, z6 r = true → r.length ≤ k → (zm r : Int) < 10 ^ k := fun r hr hl => by
  have h1 := Xh (List.all_eq_true.2 (Zx.1 hr).2.1)
  have h2 : 10 ^ r.length ≤ 10 ^ k := Nat.pow_le_pow_right (by decide) hl
  grind
 have hp : (0 : Int) < 10 ^ k := Int.pow_pos (by decide)
 rcases yQ h with ⟨r, rfl, h1, h2, h3⟩ | ⟨h1, h2⟩
 all_goals grind
theorem rh {n : Int} {k : Nat} (hk : 0 < k) (h : n.natAbs < 10 ^ k) : TA n ≤ k := (yJ hk).2 h
end Go.Ar

namespace Go.Ar
open Go Go.Sx Go.Lib
set_option maxRecDepth 100000
theorem y8 {b : Int} (hb : 0 < b) (n : Nat) : 0 < b ^ n := Int.pow_pos hb
theorem wv (b : Int) (n : Nat) : b ^ (n + 1) = b ^ n * b := Int.pow_succ b n
theorem kV {n b : Int} (h : 0 ≤ n) (hb : 0 < b) : n.tmod b + b * n.tdiv b = n ∧ 0 ≤ n.tmod b ∧ n.tmod b < b ∧ 0 ≤ n.tdiv b := by
 rw [Int.tmod_eq_emod_of_nonneg h, Int.tdiv_eq_ediv_of_nonneg h]
 exact ⟨Int.emod_add_mul_ediv n b, Int.emod_nonneg n (by omega), Int.emod_lt_of_pos n hb, Int.ediv_nonneg h (by omega)⟩
structure WS (b : Int) (x y : List Int) (z : Nat) (out : List Int) (c : Int) : Prop where
 len : out.length = z
 in_ : z8 b out
 c0 : 0 ≤ c
 c1 : c ≤ 1
 val : zX b out + b ^ z * c = zX b (x.take z) + zX b (y.take z)
theorem WS.zero (b : Int) (x y : List Int) : WS b x y 0 [] 0 := ⟨rfl, .nil b, Int.le_refl _, by omega, by simp [zX]⟩
theorem WS.step {b : Int} (hb : 2 ≤ b) {x y : List Int} (hx : z8 b x) (hy : z8 b y) {z : Nat} {out : List Int} {c : Int} (h : WS b x y z out c) :
  WS b x y (z + 1) (out ++ [(x.getD z 0 + y.getD z 0 + c).tmod b]) ((x.getD z 0 + y.getD z 0 + c).tdiv b) := by
 have x1 := hx.get (by omega) z
 have y1 := hy.get (by omega) z
 have h0 := h.c0
 have h1 := h.c1
 obtain ⟨e, m0, m1, d0⟩ := kV (n := x.getD z 0 + y.getD z 0 + c) (b := b) (by omega) (by omega)
 have hd : (x.getD z 0 + y.getD z 0 + c).tdiv b ≤ 1 := by
  refine Decidable.byContradiction fun hn => ?_
  have : b * 2 ≤ b * (x.getD z 0 + y.getD z 0 + c).tdiv b := Int.mul_le_mul_of_nonneg_left (by omega) (by omega)
  omega
 refine ⟨by simp [h.len], h.in_.snoc m0 m1, d0, hd, ?_⟩
 rw [Xv, h.len, Zq, Zq]
 have hv := h.val
 grind
theorem Yd {x : List Int} {n : Nat} (h : x.length ≤ n) : x.take n = x := List.take_of_length_le h
theorem WS.end_ {b : Nat} (hb : 2 ≤ b) {x y : List Int} (hx : z8 b x) (hy : z8 b y) {z : Nat} {out : List Int} {c : Int} (h : WS b x y z out c) (h1 : x.length < z) (h2 : y.length < z) :
  zO out = zw b (zX b x + zX b y).toNat := by
 have hv := h.val
 rw [Yd (by omega), Yd (by omega)] at hv
 have x1 := yN (b := (b : Int)) (by omega) hx
 have y1 := yN (b := (b : Int)) (by omega) hy
 have hp : ∀ n, n < z → (b : Int) ^ n * 2 ≤ (b : Int) ^ z := fun n hn => by
  have p1 : b ^ n * 2 ≤ b ^ n * b := Nat.mul_le_mul_left _ hb
  have p2 : b ^ (n + 1) ≤ b ^ z := Nat.pow_le_pow_right (by omega) (by omega)
  grind
 have p1 := hp _ h1
 have p2 := hp _ h2
 have o0 := zK (b := (b : Int)) (by omega) h.in_
 have hc : c = 0 := by
  refine Decidable.byContradiction fun hn => ?_
  have : c = 1 := by have := h.c0; have := h.c1; omega
  grind
 rw [hc, Int.mul_zero, Int.add_zero] at hv
 rw [y7 hb h.in_, hv]
structure wK (b : Int) (x y : List Int) (z : Nat) (out : List Int) (c : Int) : Prop where
 len : out.length = z
 in_ : z8 b out
 c0 : 0 ≤ c
 c1 : c ≤ 1
 val : zX b out - b ^ z * c = zX b (x.take z) - zX b (y.take z)
theorem wK.zero (b : Int) (x y : List Int) : wK b x y 0 [] 0 := ⟨rfl, .nil b, Int.le_refl _, by omega, by simp [zX]⟩
theorem wK.step {b : Int} (hb : 2 ≤ b) {x y : List Int} (hx : z8 b x) (hy : z8 b y) {z : Nat} {out : List Int} {c : Int} (h : wK b x y z out c) :
  (0 ≤ x.getD z 0 - y.getD z 0 - c → wK b x y (z + 1) (out ++ [x.getD z 0 - y.getD z 0 - c]) 0) ∧
  (x.getD z 0 - y.getD z 0 - c < 0 → wK b x y (z + 1) (out ++ [x.getD z 0 - y.getD z 0 - c + b]) 1) := by
 have x1 := hx.get (by omega) z
 have y1 := hy.get (by omega) z
 have h0 := h.c0
 have h1 := h.c1
 have hv := h.val
 refine ⟨fun hn => ⟨by simp [h.len], h.in_.snoc hn (by omega), Int.le_refl _, by omega, ?_⟩, fun hn => ⟨by simp [h.len], h.in_.snoc (by omega) (by omega), by omega, Int.le_refl _, ?_⟩⟩
 ·rw [Xv, h.len, Zq, Zq, Int.mul_sub, Int.mul_sub]
  omega
 ·rw [Xv, h.len, Zq, Zq, Int.mul_add, Int.mul_sub, Int.mul_sub, wv]
  omega
theorem wK.end_ {b : Nat} (hb : 2 ≤ b) {x y : List Int} {z : Nat} {out : List Int} {c : Int} (h : wK b x y z out c) (h1 : x.length ≤ z) (h2 : y.length ≤ z) (hle : zX b y ≤ zX b x) :
  zO out = zw b (zX b x - zX b y).toNat := by
 have hv := h.val
 rw [Yd (by omega), Yd (by omega)] at hv
 have o1 := yN (b := (b : Int)) (by omega) h.in_
 rw [h.len] at o1
 have hc : c = 0 := by
  refine Decidable.byContradiction fun hn => ?_
  have : c = 1 := by have := h.c0; have := h.c1; omega
  grind
 rw [hc, Int.mul_zero, Int.sub_zero] at hv
 rw [y7 hb h.in_, hv]
def vq (x y : List Int) : Nat → Int
 | 0 => 0
 | n + 1 => bif x.getD n 0 != y.getD n 0 then x.getD n 0 - y.getD n 0 else vq x y n
def cmpL (x y : List Int) : Int := bif Nat.beq x.length y.length then vq x y x.length else (x.length : Int) - (y.length : Int)
theorem Sl {b : Int} (hb : 2 ≤ b) {x y : List Int} (hx : z8 b x) (hy : z8 b y) : ∀ n, (vq x y n < 0 ↔ zX b (x.take n) < zX b (y.take n)) ∧ (vq x y n = 0 ↔ zX b (x.take n) = zX b (y.take n))
 | 0 => by simp [vq]
 | n + 1 => by
  have ih := Sl hb hx hy n
  have x1 := hx.get (by omega) n
  have y1 := hy.get (by omega) n
  have v1 := zK (b := b) (by omega) (hx.take n)
  have v2 := zK (b := b) (by omega) (hy.take n)
  have w1 := yN (b := b) (by omega) (hx.take n)
  have w2 := yN (b := b) (by omega) (hy.take n)
  have l1 : b ^ (x.take n).length ≤ b ^ n := by
   obtain ⟨m, rfl⟩ : ∃ m : Nat, b = m := ⟨b.toNat, by omega⟩
   have : m ^ (x.take n).length ≤ m ^ n := Nat.pow_le_pow_right (by omega) (by simp; omega)
   grind
  have l2 : b ^ (y.take n).length ≤ b ^ n := by
   obtain ⟨m, rfl⟩ : ∃ m : Nat, b = m := ⟨b.toNat, by omega⟩
   have : m ^ (y.take n).length ≤ m ^ n := Nat.pow_le_pow_right (by omega) (by simp; omega)
   grind
  rw [Zq, Zq]
  unfold vq
  generalize x.getD n 0 = p at *
  generalize y.getD n 0 = q at *
  by_cases e : p = q
  ·simp_all
  ·rw [bne_iff_ne.2 e]
   simp only [cond_true]
   rcases Int.lt_or_lt_of_ne e with h | h
   ·have : b ^ n * (p + 1) ≤ b ^ n * q := Int.mul_le_mul_of_nonneg_left (by omega) (Int.le_of_lt (y8 (by omega) n))
    grind
   ·have : b ^ n * (q + 1) ≤ b ^ n * p := Int.mul_le_mul_of_nonneg_left (by omega) (Int.le_of_lt (y8 (by omega) n))
    grind
theorem uJ {b : Nat} (hb : 2 ≤ b) (m n : Nat) : (cmpL (zw b m) (zw b n) < 0 ↔ m < n) ∧ (cmpL (zw b m) (zw b n) = 0 ↔ m = n) := by
 unfold cmpL
 by_cases h : (zw b m).length = (zw b n).length
 ·have h1 := Sl (b := (b : Int)) (by omega) (y9 hb m) (y9 hb n) (zw b m).length
  rw [List.take_length, h, List.take_length, yz hb, yz hb] at h1
  rw [h, Nat.beq_refl]
  grind
 ·rw [show Nat.beq (zw b m).length (zw b n).length = false from Bool.eq_false_iff.2 fun e => h (Nat.eq_of_beq_eq_true e)]
  simp only [cond_false]
  rcases Nat.lt_or_gt_of_ne h with h1 | h1
  ·have := wE hb h1; omega
  ·have := wE hb h1; omega
structure XK (b : Int) (x y : List Int) (z : Nat) (out : List Int) : Prop where
 len : out.length = x.length + y.length + 1
 in_ : z8 b out
 zero : ∀ i, z + y.length ≤ i → out.getD i 0 = 0
 val : zX b out = zX b (x.take z) * zX b y
structure MulK (b : Int) (x y : List Int) (z k : Nat) (out : List Int) (c : Int) : Prop where
 len : out.length = x.length + y.length + 1
 in_ : z8 b out
 zero : ∀ i, z + y.length ≤ i → z + k ≤ i → out.getD i 0 = 0
 c0 : 0 ≤ c
 c1 : c < b
 val : zX b out + b ^ (z + k) * c = zX b (x.take z) * zX b y + b ^ z * (x.getD z 0 * zX b (y.take k))
theorem yj (b : Int) : zX b [] = 0 := rfl
theorem VI (n i : Nat) : (List.replicate n (0 : Int)).getD i 0 = 0 := by
 grind
theorem XK.zero_ {b : Int} (hb : 0 < b) (x y : List Int) : XK b x y 0 (List.replicate (x.length + y.length + 1) 0) := by
 refine ⟨by simp, .zeros hb _, fun i _ => VI _ _, ?_⟩
 rw [wj, List.take_zero, yj, Int.zero_mul]
theorem XK.start {b : Int} {x y : List Int} {z : Nat} {out : List Int} (hb : 0 < b) (h : XK b x y z out) : MulK b x y z 0 out 0 :=
 ⟨h.len, h.in_, fun i hi _ => h.zero i hi, Int.le_refl _, hb, by rw [List.take_zero, yj, h.val]; simp⟩
theorem yB (l : List Int) (i j : Nat) (v : Int) (hj : j < l.length) : (l.set j v).getD i 0 = if i = j then v else l.getD i 0 := by
 grind
theorem MulK.step {b : Int} (hb : 2 ≤ b) {x y : List Int} (hx : z8 b x) (hy : z8 b y) {z k : Nat} (hz : z < x.length) (hk : k ≤ y.length) {out : List Int} {c : Int} (h : MulK b x y z k out c) :
  (0 ≤ out.getD (z + k) 0 + x.getD z 0 * y.getD k 0 + c ∧ out.getD (z + k) 0 + x.getD z 0 * y.getD k 0 + c < b * b) ∧
  MulK b x y z (k + 1) (out.set (z + k) ((out.getD (z + k) 0 + x.getD z 0 * y.getD k 0 + c).tmod b)) ((out.getD (z + k) 0 + x.getD z 0 * y.getD k 0 + c).tdiv b) := by
 have x1 := hx.get (by omega) z
 have y1 := hy.get (by omega) k
 have o1 := h.in_.get (by omega) (z + k)
 have h0 := h.c0
 have h1 := h.c1
 have p0 : 0 ≤ x.getD z 0 * y.getD k 0 := Int.mul_nonneg x1.1 y1.1
 have p1 : x.getD z 0 * y.getD k 0 ≤ (b - 1) * (b - 1) := Int.mul_le_mul (by omega) (by omega) y1.1 (by omega)
 have p2 : (b - 1) * (b - 1) = b * b - 2 * b + 1 := by rw [Int.sub_mul, Int.mul_sub]; omega
 have hn0 : 0 ≤ out.getD (z + k) 0 + x.getD z 0 * y.getD k 0 + c := by omega
 have hn1 : out.getD (z + k) 0 + x.getD z 0 * y.getD k 0 + c < b * b := by omega
 obtain ⟨e, m0, m1, d0⟩ := kV (b := b) hn0 (by omega)
 have hd : (out.getD (z + k) 0 + x.getD z 0 * y.getD k 0 + c).tdiv b < b := by
  refine Decidable.byContradiction fun hn => ?_
  have : b * b ≤ b * (out.getD (z + k) 0 + x.getD z 0 * y.getD k 0 + c).tdiv b := Int.mul_le_mul_of_nonneg_left (by omega) (by omega)
  omega
 have hlen : z + k < out.length := by rw [h.len]; omega
 refine ⟨⟨hn0, hn1⟩, by rw [List.length_set]; exact h.len, h.in_.set m0 m1 _, fun i hi hi2 => ?_, d0, hd, ?_⟩
 ·rw [yB _ _ _ _ hlen, if_neg (by omega)]
  exact h.zero i hi (by omega)
 ·rw [WP b _ hlen, Zq]
  have hv := h.val
  grind
theorem MulK.end_ {b : Int} (hb : 2 ≤ b) {x y : List Int} (hx : z8 b x) (hy : z8 b y) {z : Nat} (hz : z < x.length) {out : List Int} {c : Int} (h : MulK b x y z (y.length + 1) out c) (hc : c = 0) : XK b x y (z + 1) out := by
 subst hc
 refine ⟨h.len, h.in_, fun i hi => h.zero i (by omega) (by omega), ?_⟩
 have hv := h.val
 rw [Int.mul_zero, Int.add_zero, Yd (x := y) (by omega)] at hv
 rw [hv, Zq b x, Int.add_mul, Int.mul_assoc]
theorem MulK.last {b : Int} (hb : 2 ≤ b) {x y : List Int} {z : Nat} {out : List Int} {c : Int} (h : MulK b x y z y.length out c) : (out.getD (z + y.length) 0 + x.getD z 0 * y.getD y.length 0 + c).tdiv b = 0 := by
 have e : y.getD y.length 0 = 0 := by rw [List.getD_eq_getElem?_getD, List.getElem?_eq_none (Nat.le_refl _)]; rfl
 rw [h.zero _ (Nat.le_refl _) (Nat.le_refl _), e]
 rw [Int.mul_zero, Int.add_zero, Int.zero_add]
 exact Int.tdiv_eq_zero_of_lt h.c0 h.c1
theorem XK.end_ {b : Nat} (hb : 2 ≤ b) {x y : List Int} {out : List Int} (h : XK b x y x.length out) : zO out = zw b (zX b x * zX b y).toNat := by
 have hv := h.val
 rw [List.take_length] at hv
 rw [y7 hb h.in_, hv]
end Go.Ar

namespace Go.Ar
open Go Go.Sx Go.Lib
set_option maxRecDepth 100000
theorem sM {l : List Int} {z : Nat} (h : z < l.length) : l.drop z = l.getD z 0 :: l.drop (z + 1) := by
 simp_all
theorem Y9 (b : Int) {l : List Int} {z : Nat} (h : z < l.length) : zX b (l.drop z) = l.getD z 0 + b * zX b (l.drop (z + 1)) := by rw [sM h]; rfl
theorem xW (b : Int) (l : List Int) {z : Nat} (h : z ≤ l.length) : zX b l = zX b (l.take z) + b ^ z * zX b (l.drop z) := by
 conv => lhs; rw [← List.take_append_drop z l]
 rw [VR, List.length_take, Nat.min_eq_left h]
theorem qo (l : List Int) (z : Nat) (v : Int) (h : z < l.length) : (l.set z v).drop z = v :: l.drop (z + 1) := by
 rw [sM (by simpa using h), yB _ _ _ _ h, if_pos rfl, List.drop_set]
 simp
structure UI (b d : Int) (a : List Int) (z : Nat) (q : List Int) (r : Int) : Prop where
 len : q.length = a.length
 le : z ≤ a.length
 in_ : z8 b q
 r0 : 0 ≤ r
 r1 : r < d
 val : zX b (a.drop z) = d * zX b (q.drop z) + r
theorem UI.start {b d : Int} (hb : 0 < b) (hd : 0 < d) (a : List Int) : UI b d a a.length (List.replicate a.length 0) 0 :=
 ⟨by simp, Nat.le_refl _, .zeros hb _, Int.le_refl _, hd, by rw [List.drop_of_length_le (Nat.le_refl _), List.drop_of_length_le (by simp)]; simp [zX]⟩
theorem UI.step {b d : Int} (hb : 0 < b) {a : List Int} (ha : z8 b a) {z : Nat} {q : List Int} {r : Int} (h : UI b d a (z + 1) q r) :
  (0 ≤ a.getD z 0 + r * b ∧ a.getD z 0 + r * b < d * b) ∧ UI b d a z (q.set z ((a.getD z 0 + r * b).tdiv d)) ((a.getD z 0 + r * b).tmod d) := by
 have a1 := ha.get hb z
 have h0 := h.r0
 have h1 := h.r1
 have hz := h.le
 have p0 : 0 ≤ r * b := Int.mul_nonneg h0 (by omega)
 have p1 : (r + 1) * b ≤ d * b := Int.mul_le_mul_of_nonneg_right (by omega) (by omega)
 rw [Int.add_mul, Int.one_mul] at p1
 have n0 : 0 ≤ a.getD z 0 + r * b := by omega
 have n1 : a.getD z 0 + r * b < d * b := by omega
 obtain ⟨e, m0, m1, d0⟩ := kV n0 (b := d) (by omega)
 have hq : (a.getD z 0 + r * b).tdiv d < b := by
  refine Decidable.byContradiction fun hn => ?_
  have : d * b ≤ d * (a.getD z 0 + r * b).tdiv d := Int.mul_le_mul_of_nonneg_left (by omega) (by omega)
  omega
 refine ⟨⟨n0, n1⟩, by rw [List.length_set]; exact h.len, by omega, h.in_.set d0 hq _, m0, m1, ?_⟩
 rw [qo _ _ _ (by rw [h.len]; omega), Y9 b (by omega), h.val]
 show _ = d * (_ + b * _) + _
 grind
theorem UI.end_ {b : Nat} (hb : 2 ≤ b) {d : Nat} (hd : 0 < d) (hdb : d ≤ b) {a : List Int} {q : List Int} {r : Int} (h : UI b d a 0 q r) (n : Nat) (hn : zX b a = n) :
  zO q = zw b (n / d) ∧ r = (n % d : Nat) ∧ zO [r] = zw b (n % d) := by
 have hv := h.val
 rw [List.drop_zero, List.drop_zero, hn] at hv
 have q0 := zK (b := (b : Int)) (by omega) h.in_
 have h0 := h.r0
 have h1 := h.r1
 obtain ⟨Q, hQ⟩ : ∃ Q : Nat, zX b q = Q := ⟨(zX b q).toNat, by omega⟩
 obtain ⟨R, rfl⟩ : ∃ R : Nat, r = R := ⟨r.toNat, by omega⟩
 rw [hQ] at hv
 have hv : n = d * Q + R := by exact_mod_cast hv
 have hR : R < d := by omega
 have e1 : n / d = Q := by rw [hv, Nat.mul_add_div hd, Nat.div_eq_of_lt hR, Nat.add_zero]
 have e2 : n % d = R := by rw [hv, Nat.mul_add_mod, Nat.mod_eq_of_lt hR]
 refine ⟨?_, by rw [e2], ?_⟩
 ·rw [y7 hb h.in_, hQ, e1, Int.toNat_natCast]
 ·rw [y7 hb (.one (by omega) (by omega)), e2]
  rfl
def Out (j n : Nat) (u w : List Int) : Prop := ∀ i, i < j ∨ n ≤ i → w.getD i 0 = u.getD i 0
structure Wu (b : Int) (u v : List Int) (j : Nat) (q : Int) (i : Nat) (w : List Int) (c : Int) : Prop where
 len : w.length = u.length
 in_ : z8 b w
 out : Out j (j + i) u w
 c0 : 0 ≤ c
 c1 : c ≤ q + 1
 val : zX b w - b ^ (j + i) * c = zX b u - b ^ j * (q * zX b (v.take i))
theorem Wu.start {b : Int} {u v : List Int} {j : Nat} {q : Int} (hu : z8 b u) (hq : 0 ≤ q) : Wu b u v j q 0 u 0 :=
 ⟨rfl, hu, fun _ _ => rfl, Int.le_refl _, by omega, by rw [List.take_zero, yj]; simp⟩
def Xs (b n : Int) : Int := bif zH n 0 then (-n + b - 1).tdiv b else 0
theorem O0 {b n : Int} (hb : 2 ≤ b) : 0 ≤ Xs b n ∧ 0 ≤ n + Xs b n * b ∧ (n < b → n + Xs b n * b < b) ∧ ∀ q, -(q * b) ≤ n → 0 ≤ q → Xs b n ≤ q := by
 unfold Xs
 cases h : zH n 0 with
 | true =>
  have h := (zR _ _).1 h
  simp only [cond_true]
  obtain ⟨e, m0, m1, d0⟩ := kV (n := -n + b - 1) (b := b) (by omega) (by omega)
  rw [Int.mul_comm] at e
  refine ⟨d0, by omega, fun _ => by omega, fun q hq hq0 => ?_⟩
  refine Decidable.byContradiction fun hn => ?_
  have : (q + 1) * b ≤ (-n + b - 1).tdiv b * b := Int.mul_le_mul_of_nonneg_right (by omega) (by omega)
  grind
 | false =>
  have h : ¬ n < 0 := fun e => by rw [(zR _ _).2 e] at h; cases h
  simp_all
theorem Wu.step {b : Int} (hb : 2 ≤ b) {u v : List Int} (hv : z8 b v) {j : Nat} {q : Int} (hq : 0 ≤ q) {i : Nat} (hj : j + i < u.length) {w : List Int} {c : Int} (h : Wu b u v j q i w c) :
  (-((q + 1) * b) ≤ w.getD (j + i) 0 - c - q * v.getD i 0 ∧ w.getD (j + i) 0 - c - q * v.getD i 0 < b) ∧
  Wu b u v j q (i + 1) (w.set (j + i) (w.getD (j + i) 0 - c - q * v.getD i 0 + Xs b (w.getD (j + i) 0 - c - q * v.getD i 0) * b)) (Xs b (w.getD (j + i) 0 - c - q * v.getD i 0)) := by
 have v1 := hv.get (by omega) i
 have w1 := h.in_.get (by omega) (j + i)
 have h0 := h.c0
 have h1 := h.c1
 have p0 : 0 ≤ q * v.getD i 0 := Int.mul_nonneg hq v1.1
 have p1 : q * v.getD i 0 ≤ q * (b - 1) := Int.mul_le_mul_of_nonneg_left (by omega) hq
 rw [Int.mul_sub, Int.mul_one] at p1
 have n1 : -((q + 1) * b) ≤ w.getD (j + i) 0 - c - q * v.getD i 0 := by rw [Int.add_mul, Int.one_mul]; omega
 have n2 : w.getD (j + i) 0 - c - q * v.getD i 0 < b := by omega
 have hl : j + i < w.length := by rw [h.len]; exact hj
 have hval := h.val
 refine ⟨⟨n1, n2⟩, ?_⟩
 obtain ⟨k0, k1, k2, k3⟩ := O0 (b := b) (n := w.getD (j + i) 0 - c - q * v.getD i 0) hb
 refine ⟨by rw [List.length_set]; exact h.len, h.in_.set k1 (k2 n2) _, fun x hx => ?_, k0, k3 _ n1 (by omega), ?_⟩
 ·rw [yB _ _ _ _ hl, if_neg (by omega)]
  exact h.out x (by omega)
 ·rw [WP b _ hl, Zq]
  grind
structure uu (b : Int) (u v : List Int) (j : Nat) (q : Int) (i : Nat) (w : List Int) (c : Int) : Prop where
 len : w.length = u.length
 in_ : z8 b w
 out : Out j (j + i) u w
 c0 : 0 ≤ c
 c1 : c ≤ q
 val : zX b w + b ^ (j + i) * c = zX b u + b ^ j * (q * zX b (v.take i))
theorem uu.start {b : Int} {u v : List Int} {j : Nat} {q : Int} (hu : z8 b u) (hq : 0 ≤ q) : uu b u v j q 0 u 0 :=
 ⟨rfl, hu, fun _ _ => rfl, Int.le_refl _, hq, by rw [List.take_zero, yj]; simp⟩
theorem uu.step {b : Int} (hb : 2 ≤ b) {u v : List Int} (hv : z8 b v) {j : Nat} {q : Int} (hq : 0 ≤ q) {i : Nat} (hj : j + i < u.length) {w : List Int} {c : Int} (h : uu b u v j q i w c) :
  (0 ≤ w.getD (j + i) 0 + q * v.getD i 0 + c ∧ w.getD (j + i) 0 + q * v.getD i 0 + c < (q + 1) * b) ∧
  uu b u v j q (i + 1) (w.set (j + i) ((w.getD (j + i) 0 + q * v.getD i 0 + c).tmod b)) ((w.getD (j + i) 0 + q * v.getD i 0 + c).tdiv b) := by
 have v1 := hv.get (by omega) i
 have w1 := h.in_.get (by omega) (j + i)
 have h0 := h.c0
 have h1 := h.c1
 have p0 : 0 ≤ q * v.getD i 0 := Int.mul_nonneg hq v1.1
 have p1 : q * v.getD i 0 ≤ q * (b - 1) := Int.mul_le_mul_of_nonneg_left (by omega) hq
 rw [Int.mul_sub, Int.mul_one] at p1
 have n1 : 0 ≤ w.getD (j + i) 0 + q * v.getD i 0 + c := by omega
 have n2 : w.getD (j + i) 0 + q * v.getD i 0 + c < (q + 1) * b := by rw [Int.add_mul, Int.one_mul]; omega
 have hl : j + i < w.length := by rw [h.len]; exact hj
 have hval := h.val
 refine ⟨⟨n1, n2⟩, ?_⟩
 obtain ⟨e, m0, m1, d0⟩ := kV n1 (b := b) (by omega)
 have hd : (w.getD (j + i) 0 + q * v.getD i 0 + c).tdiv b ≤ q := by
  refine Decidable.byContradiction fun hn => ?_
  have : b * (q + 1) ≤ b * (w.getD (j + i) 0 + q * v.getD i 0 + c).tdiv b := Int.mul_le_mul_of_nonneg_left (by omega) (by omega)
  grind
 refine ⟨by rw [List.length_set]; exact h.len, h.in_.set m0 m1 _, fun x hx => ?_, d0, hd, ?_⟩
 ·rw [yB _ _ _ _ hl, if_neg (by omega)]
  exact h.out x (by omega)
 ·rw [WP b _ hl, Zq]
  grind
theorem z8.ext {b : Int} (hb : 0 < b) : ∀ {l m : List Int}, z8 b l → z8 b m → l.length = m.length → zX b l = zX b m → l = m
 | [], [], _, _, _, _ => rfl
 | [], _ :: _, _, _, h, _ => by cases h
 | _ :: _, [], _, _, h, _ => by cases h
 | x :: l, y :: m, hl, hm, h, hv => by
  have hx := hl.head
  have hy := hm.head
  have hv : x + b * zX b l = y + b * zX b m := hv
  have e1 : x = (x + b * zX b l) % b := by rw [Int.add_mul_emod_self_left, Int.emod_eq_of_lt hx.1 hx.2]
  have e2 : y = (y + b * zX b m) % b := by rw [Int.add_mul_emod_self_left, Int.emod_eq_of_lt hy.1 hy.2]
  have e3 : x = y := by rw [e1, e2, hv]
  subst e3
  have e4 : b * zX b l = b * zX b m := by omega
  rw [z8.ext hb hl.tail hm.tail (by simpa using h) (Int.eq_of_mul_eq_mul_left (by omega) e4)]
theorem M7 {b : Int} {u : List Int} {j n : Nat} (h : ∀ i, n ≤ i → u.getD i 0 = 0) (hj : j ≤ n) : zX b (u.drop j) = zX b ((u.take n).drop j) := by
 have e : ∀ {l : List Int}, (∀ i, l.getD i 0 = 0) → zX b l = 0 := by
  intro l
  induction l with
  | nil => intro _; rfl
  | cons x l ih =>
   intro hl
   have h0 : x = 0 := hl 0
   show x + b * zX b l = 0
   rw [h0, ih fun i => hl (i + 1)]; simp
 by_cases hn : n ≤ u.length
 ·have e1 : u.drop j = (u.take n).drop j ++ u.drop n := by
   conv => lhs; rw [← List.take_append_drop n u]
   grind
  rw [e1, VR, e (l := u.drop n), Int.mul_zero, Int.add_zero]
  simp_all
 ·rw [List.take_of_length_le (by omega)]
end Go.Ar

namespace Go.Ar
open Go Go.Sx Go.Lib
set_option maxRecDepth 100000
theorem yq (l : List Int) (j i : Nat) : (l.drop j).getD i 0 = l.getD (j + i) 0 := by
 simp
theorem X0 {b : Int} {l : List Int} {n : Nat} (h : ∀ i, n ≤ i → l.getD i 0 = 0) : zX b l = zX b (l.take n) := by
 have := M7 (b := b) (j := 0) h (Nat.zero_le _)
 assumption
theorem xp {b : Int} (hb : 0 < b) {l : List Int} (h : z8 b l) (n : Nat) : 0 ≤ zX b (l.take n) ∧ zX b (l.take n) < b ^ n := by
 refine ⟨zK (Int.le_of_lt hb) (h.take n), ?_⟩
 have h1 := yN hb (h.take n)
 have h2 : b ^ (l.take n).length ≤ b ^ n := by
  obtain ⟨m, rfl⟩ : ∃ m : Nat, b = m := ⟨b.toNat, by omega⟩
  have : m ^ (l.take n).length ≤ m ^ n := Nat.pow_le_pow_right (by omega) (by simp; omega)
  grind
 omega
theorem sG {b : Int} (hb : 0 < b) {l : List Int} (h : z8 b l) {n : Nat} (hv : zX b l < b ^ n) {i : Nat} (hi : n ≤ i) : l.getD i 0 = 0 := by
 by_cases hl : i < l.length
 ·have e := xW b l (z := i) (by omega)
  rw [Y9 b hl] at e
  have h1 := (h.get hb i).1
  have h2 := (xp hb h i).1
  have h3 := zK (Int.le_of_lt hb) (h.drop (i + 1))
  refine Decidable.byContradiction fun hn => ?_
  have h4 : b ^ i * 1 ≤ b ^ i * (l.getD i 0 + b * zX b (l.drop (i + 1))) := by
   refine Int.mul_le_mul_of_nonneg_left ?_ (Int.le_of_lt (y8 hb i))
   have := Int.mul_nonneg (Int.le_of_lt hb) h3
   omega
  have h5 : b ^ n ≤ b ^ i := by
   obtain ⟨m, rfl⟩ : ∃ m : Nat, b = m := ⟨b.toNat, by omega⟩
   have : m ^ n ≤ m ^ i := Nat.pow_le_pow_right (by omega) hi
   grind
  omega
 simp_all
theorem Gs {b : Int} (hb : 0 < b) {l : List Int} (h : z8 b l) {k : Nat} (hz : ∀ i, k + 3 ≤ i → l.getD i 0 = 0) :
  ∃ low, 0 ≤ low ∧ low < b ^ k ∧ zX b l = low + b ^ k * (l.getD k 0 + b * l.getD (k + 1) 0 + b * b * l.getD (k + 2) 0) := by
 refine ⟨_, (xp hb h k).1, (xp hb h k).2, ?_⟩
 rw [X0 hz, show k + 3 = k + 2 + 1 from rfl, Zq, show k + 2 = k + 1 + 1 from rfl, Zq, Zq, wv b (k + 1), wv b k, Int.mul_add, Int.mul_add]
 grind
structure Lc (b top v1 W V q r : Int) : Prop where
 eq : q * v1 + r = top
 r0 : 0 ≤ r
 q0 : 0 ≤ q
 lt : W < (q + 1) * V
 le : q < 2 * b
structure NE (b : Int) (k : Nat) (u0 u1 u2 v1 v2 W V : Int) : Prop where
 hb : 2 ≤ b
 hu0 : 0 ≤ u0 ∧ u0 ≤ v1
 hu1 : 0 ≤ u1 ∧ u1 < b
 hu2 : 0 ≤ u2 ∧ u2 < b
 hv1 : 0 < v1 ∧ v1 < b
 hv2 : 0 ≤ v2 ∧ v2 < b
 w : W < b ^ k * (u2 + 1 + b * (u0 * b + u1))
 v : b ^ k * (v2 + b * v1) ≤ V
theorem NE.start {b : Int} {k : Nat} {u0 u1 u2 v1 v2 W V : Int} (h : NE b k u0 u1 u2 v1 v2 W V) : Lc b (u0 * b + u1) v1 W V ((u0 * b + u1).tdiv v1) ((u0 * b + u1).tmod v1) := by
 have hb := h.hb
 have a0 := h.hu0
 have a1 := h.hu1
 have a2 := h.hu2
 have b1 := h.hv1
 have b2 := h.hv2
 have p0 : 0 ≤ u0 * b := Int.mul_nonneg a0.1 (by omega)
 obtain ⟨e, m0, m1, d0⟩ := kV (n := u0 * b + u1) (b := v1) (by omega) b1.1
 have hp := y8 (b := b) (by omega) k
 refine ⟨by rw [Int.mul_comm]; omega, m0, d0, ?_, ?_⟩
 ·generalize hq : (u0 * b + u1).tdiv v1 = q at *
  have t1 : u0 * b + u1 + 1 ≤ (q + 1) * v1 := by rw [Int.add_mul, Int.one_mul, Int.mul_comm q]; omega
  have t2 : b * (u0 * b + u1 + 1) ≤ b * ((q + 1) * v1) := Int.mul_le_mul_of_nonneg_left t1 (by omega)
  have t3 : b ^ k * (u2 + 1 + b * (u0 * b + u1)) ≤ b ^ k * (b * ((q + 1) * v1)) := Int.mul_le_mul_of_nonneg_left (by rw [Int.mul_add, Int.mul_one] at t2; omega) (Int.le_of_lt hp)
  have t4 : (q + 1) * (b ^ k * (v2 + b * v1)) ≤ (q + 1) * V := Int.mul_le_mul_of_nonneg_left h.v (by omega)
  have t5 : b ^ k * (b * ((q + 1) * v1)) ≤ (q + 1) * (b ^ k * (v2 + b * v1)) := by
   rw [← Int.mul_assoc (q + 1), Int.mul_comm (q + 1) (b ^ k), Int.mul_assoc]
   refine Int.mul_le_mul_of_nonneg_left ?_ (Int.le_of_lt hp)
   rw [Int.mul_add]
   have := Int.mul_nonneg (show 0 ≤ q + 1 by omega) b2.1
   grind
  have := h.w
  omega
 ·refine Decidable.byContradiction fun hn => ?_
  have t1 : v1 * (2 * b) ≤ v1 * (u0 * b + u1).tdiv v1 := Int.mul_le_mul_of_nonneg_left (by omega) (by omega)
  have t2 : u0 * b ≤ v1 * b := Int.mul_le_mul_of_nonneg_right a0.2 (by omega)
  have t3 : v1 * (2 * b) = v1 * b + v1 * b := by rw [Int.two_mul, Int.mul_add]
  have t4 : 1 * b ≤ v1 * b := Int.mul_le_mul_of_nonneg_right (by omega) (by omega)
  omega
theorem NE.step {b : Int} {k : Nat} {u0 u1 u2 v1 v2 W V q r : Int} (h : NE b k u0 u1 u2 v1 v2 W V) (hi : Lc b (u0 * b + u1) v1 W V q r) (hW : W < b * V) (hV : 0 < V)
  (hc : b ≤ q ∨ r * b + u2 < q * v2) : 0 < q ∧ Lc b (u0 * b + u1) v1 W V (q - 1) (r + v1) := by
 have hb := h.hb
 have a2 := h.hu2
 have b1 := h.hv1
 have b2 := h.hv2
 have q0 := hi.q0
 have r0 := hi.r0
 have hp := y8 (b := b) (by omega) k
 have hq : 0 < q := by
  rcases hc with hc | hc
  ·omega
  ·refine Decidable.byContradiction fun hn => ?_
   have : q = 0 := by omega
   subst this
   have := Int.mul_nonneg r0 (show 0 ≤ b by omega)
   omega
 refine ⟨hq, by rw [Int.sub_mul, Int.one_mul]; have := hi.eq; omega, by omega, by omega, ?_, by have := hi.le; omega⟩
 rw [Int.sub_add_cancel]
 rcases hc with hc | hc
 ·have : b * V ≤ q * V := Int.mul_le_mul_of_nonneg_right hc (by omega)
  omega
 ·have t1 : q * (b ^ k * (v2 + b * v1)) ≤ q * V := Int.mul_le_mul_of_nonneg_left h.v q0
  have t2 : b ^ k * (u2 + 1 + b * (u0 * b + u1)) ≤ q * (b ^ k * (v2 + b * v1)) := by
   rw [← Int.mul_assoc q, Int.mul_comm q (b ^ k), Int.mul_assoc]
   refine Int.mul_le_mul_of_nonneg_left ?_ (Int.le_of_lt hp)
   rw [← hi.eq, Int.mul_add, Int.mul_add, ← Int.mul_assoc q b, Int.mul_comm q b, Int.mul_assoc b q, Int.mul_comm b r]
   omega
  have := h.w
  omega
structure w9 (b A V : Int) (n m j : Nat) (q u : List Int) : Prop where
 ql : q.length = m
 ul : u.length = m + n
 qi : z8 b q
 ui : z8 b u
 hi : ∀ i, j + n ≤ i → u.getD i 0 = 0
 top : zX b (u.drop j) < V
 val : A = V * (b ^ j * zX b (q.drop j)) + zX b u
theorem w9.start {b A V : Int} (hb : 0 < b) {n m : Nat} {u : List Int} (hl : u.length = m + n) (hu : z8 b u) (hV : zX b (u.drop m) < V) (hA : A = zX b u) : w9 b A V n m m (List.replicate m 0) u :=
 ⟨by simp, hl, .zeros hb m, hu, fun i hi => by rw [List.getD_eq_getElem?_getD, List.getElem?_eq_none (by omega)]; rfl, hV, by
  rw [List.drop_of_length_le (by simp), yj, Int.mul_zero, Int.mul_zero, Int.zero_add]; exact hA⟩
theorem w9.win {b A V : Int} (hb : 0 < b) {n m j : Nat} {q u : List Int} (hn : 0 < n) (hj : j < m) (h : w9 b A V n m (j + 1) q u) : 0 ≤ zX b (u.drop j) ∧ zX b (u.drop j) < b * V := by
 have h1 := h.ui.get hb j
 have h2 := h.top
 rw [Y9 b (by rw [h.ul]; omega)]
 have h3 : b * (zX b (u.drop (j + 1)) + 1) ≤ b * V := Int.mul_le_mul_of_nonneg_left (by omega) (by omega)
 rw [Int.mul_add, Int.mul_one] at h3
 have h4 := Int.mul_nonneg (Int.le_of_lt hb) (zK (Int.le_of_lt hb) (h.ui.drop (j + 1)))
 omega
theorem tK {u w : List Int} {j n : Nat} (hl : w.length = u.length) (h : Out j n u w) : w.take j = u.take j := by
 refine List.ext_getElem (by simp [hl]) fun i h1 h2 => ?_
 have hi : i < j := by simp at h1; omega
 have hiw : i < w.length := by simp at h1; omega
 have e := h i (.inl hi)
 simp_all
theorem qU {b : Int} {u w : List Int} {j n : Nat} (hl : w.length = u.length) (hj : j ≤ u.length) (h : Out j n u w) : zX b w - zX b u = b ^ j * (zX b (w.drop j) - zX b (u.drop j)) := by
 rw [xW b w (z := j) (by omega), xW b u (z := j) hj, tK hl h, Int.mul_sub]
 omega
theorem Wu.end_ {b : Int} (hb : 2 ≤ b) {u v : List Int} {j : Nat} {q : Int} {w : List Int} {c : Int} (hj : j ≤ u.length) (hz : ∀ i, j + 1 + v.length ≤ i → u.getD i 0 = 0) (h : Wu b u v j q (v.length + 1) w c) :
  zX b (w.drop j) - b ^ (v.length + 1) * c = zX b (u.drop j) - q * zX b v ∧ 0 ≤ zX b (w.drop j) ∧ zX b (w.drop j) < b ^ (v.length + 1) := by
 have hv := h.val
 rw [Yd (by omega)] at hv
 have hl := qU (b := b) h.len hj h.out
 refine ⟨?_, zK (by omega) (h.in_.drop j), ?_⟩
 ·have e : b ^ j * (zX b (w.drop j) - b ^ (v.length + 1) * c) = b ^ j * (zX b (u.drop j) - q * zX b v) := by
   grind
  exact Int.eq_of_mul_eq_mul_left (by have := y8 (b := b) (by omega) j; omega) e
 ·have hz2 : ∀ i, v.length + 1 ≤ i → (w.drop j).getD i 0 = 0 := fun i hi => by
   rw [yq, h.out _ (.inr (by omega)), hz _ (by omega)]
  rw [X0 hz2]
  exact (xp (by omega) (h.in_.drop j) _).2
theorem Wu.fits {b : Int} (hb : 2 ≤ b) {u v : List Int} {j : Nat} {q : Int} {w : List Int} {c : Int} (hj : j ≤ u.length) (hz : ∀ i, j + 1 + v.length ≤ i → u.getD i 0 = 0) (h : Wu b u v j q (v.length + 1) w c) :
  (c ≤ 0 → zX b (w.drop j) = zX b (u.drop j) - q * zX b v) ∧ (0 < c → zX b (u.drop j) < q * zX b v) := by
 obtain ⟨e, e0, e1⟩ := h.end_ hb hj hz
 have hp := y8 (b := b) (by omega) (v.length + 1)
 constructor
 ·intro hc
  have : c = 0 := by have := h.c0; omega
  simp_all
 ·intro hc
  have : b ^ (v.length + 1) * 1 ≤ b ^ (v.length + 1) * c := Int.mul_le_mul_of_nonneg_left (by omega) (by omega)
  omega
theorem uu.end_ {b : Int} (hb : 2 ≤ b) {u v : List Int} {j : Nat} {q : Int} {w : List Int} {c : Int} (hu : z8 b u) (hj : j ≤ u.length) (hz : ∀ i, j + 1 + v.length ≤ i → u.getD i 0 = 0) (h : Wu b u v j q (v.length + 1) w c)
  {w2 : List Int} {c2 : Int} (h2 : uu b w v j q (v.length + 1) w2 c2) : w2 = u := by
 obtain ⟨e, e0, e1⟩ := h.end_ hb hj hz
 have hp := y8 (b := b) (by omega) (v.length + 1)
 have hv := h2.val
 rw [Yd (by omega)] at hv
 have hl := qU (b := b) h2.len (by rw [h.len]; exact hj) h2.out
 have o2 : ∀ i, v.length + 1 ≤ i → (w2.drop j).getD i 0 = 0 := fun i hi => by
  rw [yq, h2.out _ (.inr (by omega)), h.out _ (.inr (by omega)), hz _ (by omega)]
 have ou : ∀ i, v.length + 1 ≤ i → (u.drop j).getD i 0 = 0 := fun i hi => by rw [yq, hz _ (by omega)]
 have b2 := (xp (by omega) (h2.in_.drop j) (v.length + 1))
 rw [← X0 o2] at b2
 have bu := (xp (by omega) (hu.drop j) (v.length + 1))
 rw [← X0 ou] at bu
 have e2 : zX b (w2.drop j) + b ^ (v.length + 1) * c2 = zX b (w.drop j) + q * zX b v := by
  have e3 : b ^ j * (zX b (w2.drop j) + b ^ (v.length + 1) * c2) = b ^ j * (zX b (w.drop j) + q * zX b v) := by
   grind
  exact Int.eq_of_mul_eq_mul_left (by have := y8 (b := b) (by omega) j; omega) e3
 have e4 : zX b (w2.drop j) - zX b (u.drop j) = b ^ (v.length + 1) * (c - c2) := by rw [Int.mul_sub]; omega
 have e5 : c = c2 := by
  rcases Int.lt_trichotomy c c2 with hlt | heq | hgt
  ·have : b ^ (v.length + 1) * (c - c2) ≤ b ^ (v.length + 1) * (-1) := Int.mul_le_mul_of_nonneg_left (by omega) (by omega)
   omega
  ·exact heq
  ·have : b ^ (v.length + 1) * 1 ≤ b ^ (v.length + 1) * (c - c2) := Int.mul_le_mul_of_nonneg_left (by omega) (by omega)
   omega
 have e6 : zX b (w2.drop j) = zX b (u.drop j) := by rw [e5, Int.sub_self, Int.mul_zero] at e4; omega
 refine z8.ext (by omega) h2.in_ hu (h2.len.trans h.len) ?_
 rw [xW b w2 (z := j) (by rw [h2.len, h.len]; exact hj), xW b u (z := j) hj, tK h2.len h2.out, tK h.len h.out, e6]
theorem w9.step {b A V : Int} (hb : 2 ≤ b) {v : List Int} (hv : z8 b v) (hV : zX b v = V) {m j : Nat} {q u : List Int} (hj : j < m) (h : w9 b A V v.length m (j + 1) q u) {Q : Int} (hQ : 0 ≤ Q) (hlt : zX b (u.drop j) < (Q + 1) * V)
  {w : List Int} {c : Int} (ht : Wu b u v j Q (v.length + 1) w c) (hc : c ≤ 0) : w9 b A V v.length m j (q.set j Q) w := by
 have hul := h.ul
 obtain ⟨t1, _⟩ := ht.fits hb (by omega) (fun i hi => h.hi i (by omega))
 have t1 := t1 hc
 rw [hV] at t1
 have w0 := zK (b := b) (by omega) (ht.in_.drop j)
 have hw : zX b (w.drop j) < V := by rw [t1]; rw [Int.add_mul, Int.one_mul] at hlt; omega
 have hVb : V < b ^ v.length := by rw [← hV]; exact yN (by omega) hv
 have hV0 : 0 < V := by omega
 have hvl : 0 < v.length := by
  refine Nat.pos_of_ne_zero fun e => ?_
  rw [e, Int.pow_zero] at hVb
  omega
 obtain ⟨z1, z2⟩ := h.win (by omega) hvl hj
 have hQb : Q < b := by
  refine Decidable.byContradiction fun hn => ?_
  have : b * V ≤ Q * V := Int.mul_le_mul_of_nonneg_right (by omega) (by omega)
  omega
 refine ⟨by rw [List.length_set]; exact h.ql, by rw [ht.len]; exact hul, h.qi.set hQ hQb _, ht.in_, fun i hi => ?_, hw, ?_⟩
 ·by_cases e : i = j + v.length
  ·have := sG (by omega) (ht.in_.drop j) (n := v.length) (i := v.length) (by omega) (Nat.le_refl _)
   simp_all
  ·rw [ht.out i (.inr (by omega))]
   exact h.hi i (by omega)
 ·have hvv := ht.val
  have hc0 : c = 0 := by have := ht.c0; omega
  rw [hc0, Int.mul_zero, Int.sub_zero, Yd (by omega), hV] at hvv
  rw [qo _ _ _ (by rw [h.ql]; omega)]
  show A = V * (b ^ j * (Q + b * zX b (q.drop (j + 1)))) + zX b w
  rw [hvv, h.val, wv, Int.mul_add, Int.mul_add, ← Int.mul_assoc (b ^ j) b]
  grind
theorem w9.est {b A V : Int} (hb : 2 ≤ b) {v : List Int} (hv : z8 b v) (hV : zX b v = V) {k : Nat} (hk : v.length = k + 2) (h1 : 0 < v.getD (k + 1) 0) {m j : Nat} {q u : List Int} (hj : j < m) (h : w9 b A V v.length m (j + 1) q u) :
  NE b k (u.getD (j + (k + 2)) 0) (u.getD (j + (k + 1)) 0) (u.getD (j + k) 0) (v.getD (k + 1) 0) (v.getD k 0) (zX b (u.drop j)) V := by
 have hz : ∀ i, k + 3 ≤ i → (u.drop j).getD i 0 = 0 := fun i hi => by rw [yq]; exact h.hi _ (by omega)
 obtain ⟨low, l0, l1, le⟩ := Gs (by omega) (h.ui.drop j) hz
 rw [yq, yq, yq] at le
 have hzv : ∀ i, k + 3 ≤ i → v.getD i 0 = 0 := fun i hi => by rw [List.getD_eq_getElem?_getD, List.getElem?_eq_none (by omega)]; rfl
 obtain ⟨lv, v0, v1, ve⟩ := Gs (by omega) hv hzv
 rw [show v.getD (k + 2) 0 = 0 by rw [List.getD_eq_getElem?_getD, List.getElem?_eq_none (by omega)]; rfl, Int.mul_zero, Int.add_zero, hV] at ve
 have a0 := h.ui.get (by omega) (j + (k + 2))
 have a1 := h.ui.get (by omega) (j + (k + 1))
 have a2 := h.ui.get (by omega) (j + k)
 have c1 := hv.get (by omega) (k + 1)
 have c2 := hv.get (by omega) k
 refine ⟨hb, ⟨a0.1, ?_⟩, a1, a2, ⟨h1, c1.2⟩, c2, ?_, by omega⟩
 ·-- the first limb is at most that of the divisor
  have ht := h.top
  have hz2 : ∀ i, k + 2 ≤ i → (u.drop (j + 1)).getD i 0 = 0 := fun i hi => by rw [yq]; exact h.hi _ (by omega)
  have e1 : zX b (u.drop (j + 1)) = zX b ((u.drop (j + 1)).take (k + 1)) + b ^ (k + 1) * u.getD (j + (k + 2)) 0 := by
   rw [X0 hz2, show k + 2 = k + 1 + 1 from rfl, Zq, yq, show j + 1 + (k + 1) = j + (k + 1 + 1) by omega]
  have e2 := (xp (b := b) (by omega) (h.ui.drop (j + 1)) (k + 1)).1
  have e3 : zX b v = zX b (v.take (k + 1)) + b ^ (k + 1) * v.getD (k + 1) 0 := by
   rw [← Zq, List.take_of_length_le (by omega)]
  have e4 := (xp (b := b) (by omega) hv (k + 1)).2
  rw [hV] at e3
  refine Decidable.byContradiction fun hn => ?_
  have : b ^ (k + 1) * (v.getD (k + 1) 0 + 1) ≤ b ^ (k + 1) * u.getD (j + (k + 2)) 0 := Int.mul_le_mul_of_nonneg_left (by omega) (Int.le_of_lt (y8 (by omega) _))
  grind
 grind
theorem w9.end_ {b : Nat} (hb : 2 ≤ b) {A V : Nat} (hV0 : 0 < V) {n m : Nat} {q u : List Int} (h : w9 b A V n m 0 q u) : zO q = zw b (A / V) ∧ zO u = zw b (A % V) := by
 have hv := h.val
 rw [Int.pow_zero, Int.one_mul, List.drop_zero] at hv
 have ht := h.top
 rw [List.drop_zero] at ht
 have q0 := zK (b := (b : Int)) (by omega) h.qi
 have u0 := zK (b := (b : Int)) (by omega) h.ui
 obtain ⟨Q, hQ⟩ : ∃ Q : Nat, zX b q = Q := ⟨(zX b q).toNat, by omega⟩
 obtain ⟨R, hR⟩ : ∃ R : Nat, zX b u = R := ⟨(zX b u).toNat, by omega⟩
 rw [hQ, hR] at hv
 rw [hR] at ht
 have hv : A = V * Q + R := by exact_mod_cast hv
 have hR' : R < V := by omega
 rw [y7 hb h.qi, y7 hb h.ui, hQ, hR, Int.toNat_natCast, Int.toNat_natCast]
 rw [hv, Nat.mul_add_div hV0, Nat.div_eq_of_lt hR', Nat.add_zero, Nat.mul_add_mod, Nat.mod_eq_of_lt hR']
 simp
end Go.Ar

namespace Go.Ar
open Go Go.Sx Go.Lib
set_option maxRecDepth 100000
def zp (s : zL) : zL := s.takeWhile (· != 47)
def zg (s : zL) : zL := (s.dropWhile (· != 47)).drop 1
def zk (s : zL) : Bool := s.any (· == 47)
def ZM (s : zL) : Bool := zC (zp s) && (!zk s || z6 (zg s) && !(zg s == [48]) && !(zg s == [49]))
def zJ (s : zL) : Int := zV (zp s)
def zP (s : zL) : Nat := bif zk s then zm (zg s) else 1
def zN (s : zL) : Int :=
 bif !ZM s then 11 else bif Nat.blt 300 (wu (zp s)) || Nat.blt 300 (zg s).length then 4 else bif Nat.beq (Nat.gcd (zJ s).natAbs (zP s)) 1 then 0 else 11
def wV (n : Int) (d : Nat) : zL := itoa n ++ bif Nat.beq d 1 then [] else 47 :: decDigits d
def yY (n : Int) (d : Nat) : zL := wV (n / (Nat.gcd n.natAbs d : Int)) (d / Nat.gcd n.natAbs d)
theorem tN {c : UInt8} (h : Zs c = true) : (c != 47) = true := by
 rw [yR] at h
 rw [bne_iff_ne]
 intro e
 simp_all
theorem sd {s : zL} (h : zC s = true) : ∀ c ∈ s, (c != 47) = true := by
 rcases yQ h with ⟨r, rfl, h1, _, _⟩ | ⟨h1, _⟩
 ·intro c hc
  rcases List.mem_cons.1 hc with rfl | hc
  ·decide
  ·exact tN ((Zx.1 h1).2.1 c hc)
 ·exact fun c hc => tN ((Zx.1 h1).2.1 c hc)
theorem vK {p : UInt8 → Bool} : ∀ {a : zL}, (∀ c ∈ a, p c = true) → a.takeWhile p = a ∧ a.dropWhile p = []
 | [], _ => ⟨rfl, rfl⟩
 | c :: a, h => by
  obtain ⟨h1, h2⟩ := vK (a := a) fun x hx => h x (List.mem_cons_of_mem _ hx)
  simp_all
theorem sY {p : UInt8 → Bool} {x : UInt8} {b : zL} (hx : p x = false) : ∀ {a : zL}, (∀ c ∈ a, p c = true) → (a ++ x :: b).takeWhile p = a ∧ (a ++ x :: b).dropWhile p = x :: b
 | [], _ => by simp [List.takeWhile_cons, List.dropWhile_cons, hx]
 | c :: a, h => by
  simp_all
theorem X7 {s : zL} (h : zk s = false) : zp s = s ∧ zg s = [] := by
 unfold zk at h
 rw [List.any_eq_false] at h
 obtain ⟨h1, h2⟩ := vK (p := (· != 47)) (a := s) fun c hc => by
  simp_all
 exact ⟨h1, by unfold zg; rw [h2]; rfl⟩
theorem t8 {a b : zL} (h : ∀ c ∈ a, (c != 47) = true) : zp (a ++ 47 :: b) = a ∧ zg (a ++ 47 :: b) = b ∧ zk (a ++ 47 :: b) = true := by
 obtain ⟨h1, h2⟩ := sY (p := (· != 47)) (x := 47) (b := b) (by decide) h
 exact ⟨h1, by unfold zg; rw [h2]; rfl, by unfold zk; simp⟩
theorem qJ {s : zL} (h : ∀ c ∈ s, (c != 47) = true) : zk s = false := by
 unfold zk
 simp_all
theorem Uu {s : zL} (h : zk s = true) : s = zp s ++ 47 :: zg s := by
 have e := List.takeWhile_append_dropWhile (p := (· != (47 : UInt8))) (l := s)
 unfold zp zg
 have hd : ∃ b, s.dropWhile (· != (47 : UInt8)) = 47 :: b := by
  clear e
  induction s with
  | nil => cases h
  | cons c s ih =>
   by_cases hc : c = 47
   ·simp_all
   ·have h' : zk s = true := by
     unfold zk at h ⊢
     simp_all
    simp_all
 grind
theorem TP {s : zL} (h : zk s = false) : ZM s = zC s := by
 unfold ZM
 rw [h, (X7 h).1]; simp
theorem U5 {s : zL} (h : ZM s = true) : (zC s = true ∧ zk s = false ∧ zp s = s ∧ zJ s = zV s ∧ zP s = 1) ∨
  (zk s = true ∧ s = zp s ++ 47 :: zg s ∧ zC (zp s) = true ∧ z6 (zg s) = true ∧ 2 ≤ zP s ∧ zP s = zm (zg s)) := by
 cases hs : zk s with
 | false =>
  rw [TP hs] at h
  obtain ⟨h1, h2⟩ := X7 hs
  exact .inl ⟨h, rfl, h1, by unfold zJ; rw [h1], by unfold zP; rw [hs]; rfl⟩
 | true =>
  unfold ZM at h
  rw [hs] at h
  simp only [Bool.not_true, Bool.false_or, Bool.and_eq_true, Bool.not_eq_true'] at h
  obtain ⟨h1, ⟨h2, h3⟩, h4⟩ := h
  have e : zP s = zm (zg s) := by unfold zP; rw [hs]; rfl
  refine .inr ⟨rfl, Uu hs, h1, h2, ?_, e⟩
  rw [e]
  have h5 := Zl h2
  refine Decidable.byContradiction fun hn => ?_
  have : zm (zg s) = 0 ∨ zm (zg s) = 1 := by omega
  rcases this with h6 | h6
  ·rw [h6, z7 (by decide)] at h5
   rw [← h5] at h3
   exact absurd h3 (by decide)
  ·rw [h6, z7 (by decide)] at h5
   rw [← h5] at h4
   exact absurd h4 (by decide)
theorem yc {s : zL} (h : ZM s = true) : 1 ≤ zP s := by rcases U5 h with ⟨_, _, _, _, h⟩ | ⟨_, _, _, _, h, _⟩ <;> omega
theorem ZJ {s : zL} : zN s = 0 ↔ ZM s = true ∧ wu (zp s) ≤ 300 ∧ (zg s).length ≤ 300 ∧ Nat.gcd (zJ s).natAbs (zP s) = 1 := by
 unfold zN
 cases h : ZM s with
 | false => simp
 | true =>
  cases h2 : Nat.blt 300 (wu (zp s)) || Nat.blt 300 (zg s).length with
  | true =>
   rw [Bool.or_eq_true, zA, zA] at h2
   simp; omega
  | false =>
   rw [Bool.or_eq_false_iff, Bool.eq_false_iff, Bool.eq_false_iff, Ne, Ne, zA, zA] at h2
   cases h3 : Nat.beq (Nat.gcd (zJ s).natAbs (zP s)) 1 with
   | true =>
    simp_all
   | false =>
    have h3 : Nat.gcd (zJ s).natAbs (zP s) ≠ 1 := fun e => by rw [e] at h3; cases h3
    simp_all
theorem tH {s : zL} (h : ZM s = true) : wV (zJ s) (zP s) = s := by
 unfold wV
 rcases U5 h with ⟨h1, _, _, h4, h5⟩ | ⟨_, h2, h3, h4, h5, h6⟩
 ·rw [h4, h5, x9 h1]; exact List.append_nil s
 ·rw [show Nat.beq (zP s) 1 = false from Bool.eq_false_iff.2 fun e => by have := Nat.eq_of_beq_eq_true e; omega]
  conv => rhs; rw [h2]
  unfold zJ
  rw [x9 h3, h6, Zl h4]; rfl
theorem NH {n : Int} {d : Nat} (h : Nat.gcd n.natAbs d = 1) : yY n d = wV n d := by unfold yY; rw [h]; simp
theorem QF {s : zL} (h : zN s = 0) : yY (zJ s) (zP s) = s := by
 obtain ⟨h1, _, _, h4⟩ := ZJ.1 h
 rw [NH h4, tH h1]
theorem Qw (n : Int) {d : Nat} (hd : 0 < d) : ZM (wV n d) = true ∧ zJ (wV n d) = n ∧ zP (wV n d) = d ∧ wu (zp (wV n d)) = TA n ∧ (zg (wV n d)).length = (if d = 1 then 0 else nDigits d) := by
 obtain ⟨i1, i2⟩ := ya n
 unfold wV
 by_cases h : d = 1
 ·subst h
  rw [Nat.beq_refl]
  simp only [cond_true, List.append_nil, if_true]
  have hs := qJ (sd i1)
  obtain ⟨c1, c2⟩ := X7 hs
  refine ⟨by rw [TP hs]; exact i1, by unfold zJ; rw [c1, i2], by unfold zP; rw [hs]; rfl, by rw [c1, wH i1, i2], by rw [c2]; rfl⟩
 ·rw [show Nat.beq d 1 = false from Bool.eq_false_iff.2 fun e => h (Nat.eq_of_beq_eq_true e)]
  simp only [cond_false, if_neg h]
  obtain ⟨c1, c2, c3⟩ := t8 (b := decDigits d) (sd i1)
  have hd0 : ¬ decDigits d = [48] := fun e => by
   have := Zd d
   rw [e] at this
   have : (0 : Nat) = d := this
   omega
  have hd1 : ¬ decDigits d = [49] := fun e => by
   have := Zd d
   rw [e] at this
   have : (1 : Nat) = d := this
   omega
  refine ⟨?_, by unfold zJ; rw [c1, i2], by unfold zP; rw [c3, c2]; exact Zd d, by rw [c1, wH i1, i2], by rw [c2, decDigits_length]⟩
  unfold ZM
  rw [c1, c2, c3, i1, Xm, beq_false_of_ne hd0, beq_false_of_ne hd1]; rfl
end Go.Ar

namespace Go.Ar
open Go Go.Sx Go.Lib
set_option maxRecDepth 100000
def tT (k x : Nat) : zL := List.replicate (k - (decDigits x).length) 48 ++ decDigits x
theorem tn : ∀ (k : Nat) (l : zL), zm (List.replicate k 48 ++ l) = zm l
 | 0, _ => rfl
 | k + 1, l => by
  rw [List.replicate_succ, List.cons_append, YI, tn k l]
  show 0 * _ + _ = _
  omega
theorem lw {k x : Nat} (hk : 0 < k) (hx : x < 10 ^ k) : (tT k x).length = k := by
 have := (yJ hk).2 hx
 unfold tT
 rw [List.length_append, List.length_replicate, decDigits_length]
 omega
theorem MM (k x : Nat) : zm (tT k x) = x := by unfold tT; rw [tn, Zd]
theorem jV (k x : Nat) : ∀ c ∈ tT k x, Zs c = true := fun c hc => by
 unfold tT at hc
 rcases List.mem_append.1 hc with hc | hc
 ·rw [List.eq_of_mem_replicate hc]; decide
 ·exact List.all_eq_true.1 (Xe x) c hc
theorem sZ {k n x : Nat} (hk : 0 < k) (hn : n ≠ 0) (hx : x < 10 ^ k) : decDigits (n * 10 ^ k + x) = decDigits n ++ tT k x := by
 have hv : zm (decDigits n ++ tT k x) = n * 10 ^ k + x := by rw [To, Zd, MM, lw hk hx]
 rw [← hv]
 refine Zl (Zx.2 ⟨?_, fun c hc => ?_, fun _ => ?_⟩)
 ·have := yA n
  grind
 ·rcases List.mem_append.1 hc with hc | hc
  ·exact List.all_eq_true.1 (Xe n) c hc
  ·exact jV k x c hc
 ·rw [List.getD_eq_getElem?_getD, List.getElem?_append_left (yA n), ← List.getD_eq_getElem?_getD]
  exact XS hn
def Wz (b : Nat) (l : List Int) (i : Nat) : Nat := (zX b (l.drop i)).toNat
theorem NI {k : Nat} (hk : 0 < k) {l : List Int} (hl : z8 (10 ^ k : Nat) l) {i : Nat} (hi : i < l.length) (h0 : Wz (10 ^ k) l (i + 1) ≠ 0) :
  decDigits (Wz (10 ^ k) l i) = decDigits (Wz (10 ^ k) l (i + 1)) ++ tT k (l.getD i 0).toNat := by
 have h10 : 0 < 10 ^ k := Nat.pow_pos (by decide)
 have x1 := hl.get (by omega) i
 have v0 := zK (b := ((10 ^ k : Nat) : Int)) (by omega) (hl.drop (i + 1))
 have e := Y9 ((10 ^ k : Nat) : Int) hi
 have e2 : Wz (10 ^ k) l i = Wz (10 ^ k) l (i + 1) * 10 ^ k + (l.getD i 0).toNat := by
  unfold Wz
  grind
 rw [e2]
 exact sZ hk h0 (by omega)
theorem nH {b : Nat} {l : List Int} (h : 0 < l.length) : Wz b l (l.length - 1) = (l.getD (l.length - 1) 0).toNat := by
 unfold Wz
 rw [Y9 b (by omega), List.drop_of_length_le (by omega), yj, Int.mul_zero, Int.add_zero]
theorem Mj {b : Nat} (hb : 2 ≤ b) {n : Nat} (hn : n ≠ 0) {i : Nat} (hi : i < (zw b n).length) : Wz b (zw b n) i ≠ 0 := by
 obtain ⟨h1, h2⟩ := vE hb hn
 have hin := y9 hb n
 unfold Wz
 intro e
 have v0 := zK (b := (b : Int)) (by omega) (hin.drop i)
 have hz : zX b ((zw b n).drop i) = 0 := by omega
 have := sG (b := (b : Int)) (by omega) (hin.drop i) (n := 0) (by rw [hz, Int.pow_zero]; decide) (i := (zw b n).length - 1 - i) (Nat.zero_le _)
 grind
structure OW (k : Nat) (r : zL) (z : Nat) (L : List Int) : Prop where
 le : z ≤ r.length
 len : L.length = (r.length + k - 1) / k
 in_ : z8 (10 ^ k : Nat) L
 zero : ∀ i, z ≤ k * i → L.getD i 0 = 0
 part : L.getD (z / k) 0 < 10 ^ (z % k)
 val : zX (10 ^ k : Nat) L = (zm (r.drop (r.length - z)) : Int)
theorem OW.start {k : Nat} (hk : 0 < k) (r : zL) : OW k r 0 (List.replicate ((r.length + k - 1) / k) 0) := by
 have h10 : 0 < 10 ^ k := Nat.pow_pos (by decide)
 refine ⟨Nat.zero_le _, by simp, .zeros (by omega) _, fun i _ => VI _ _, ?_, ?_⟩
 ·rw [VI, Nat.zero_mod]; decide
 ·rw [wj, Nat.sub_zero, List.drop_of_length_le (Nat.le_refl _)]; rfl
theorem Tu {r : zL} {i : Nat} (h : i < r.length) : r.drop i = r.getD i 0 :: r.drop (i + 1) := by
 simp_all
theorem OW.step {k : Nat} (hk : 0 < k) {r : zL} (hr : ∀ c ∈ r, Zs c = true) {z : Nat} (hz : z < r.length) {L : List Int} (h : OW k r z L) :
  z / k < L.length ∧ OW k r (z + 1) (L.set (z / k) (L.getD (z / k) 0 + (vZ (r.getD (r.length - 1 - z) 0) : Int) * 10 ^ (z % k))) := by
 have h10 : 0 < 10 ^ k := Nat.pow_pos (by decide)
 have hi : r.length - 1 - z < r.length := by omega
 have hd : Zs (r.getD (r.length - 1 - z) 0) = true := by
  simp_all
 have hv := U8 hd
 have hdm := Nat.div_add_mod z k
 have hmod := Nat.mod_lt z hk
 have hlen : z / k < L.length := by
  rw [h.len]
  have : k * (z / k) < r.length := by omega
  have h2 : (k * (z / k) + k) / k ≤ (r.length + k - 1) / k := Nat.div_le_div_right (by omega)
  rw [Nat.add_div_right _ hk, Nat.mul_div_cancel_left _ hk] at h2
  omega
 have hp := h.part
 have hL := h.in_.get (by omega) (z / k)
 generalize hdd : vZ (r.getD (r.length - 1 - z) 0) = d at *
 have hp0 : (0 : Int) < 10 ^ (z % k) := Int.pow_pos (by decide)
 have hdp : (d : Int) * 10 ^ (z % k) ≤ 9 * 10 ^ (z % k) := Int.mul_le_mul_of_nonneg_right (by omega) (Int.le_of_lt hp0)
 have hdp0 : 0 ≤ (d : Int) * 10 ^ (z % k) := Int.mul_nonneg (by omega) (Int.le_of_lt hp0)
 have hnew : L.getD (z / k) 0 + (d : Int) * 10 ^ (z % k) < 10 ^ (z % k + 1) := by rw [Int.pow_succ]; omega
 have hle : (10 : Int) ^ (z % k + 1) ≤ ((10 ^ k : Nat) : Int) := by
  have : 10 ^ (z % k + 1) ≤ 10 ^ k := Nat.pow_le_pow_right (by decide) (by omega)
  grind
 refine ⟨hlen, by omega, by rw [List.length_set]; exact h.len, h.in_.set (by omega) (by omega) _, fun i hzi => ?_, ?_, ?_⟩
 ·have hne : i ≠ z / k := fun e => by
   grind
  rw [yB _ _ _ _ hlen, if_neg hne]
  exact h.zero i (by omega)
 ·by_cases e : (z + 1) % k = 0
  ·have hz1 : k * ((z + 1) / k) = z + 1 := by have := Nat.div_add_mod (z + 1) k; omega
   have hne : (z + 1) / k ≠ z / k := fun e2 => by rw [e2] at hz1; omega
   rw [yB _ _ _ _ hlen, if_neg hne, h.zero _ (by omega)]
   simp_all
  ·have e1 : (z + 1) % k = z % k + 1 ∧ (z + 1) / k = z / k := by
    have h1 : z % k + 1 < k := by
     refine Nat.lt_of_le_of_ne (by omega) fun e2 => e ?_
     have : z + 1 = k * (z / k + 1) := by rw [Nat.mul_add, Nat.mul_one]; omega
     simp_all
    have h2 : z + 1 = k * (z / k) + (z % k + 1) := by omega
    constructor
    ·rw [h2, Nat.mul_add_mod, Nat.mod_eq_of_lt h1]
    ·rw [h2, Nat.mul_add_div hk, Nat.div_eq_of_lt h1, Nat.add_zero]
   simp_all
 ·rw [WP _ _ hlen, h.val, show r.length - (z + 1) = r.length - 1 - z by omega, Tu hi, YI, show r.length - 1 - z + 1 = r.length - z by omega, hdd, List.length_drop, show r.length - (r.length - z) = z by omega]
  have e1 : ((10 ^ k : Nat) : Int) ^ (z / k) * (10 : Int) ^ (z % k) = 10 ^ z := by
   have : (10 ^ k) ^ (z / k) * 10 ^ (z % k) = 10 ^ z := by rw [← Nat.pow_mul, ← Nat.pow_add, hdm]
   exact_mod_cast this
  grind
theorem OW.end_ {k : Nat} (hk : 0 < k) {r : zL} {L : List Int} (h : OW k r r.length L) : zO L = zw (10 ^ k) (zm r) := by
 have hv := h.val
 rw [Nat.sub_self, List.drop_zero] at hv
 have h2 : 2 ≤ 10 ^ k := by
  grind
 rw [y7 h2 h.in_, hv, Int.toNat_natCast]
end Go.Ar

namespace Go.Ar
open Go Go.Sx Go.Lib
set_option maxRecDepth 100000
theorem Zu {b m n : Nat} (hb : 2 ≤ b) (h : m ≤ n) : (zw b m).length ≤ (zw b n).length := by
 refine Decidable.byContradiction fun hn => ?_
 have := wE hb (m := n) (n := m) (by omega)
 omega
theorem yb {b n : Nat} (hb : 2 ≤ b) (h : (zw b n).length = 0) : n = 0 := by
 refine Decidable.byContradiction fun h0 => ?_
 rw [XX hb h0] at h
 cases h
theorem wx {x y : Nat} (h : y ≠ 0) : Nat.gcd x y = Nat.gcd y (x % y) := by
 rw [Nat.gcd_comm x y, Nat.gcd_rec y x, Nat.gcd_comm]
end Go.Ar

namespace Go.Ar
open Go Go.Sx Go.Lib
set_option maxRecDepth 100000
theorem X1 {l : List Int} {i : Nat} (h : l.length ≤ i) : l.getD i 0 = 0 := by rw [List.getD_eq_getElem?_getD, List.getElem?_eq_none h]; rfl
theorem FA (c : UInt8) : (zH (c.toNat : Int) 48 || zH 57 (c.toNat : Int)) = !Zs c := by
 unfold Zs
 rw [Bool.eq_iff_iff, Bool.or_eq_true, zR, zR, Bool.not_eq_true', Bool.and_eq_false_iff]
 constructor
 ·rintro (h | h)
  ·exact .inl (Bool.eq_false_iff.2 fun e => by have := Nat.le_of_ble_eq_true e; omega)
  ·exact .inr (Bool.eq_false_iff.2 fun e => by have := Nat.le_of_ble_eq_true e; omega)
 ·rintro (h | h)
  ·exact .inl (by have : ¬ 48 ≤ c.toNat := fun e => by rw [Nat.ble_eq_true_of_le e] at h; cases h
                  omega)
  ·exact .inr (by have : ¬ c.toNat ≤ 57 := fun e => by rw [Nat.ble_eq_true_of_le e] at h; cases h
                  omega)
theorem YV (c : UInt8) (n : Nat) (hn : n < 256) : ((c.toNat : Int) == (n : Int)) = (c == UInt8.ofNat n) := by
 rw [Bool.eq_iff_iff, beq_iff_eq, beq_iff_eq]
 constructor
 ·intro h
  have : c.toNat = n := by omega
  rw [← this, UInt8.ofNat_toNat]
 ·intro h
  subst h
  rw [UInt8.toNat_ofNat']
  omega
theorem vz {l : zL} : z6 l = true ↔ 0 < l.length ∧ (∀ i, i < l.length → Zs (l.getD i 0) = true) ∧ (1 < l.length → l.getD 0 0 ≠ 48) := by
 rw [Zx]
 refine and_congr_right fun _ => and_congr_left fun _ => ⟨fun h i hi => ?_, fun h c hc => ?_⟩
 ·simp_all
 ·obtain ⟨i, hi, rfl⟩ := List.getElem_of_mem hc
  simp_all
theorem Yw {a : zL} (h : ¬ (0 < a.length ∧ a.getD 0 0 = 45)) : zC a = z6 a ∧ wu a = a.length ∧ zV a = (zm a : Int) := by
 match a, h with
 | [], _ => exact ⟨rfl, rfl, rfl⟩
 | c :: r, h =>
  have hc : c ≠ 45 := fun e => h ⟨by simp, e⟩
  refine ⟨?_, ?_, ?_⟩
  ·unfold zC; split
   all_goals simp_all
  ·unfold wu; split
   all_goals simp_all
  ·unfold zV; split
   all_goals simp_all
theorem Y8 {a : zL} (h0 : 0 < a.length) (h : a.getD 0 0 = 45) : a = 45 :: a.drop 1 ∧ zC a = (z6 (a.drop 1) && !(a.drop 1 == [48])) ∧ wu a = a.length - 1 ∧ zV a = -(zm (a.drop 1) : Int) := by
 match a, h0, h with
 | c :: r, _, h =>
  have hc : c = 45 := h
  subst hc
  exact ⟨rfl, rfl, rfl, rfl⟩
theorem Tx {a : zL} (h0 : 0 < a.length) (h : a.getD 0 0 = 45) : zC a = true ↔ 1 < a.length ∧ (∀ i, 1 ≤ i → i < a.length → Zs (a.getD i 0) = true) ∧ a.getD 1 0 ≠ 48 := by
 obtain ⟨e, hi, _, _⟩ := Y8 h0 h
 have hg : ∀ i, (a.drop 1).getD i 0 = a.getD (1 + i) 0 := fun i => by rw [List.getD_eq_getElem?_getD, List.getElem?_drop, ← List.getD_eq_getElem?_getD]
 have hl : (a.drop 1).length = a.length - 1 := List.length_drop
 rw [hi, Bool.and_eq_true, vz, Bool.not_eq_true', hl]
 constructor
 ·rintro ⟨⟨h1, h2, h3⟩, h4⟩
  refine ⟨by omega, fun i hi1 hi2 => ?_, fun e48 => ?_⟩
  ·grind
  ·by_cases h5 : 1 < a.length - 1
   ·grind
   ·have h6 : (a.drop 1).length = 1 := by omega
    match hd : a.drop 1, h6 with
    | [c], _ =>
     grind
 grind
theorem oU {a : zL} (h : zC a = true) : ZX a = bif Nat.blt 300 (wu a) then 4 else 0 := by unfold ZX; rw [h]; rfl
theorem VL {a : zL} (h : ¬ zC a = true) : ZX a = 11 := by unfold ZX; rw [Bool.eq_false_iff.2 h]; rfl
theorem wt {x y : List Int} {z : Nat} : ∀ {n : Nat}, z ≤ n → (∀ i, z ≤ i → i < n → x.getD i 0 = y.getD i 0) → vq x y n = vq x y z
 | 0, h, _ => by rw [show z = 0 by omega]
 | n + 1, h, hh => by
  by_cases e : z = n + 1
  ·rw [e]
  ·have h1 := hh n (by omega) (by omega)
   show (bif x.getD n 0 != y.getD n 0 then x.getD n 0 - y.getD n 0 else vq x y n) = _
   rw [h1, bne_self_eq_false]
   exact wt (n := n) (by omega) fun i h2 h3 => hh i h2 (by omega)
def UN (n : Int) : Int := bif zH n 0 then -1 else bif zH 0 n then 1 else 0
theorem rV {n : Int} (h : n < 0) : UN n = -1 := by unfold UN; rw [(zR _ _).2 h]; rfl
theorem rp {n : Int} (h : 0 < n) : UN n = 1 := by
 unfold UN
 rw [show zH n 0 = false by rw [Bool.eq_false_iff, Ne, zR]; omega, (zR _ _).2 h]; rfl
theorem OL {x y : List Int} (h : x.length ≠ y.length) : cmpL x y = (x.length : Int) - (y.length : Int) := by
 unfold cmpL
 rw [show Nat.beq x.length y.length = false from Bool.eq_false_iff.2 fun e => h (Nat.eq_of_beq_eq_true e)]; rfl
theorem cmpL_eq {x y : List Int} (h : x.length = y.length) : cmpL x y = vq x y x.length := by unfold cmpL; rw [h, Nat.beq_refl]; rfl
end Go.Ar

namespace Go.Ar
open Go Go.Sx Go.Lib
set_option maxRecDepth 100000
def nums (a : zL) (z : Nat) : zL := (a.take z).filter (· != 45)
theorem Xq {l : zL} {i : Nat} (h : i < l.length) : l.take (i + 1) = l.take i ++ [l.getD i 0] := by
 simp_all
theorem jk {a : zL} {z : Nat} (hz : z < a.length) (h : a.getD z 0 ≠ 45) : nums a (z + 1) = nums a z ++ [a.getD z 0] := by
 unfold nums
 rw [Xq hz, List.filter_append]
 simp_all
theorem PF {a : zL} {z : Nat} (hz : z < a.length) (h : a.getD z 0 = 45) : nums a (z + 1) = nums a z := by
 unfold nums
 rw [Xq hz, List.filter_append, h]
 simp
theorem MP (a : zL) (z : Nat) : (nums a z).length ≤ a.length := by
 unfold nums
 grind
theorem mI {c : UInt8} (h : Zs c = true) : c ≠ 45 := fun e => by subst e; exact absurd h (by decide)
theorem sR {a : zL} (h : zC a = true) {i : Nat} (hi : i < a.length) (hn : a.getD i 0 ≠ 45) : Zs (a.getD i 0) = true := by
 by_cases hm : 0 < a.length ∧ a.getD 0 0 = 45
 ·by_cases e : i = 0
  ·grind
  ·exact ((Tx hm.1 hm.2).1 h).2.1 i (by omega) hi
 ·rw [(Yw hm).1, vz] at h
  simp_all
theorem Li {a : zL} (h : zC a = true) (z : Nat) : (nums a z).all Zs = true := by
 rw [List.all_eq_true]
 intro c hc
 unfold nums at hc
 rw [List.mem_filter, bne_iff_ne] at hc
 obtain ⟨i, hi, rfl⟩ := List.getElem_of_mem (List.mem_of_mem_take hc.1)
 have := sR h hi
 simp_all
theorem uD {l : zL} (h : ∀ c ∈ l, Zs c = true) : l.filter (· != 45) = l := List.filter_eq_self.2 fun c hc => bne_iff_ne.2 (mI (h c hc))
theorem pf {a : zL} (h : zC a = true) : nums a a.length = if a.getD 0 0 = 45 then a.drop 1 else a := by
 unfold nums
 rw [List.take_length]
 by_cases hm : 0 < a.length ∧ a.getD 0 0 = 45
 ·rw [if_pos hm.2]
  obtain ⟨e, hi, _, _⟩ := Y8 hm.1 hm.2
  rw [h] at hi
  have hd : z6 (a.drop 1) = true := by
   grind
  conv => lhs; rw [e]
  rw [List.filter_cons, if_neg (by decide)]
  exact uD (Zx.1 hd).2.1
 ·have hi := (Yw hm).1
  rw [h] at hi
  have h0 : 0 < a.length := (Zx.1 hi.symm).1
  rw [if_neg fun e => hm ⟨h0, e⟩]
  exact uD (Zx.1 hi.symm).2.1
theorem Np {a : zL} (h : zC a = true) : zV a = if a.getD 0 0 = 45 then -(zm (nums a a.length) : Int) else (zm (nums a a.length) : Int) := by
 have h0 : 0 < a.length := by
  match a, h with
  | [], h => cases h
  | c :: r, _ => simp
 rw [pf h]
 by_cases hm : a.getD 0 0 = 45
 ·rw [if_pos hm, if_pos hm, (Y8 h0 hm).2.2.2]
 ·rw [if_neg hm, if_neg hm, (Yw fun e => hm e.2).2.2]
theorem U7 {a : zL} (h : zC a = true) (hl : a.length ≤ 17) (z : Nat) : (zm (nums a z) : Int) < 100000000000000000 := by
 have h1 := Xh (Li h z)
 have h2 := MP a z
 have h3 : 10 ^ (nums a z).length ≤ 10 ^ 17 := Nat.pow_le_pow_right (by decide) (by omega)
 omega
structure yO where
 k : Nat
 L : List Int
structure Oz (s : zL) (z : yO) : Prop where
 le : 6 * z.k ≤ s.length + 5
 len : z.L.length = z.k
 in_ : z8 1000000 z.L
 val : zX 1000000 z.L = (zm (s.drop (s.length - 6 * z.k)) : Int)
theorem Oz.start (s : zL) : Oz s ⟨0, []⟩ := ⟨by simp, rfl, .nil _, by rw [Nat.mul_zero, Nat.sub_zero, List.drop_length]; rfl⟩
def Yo (s : zL) (k i : Nat) : zL := (s.take i).drop (s.length - 6 * k - 6)
theorem te {s : zL} {k i : Nat} (hi : i < s.length) (h : s.length - 6 * k - 6 ≤ i) : Yo s k (i + 1) = Yo s k i ++ [s.getD i 0] := by
 unfold Yo
 rw [Xq hi, List.drop_append_of_le_length (by rw [List.length_take]; omega)]
theorem ng {s : zL} {k i : Nat} (h1 : i ≤ s.length - 6 * k) : (Yo s k i).length ≤ 6 := by
 unfold Yo
 grind
theorem Lg {s : zL} (hs : ∀ c ∈ s, Zs c = true) (k i : Nat) : (Yo s k i).all Zs = true := by
 rw [List.all_eq_true]
 intro c hc
 exact hs c (List.mem_of_mem_take (List.mem_of_mem_drop hc))
theorem Tl {s : zL} (hs : ∀ c ∈ s, Zs c = true) {k i : Nat} (h1 : i ≤ s.length - 6 * k) : (zm (Yo s k i) : Int) < 1000000 := by
 have h2 := Xh (Lg hs k i)
 have h3 : 10 ^ (Yo s k i).length ≤ 10 ^ 6 := Nat.pow_le_pow_right (by decide) (ng h1)
 omega
theorem Oz.step {s : zL} (hs : ∀ c ∈ s, Zs c = true) {z : yO} (h : Oz s z) (hz : 6 * z.k < s.length) : Oz s ⟨z.k + 1, z.L ++ [(zm (Yo s z.k (s.length - 6 * z.k)) : Int)]⟩ := by
 refine ⟨by simp only; omega, by simp [h.len], h.in_.snoc (by omega) (Tl hs (Nat.le_refl _)), ?_⟩
 show zX 1000000 (z.L ++ [_]) = (zm (s.drop (s.length - 6 * (z.k + 1))) : Int)
 rw [Xv, h.val, h.len]
 have e : s.drop (s.length - 6 * (z.k + 1)) = Yo s z.k (s.length - 6 * z.k) ++ s.drop (s.length - 6 * z.k) := by
  unfold Yo
  rw [show s.length - 6 * (z.k + 1) = s.length - 6 * z.k - 6 by omega]
  have e1 := List.drop_append_of_le_length (l₁ := s.take (s.length - 6 * z.k)) (l₂ := s.drop (s.length - 6 * z.k)) (i := s.length - 6 * z.k - 6) (by rw [List.length_take]; omega)
  simp_all
 rw [e, To, List.length_drop, show s.length - (s.length - 6 * z.k) = 6 * z.k by omega]
 have e2 : (1000000 : Int) ^ z.k = ((10 ^ (6 * z.k) : Nat) : Int) := by
  have e3 : 1000000 ^ z.k = 10 ^ (6 * z.k) := by rw [Nat.pow_mul]
  grind
 grind
theorem Oz.end_ {s : zL} {z : yO} (h : Oz s z) (hz : s.length ≤ 6 * z.k) : zO z.L = zw 1000000 (zm s) := by
 have hv := h.val
 rw [show s.length - 6 * z.k = 0 by omega, List.drop_zero] at hv
 have := y7 (b := 1000000) (by decide) h.in_
 simp_all
end Go.Ar
