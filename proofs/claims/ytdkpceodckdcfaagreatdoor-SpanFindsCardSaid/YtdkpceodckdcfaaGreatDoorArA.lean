/- Decimal strings of integers: what they are and what they mean. -/
import Derived.Test.YtdkpceodckdcfaaGreatDoorSxU
import Derived.Lib.ItoaLen
set_option linter.unusedSimpArgs false
set_option linter.unusedVariables false
namespace Go.Ar
open Go Go.Sx Go.Lib
set_option maxRecDepth 100000
abbrev zh := List UInt8
def Zm (c : UInt8) : Bool := Nat.ble 48 c.toNat && Nat.ble c.toNat 57
def vQ (c : UInt8) : Nat := c.toNat - 48
def Lm (d : Nat) : UInt8 := UInt8.ofNat (48 + d)
theorem Z6 {c : UInt8} : Zm c = true ↔ 48 ≤ c.toNat ∧ c.toNat ≤ 57 := by
 unfold Zm
 simp
theorem wQ {d : Nat} (h : d < 10) : (Lm d).toNat = 48 + d := by
 unfold Lm
 rw [UInt8.toNat_ofNat']
 omega
theorem Tu {d : Nat} (h : d < 10) : Zm (Lm d) = true := by rw [Z6, wQ h]; omega
theorem SH {d : Nat} (h : d < 10) : vQ (Lm d) = d := by unfold vQ; rw [wQ h]; omega
theorem Pq {c : UInt8} (h : Zm c = true) : Lm (vQ c) = c := by
 rw [Z6] at h
 refine UInt8.toNat_inj.1 ?_
 rw [wQ (by unfold vQ; omega)]
 unfold vQ
 omega
theorem tc {c : UInt8} (h : Zm c = true) : vQ c < 10 := by rw [Z6] at h; unfold vQ; omega
def zk (l : zh) : Nat := l.foldl (fun a c => 10 * a + vQ c) 0
theorem xt (l : zh) (c : UInt8) : zk (l ++ [c]) = 10 * zk l + vQ c := by unfold zk; rw [List.foldl_append]; rfl
theorem fold_acc (l : zh) : ∀ a : Nat, l.foldl (fun a c => 10 * a + vQ c) a = a * 10 ^ l.length + zk l := by
 induction l with
 | nil => intro a; simp [zk]
 | cons c l ih =>
  intro a
  unfold zk
  grind
theorem Ue (a b : zh) : zk (a ++ b) = zk a * 10 ^ b.length + zk b := by
 conv => lhs; unfold zk
 rw [List.foldl_append, fold_acc]; rfl
theorem Xx (c : UInt8) (l : zh) : zk (c :: l) = vQ c * 10 ^ l.length + zk l := by
 have := Ue [c] l
 simpa [zk] using this
theorem Xh {l : zh} (h : l.all Zm = true) : zk l < 10 ^ l.length := by
 induction l with
 | nil => simp [zk]
 | cons c l ih =>
  rw [List.all_cons, Bool.and_eq_true] at h
  have h1 := ih h.2
  have h2 := tc h.1
  rw [Xx, List.length_cons, Nat.pow_succ]
  generalize 10 ^ l.length = p at *
  have : vQ c * p ≤ 9 * p := Nat.mul_le_mul_right p (by omega)
  omega
def Zw (l : zh) : Bool := Nat.blt 0 l.length && l.all Zm && !(Nat.blt 1 l.length && (l.getD 0 0 == 48))
theorem zA {u : Nat} (h : u < 10) : decDigits u = [Lm u] := by rw [decDigits, dif_pos h]; rfl
theorem xm {u : Nat} (h : ¬ u < 10) : decDigits u = decDigits (u / 10) ++ [Lm (u % 10)] := by rw [decDigits, dif_neg h]; rfl
theorem XC (u : Nat) : (decDigits u).all Zm = true := by
 induction u using Nat.strongRecOn with
 | _ u ih =>
  by_cases h : u < 10
  ·rw [zA h]; simp [Tu h]
  ·rw [xm h, List.all_append, ih (u / 10) (by omega)]
   simp [Tu (Nat.mod_lt u (by decide : 10 > 0))]
theorem Z5 (u : Nat) : zk (decDigits u) = u := by
 induction u using Nat.strongRecOn with
 | _ u ih =>
  by_cases h : u < 10
  ·rw [zA h]
   show 10 * 0 + vQ (Lm u) = u
   rw [SH h]; omega
  ·rw [xm h, xt, ih (u / 10) (by omega), SH (Nat.mod_lt u (by decide : 10 > 0))]
   omega
theorem yw (u : Nat) : 0 < (decDigits u).length := by rw [decDigits_length]; exact nDigits_pos u
theorem XR {u : Nat} (h : u ≠ 0) : (decDigits u).getD 0 0 ≠ 48 := by
 induction u using Nat.strongRecOn with
 | _ u ih =>
  by_cases h1 : u < 10
  ·rw [zA h1]
   intro e
   have e : Lm u = 48 := e
   have := congrArg UInt8.toNat e
   rw [wQ h1] at this
   simp_all
  ·rw [xm h1, List.getD_eq_getElem?_getD, List.getElem?_append_left (yw _), ← List.getD_eq_getElem?_getD]
   grind
theorem Yp (u : Nat) : Zw (decDigits u) = true := by
 unfold Zw
 rw [XC, (zC _ _).2 (yw u)]
 by_cases h : u = 0
 ·subst h
  rw [zA (by decide)]; rfl
 ·rw [beq_false_of_ne (XR h), Bool.and_false]; rfl
theorem ZX {l : zh} : Zw l = true ↔ 0 < l.length ∧ (∀ c ∈ l, Zm c = true) ∧ (1 < l.length → l.getD 0 0 ≠ 48) := by
 unfold Zw
 rw [Bool.and_eq_true, Bool.and_eq_true, zC, List.all_eq_true, Bool.not_eq_true', Bool.and_eq_false_iff]
 constructor
 ·rintro ⟨⟨h1, h2⟩, h3⟩
  refine ⟨h1, h2, fun h4 => ?_⟩
  rcases h3 with h3 | h3
  ·rw [(zC _ _).2 h4] at h3; cases h3
  simp_all
 ·rintro ⟨h1, h2, h3⟩
  refine ⟨⟨h1, h2⟩, ?_⟩
  by_cases h4 : 1 < l.length
  ·simp_all
  ·exact .inl (by rw [Bool.eq_false_iff]; intro e; exact h4 ((zC _ _).1 e))
theorem K8 {l : zh} (h : 0 < l.length) : ∃ a c, l = a ++ [c] := by
 have hn : l ≠ [] := fun e => by rw [e] at h; cases h
 exact ⟨l.dropLast, l.getLast hn, (List.dropLast_concat_getLast hn).symm⟩
theorem ZJ {l : zh} (h : Zw l = true) : decDigits (zk l) = l := by
 generalize hn : l.length = n
 induction n generalizing l with
 | zero => obtain ⟨h1, _⟩ := ZX.1 h; omega
 | succ n ih =>
  obtain ⟨h1, h2, h3⟩ := ZX.1 h
  obtain ⟨a, c, rfl⟩ := K8 h1
  have hc : Zm c = true := h2 c (by simp)
  have hl : a.length = n := by simpa using hn
  rw [xt]
  by_cases ha : a.length = 0
  ·obtain rfl := List.length_eq_zero_iff.1 ha
   have : 10 * zk [] + vQ c = vQ c := by simp [zk]
   rw [this, zA (tc hc), Pq hc]; rfl
  ·have hg : (a ++ [c]).getD 0 0 = a.getD 0 0 := by
    grind
   have ha0 : a.getD 0 0 ≠ 48 := by rw [← hg]; exact h3 (by simp; omega)
   have hda : Zw a = true := ZX.2 ⟨by omega, fun x hx => h2 x (List.mem_append_left _ hx), fun _ => ha0⟩
   have ih' := ih hda hl
   have hv := tc hc
   have hpos : zk a ≠ 0 := fun e => by
    rw [e, zA (by decide)] at ih'
    rw [← ih'] at ha0
    exact ha0 rfl
   rw [xm (by omega), show (10 * zk a + vQ c) / 10 = zk a by omega, show (10 * zk a + vQ c) % 10 = vQ c by omega, ih', Pq hc]
def Zy (s : zh) : Bool := match s with | 45 :: r => Zw r && !(r == [48]) | r => Zw r
def zt (s : zh) : Int := match s with | 45 :: r => -(zk r : Int) | r => (zk r : Int)
theorem Zi (n : Nat) : itoa (n : Int) = decDigits n := by unfold itoa; rw [if_neg (by omega), Int.toNat_natCast]
theorem itoa_neg {n : Nat} (h : n ≠ 0) : itoa (-(n : Int)) = 45 :: decDigits n := by
 unfold itoa
 simp_all
theorem vI {r : zh} (h : Zw (45 :: r) = true) : False := by
 have := (ZX.1 h).2.1 45 List.mem_cons_self
 rw [Z6] at this
 simp_all
theorem wt {r : zh} (h : Zw r = true) : Zy r = true ∧ zt r = (zk r : Int) := by
 match r, h with
 | [], h => exact ⟨h, rfl⟩
 | c :: r, h =>
  by_cases hc : c = 45
  ·subst hc; exact (vI h).elim
  ·constructor
   ·unfold Zy; split
    all_goals simp_all
   ·unfold zt; split
    all_goals simp_all
theorem Z8 (n : Int) : Zy (itoa n) = true ∧ zt (itoa n) = n := by
 by_cases h : n < 0
 ·obtain ⟨m, rfl⟩ : ∃ m : Nat, n = -(m : Int) := ⟨n.natAbs, by omega⟩
  have hm : m ≠ 0 := by omega
  rw [itoa_neg hm]
  refine ⟨?_, ?_⟩
  ·show (Zw (decDigits m) && !(decDigits m == [48])) = true
   rw [Yp]
   have : decDigits m ≠ [48] := fun e => XR hm (by rw [e]; rfl)
   simp_all
  ·show -((zk (decDigits m) : Nat) : Int) = _
   rw [Z5]
 ·obtain ⟨m, rfl⟩ : ∃ m : Nat, n = (m : Int) := ⟨n.toNat, by omega⟩
  rw [Zi]
  obtain ⟨a, b⟩ := wt (Yp m)
  exact ⟨a, by rw [b, Z5]⟩
theorem uW {r : zh} (h : Zw r = true) (h0 : zk r = 0) : r = [48] := by
 have := ZJ h
 rw [h0, zA (by decide)] at this
 exact this.symm
theorem yR {s : zh} (h : Zy s = true) : (∃ r, s = 45 :: r ∧ Zw r = true ∧ zk r ≠ 0 ∧ zt s = -(zk r : Int)) ∨ (Zw s = true ∧ zt s = (zk s : Int)) := by
 unfold Zy at h
 split at h
 ·rename_i r
  rw [Bool.and_eq_true, Bool.not_eq_true'] at h
  refine .inl ⟨r, rfl, h.1, fun e => ?_, rfl⟩
  have := uW h.1 e
  simp_all
 ·exact .inr ⟨h, (wt h).2⟩
theorem XV {s : zh} (h : Zy s = true) : itoa (zt s) = s := by
 rcases yR h with ⟨r, rfl, h1, h2, h3⟩ | ⟨h1, h2⟩
 ·rw [h3, itoa_neg h2, ZJ h1]
 ·rw [h2, Zi, ZJ h1]
theorem Mg {a b : Int} (h : itoa a = itoa b) : a = b := by rw [← (Z8 a).2, ← (Z8 b).2, h]
def Vk (n : Int) : Nat := nDigits n.natAbs
theorem Yf (n : Int) : (itoa n).length = Vk n + if n < 0 then 1 else 0 := by
 unfold itoa Vk
 by_cases h : n < 0
 ·rw [if_pos h, if_pos h, List.length_cons, decDigits_length]
 ·rw [if_neg h, if_neg h, decDigits_length, show n.toNat = n.natAbs by omega]; rfl
theorem UC : ∀ {k u : Nat}, u < 10 ^ (k + 1) → nDigits u ≤ k + 1
 | 0, u, h => by rw [nDigits_small (by simpa using h)]; exact Nat.le_refl _
 | k + 1, u, h => by
  by_cases hu : u < 10
  ·rw [nDigits_small hu]; omega
  ·rw [nDigits_big hu]
   have := UC (k := k) (u := u / 10) (by rw [Nat.pow_succ] at h; omega)
   omega
theorem Z7 {k u : Nat} (hk : 0 < k) : nDigits u ≤ k ↔ u < 10 ^ k := by
 constructor
 ·intro h
  exact Nat.lt_of_lt_of_le (lt_pow_nDigits u) (Nat.pow_le_pow_right (by decide) h)
 ·intro h
  obtain ⟨m, rfl⟩ : ∃ m, k = m + 1 := ⟨k - 1, by omega⟩
  exact UC h
theorem qt {l : zh} (h : Zw l = true) : l.length = nDigits (zk l) := by
 conv => lhs; rw [← ZJ h]
 rw [decDigits_length]
end Go.Ar

namespace Go.Ar
open Go Go.Sx Go.Lib
set_option maxRecDepth 100000
def zW (b : Int) : List Int → Int
 | [] => 0
 | x :: l => x + b * zW b l
def Zv (b : Int) (l : List Int) : Prop := ∀ x ∈ l, 0 ≤ x ∧ x < b
def zm : List Int → List Int
 | [] => []
 | x :: l => if zm l = [] ∧ x = 0 then [] else x :: zm l
def zw (b n : Nat) : List Int :=
 if h : n = 0 ∨ b < 2 then [] else ((n % b : Nat) : Int) :: zw b (n / b)
termination_by n
decreasing_by
 have h2 : n / b < n := Nat.div_lt_self (by omega) (by omega)
 exact h2
theorem Zj (b : Nat) : zw b 0 = [] := by rw [zw, dif_pos (.inl rfl)]
theorem Xv {b n : Nat} (hb : 2 ≤ b) (h : n ≠ 0) : zw b n = ((n % b : Nat) : Int) :: zw b (n / b) := by
 conv => lhs; rw [zw]
 simp_all
theorem Zv.nil (b : Int) : Zv b [] := fun _ h => by cases h
theorem Zv.tail {b x : Int} {l : List Int} (h : Zv b (x :: l)) : Zv b l := fun y hy => h y (List.mem_cons_of_mem _ hy)
theorem Zv.head {b x : Int} {l : List Int} (h : Zv b (x :: l)) : 0 ≤ x ∧ x < b := h x List.mem_cons_self
theorem Zv.app {b : Int} {l m : List Int} (h : Zv b l) (h2 : Zv b m) : Zv b (l ++ m) := fun x hx => (List.mem_append.1 hx).elim (h x) (h2 x)
theorem Zv.one {b x : Int} (h0 : 0 ≤ x) (h1 : x < b) : Zv b [x] := fun y hy => by rw [List.mem_singleton] at hy; subst hy; exact ⟨h0, h1⟩
theorem Zv.snoc {b x : Int} {l : List Int} (h : Zv b l) (h0 : 0 ≤ x) (h1 : x < b) : Zv b (l ++ [x]) := h.app (.one h0 h1)
theorem Zv.take {b : Int} {l : List Int} (h : Zv b l) (n : Nat) : Zv b (l.take n) := fun x hx => h x (List.mem_of_mem_take hx)
theorem Zv.drop {b : Int} {l : List Int} (h : Zv b l) (n : Nat) : Zv b (l.drop n) := fun x hx => h x (List.mem_of_mem_drop hx)
theorem Zv.get {b : Int} {l : List Int} (h : Zv b l) (hb : 0 < b) (i : Nat) : 0 ≤ l.getD i 0 ∧ l.getD i 0 < b := by
 rw [List.getD_eq_getElem?_getD]
 by_cases hi : i < l.length
 ·rw [List.getElem?_eq_getElem hi]; exact h _ (List.getElem_mem hi)
 simp_all
theorem Zv.set {b x : Int} {l : List Int} (h : Zv b l) (h0 : 0 ≤ x) (h1 : x < b) (i : Nat) : Zv b (l.set i x) := fun y hy => by
 rcases List.mem_or_eq_of_mem_set hy with hy | rfl
 ·exact h y hy
 omega
theorem zj {b : Int} (hb : 0 ≤ b) : ∀ {l : List Int}, Zv b l → 0 ≤ zW b l
 | [], _ => Int.le_refl _
 | x :: l, h => by
  have h1 := h.head
  have h2 := Int.mul_nonneg hb (zj hb h.tail)
  show 0 ≤ x + b * zW b l
  omega
theorem VL (b : Int) (l m : List Int) : zW b (l ++ m) = zW b l + b ^ l.length * zW b m := by
 induction l with
 | nil => simp [zW]
 | cons x l ih =>
  show x + b * zW b (l ++ m) = x + b * zW b l + b ^ (l.length + 1) * zW b m
  grind
theorem Xy (b : Int) (l : List Int) (x : Int) : zW b (l ++ [x]) = zW b l + b ^ l.length * x := by
 rw [VL]
 show _ + _ * (x + b * 0) = _
 simp
theorem yB {b : Int} (hb : 0 < b) : ∀ {l : List Int}, Zv b l → zW b l < b ^ l.length
 | [], _ => by simp [zW]
 | x :: l, h => by
  have h1 := h.head
  have h2 := yB hb h.tail
  show x + b * zW b l < b ^ (l.length + 1)
  rw [Int.pow_succ, Int.mul_comm _ b]
  have h3 : b * (zW b l + 1) ≤ b * b ^ l.length := Int.mul_le_mul_of_nonneg_left (by omega) (by omega)
  grind
theorem Um {l : List Int} {i : Nat} (h : i < l.length) : l.take (i + 1) = l.take i ++ [l.getD i 0] := by
 simp_all
theorem nI (b : Int) {l : List Int} {i : Nat} (h : i < l.length) : zW b (l.take (i + 1)) = zW b (l.take i) + b ^ i * l.getD i 0 := by
 rw [Um h, Xy, List.length_take, Nat.min_eq_left (by omega)]
theorem ZL (b : Int) (l : List Int) (i : Nat) : zW b (l.take (i + 1)) = zW b (l.take i) + b ^ i * l.getD i 0 := by
 by_cases h : i < l.length
 ·exact nI b h
 ·rw [List.take_of_length_le (by omega), List.take_of_length_le (by omega), List.getD_eq_getElem?_getD, List.getElem?_eq_none (by omega)]
  simp
theorem WL (b : Int) : ∀ {l : List Int} {i : Nat} (x : Int), i < l.length → zW b (l.set i x) = zW b l + b ^ i * (x - l.getD i 0)
 | [], i, x, h => by cases h
 | y :: l, 0, x, h => by
  show x + b * zW b l = y + b * zW b l + b ^ 0 * (x - y)
  grind
 | y :: l, i + 1, x, h => by
  show y + b * zW b (l.set i x) = y + b * zW b l + b ^ (i + 1) * (x - l.getD i 0)
  rw [WL b x (by simpa using h), Int.mul_add, Int.pow_succ, Int.mul_comm _ b, Int.mul_assoc]
  omega
theorem wL (b : Int) : ∀ n : Nat, zW b (List.replicate n 0) = 0
 | 0 => rfl
 | n + 1 => by rw [List.replicate_succ]; show 0 + b * zW b _ = 0; rw [wL b n]; simp
theorem Zv.zeros {b : Int} (hb : 0 < b) (n : Nat) : Zv b (List.replicate n 0) := fun x hx => by rw [List.eq_of_mem_replicate hx]; exact ⟨Int.le_refl _, hb⟩
theorem yN {b : Nat} (hb : 2 ≤ b) (n : Nat) : zW b (zw b n) = (n : Int) := by
 induction n using Nat.strongRecOn with
 | _ n ih =>
  by_cases h : n = 0
  ·subst h; rw [Zj]; rfl
  ·rw [Xv hb h]
   show ((n % b : Nat) : Int) + (b : Int) * zW b (zw b (n / b)) = n
   rw [ih (n / b) (Nat.div_lt_self (by omega) (by omega))]
   exact_mod_cast Nat.mod_add_div n b
theorem YO {b : Nat} (hb : 2 ≤ b) (n : Nat) : Zv b (zw b n) := by
 induction n using Nat.strongRecOn with
 | _ n ih =>
  by_cases h : n = 0
  ·subst h; rw [Zj]; exact .nil _
  ·rw [Xv hb h]
   intro x hx
   rcases List.mem_cons.1 hx with rfl | hx
   ·have := Nat.mod_lt n (y := b) (by omega)
    omega
   ·exact ih (n / b) (Nat.div_lt_self (by omega) (by omega)) x hx
theorem XU {b : Nat} (hb : 2 ≤ b) (n : Nat) : zm (zw b n) = zw b n := by
 induction n using Nat.strongRecOn with
 | _ n ih =>
  by_cases h : n = 0
  ·subst h; rw [Zj]; rfl
  ·rw [Xv hb h]
   unfold zm
   rw [ih (n / b) (Nat.div_lt_self (by omega) (by omega)), if_neg]
   rintro ⟨h1, h2⟩
   have h3 := yN hb (n / b)
   rw [h1] at h3
   have h3 : (0 : Int) = ((n / b : Nat) : Int) := h3
   have h4 := Nat.mod_add_div n b
   grind
theorem YT {b : Nat} (hb : 2 ≤ b) : ∀ {l : List Int}, Zv b l → zm l = zw b (zW b l).toNat
 | [], _ => by
  show [] = zw b 0
  rw [Zj]
 | x :: l, h => by
  have ih := YT hb h.tail
  have h0 := zj (b := (b : Int)) (by omega) h.tail
  have hx := h.head
  obtain ⟨m, hm⟩ : ∃ m : Nat, zW b l = m := ⟨(zW b l).toNat, by omega⟩
  obtain ⟨y, rfl⟩ : ∃ y : Nat, x = y := ⟨x.toNat, by omega⟩
  have e : (zW b ((y : Int) :: l)).toNat = y + b * m := by
   show ((y : Int) + (b : Int) * zW b l).toNat = _
   grind
  rw [hm, Int.toNat_natCast] at ih
  rw [e]
  have hy : y < b := by omega
  by_cases hz : y + b * m = 0
  ·rw [hz, Zj]
   have hy0 : y = 0 := by omega
   have hm0 : b * m = 0 := by omega
   have hm1 : m = 0 := by
    rcases Nat.mul_eq_zero.1 hm0 with h | h
    all_goals omega
   unfold zm
   rw [if_pos ⟨by rw [ih, hm1, Zj], by omega⟩]
  ·rw [Xv hb hz, Nat.add_mul_mod_self_left, Nat.mod_eq_of_lt hy, Nat.add_mul_div_left _ _ (by omega), Nat.div_eq_of_lt hy, Nat.zero_add, ← ih]
   show (if zm l = [] ∧ (y : Int) = 0 then [] else (y : Int) :: zm l) = _
   rw [if_neg]
   rintro ⟨h1, h2⟩
   rw [ih] at h1
   have h3 := yN hb m
   rw [h1] at h3
   have h3 : (0 : Int) = (m : Int) := h3
   grind
theorem YI {b : Nat} (hb : 2 ≤ b) {l : List Int} (h : Zv b l) (ht : zm l = l) : l = zw b (zW b l).toNat := by rw [← YT hb h, ht]
theorem wq : ∀ {l : List Int} {z : Nat}, z ≤ l.length → (∀ i, z ≤ i → l.getD i 0 = 0) → (z = 0 ∨ l.getD (z - 1) 0 ≠ 0) → zm l = l.take z
 | [], z, h, _, _ => by simp [zm]
 | x :: l, 0, _, h1, _ => by
  have h2 : zm l = l.take 0 := wq (Nat.zero_le _) (fun i _ => h1 (i + 1) (by omega)) (.inl rfl)
  unfold zm
  rw [if_pos ⟨h2, h1 0 (Nat.le_refl _)⟩]; rfl
 | x :: l, z + 1, h0, h1, h2 => by
  have h2 : (x :: l).getD z 0 ≠ 0 := h2.elim (fun h => absurd h (Nat.succ_ne_zero z)) fun h => h
  have h0 : z ≤ l.length := by simpa using h0
  have h3 : zm l = l.take z := by
   refine wq h0 (fun i hi => h1 (i + 1) (by omega)) ?_
   grind
  unfold zm
  rw [h3, if_neg]
  ·rfl
  ·rintro ⟨h4, h5⟩
   match z, h2, h4 with
   | 0, h2, _ => exact h2 h5
   | z + 1, h2, h4 =>
    simp_all
theorem sq {l : List Int} (h : zm l = l) : l.length = 0 ∨ l.getD (l.length - 1) 0 ≠ 0 := by
 induction l with
 | nil => simp
 | cons x l ih =>
  refine .inr ?_
  unfold zm at h
  grind
theorem vr {b : Nat} (hb : 2 ≤ b) {n : Nat} (h : n ≠ 0) : 0 < (zw b n).length ∧ (zw b n).getD ((zw b n).length - 1) 0 ≠ 0 := by
 have h1 : 0 < (zw b n).length := by rw [Xv hb h]; simp
 exact ⟨h1, (sq (XU hb n)).resolve_left (by omega)⟩
theorem Ln {b : Nat} (hb : 2 ≤ b) (n : Nat) : (n : Int) < (b : Int) ^ (zw b n).length := by
 have := yB (b := (b : Int)) (by omega) (YO hb n)
 rwa [yN hb] at this
theorem qR {b : Nat} (hb : 2 ≤ b) {n : Nat} (h : n ≠ 0) : (b : Int) ^ ((zw b n).length - 1) ≤ (n : Int) := by
 obtain ⟨h1, h2⟩ := vr hb h
 have e := yN hb n
 have h3 := Um (l := zw b n) (i := (zw b n).length - 1) (by omega)
 rw [show (zw b n).length - 1 + 1 = (zw b n).length by omega, List.take_length] at h3
 have h4 := Xy b ((zw b n).take ((zw b n).length - 1)) ((zw b n).getD ((zw b n).length - 1) 0)
 rw [← h3, e, List.length_take, Nat.min_eq_left (by omega)] at h4
 have h5 := zj (b := (b : Int)) (by omega) ((YO hb n).take ((zw b n).length - 1))
 have h6 := (YO hb n).get (by omega) ((zw b n).length - 1)
 have h7 : (b : Int) ^ ((zw b n).length - 1) * 1 ≤ (b : Int) ^ ((zw b n).length - 1) * (zw b n).getD ((zw b n).length - 1) 0 :=
  Int.mul_le_mul_of_nonneg_left (by omega) (Int.pow_nonneg (by omega))
 omega
theorem we {b : Nat} (hb : 2 ≤ b) {m n : Nat} (h : (zw b m).length < (zw b n).length) : m < n := by
 have h0 : n ≠ 0 := fun e => by rw [e, Zj] at h; cases h
 have h1 := Ln hb m
 have h2 := qR hb h0
 have h3 : b ^ (zw b m).length ≤ b ^ ((zw b n).length - 1) := Nat.pow_le_pow_right (by omega) (by omega)
 grind
end Go.Ar

namespace Go.Ar
open Go Go.Sx Go.Lib
set_option maxRecDepth 100000
def Xd (s : zh) : Nat := match s with | 45 :: r => r.length | r => r.length
def Zt (s : zh) : Int := bif Zy s then (bif Nat.blt 300 (Xd s) then 4 else 0) else 11
def zI (a b : zh) : Int := bif Zt a != 0 then Zt a else Zt b
def ZZ (n : Int) : Int := bif Nat.blt 300 (Vk n) then 4 else 0
def yq (n : Int) : zh := bif ZZ n == 0 then itoa n else []
def yZ (f : Int → Int → Int) (a b : zh) : Int := bif zI a b != 0 then zI a b else ZZ (f (zt a) (zt b))
def y5 (f : Int → Int → Int) (a b : zh) : zh := bif yZ f a b == 0 then itoa (f (zt a) (zt b)) else []
def Xt (a b : Int) : Int := bif zn a b then -1 else bif a == b then 0 else 1
def Xl (a b : zh) : Int := bif zI a b != 0 then 0 else Xt (zt a) (zt b)
def XA (a b : zh) : Int := bif zI a b != 0 then zI a b else bif b == [48] then 12 else 0
def Yi (a b : zh) : zh := bif XA a b == 0 then itoa (Int.fdiv (zt a) (zt b)) else []
def U5 (a b : zh) : zh := bif XA a b == 0 then itoa (Int.fmod (zt a) (zt b)) else []
theorem yS {s : zh} : Zt s = 0 ↔ Zy s = true ∧ Xd s ≤ 300 := by
 unfold Zt
 cases h : Zy s with
 | false => simp
 | true =>
  cases h2 : Nat.blt 300 (Xd s) with
  | true => simp_all
  | false =>
   have : ¬ 300 < Xd s := fun e => by rw [(zC _ _).2 e] at h2; cases h2
   simp; omega
theorem ym {a b : zh} (h : zI a b = 0) : Zt a = 0 ∧ Zt b = 0 := by
 unfold zI at h
 grind
theorem wj {s : zh} (h : Zy s = true) : Xd s = Vk (zt s) := by
 rcases yR h with ⟨r, rfl, h1, h2, h3⟩ | ⟨h1, h2⟩
 ·rw [h3]
  unfold Vk
  rw [Int.natAbs_neg, Int.natAbs_natCast, ← qt h1]; rfl
 ·rw [h2]
  unfold Vk
  rw [Int.natAbs_natCast, ← qt h1]
  match s, h1 with
  | [], _ => rfl
  | c :: r, h1 =>
   by_cases hc : c = 45
   ·subst hc; exact (vI h1).elim
   ·unfold Xd; split
    all_goals simp_all
theorem Xe (s : zh) : Xd s ≤ s.length ∧ s.length ≤ Xd s + 1 := by
 unfold Xd
 grind
theorem QR {s : zh} (h : Zy s = true) {k : Nat} (hl : s.length ≤ k) : -(10 ^ k : Int) < zt s ∧ zt s < 10 ^ k := by
 have key : ∀ r : zh, Zw r = true → r.length ≤ k → (zk r : Int) < 10 ^ k := fun r hr hl => by
  have h1 := Xh (List.all_eq_true.2 (ZX.1 hr).2.1)
  have h2 : 10 ^ r.length ≤ 10 ^ k := Nat.pow_le_pow_right (by decide) hl
  grind
 have hp : (0 : Int) < 10 ^ k := Int.pow_pos (by decide)
 rcases yR h with ⟨r, rfl, h1, h2, h3⟩ | ⟨h1, h2⟩
 all_goals grind
theorem WV {n : Int} {k : Nat} (hk : 0 < k) (h : n.natAbs < 10 ^ k) : Vk n ≤ k := (Z7 hk).2 h
end Go.Ar

namespace Go.Ar
open Go Go.Sx Go.Lib
set_option maxRecDepth 100000
theorem YR {b : Int} (hb : 0 < b) (n : Nat) : 0 < b ^ n := Int.pow_pos hb
theorem X1 (b : Int) (n : Nat) : b ^ (n + 1) = b ^ n * b := Int.pow_succ b n
theorem LI {n b : Int} (h : 0 ≤ n) (hb : 0 < b) : n.tmod b + b * n.tdiv b = n ∧ 0 ≤ n.tmod b ∧ n.tmod b < b ∧ 0 ≤ n.tdiv b := by
 rw [Int.tmod_eq_emod_of_nonneg h, Int.tdiv_eq_ediv_of_nonneg h]
 exact ⟨Int.emod_add_mul_ediv n b, Int.emod_nonneg n (by omega), Int.emod_lt_of_pos n hb, Int.ediv_nonneg h (by omega)⟩
structure Wo (b : Int) (x y : List Int) (z : Nat) (out : List Int) (c : Int) : Prop where
 len : out.length = z
 in_ : Zv b out
 c0 : 0 ≤ c
 c1 : c ≤ 1
 val : zW b out + b ^ z * c = zW b (x.take z) + zW b (y.take z)
theorem Wo.zero (b : Int) (x y : List Int) : Wo b x y 0 [] 0 := ⟨rfl, .nil b, Int.le_refl _, by omega, by simp [zW]⟩
theorem Wo.step {b : Int} (hb : 2 ≤ b) {x y : List Int} (hx : Zv b x) (hy : Zv b y) {z : Nat} {out : List Int} {c : Int} (h : Wo b x y z out c) :
  Wo b x y (z + 1) (out ++ [(x.getD z 0 + y.getD z 0 + c).tmod b]) ((x.getD z 0 + y.getD z 0 + c).tdiv b) := by
 have x1 := hx.get (by omega) z
 have y1 := hy.get (by omega) z
 have h0 := h.c0
 have h1 := h.c1
 obtain ⟨e, m0, m1, d0⟩ := LI (n := x.getD z 0 + y.getD z 0 + c) (b := b) (by omega) (by omega)
 have hd : (x.getD z 0 + y.getD z 0 + c).tdiv b ≤ 1 := by
  refine Decidable.byContradiction fun hn => ?_
  have : b * 2 ≤ b * (x.getD z 0 + y.getD z 0 + c).tdiv b := Int.mul_le_mul_of_nonneg_left (by omega) (by omega)
  omega
 refine ⟨by simp [h.len], h.in_.snoc m0 m1, d0, hd, ?_⟩
 rw [Xy, h.len, ZL, ZL]
 have hv := h.val
 grind
theorem Y8 {x : List Int} {n : Nat} (h : x.length ≤ n) : x.take n = x := List.take_of_length_le h
theorem Wo.end_ {b : Nat} (hb : 2 ≤ b) {x y : List Int} (hx : Zv b x) (hy : Zv b y) {z : Nat} {out : List Int} {c : Int} (h : Wo b x y z out c) (h1 : x.length < z) (h2 : y.length < z) :
  zm out = zw b (zW b x + zW b y).toNat := by
 have hv := h.val
 rw [Y8 (by omega), Y8 (by omega)] at hv
 have x1 := yB (b := (b : Int)) (by omega) hx
 have y1 := yB (b := (b : Int)) (by omega) hy
 have hp : ∀ n, n < z → (b : Int) ^ n * 2 ≤ (b : Int) ^ z := fun n hn => by
  have p1 : b ^ n * 2 ≤ b ^ n * b := Nat.mul_le_mul_left _ hb
  have p2 : b ^ (n + 1) ≤ b ^ z := Nat.pow_le_pow_right (by omega) (by omega)
  grind
 have p1 := hp _ h1
 have p2 := hp _ h2
 have o0 := zj (b := (b : Int)) (by omega) h.in_
 have hc : c = 0 := by
  refine Decidable.byContradiction fun hn => ?_
  have : c = 1 := by have := h.c0; have := h.c1; omega
  grind
 rw [hc, Int.mul_zero, Int.add_zero] at hv
 rw [YT hb h.in_, hv]
structure wd (b : Int) (x y : List Int) (z : Nat) (out : List Int) (c : Int) : Prop where
 len : out.length = z
 in_ : Zv b out
 c0 : 0 ≤ c
 c1 : c ≤ 1
 val : zW b out - b ^ z * c = zW b (x.take z) - zW b (y.take z)
theorem wd.zero (b : Int) (x y : List Int) : wd b x y 0 [] 0 := ⟨rfl, .nil b, Int.le_refl _, by omega, by simp [zW]⟩
theorem wd.step {b : Int} (hb : 2 ≤ b) {x y : List Int} (hx : Zv b x) (hy : Zv b y) {z : Nat} {out : List Int} {c : Int} (h : wd b x y z out c) :
  (0 ≤ x.getD z 0 - y.getD z 0 - c → wd b x y (z + 1) (out ++ [x.getD z 0 - y.getD z 0 - c]) 0) ∧
  (x.getD z 0 - y.getD z 0 - c < 0 → wd b x y (z + 1) (out ++ [x.getD z 0 - y.getD z 0 - c + b]) 1) := by
 have x1 := hx.get (by omega) z
 have y1 := hy.get (by omega) z
 have h0 := h.c0
 have h1 := h.c1
 have hv := h.val
 refine ⟨fun hn => ⟨by simp [h.len], h.in_.snoc hn (by omega), Int.le_refl _, by omega, ?_⟩, fun hn => ⟨by simp [h.len], h.in_.snoc (by omega) (by omega), by omega, Int.le_refl _, ?_⟩⟩
 ·rw [Xy, h.len, ZL, ZL, Int.mul_sub, Int.mul_sub]
  omega
 ·rw [Xy, h.len, ZL, ZL, Int.mul_add, Int.mul_sub, Int.mul_sub, X1]
  omega
theorem wd.end_ {b : Nat} (hb : 2 ≤ b) {x y : List Int} {z : Nat} {out : List Int} {c : Int} (h : wd b x y z out c) (h1 : x.length ≤ z) (h2 : y.length ≤ z) (hle : zW b y ≤ zW b x) :
  zm out = zw b (zW b x - zW b y).toNat := by
 have hv := h.val
 rw [Y8 (by omega), Y8 (by omega)] at hv
 have o1 := yB (b := (b : Int)) (by omega) h.in_
 rw [h.len] at o1
 have hc : c = 0 := by
  refine Decidable.byContradiction fun hn => ?_
  have : c = 1 := by have := h.c0; have := h.c1; omega
  grind
 rw [hc, Int.mul_zero, Int.sub_zero] at hv
 rw [YT hb h.in_, hv]
def vz (x y : List Int) : Nat → Int
 | 0 => 0
 | n + 1 => bif x.getD n 0 != y.getD n 0 then x.getD n 0 - y.getD n 0 else vz x y n
def cmpL (x y : List Int) : Int := bif Nat.beq x.length y.length then vz x y x.length else (x.length : Int) - (y.length : Int)
theorem TA {b : Int} (hb : 2 ≤ b) {x y : List Int} (hx : Zv b x) (hy : Zv b y) : ∀ n, (vz x y n < 0 ↔ zW b (x.take n) < zW b (y.take n)) ∧ (vz x y n = 0 ↔ zW b (x.take n) = zW b (y.take n))
 | 0 => by simp [vz]
 | n + 1 => by
  have ih := TA hb hx hy n
  have x1 := hx.get (by omega) n
  have y1 := hy.get (by omega) n
  have v1 := zj (b := b) (by omega) (hx.take n)
  have v2 := zj (b := b) (by omega) (hy.take n)
  have w1 := yB (b := b) (by omega) (hx.take n)
  have w2 := yB (b := b) (by omega) (hy.take n)
  have l1 : b ^ (x.take n).length ≤ b ^ n := by
   obtain ⟨m, rfl⟩ : ∃ m : Nat, b = m := ⟨b.toNat, by omega⟩
   have : m ^ (x.take n).length ≤ m ^ n := Nat.pow_le_pow_right (by omega) (by simp; omega)
   grind
  have l2 : b ^ (y.take n).length ≤ b ^ n := by
   obtain ⟨m, rfl⟩ : ∃ m : Nat, b = m := ⟨b.toNat, by omega⟩
   have : m ^ (y.take n).length ≤ m ^ n := Nat.pow_le_pow_right (by omega) (by simp; omega)
   grind
  rw [ZL, ZL]
  unfold vz
  generalize x.getD n 0 = p at *
  generalize y.getD n 0 = q at *
  by_cases e : p = q
  ·simp_all
  ·rw [bne_iff_ne.2 e]
   simp only [cond_true]
   rcases Int.lt_or_lt_of_ne e with h | h
   ·have : b ^ n * (p + 1) ≤ b ^ n * q := Int.mul_le_mul_of_nonneg_left (by omega) (Int.le_of_lt (YR (by omega) n))
    grind
   ·have : b ^ n * (q + 1) ≤ b ^ n * p := Int.mul_le_mul_of_nonneg_left (by omega) (Int.le_of_lt (YR (by omega) n))
    grind
theorem Va {b : Nat} (hb : 2 ≤ b) (m n : Nat) : (cmpL (zw b m) (zw b n) < 0 ↔ m < n) ∧ (cmpL (zw b m) (zw b n) = 0 ↔ m = n) := by
 unfold cmpL
 by_cases h : (zw b m).length = (zw b n).length
 ·have h1 := TA (b := (b : Int)) (by omega) (YO hb m) (YO hb n) (zw b m).length
  rw [List.take_length, h, List.take_length, yN hb, yN hb] at h1
  rw [h, Nat.beq_refl]
  grind
 ·rw [show Nat.beq (zw b m).length (zw b n).length = false from Bool.eq_false_iff.2 fun e => h (Nat.eq_of_beq_eq_true e)]
  simp only [cond_false]
  rcases Nat.lt_or_gt_of_ne h with h1 | h1
  ·have := we hb h1; omega
  ·have := we hb h1; omega
structure XJ (b : Int) (x y : List Int) (z : Nat) (out : List Int) : Prop where
 len : out.length = x.length + y.length + 1
 in_ : Zv b out
 zero : ∀ i, z + y.length ≤ i → out.getD i 0 = 0
 val : zW b out = zW b (x.take z) * zW b y
structure MulK (b : Int) (x y : List Int) (z k : Nat) (out : List Int) (c : Int) : Prop where
 len : out.length = x.length + y.length + 1
 in_ : Zv b out
 zero : ∀ i, z + y.length ≤ i → z + k ≤ i → out.getD i 0 = 0
 c0 : 0 ≤ c
 c1 : c < b
 val : zW b out + b ^ (z + k) * c = zW b (x.take z) * zW b y + b ^ z * (x.getD z 0 * zW b (y.take k))
theorem y9 (b : Int) : zW b [] = 0 := rfl
theorem Vo (n i : Nat) : (List.replicate n (0 : Int)).getD i 0 = 0 := by
 grind
theorem XJ.zero_ {b : Int} (hb : 0 < b) (x y : List Int) : XJ b x y 0 (List.replicate (x.length + y.length + 1) 0) := by
 refine ⟨by simp, .zeros hb _, fun i _ => Vo _ _, ?_⟩
 rw [wL, List.take_zero, y9, Int.zero_mul]
theorem XJ.start {b : Int} {x y : List Int} {z : Nat} {out : List Int} (hb : 0 < b) (h : XJ b x y z out) : MulK b x y z 0 out 0 :=
 ⟨h.len, h.in_, fun i hi _ => h.zero i hi, Int.le_refl _, hb, by rw [List.take_zero, y9, h.val]; simp⟩
theorem Yv (l : List Int) (i j : Nat) (v : Int) (hj : j < l.length) : (l.set j v).getD i 0 = if i = j then v else l.getD i 0 := by
 grind
theorem MulK.step {b : Int} (hb : 2 ≤ b) {x y : List Int} (hx : Zv b x) (hy : Zv b y) {z k : Nat} (hz : z < x.length) (hk : k ≤ y.length) {out : List Int} {c : Int} (h : MulK b x y z k out c) :
  (0 ≤ out.getD (z + k) 0 + x.getD z 0 * y.getD k 0 + c ∧ out.getD (z + k) 0 + x.getD z 0 * y.getD k 0 + c < b * b) ∧
  MulK b x y z (k + 1) (out.set (z + k) ((out.getD (z + k) 0 + x.getD z 0 * y.getD k 0 + c).tmod b)) ((out.getD (z + k) 0 + x.getD z 0 * y.getD k 0 + c).tdiv b) := by
 have x1 := hx.get (by omega) z
 have y1 := hy.get (by omega) k
 have o1 := h.in_.get (by omega) (z + k)
 have h0 := h.c0
 have h1 := h.c1
 have p0 : 0 ≤ x.getD z 0 * y.getD k 0 := Int.mul_nonneg x1.1 y1.1
 have p1 : x.getD z 0 * y.getD k 0 ≤ (b - 1) * (b - 1) := Int.mul_le_mul (by omega) (by omega) y1.1 (by omega)
 have p2 : (b - 1) * (b - 1) = b * b - 2 * b + 1 := by rw [Int.sub_mul, Int.mul_sub]; omega
 have hn0 : 0 ≤ out.getD (z + k) 0 + x.getD z 0 * y.getD k 0 + c := by omega
 have hn1 : out.getD (z + k) 0 + x.getD z 0 * y.getD k 0 + c < b * b := by omega
 obtain ⟨e, m0, m1, d0⟩ := LI (b := b) hn0 (by omega)
 have hd : (out.getD (z + k) 0 + x.getD z 0 * y.getD k 0 + c).tdiv b < b := by
  refine Decidable.byContradiction fun hn => ?_
  have : b * b ≤ b * (out.getD (z + k) 0 + x.getD z 0 * y.getD k 0 + c).tdiv b := Int.mul_le_mul_of_nonneg_left (by omega) (by omega)
  omega
 have hlen : z + k < out.length := by rw [h.len]; omega
 refine ⟨⟨hn0, hn1⟩, by rw [List.length_set]; exact h.len, h.in_.set m0 m1 _, fun i hi hi2 => ?_, d0, hd, ?_⟩
 ·rw [Yv _ _ _ _ hlen, if_neg (by omega)]
  exact h.zero i hi (by omega)
 ·rw [WL b _ hlen, ZL]
  have hv := h.val
  grind
theorem MulK.end_ {b : Int} (hb : 2 ≤ b) {x y : List Int} (hx : Zv b x) (hy : Zv b y) {z : Nat} (hz : z < x.length) {out : List Int} {c : Int} (h : MulK b x y z (y.length + 1) out c) (hc : c = 0) : XJ b x y (z + 1) out := by
 subst hc
 refine ⟨h.len, h.in_, fun i hi => h.zero i (by omega) (by omega), ?_⟩
 have hv := h.val
 rw [Int.mul_zero, Int.add_zero, Y8 (x := y) (by omega)] at hv
 rw [hv, ZL b x, Int.add_mul, Int.mul_assoc]
theorem MulK.last {b : Int} (hb : 2 ≤ b) {x y : List Int} {z : Nat} {out : List Int} {c : Int} (h : MulK b x y z y.length out c) : (out.getD (z + y.length) 0 + x.getD z 0 * y.getD y.length 0 + c).tdiv b = 0 := by
 have e : y.getD y.length 0 = 0 := by rw [List.getD_eq_getElem?_getD, List.getElem?_eq_none (Nat.le_refl _)]; rfl
 rw [h.zero _ (Nat.le_refl _) (Nat.le_refl _), e]
 rw [Int.mul_zero, Int.add_zero, Int.zero_add]
 exact Int.tdiv_eq_zero_of_lt h.c0 h.c1
theorem XJ.end_ {b : Nat} (hb : 2 ≤ b) {x y : List Int} {out : List Int} (h : XJ b x y x.length out) : zm out = zw b (zW b x * zW b y).toNat := by
 have hv := h.val
 rw [List.take_length] at hv
 rw [YT hb h.in_, hv]
end Go.Ar

namespace Go.Ar
open Go Go.Sx Go.Lib
set_option maxRecDepth 100000
theorem si {l : List Int} {z : Nat} (h : z < l.length) : l.drop z = l.getD z 0 :: l.drop (z + 1) := by
 simp_all
theorem xU (b : Int) {l : List Int} {z : Nat} (h : z < l.length) : zW b (l.drop z) = l.getD z 0 + b * zW b (l.drop (z + 1)) := by rw [si h]; rfl
theorem xY (b : Int) (l : List Int) {z : Nat} (h : z ≤ l.length) : zW b l = zW b (l.take z) + b ^ z * zW b (l.drop z) := by
 conv => lhs; rw [← List.take_append_drop z l]
 rw [VL, List.length_take, Nat.min_eq_left h]
theorem R6 (l : List Int) (z : Nat) (v : Int) (h : z < l.length) : (l.set z v).drop z = v :: l.drop (z + 1) := by
 rw [si (by simpa using h), Yv _ _ _ _ h, if_pos rfl, List.drop_set]
 simp
structure UV (b d : Int) (a : List Int) (z : Nat) (q : List Int) (r : Int) : Prop where
 len : q.length = a.length
 le : z ≤ a.length
 in_ : Zv b q
 r0 : 0 ≤ r
 r1 : r < d
 val : zW b (a.drop z) = d * zW b (q.drop z) + r
theorem UV.start {b d : Int} (hb : 0 < b) (hd : 0 < d) (a : List Int) : UV b d a a.length (List.replicate a.length 0) 0 :=
 ⟨by simp, Nat.le_refl _, .zeros hb _, Int.le_refl _, hd, by rw [List.drop_of_length_le (Nat.le_refl _), List.drop_of_length_le (by simp)]; simp [zW]⟩
theorem UV.step {b d : Int} (hb : 0 < b) {a : List Int} (ha : Zv b a) {z : Nat} {q : List Int} {r : Int} (h : UV b d a (z + 1) q r) :
  (0 ≤ a.getD z 0 + r * b ∧ a.getD z 0 + r * b < d * b) ∧ UV b d a z (q.set z ((a.getD z 0 + r * b).tdiv d)) ((a.getD z 0 + r * b).tmod d) := by
 have a1 := ha.get hb z
 have h0 := h.r0
 have h1 := h.r1
 have hz := h.le
 have p0 : 0 ≤ r * b := Int.mul_nonneg h0 (by omega)
 have p1 : (r + 1) * b ≤ d * b := Int.mul_le_mul_of_nonneg_right (by omega) (by omega)
 rw [Int.add_mul, Int.one_mul] at p1
 have n0 : 0 ≤ a.getD z 0 + r * b := by omega
 have n1 : a.getD z 0 + r * b < d * b := by omega
 obtain ⟨e, m0, m1, d0⟩ := LI n0 (b := d) (by omega)
 have hq : (a.getD z 0 + r * b).tdiv d < b := by
  refine Decidable.byContradiction fun hn => ?_
  have : d * b ≤ d * (a.getD z 0 + r * b).tdiv d := Int.mul_le_mul_of_nonneg_left (by omega) (by omega)
  omega
 refine ⟨⟨n0, n1⟩, by rw [List.length_set]; exact h.len, by omega, h.in_.set d0 hq _, m0, m1, ?_⟩
 rw [R6 _ _ _ (by rw [h.len]; omega), xU b (by omega), h.val]
 show _ = d * (_ + b * _) + _
 grind
theorem UV.end_ {b : Nat} (hb : 2 ≤ b) {d : Nat} (hd : 0 < d) (hdb : d ≤ b) {a : List Int} {q : List Int} {r : Int} (h : UV b d a 0 q r) (n : Nat) (hn : zW b a = n) :
  zm q = zw b (n / d) ∧ r = (n % d : Nat) ∧ zm [r] = zw b (n % d) := by
 have hv := h.val
 rw [List.drop_zero, List.drop_zero, hn] at hv
 have q0 := zj (b := (b : Int)) (by omega) h.in_
 have h0 := h.r0
 have h1 := h.r1
 obtain ⟨Q, hQ⟩ : ∃ Q : Nat, zW b q = Q := ⟨(zW b q).toNat, by omega⟩
 obtain ⟨R, rfl⟩ : ∃ R : Nat, r = R := ⟨r.toNat, by omega⟩
 rw [hQ] at hv
 have hv : n = d * Q + R := by exact_mod_cast hv
 have hR : R < d := by omega
 have e1 : n / d = Q := by rw [hv, Nat.mul_add_div hd, Nat.div_eq_of_lt hR, Nat.add_zero]
 have e2 : n % d = R := by rw [hv, Nat.mul_add_mod, Nat.mod_eq_of_lt hR]
 refine ⟨?_, by rw [e2], ?_⟩
 ·rw [YT hb h.in_, hQ, e1, Int.toNat_natCast]
 ·rw [YT hb (.one (by omega) (by omega)), e2]
  rfl
def Out (j n : Nat) (u w : List Int) : Prop := ∀ i, i < j ∨ n ≤ i → w.getD i 0 = u.getD i 0
structure WO (b : Int) (u v : List Int) (j : Nat) (q : Int) (i : Nat) (w : List Int) (c : Int) : Prop where
 len : w.length = u.length
 in_ : Zv b w
 out : Out j (j + i) u w
 c0 : 0 ≤ c
 c1 : c ≤ q + 1
 val : zW b w - b ^ (j + i) * c = zW b u - b ^ j * (q * zW b (v.take i))
theorem WO.start {b : Int} {u v : List Int} {j : Nat} {q : Int} (hu : Zv b u) (hq : 0 ≤ q) : WO b u v j q 0 u 0 :=
 ⟨rfl, hu, fun _ _ => rfl, Int.le_refl _, by omega, by rw [List.take_zero, y9]; simp⟩
def Xk (b n : Int) : Int := bif zn n 0 then (-n + b - 1).tdiv b else 0
theorem oM {b n : Int} (hb : 2 ≤ b) : 0 ≤ Xk b n ∧ 0 ≤ n + Xk b n * b ∧ (n < b → n + Xk b n * b < b) ∧ ∀ q, -(q * b) ≤ n → 0 ≤ q → Xk b n ≤ q := by
 unfold Xk
 cases h : zn n 0 with
 | true =>
  have h := (zq _ _).1 h
  simp only [cond_true]
  obtain ⟨e, m0, m1, d0⟩ := LI (n := -n + b - 1) (b := b) (by omega) (by omega)
  rw [Int.mul_comm] at e
  refine ⟨d0, by omega, fun _ => by omega, fun q hq hq0 => ?_⟩
  refine Decidable.byContradiction fun hn => ?_
  have : (q + 1) * b ≤ (-n + b - 1).tdiv b * b := Int.mul_le_mul_of_nonneg_right (by omega) (by omega)
  grind
 | false =>
  have h : ¬ n < 0 := fun e => by rw [(zq _ _).2 e] at h; cases h
  simp_all
theorem WO.step {b : Int} (hb : 2 ≤ b) {u v : List Int} (hv : Zv b v) {j : Nat} {q : Int} (hq : 0 ≤ q) {i : Nat} (hj : j + i < u.length) {w : List Int} {c : Int} (h : WO b u v j q i w c) :
  (-((q + 1) * b) ≤ w.getD (j + i) 0 - c - q * v.getD i 0 ∧ w.getD (j + i) 0 - c - q * v.getD i 0 < b) ∧
  WO b u v j q (i + 1) (w.set (j + i) (w.getD (j + i) 0 - c - q * v.getD i 0 + Xk b (w.getD (j + i) 0 - c - q * v.getD i 0) * b)) (Xk b (w.getD (j + i) 0 - c - q * v.getD i 0)) := by
 have v1 := hv.get (by omega) i
 have w1 := h.in_.get (by omega) (j + i)
 have h0 := h.c0
 have h1 := h.c1
 have p0 : 0 ≤ q * v.getD i 0 := Int.mul_nonneg hq v1.1
 have p1 : q * v.getD i 0 ≤ q * (b - 1) := Int.mul_le_mul_of_nonneg_left (by omega) hq
 rw [Int.mul_sub, Int.mul_one] at p1
 have n1 : -((q + 1) * b) ≤ w.getD (j + i) 0 - c - q * v.getD i 0 := by rw [Int.add_mul, Int.one_mul]; omega
 have n2 : w.getD (j + i) 0 - c - q * v.getD i 0 < b := by omega
 have hl : j + i < w.length := by rw [h.len]; exact hj
 have hval := h.val
 refine ⟨⟨n1, n2⟩, ?_⟩
 obtain ⟨k0, k1, k2, k3⟩ := oM (b := b) (n := w.getD (j + i) 0 - c - q * v.getD i 0) hb
 refine ⟨by rw [List.length_set]; exact h.len, h.in_.set k1 (k2 n2) _, fun x hx => ?_, k0, k3 _ n1 (by omega), ?_⟩
 ·rw [Yv _ _ _ _ hl, if_neg (by omega)]
  exact h.out x (by omega)
 ·rw [WL b _ hl, ZL]
  grind
structure VK (b : Int) (u v : List Int) (j : Nat) (q : Int) (i : Nat) (w : List Int) (c : Int) : Prop where
 len : w.length = u.length
 in_ : Zv b w
 out : Out j (j + i) u w
 c0 : 0 ≤ c
 c1 : c ≤ q
 val : zW b w + b ^ (j + i) * c = zW b u + b ^ j * (q * zW b (v.take i))
theorem VK.start {b : Int} {u v : List Int} {j : Nat} {q : Int} (hu : Zv b u) (hq : 0 ≤ q) : VK b u v j q 0 u 0 :=
 ⟨rfl, hu, fun _ _ => rfl, Int.le_refl _, hq, by rw [List.take_zero, y9]; simp⟩
theorem VK.step {b : Int} (hb : 2 ≤ b) {u v : List Int} (hv : Zv b v) {j : Nat} {q : Int} (hq : 0 ≤ q) {i : Nat} (hj : j + i < u.length) {w : List Int} {c : Int} (h : VK b u v j q i w c) :
  (0 ≤ w.getD (j + i) 0 + q * v.getD i 0 + c ∧ w.getD (j + i) 0 + q * v.getD i 0 + c < (q + 1) * b) ∧
  VK b u v j q (i + 1) (w.set (j + i) ((w.getD (j + i) 0 + q * v.getD i 0 + c).tmod b)) ((w.getD (j + i) 0 + q * v.getD i 0 + c).tdiv b) := by
 have v1 := hv.get (by omega) i
 have w1 := h.in_.get (by omega) (j + i)
 have h0 := h.c0
 have h1 := h.c1
 have p0 : 0 ≤ q * v.getD i 0 := Int.mul_nonneg hq v1.1
 have p1 : q * v.getD i 0 ≤ q * (b - 1) := Int.mul_le_mul_of_nonneg_left (by omega) hq
 rw [Int.mul_sub, Int.mul_one] at p1
 have n1 : 0 ≤ w.getD (j + i) 0 + q * v.getD i 0 + c := by omega
 have n2 : w.getD (j + i) 0 + q * v.getD i 0 + c < (q + 1) * b := by rw [Int.add_mul, Int.one_mul]; omega
 have hl : j + i < w.length := by rw [h.len]; exact hj
 have hval := h.val
 refine ⟨⟨n1, n2⟩, ?_⟩
 obtain ⟨e, m0, m1, d0⟩ := LI n1 (b := b) (by omega)
 have hd : (w.getD (j + i) 0 + q * v.getD i 0 + c).tdiv b ≤ q := by
  refine Decidable.byContradiction fun hn => ?_
  have : b * (q + 1) ≤ b * (w.getD (j + i) 0 + q * v.getD i 0 + c).tdiv b := Int.mul_le_mul_of_nonneg_left (by omega) (by omega)
  grind
 refine ⟨by rw [List.length_set]; exact h.len, h.in_.set m0 m1 _, fun x hx => ?_, d0, hd, ?_⟩
 ·rw [Yv _ _ _ _ hl, if_neg (by omega)]
  exact h.out x (by omega)
 ·rw [WL b _ hl, ZL]
  grind
theorem Zv.ext {b : Int} (hb : 0 < b) : ∀ {l m : List Int}, Zv b l → Zv b m → l.length = m.length → zW b l = zW b m → l = m
 | [], [], _, _, _, _ => rfl
 | [], _ :: _, _, _, h, _ => by cases h
 | _ :: _, [], _, _, h, _ => by cases h
 | x :: l, y :: m, hl, hm, h, hv => by
  have hx := hl.head
  have hy := hm.head
  have hv : x + b * zW b l = y + b * zW b m := hv
  have e1 : x = (x + b * zW b l) % b := by rw [Int.add_mul_emod_self_left, Int.emod_eq_of_lt hx.1 hx.2]
  have e2 : y = (y + b * zW b m) % b := by rw [Int.add_mul_emod_self_left, Int.emod_eq_of_lt hy.1 hy.2]
  have e3 : x = y := by rw [e1, e2, hv]
  subst e3
  have e4 : b * zW b l = b * zW b m := by omega
  rw [Zv.ext hb hl.tail hm.tail (by simpa using h) (Int.eq_of_mul_eq_mul_left (by omega) e4)]
theorem lp {b : Int} {u : List Int} {j n : Nat} (h : ∀ i, n ≤ i → u.getD i 0 = 0) (hj : j ≤ n) : zW b (u.drop j) = zW b ((u.take n).drop j) := by
 have e : ∀ {l : List Int}, (∀ i, l.getD i 0 = 0) → zW b l = 0 := by
  intro l
  induction l with
  | nil => intro _; rfl
  | cons x l ih =>
   intro hl
   have h0 : x = 0 := hl 0
   show x + b * zW b l = 0
   rw [h0, ih fun i => hl (i + 1)]; simp
 by_cases hn : n ≤ u.length
 ·have e1 : u.drop j = (u.take n).drop j ++ u.drop n := by
   conv => lhs; rw [← List.take_append_drop n u]
   grind
  rw [e1, VL, e (l := u.drop n), Int.mul_zero, Int.add_zero]
  simp_all
 ·rw [List.take_of_length_le (by omega)]
end Go.Ar

namespace Go.Ar
open Go Go.Sx Go.Lib
set_option maxRecDepth 100000
theorem ye (l : List Int) (j i : Nat) : (l.drop j).getD i 0 = l.getD (j + i) 0 := by
 simp
theorem wV {b : Int} {l : List Int} {n : Nat} (h : ∀ i, n ≤ i → l.getD i 0 = 0) : zW b l = zW b (l.take n) := by
 have := lp (b := b) (j := 0) h (Nat.zero_le _)
 assumption
theorem xN {b : Int} (hb : 0 < b) {l : List Int} (h : Zv b l) (n : Nat) : 0 ≤ zW b (l.take n) ∧ zW b (l.take n) < b ^ n := by
 refine ⟨zj (Int.le_of_lt hb) (h.take n), ?_⟩
 have h1 := yB hb (h.take n)
 have h2 : b ^ (l.take n).length ≤ b ^ n := by
  obtain ⟨m, rfl⟩ : ∃ m : Nat, b = m := ⟨b.toNat, by omega⟩
  have : m ^ (l.take n).length ≤ m ^ n := Nat.pow_le_pow_right (by omega) (by simp; omega)
  grind
 omega
theorem T3 {b : Int} (hb : 0 < b) {l : List Int} (h : Zv b l) {n : Nat} (hv : zW b l < b ^ n) {i : Nat} (hi : n ≤ i) : l.getD i 0 = 0 := by
 by_cases hl : i < l.length
 ·have e := xY b l (z := i) (by omega)
  rw [xU b hl] at e
  have h1 := (h.get hb i).1
  have h2 := (xN hb h i).1
  have h3 := zj (Int.le_of_lt hb) (h.drop (i + 1))
  refine Decidable.byContradiction fun hn => ?_
  have h4 : b ^ i * 1 ≤ b ^ i * (l.getD i 0 + b * zW b (l.drop (i + 1))) := by
   refine Int.mul_le_mul_of_nonneg_left ?_ (Int.le_of_lt (YR hb i))
   have := Int.mul_nonneg (Int.le_of_lt hb) h3
   omega
  have h5 : b ^ n ≤ b ^ i := by
   obtain ⟨m, rfl⟩ : ∃ m : Nat, b = m := ⟨b.toNat, by omega⟩
   have : m ^ n ≤ m ^ i := Nat.pow_le_pow_right (by omega) hi
   grind
  omega
 simp_all
theorem HO {b : Int} (hb : 0 < b) {l : List Int} (h : Zv b l) {k : Nat} (hz : ∀ i, k + 3 ≤ i → l.getD i 0 = 0) :
  ∃ low, 0 ≤ low ∧ low < b ^ k ∧ zW b l = low + b ^ k * (l.getD k 0 + b * l.getD (k + 1) 0 + b * b * l.getD (k + 2) 0) := by
 refine ⟨_, (xN hb h k).1, (xN hb h k).2, ?_⟩
 rw [wV hz, show k + 3 = k + 2 + 1 from rfl, ZL, show k + 2 = k + 1 + 1 from rfl, ZL, ZL, X1 b (k + 1), X1 b k, Int.mul_add, Int.mul_add]
 grind
structure mN (b top v1 W V q r : Int) : Prop where
 eq : q * v1 + r = top
 r0 : 0 ≤ r
 q0 : 0 ≤ q
 lt : W < (q + 1) * V
 le : q < 2 * b
structure O5 (b : Int) (k : Nat) (u0 u1 u2 v1 v2 W V : Int) : Prop where
 hb : 2 ≤ b
 hu0 : 0 ≤ u0 ∧ u0 ≤ v1
 hu1 : 0 ≤ u1 ∧ u1 < b
 hu2 : 0 ≤ u2 ∧ u2 < b
 hv1 : 0 < v1 ∧ v1 < b
 hv2 : 0 ≤ v2 ∧ v2 < b
 w : W < b ^ k * (u2 + 1 + b * (u0 * b + u1))
 v : b ^ k * (v2 + b * v1) ≤ V
theorem O5.start {b : Int} {k : Nat} {u0 u1 u2 v1 v2 W V : Int} (h : O5 b k u0 u1 u2 v1 v2 W V) : mN b (u0 * b + u1) v1 W V ((u0 * b + u1).tdiv v1) ((u0 * b + u1).tmod v1) := by
 have hb := h.hb
 have a0 := h.hu0
 have a1 := h.hu1
 have a2 := h.hu2
 have b1 := h.hv1
 have b2 := h.hv2
 have p0 : 0 ≤ u0 * b := Int.mul_nonneg a0.1 (by omega)
 obtain ⟨e, m0, m1, d0⟩ := LI (n := u0 * b + u1) (b := v1) (by omega) b1.1
 have hp := YR (b := b) (by omega) k
 refine ⟨by rw [Int.mul_comm]; omega, m0, d0, ?_, ?_⟩
 ·generalize hq : (u0 * b + u1).tdiv v1 = q at *
  have t1 : u0 * b + u1 + 1 ≤ (q + 1) * v1 := by rw [Int.add_mul, Int.one_mul, Int.mul_comm q]; omega
  have t2 : b * (u0 * b + u1 + 1) ≤ b * ((q + 1) * v1) := Int.mul_le_mul_of_nonneg_left t1 (by omega)
  have t3 : b ^ k * (u2 + 1 + b * (u0 * b + u1)) ≤ b ^ k * (b * ((q + 1) * v1)) := Int.mul_le_mul_of_nonneg_left (by rw [Int.mul_add, Int.mul_one] at t2; omega) (Int.le_of_lt hp)
  have t4 : (q + 1) * (b ^ k * (v2 + b * v1)) ≤ (q + 1) * V := Int.mul_le_mul_of_nonneg_left h.v (by omega)
  have t5 : b ^ k * (b * ((q + 1) * v1)) ≤ (q + 1) * (b ^ k * (v2 + b * v1)) := by
   rw [← Int.mul_assoc (q + 1), Int.mul_comm (q + 1) (b ^ k), Int.mul_assoc]
   refine Int.mul_le_mul_of_nonneg_left ?_ (Int.le_of_lt hp)
   rw [Int.mul_add]
   have := Int.mul_nonneg (show 0 ≤ q + 1 by omega) b2.1
   grind
  have := h.w
  omega
 ·refine Decidable.byContradiction fun hn => ?_
  have t1 : v1 * (2 * b) ≤ v1 * (u0 * b + u1).tdiv v1 := Int.mul_le_mul_of_nonneg_left (by omega) (by omega)
  have t2 : u0 * b ≤ v1 * b := Int.mul_le_mul_of_nonneg_right a0.2 (by omega)
  have t3 : v1 * (2 * b) = v1 * b + v1 * b := by rw [Int.two_mul, Int.mul_add]
  have t4 : 1 * b ≤ v1 * b := Int.mul_le_mul_of_nonneg_right (by omega) (by omega)
  omega
theorem O5.step {b : Int} {k : Nat} {u0 u1 u2 v1 v2 W V q r : Int} (h : O5 b k u0 u1 u2 v1 v2 W V) (hi : mN b (u0 * b + u1) v1 W V q r) (hW : W < b * V) (hV : 0 < V)
  (hc : b ≤ q ∨ r * b + u2 < q * v2) : 0 < q ∧ mN b (u0 * b + u1) v1 W V (q - 1) (r + v1) := by
 have hb := h.hb
 have a2 := h.hu2
 have b1 := h.hv1
 have b2 := h.hv2
 have q0 := hi.q0
 have r0 := hi.r0
 have hp := YR (b := b) (by omega) k
 have hq : 0 < q := by
  rcases hc with hc | hc
  ·omega
  ·refine Decidable.byContradiction fun hn => ?_
   have : q = 0 := by omega
   subst this
   have := Int.mul_nonneg r0 (show 0 ≤ b by omega)
   omega
 refine ⟨hq, by rw [Int.sub_mul, Int.one_mul]; have := hi.eq; omega, by omega, by omega, ?_, by have := hi.le; omega⟩
 rw [Int.sub_add_cancel]
 rcases hc with hc | hc
 ·have : b * V ≤ q * V := Int.mul_le_mul_of_nonneg_right hc (by omega)
  omega
 ·have t1 : q * (b ^ k * (v2 + b * v1)) ≤ q * V := Int.mul_le_mul_of_nonneg_left h.v q0
  have t2 : b ^ k * (u2 + 1 + b * (u0 * b + u1)) ≤ q * (b ^ k * (v2 + b * v1)) := by
   rw [← Int.mul_assoc q, Int.mul_comm q (b ^ k), Int.mul_assoc]
   refine Int.mul_le_mul_of_nonneg_left ?_ (Int.le_of_lt hp)
   rw [← hi.eq, Int.mul_add, Int.mul_add, ← Int.mul_assoc q b, Int.mul_comm q b, Int.mul_assoc b q, Int.mul_comm b r]
   omega
  have := h.w
  omega
structure w9 (b A V : Int) (n m j : Nat) (q u : List Int) : Prop where
 ql : q.length = m
 ul : u.length = m + n
 qi : Zv b q
 ui : Zv b u
 hi : ∀ i, j + n ≤ i → u.getD i 0 = 0
 top : zW b (u.drop j) < V
 val : A = V * (b ^ j * zW b (q.drop j)) + zW b u
theorem w9.start {b A V : Int} (hb : 0 < b) {n m : Nat} {u : List Int} (hl : u.length = m + n) (hu : Zv b u) (hV : zW b (u.drop m) < V) (hA : A = zW b u) : w9 b A V n m m (List.replicate m 0) u :=
 ⟨by simp, hl, .zeros hb m, hu, fun i hi => by rw [List.getD_eq_getElem?_getD, List.getElem?_eq_none (by omega)]; rfl, hV, by
  rw [List.drop_of_length_le (by simp), y9, Int.mul_zero, Int.mul_zero, Int.zero_add]; exact hA⟩
theorem w9.win {b A V : Int} (hb : 0 < b) {n m j : Nat} {q u : List Int} (hn : 0 < n) (hj : j < m) (h : w9 b A V n m (j + 1) q u) : 0 ≤ zW b (u.drop j) ∧ zW b (u.drop j) < b * V := by
 have h1 := h.ui.get hb j
 have h2 := h.top
 rw [xU b (by rw [h.ul]; omega)]
 have h3 : b * (zW b (u.drop (j + 1)) + 1) ≤ b * V := Int.mul_le_mul_of_nonneg_left (by omega) (by omega)
 rw [Int.mul_add, Int.mul_one] at h3
 have h4 := Int.mul_nonneg (Int.le_of_lt hb) (zj (Int.le_of_lt hb) (h.ui.drop (j + 1)))
 omega
theorem UP {u w : List Int} {j n : Nat} (hl : w.length = u.length) (h : Out j n u w) : w.take j = u.take j := by
 refine List.ext_getElem (by simp [hl]) fun i h1 h2 => ?_
 have hi : i < j := by simp at h1; omega
 have hiw : i < w.length := by simp at h1; omega
 have e := h i (.inl hi)
 simp_all
theorem RQ {b : Int} {u w : List Int} {j n : Nat} (hl : w.length = u.length) (hj : j ≤ u.length) (h : Out j n u w) : zW b w - zW b u = b ^ j * (zW b (w.drop j) - zW b (u.drop j)) := by
 rw [xY b w (z := j) (by omega), xY b u (z := j) hj, UP hl h, Int.mul_sub]
 omega
theorem WO.end_ {b : Int} (hb : 2 ≤ b) {u v : List Int} {j : Nat} {q : Int} {w : List Int} {c : Int} (hj : j ≤ u.length) (hz : ∀ i, j + 1 + v.length ≤ i → u.getD i 0 = 0) (h : WO b u v j q (v.length + 1) w c) :
  zW b (w.drop j) - b ^ (v.length + 1) * c = zW b (u.drop j) - q * zW b v ∧ 0 ≤ zW b (w.drop j) ∧ zW b (w.drop j) < b ^ (v.length + 1) := by
 have hv := h.val
 rw [Y8 (by omega)] at hv
 have hl := RQ (b := b) h.len hj h.out
 refine ⟨?_, zj (by omega) (h.in_.drop j), ?_⟩
 ·have e : b ^ j * (zW b (w.drop j) - b ^ (v.length + 1) * c) = b ^ j * (zW b (u.drop j) - q * zW b v) := by
   grind
  exact Int.eq_of_mul_eq_mul_left (by have := YR (b := b) (by omega) j; omega) e
 ·have hz2 : ∀ i, v.length + 1 ≤ i → (w.drop j).getD i 0 = 0 := fun i hi => by
   rw [ye, h.out _ (.inr (by omega)), hz _ (by omega)]
  rw [wV hz2]
  exact (xN (by omega) (h.in_.drop j) _).2
theorem WO.fits {b : Int} (hb : 2 ≤ b) {u v : List Int} {j : Nat} {q : Int} {w : List Int} {c : Int} (hj : j ≤ u.length) (hz : ∀ i, j + 1 + v.length ≤ i → u.getD i 0 = 0) (h : WO b u v j q (v.length + 1) w c) :
  (c ≤ 0 → zW b (w.drop j) = zW b (u.drop j) - q * zW b v) ∧ (0 < c → zW b (u.drop j) < q * zW b v) := by
 obtain ⟨e, e0, e1⟩ := h.end_ hb hj hz
 have hp := YR (b := b) (by omega) (v.length + 1)
 constructor
 ·intro hc
  have : c = 0 := by have := h.c0; omega
  simp_all
 ·intro hc
  have : b ^ (v.length + 1) * 1 ≤ b ^ (v.length + 1) * c := Int.mul_le_mul_of_nonneg_left (by omega) (by omega)
  omega
theorem VK.end_ {b : Int} (hb : 2 ≤ b) {u v : List Int} {j : Nat} {q : Int} {w : List Int} {c : Int} (hu : Zv b u) (hj : j ≤ u.length) (hz : ∀ i, j + 1 + v.length ≤ i → u.getD i 0 = 0) (h : WO b u v j q (v.length + 1) w c)
  {w2 : List Int} {c2 : Int} (h2 : VK b w v j q (v.length + 1) w2 c2) : w2 = u := by
 obtain ⟨e, e0, e1⟩ := h.end_ hb hj hz
 have hp := YR (b := b) (by omega) (v.length + 1)
 have hv := h2.val
 rw [Y8 (by omega)] at hv
 have hl := RQ (b := b) h2.len (by rw [h.len]; exact hj) h2.out
 have o2 : ∀ i, v.length + 1 ≤ i → (w2.drop j).getD i 0 = 0 := fun i hi => by
  rw [ye, h2.out _ (.inr (by omega)), h.out _ (.inr (by omega)), hz _ (by omega)]
 have ou : ∀ i, v.length + 1 ≤ i → (u.drop j).getD i 0 = 0 := fun i hi => by rw [ye, hz _ (by omega)]
 have b2 := (xN (by omega) (h2.in_.drop j) (v.length + 1))
 rw [← wV o2] at b2
 have bu := (xN (by omega) (hu.drop j) (v.length + 1))
 rw [← wV ou] at bu
 have e2 : zW b (w2.drop j) + b ^ (v.length + 1) * c2 = zW b (w.drop j) + q * zW b v := by
  have e3 : b ^ j * (zW b (w2.drop j) + b ^ (v.length + 1) * c2) = b ^ j * (zW b (w.drop j) + q * zW b v) := by
   grind
  exact Int.eq_of_mul_eq_mul_left (by have := YR (b := b) (by omega) j; omega) e3
 have e4 : zW b (w2.drop j) - zW b (u.drop j) = b ^ (v.length + 1) * (c - c2) := by rw [Int.mul_sub]; omega
 have e5 : c = c2 := by
  rcases Int.lt_trichotomy c c2 with hlt | heq | hgt
  ·have : b ^ (v.length + 1) * (c - c2) ≤ b ^ (v.length + 1) * (-1) := Int.mul_le_mul_of_nonneg_left (by omega) (by omega)
   omega
  ·exact heq
  ·have : b ^ (v.length + 1) * 1 ≤ b ^ (v.length + 1) * (c - c2) := Int.mul_le_mul_of_nonneg_left (by omega) (by omega)
   omega
 have e6 : zW b (w2.drop j) = zW b (u.drop j) := by rw [e5, Int.sub_self, Int.mul_zero] at e4; omega
 refine Zv.ext (by omega) h2.in_ hu (h2.len.trans h.len) ?_
 rw [xY b w2 (z := j) (by rw [h2.len, h.len]; exact hj), xY b u (z := j) hj, UP h2.len h2.out, UP h.len h.out, e6]
theorem w9.step {b A V : Int} (hb : 2 ≤ b) {v : List Int} (hv : Zv b v) (hV : zW b v = V) {m j : Nat} {q u : List Int} (hj : j < m) (h : w9 b A V v.length m (j + 1) q u) {Q : Int} (hQ : 0 ≤ Q) (hlt : zW b (u.drop j) < (Q + 1) * V)
  {w : List Int} {c : Int} (ht : WO b u v j Q (v.length + 1) w c) (hc : c ≤ 0) : w9 b A V v.length m j (q.set j Q) w := by
 have hul := h.ul
 obtain ⟨t1, _⟩ := ht.fits hb (by omega) (fun i hi => h.hi i (by omega))
 have t1 := t1 hc
 rw [hV] at t1
 have w0 := zj (b := b) (by omega) (ht.in_.drop j)
 have hw : zW b (w.drop j) < V := by rw [t1]; rw [Int.add_mul, Int.one_mul] at hlt; omega
 have hVb : V < b ^ v.length := by rw [← hV]; exact yB (by omega) hv
 have hV0 : 0 < V := by omega
 have hvl : 0 < v.length := by
  refine Nat.pos_of_ne_zero fun e => ?_
  rw [e, Int.pow_zero] at hVb
  omega
 obtain ⟨z1, z2⟩ := h.win (by omega) hvl hj
 have hQb : Q < b := by
  refine Decidable.byContradiction fun hn => ?_
  have : b * V ≤ Q * V := Int.mul_le_mul_of_nonneg_right (by omega) (by omega)
  omega
 refine ⟨by rw [List.length_set]; exact h.ql, by rw [ht.len]; exact hul, h.qi.set hQ hQb _, ht.in_, fun i hi => ?_, hw, ?_⟩
 ·by_cases e : i = j + v.length
  ·have := T3 (by omega) (ht.in_.drop j) (n := v.length) (i := v.length) (by omega) (Nat.le_refl _)
   simp_all
  ·rw [ht.out i (.inr (by omega))]
   exact h.hi i (by omega)
 ·have hvv := ht.val
  have hc0 : c = 0 := by have := ht.c0; omega
  rw [hc0, Int.mul_zero, Int.sub_zero, Y8 (by omega), hV] at hvv
  rw [R6 _ _ _ (by rw [h.ql]; omega)]
  show A = V * (b ^ j * (Q + b * zW b (q.drop (j + 1)))) + zW b w
  rw [hvv, h.val, X1, Int.mul_add, Int.mul_add, ← Int.mul_assoc (b ^ j) b]
  grind
theorem w9.est {b A V : Int} (hb : 2 ≤ b) {v : List Int} (hv : Zv b v) (hV : zW b v = V) {k : Nat} (hk : v.length = k + 2) (h1 : 0 < v.getD (k + 1) 0) {m j : Nat} {q u : List Int} (hj : j < m) (h : w9 b A V v.length m (j + 1) q u) :
  O5 b k (u.getD (j + (k + 2)) 0) (u.getD (j + (k + 1)) 0) (u.getD (j + k) 0) (v.getD (k + 1) 0) (v.getD k 0) (zW b (u.drop j)) V := by
 have hz : ∀ i, k + 3 ≤ i → (u.drop j).getD i 0 = 0 := fun i hi => by rw [ye]; exact h.hi _ (by omega)
 obtain ⟨low, l0, l1, le⟩ := HO (by omega) (h.ui.drop j) hz
 rw [ye, ye, ye] at le
 have hzv : ∀ i, k + 3 ≤ i → v.getD i 0 = 0 := fun i hi => by rw [List.getD_eq_getElem?_getD, List.getElem?_eq_none (by omega)]; rfl
 obtain ⟨lv, v0, v1, ve⟩ := HO (by omega) hv hzv
 rw [show v.getD (k + 2) 0 = 0 by rw [List.getD_eq_getElem?_getD, List.getElem?_eq_none (by omega)]; rfl, Int.mul_zero, Int.add_zero, hV] at ve
 have a0 := h.ui.get (by omega) (j + (k + 2))
 have a1 := h.ui.get (by omega) (j + (k + 1))
 have a2 := h.ui.get (by omega) (j + k)
 have c1 := hv.get (by omega) (k + 1)
 have c2 := hv.get (by omega) k
 refine ⟨hb, ⟨a0.1, ?_⟩, a1, a2, ⟨h1, c1.2⟩, c2, ?_, by omega⟩
 ·-- the first limb is at most that of the divisor
  have ht := h.top
  have hz2 : ∀ i, k + 2 ≤ i → (u.drop (j + 1)).getD i 0 = 0 := fun i hi => by rw [ye]; exact h.hi _ (by omega)
  have e1 : zW b (u.drop (j + 1)) = zW b ((u.drop (j + 1)).take (k + 1)) + b ^ (k + 1) * u.getD (j + (k + 2)) 0 := by
   rw [wV hz2, show k + 2 = k + 1 + 1 from rfl, ZL, ye, show j + 1 + (k + 1) = j + (k + 1 + 1) by omega]
  have e2 := (xN (b := b) (by omega) (h.ui.drop (j + 1)) (k + 1)).1
  have e3 : zW b v = zW b (v.take (k + 1)) + b ^ (k + 1) * v.getD (k + 1) 0 := by
   rw [← ZL, List.take_of_length_le (by omega)]
  have e4 := (xN (b := b) (by omega) hv (k + 1)).2
  rw [hV] at e3
  refine Decidable.byContradiction fun hn => ?_
  have : b ^ (k + 1) * (v.getD (k + 1) 0 + 1) ≤ b ^ (k + 1) * u.getD (j + (k + 2)) 0 := Int.mul_le_mul_of_nonneg_left (by omega) (Int.le_of_lt (YR (by omega) _))
  grind
 grind
theorem w9.end_ {b : Nat} (hb : 2 ≤ b) {A V : Nat} (hV0 : 0 < V) {n m : Nat} {q u : List Int} (h : w9 b A V n m 0 q u) : zm q = zw b (A / V) ∧ zm u = zw b (A % V) := by
 have hv := h.val
 rw [Int.pow_zero, Int.one_mul, List.drop_zero] at hv
 have ht := h.top
 rw [List.drop_zero] at ht
 have q0 := zj (b := (b : Int)) (by omega) h.qi
 have u0 := zj (b := (b : Int)) (by omega) h.ui
 obtain ⟨Q, hQ⟩ : ∃ Q : Nat, zW b q = Q := ⟨(zW b q).toNat, by omega⟩
 obtain ⟨R, hR⟩ : ∃ R : Nat, zW b u = R := ⟨(zW b u).toNat, by omega⟩
 rw [hQ, hR] at hv
 rw [hR] at ht
 have hv : A = V * Q + R := by exact_mod_cast hv
 have hR' : R < V := by omega
 rw [YT hb h.qi, YT hb h.ui, hQ, hR, Int.toNat_natCast, Int.toNat_natCast]
 rw [hv, Nat.mul_add_div hV0, Nat.div_eq_of_lt hR', Nat.add_zero, Nat.mul_add_mod, Nat.mod_eq_of_lt hR']
 simp
end Go.Ar

namespace Go.Ar
open Go Go.Sx Go.Lib
set_option maxRecDepth 100000
def zO (s : zh) : zh := s.takeWhile (· != 47)
def zG (s : zh) : zh := (s.dropWhile (· != 47)).drop 1
def zJ (s : zh) : Bool := s.any (· == 47)
def ZF (s : zh) : Bool := Zy (zO s) && (!zJ s || Zw (zG s) && !(zG s == [48]) && !(zG s == [49]))
def zL (s : zh) : Int := zt (zO s)
def zP (s : zh) : Nat := bif zJ s then zk (zG s) else 1
def zo (s : zh) : Int :=
 bif !ZF s then 11 else bif Nat.blt 300 (Xd (zO s)) || Nat.blt 300 (zG s).length then 4 else bif Nat.beq (Nat.gcd (zL s).natAbs (zP s)) 1 then 0 else 11
def y6 (n : Int) (d : Nat) : zh := itoa n ++ bif Nat.beq d 1 then [] else 47 :: decDigits d
def ZQ (n : Int) (d : Nat) : zh := y6 (n / (Nat.gcd n.natAbs d : Int)) (d / Nat.gcd n.natAbs d)
theorem Ub {c : UInt8} (h : Zm c = true) : (c != 47) = true := by
 rw [Z6] at h
 rw [bne_iff_ne]
 intro e
 simp_all
theorem TG {s : zh} (h : Zy s = true) : ∀ c ∈ s, (c != 47) = true := by
 rcases yR h with ⟨r, rfl, h1, _, _⟩ | ⟨h1, _⟩
 ·intro c hc
  rcases List.mem_cons.1 hc with rfl | hc
  ·decide
  ·exact Ub ((ZX.1 h1).2.1 c hc)
 ·exact fun c hc => Ub ((ZX.1 h1).2.1 c hc)
theorem vx {p : UInt8 → Bool} : ∀ {a : zh}, (∀ c ∈ a, p c = true) → a.takeWhile p = a ∧ a.dropWhile p = []
 | [], _ => ⟨rfl, rfl⟩
 | c :: a, h => by
  obtain ⟨h1, h2⟩ := vx (a := a) fun x hx => h x (List.mem_cons_of_mem _ hx)
  simp_all
theorem TM {p : UInt8 → Bool} {x : UInt8} {b : zh} (hx : p x = false) : ∀ {a : zh}, (∀ c ∈ a, p c = true) → (a ++ x :: b).takeWhile p = a ∧ (a ++ x :: b).dropWhile p = x :: b
 | [], _ => by simp [List.takeWhile_cons, List.dropWhile_cons, hx]
 | c :: a, h => by
  simp_all
theorem wX {s : zh} (h : zJ s = false) : zO s = s ∧ zG s = [] := by
 unfold zJ at h
 rw [List.any_eq_false] at h
 obtain ⟨h1, h2⟩ := vx (p := (· != 47)) (a := s) fun c hc => by
  simp_all
 exact ⟨h1, by unfold zG; rw [h2]; rfl⟩
theorem TZ {a b : zh} (h : ∀ c ∈ a, (c != 47) = true) : zO (a ++ 47 :: b) = a ∧ zG (a ++ 47 :: b) = b ∧ zJ (a ++ 47 :: b) = true := by
 obtain ⟨h1, h2⟩ := TM (p := (· != 47)) (x := 47) (b := b) (by decide) h
 exact ⟨h1, by unfold zG; rw [h2]; rfl, by unfold zJ; simp⟩
theorem R2 {s : zh} (h : ∀ c ∈ s, (c != 47) = true) : zJ s = false := by
 unfold zJ
 simp_all
theorem uJ {s : zh} (h : zJ s = true) : s = zO s ++ 47 :: zG s := by
 have e := List.takeWhile_append_dropWhile (p := (· != (47 : UInt8))) (l := s)
 unfold zO zG
 have hd : ∃ b, s.dropWhile (· != (47 : UInt8)) = 47 :: b := by
  clear e
  induction s with
  | nil => cases h
  | cons c s ih =>
   by_cases hc : c = 47
   ·simp_all
   ·have h' : zJ s = true := by
     unfold zJ at h ⊢
     simp_all
    simp_all
 grind
theorem tO {s : zh} (h : zJ s = false) : ZF s = Zy s := by
 unfold ZF
 rw [h, (wX h).1]; simp
theorem tt {s : zh} (h : ZF s = true) : (Zy s = true ∧ zJ s = false ∧ zO s = s ∧ zL s = zt s ∧ zP s = 1) ∨
  (zJ s = true ∧ s = zO s ++ 47 :: zG s ∧ Zy (zO s) = true ∧ Zw (zG s) = true ∧ 2 ≤ zP s ∧ zP s = zk (zG s)) := by
 cases hs : zJ s with
 | false =>
  rw [tO hs] at h
  obtain ⟨h1, h2⟩ := wX hs
  exact .inl ⟨h, rfl, h1, by unfold zL; rw [h1], by unfold zP; rw [hs]; rfl⟩
 | true =>
  unfold ZF at h
  rw [hs] at h
  simp only [Bool.not_true, Bool.false_or, Bool.and_eq_true, Bool.not_eq_true'] at h
  obtain ⟨h1, ⟨h2, h3⟩, h4⟩ := h
  have e : zP s = zk (zG s) := by unfold zP; rw [hs]; rfl
  refine .inr ⟨rfl, uJ hs, h1, h2, ?_, e⟩
  rw [e]
  have h5 := ZJ h2
  refine Decidable.byContradiction fun hn => ?_
  have : zk (zG s) = 0 ∨ zk (zG s) = 1 := by omega
  rcases this with h6 | h6
  ·rw [h6, zA (by decide)] at h5
   rw [← h5] at h3
   exact absurd h3 (by decide)
  ·rw [h6, zA (by decide)] at h5
   rw [← h5] at h4
   exact absurd h4 (by decide)
theorem Zb {s : zh} (h : ZF s = true) : 1 ≤ zP s := by rcases tt h with ⟨_, _, _, _, h⟩ | ⟨_, _, _, _, h, _⟩ <;> omega
theorem Zu {s : zh} : zo s = 0 ↔ ZF s = true ∧ Xd (zO s) ≤ 300 ∧ (zG s).length ≤ 300 ∧ Nat.gcd (zL s).natAbs (zP s) = 1 := by
 unfold zo
 cases h : ZF s with
 | false => simp
 | true =>
  cases h2 : Nat.blt 300 (Xd (zO s)) || Nat.blt 300 (zG s).length with
  | true =>
   rw [Bool.or_eq_true, zC, zC] at h2
   simp; omega
  | false =>
   rw [Bool.or_eq_false_iff, Bool.eq_false_iff, Bool.eq_false_iff, Ne, Ne, zC, zC] at h2
   cases h3 : Nat.beq (Nat.gcd (zL s).natAbs (zP s)) 1 with
   | true =>
    simp_all
   | false =>
    have h3 : Nat.gcd (zL s).natAbs (zP s) ≠ 1 := fun e => by rw [e] at h3; cases h3
    simp_all
theorem Tw {s : zh} (h : ZF s = true) : y6 (zL s) (zP s) = s := by
 unfold y6
 rcases tt h with ⟨h1, _, _, h4, h5⟩ | ⟨_, h2, h3, h4, h5, h6⟩
 ·rw [h4, h5, XV h1]; exact List.append_nil s
 ·rw [show Nat.beq (zP s) 1 = false from Bool.eq_false_iff.2 fun e => by have := Nat.eq_of_beq_eq_true e; omega]
  conv => rhs; rw [h2]
  unfold zL
  rw [XV h3, h6, ZJ h4]; rfl
theorem xL (n : Int) {d : Nat} (hd : 0 < d) : ZF (y6 n d) = true ∧ zL (y6 n d) = n ∧ zP (y6 n d) = d ∧ Xd (zO (y6 n d)) = Vk n ∧ (zG (y6 n d)).length = (if d = 1 then 0 else nDigits d) := by
 obtain ⟨i1, i2⟩ := Z8 n
 unfold y6
 by_cases h : d = 1
 ·subst h
  rw [Nat.beq_refl]
  simp only [cond_true, List.append_nil, if_true]
  have hs := R2 (TG i1)
  obtain ⟨c1, c2⟩ := wX hs
  refine ⟨by rw [tO hs]; exact i1, by unfold zL; rw [c1, i2], by unfold zP; rw [hs]; rfl, by rw [c1, wj i1, i2], by rw [c2]; rfl⟩
 ·rw [show Nat.beq d 1 = false from Bool.eq_false_iff.2 fun e => h (Nat.eq_of_beq_eq_true e)]
  simp only [cond_false, if_neg h]
  obtain ⟨c1, c2, c3⟩ := TZ (b := decDigits d) (TG i1)
  have hd0 : ¬ decDigits d = [48] := fun e => by
   have := Z5 d
   rw [e] at this
   have : (0 : Nat) = d := this
   omega
  have hd1 : ¬ decDigits d = [49] := fun e => by
   have := Z5 d
   rw [e] at this
   have : (1 : Nat) = d := this
   omega
  refine ⟨?_, by unfold zL; rw [c1, i2], by unfold zP; rw [c3, c2]; exact Z5 d, by rw [c1, wj i1, i2], by rw [c2, decDigits_length]⟩
  unfold ZF
  rw [c1, c2, c3, i1, Yp, beq_false_of_ne hd0, beq_false_of_ne hd1]; rfl
theorem SP {n : Int} {d : Nat} (hd : 0 < d) : Nat.gcd (n / (Nat.gcd n.natAbs d : Int)).natAbs (d / Nat.gcd n.natAbs d) = 1 ∧ 0 < d / Nat.gcd n.natAbs d ∧
  n / (Nat.gcd n.natAbs d : Int) * (Nat.gcd n.natAbs d : Int) = n ∧ d / Nat.gcd n.natAbs d * Nat.gcd n.natAbs d = d := by
 have hg : 0 < Nat.gcd n.natAbs d := Nat.gcd_pos_of_pos_right _ hd
 have h1 : Nat.gcd n.natAbs d ∣ n.natAbs := Nat.gcd_dvd_left _ _
 have h2 : Nat.gcd n.natAbs d ∣ d := Nat.gcd_dvd_right _ _
 have h3 : ((Nat.gcd n.natAbs d : Nat) : Int) ∣ n := Int.ofNat_dvd_left.2 h1
 have e1 : (n / (Nat.gcd n.natAbs d : Int)).natAbs = n.natAbs / Nat.gcd n.natAbs d := by
  rw [Int.natAbs_ediv_of_dvd h3, Int.natAbs_natCast]
 refine ⟨?_, Nat.div_pos (Nat.le_of_dvd hd h2) hg, Int.ediv_mul_cancel h3, Nat.div_mul_cancel h2⟩
 rw [e1]
 exact Nat.coprime_div_gcd_div_gcd hg
theorem uh (n : Int) {d : Nat} (hd : 0 < d) : ZF (ZQ n d) = true ∧ zL (ZQ n d) = n / (Nat.gcd n.natAbs d : Int) ∧ zP (ZQ n d) = d / Nat.gcd n.natAbs d ∧ Nat.gcd (zL (ZQ n d)).natAbs (zP (ZQ n d)) = 1 := by
 obtain ⟨g1, g2, _, _⟩ := SP (n := n) hd
 obtain ⟨a, b, c, _, _⟩ := xL (n / (Nat.gcd n.natAbs d : Int)) g2
 unfold ZQ
 simp_all
theorem oG (n : Int) {d : Nat} (hd : 0 < d) : zL (ZQ n d) * (d : Int) = n * (zP (ZQ n d) : Int) := by
 obtain ⟨_, b, c, _⟩ := uh n hd
 obtain ⟨_, _, g3, g4⟩ := SP (n := n) hd
 rw [b, c]
 have g4 : ((d / Nat.gcd n.natAbs d : Nat) : Int) * ((Nat.gcd n.natAbs d : Nat) : Int) = (d : Int) := by exact_mod_cast g4
 grind
end Go.Ar

namespace Go.Ar
open Go Go.Sx Go.Lib
set_option maxRecDepth 100000
class Yt (α : Type) [zp α] : Prop where
 dec : ∀ a : α, zp.dec (zp.enc a) = a
 ok : ∀ a : α, zp.ok (α := α) (zp.enc a) = true
theorem Pe {f : Nat → Bool} : ∀ {n : Nat}, (∀ i, i < n → f i = true) → uc f n = true
 | 0, _ => rfl
 | n + 1, h => by simp only [uc, Bool.and_eq_true]; exact ⟨Pe fun i hi => h i (by omega), h n (by omega)⟩
section
variable {α : Type} [zp α] [Yt α]
theorem XB (f : Bool) (l : List α) (n : Nat) : xy (AV.xl f n l.length fun i j => zp.enc (l.getD i zp.dflt) j) = l := by
 show wH l.length (fun i => zp.dec (zp.enc (l.getD i zp.dflt))) = l
 simp only [Yt.dec]
 exact R7 l _
theorem UZ (l : List α) : xy (Zp l) = l := XB false l _
theorem WC (f : Bool) (l : List α) : za α (AV.xl f (zp.n α) l.length fun i j => zp.enc (l.getD i zp.dflt) j) = true := by
 show (Nat.beq (zp.n α) (zp.n α) && uc (fun i => zp.ok (α := α) (zp.enc (l.getD i zp.dflt))) l.length) = true
 rw [Bool.and_eq_true]
 exact ⟨Nat.beq_refl _, Pe fun i _ => Yt.ok _⟩
theorem Vy (l : List α) : za α (Zp l) = true := WC false l
theorem Vz (a : α) : ZR (yx a) = a := Yt.dec a
theorem Xo (a : α) : ZH α (yx a) = true := by
 show (Nat.beq (zp.n α) (zp.n α) && zp.ok (α := α) (zp.enc a)) = true
 rw [Bool.and_eq_true]
 exact ⟨Nat.beq_refl _, Yt.ok _⟩
end
instance : Yt Int := ⟨fun _ => rfl, fun _ => rfl⟩
instance : Yt Bool := ⟨fun _ => rfl, fun _ => rfl⟩
instance : Yt (List UInt8) := ⟨fun _ => rfl, fun _ => rfl⟩
theorem gj (k : IntKind) (n : Int) : AV.int (.v (.int k n)) = n := rfl
theorem Ze (z : Nat) : zn 0 (z : Int) = Nat.blt 0 z := by rw [Bool.eq_iff_iff, zq, zC]; omega
theorem wT (z : Nat) : ((z : Int) - 1).toNat = z - 1 := by omega
theorem Yo {A B : Prop} : zZ true A B ↔ A := by simp [zu]
theorem uU {A B : Prop} : zZ false A B ↔ B := by simp [zu]
theorem row_one (r : Nat → AV) : Sx.rowAt [r] = fun _ j => r j := by
 funext i j
 unfold Sx.rowAt
 cases i with
 | zero => rfl
 | succ i => rfl
def zv (x : AV) : List Int := xy x
theorem YJ (f : Bool) (l : List Int) : za Int (AV.xl f 1 l.length fun i j => AV.v (Value.int IntKind.i64 (l.getD i 0))) = true := WC f l
theorem yn (f : Bool) (l : List Int) : za Int (AV.xl f 1 l.length fun i j => AV.v (Value.int IntKind.i64 (l.getD i zp.dflt))) = true := WC f l
theorem W9 (f : Bool) (l : List Int) : xy (AV.xl f 1 l.length fun i j => AV.v (Value.int IntKind.i64 (l.getD i 0))) = l := XB f l 1
theorem Yd (f : Bool) (l : List Int) : xy (AV.xl f 1 l.length fun i j => AV.v (Value.int IntKind.i64 (l.getD i zp.dflt))) = l := XB f l 1
theorem gK (f : Bool) (l : List Int) : zv (AV.xl f 1 l.length fun i j => AV.v (Value.int IntKind.i64 (l.getD i 0))) = l := XB f l 1
theorem HR (f : Bool) (l : List Int) : zv (AV.xl f 1 l.length fun i j => AV.v (Value.int IntKind.i64 (l.getD i zp.dflt))) = l := XB f l 1
theorem TC {α : Type} {l : List α} {d : α} {z : Nat} (h : z < l.length) : l.take (z + 1) = l.take z ++ [l.getD z d] := by
 simp_all
def Kh (f : FuncId) : AV := .fn (.func f) 0 (fun _ => .junk) 0 (fun _ => .junk)
def Ya (f : Nat → Int) : Nat → Nat → Int
 | 0, _ => 0
 | n + 1, z => bif f z != 0 then f z else Ya f n (z + 1)
theorem Wt {f : Nat → Int} : ∀ {k n : Nat}, k ≤ n → (∀ i, i < k → f i = 0) → Ya f n 0 = Ya f (n - k) k
 | 0, n, _, _ => by simp
 | k + 1, n, hk, h => by
  rw [Wt (k := k) (by omega) fun i hi => h i (by omega), show n - k = n - (k + 1) + 1 by omega]
  show (bif f k != 0 then f k else Ya f (n - (k + 1)) (k + 1)) = _
  simp_all
theorem XX {f : Nat → Int} {k n : Nat} (hk : k < n) (h : ∀ i, i < k → f i = 0) (h2 : f k ≠ 0) : Ya f n 0 = f k := by
 rw [Wt (k := k) (by omega) h, show n - k = n - (k + 1) + 1 by omega]
 show (bif f k != 0 then f k else Ya f (n - (k + 1)) (k + 1)) = _
 grind
theorem xH {f : Nat → Int} {n : Nat} (h : ∀ i, i < n → f i = 0) : Ya f n 0 = 0 := by
 rw [Wt (Nat.le_refl _) h, Nat.sub_self]; rfl
theorem HJ {a b : Nat} (h : a ≤ b) : 10 ^ a ≤ 10 ^ b := Nat.pow_le_pow_right (by omega) h
theorem P9 (k m : Nat) (h : m = k + 1) : 10 ^ m = 10 ^ k * 10 := by rw [h, Nat.pow_succ]
theorem mC (k m : Nat) (h : m = k + k) : 10 ^ m = 10 ^ k * 10 ^ k := by rw [h, Nat.pow_add]
theorem xA {c : Bool} {A B : Prop} (h : c = true) (ha : A) : zZ c A B := by rw [h, Yo]; exact ha
theorem sS : (∀ x : AV, zc x x) ∧ (∀ p : Prop, (True ∧ p) = p) ∧ (∀ p : Prop, (p ∧ True) = p) ∧ (∀ x : Bool, zU true x = x) ∧ (∀ x : Bool, zU false x = !x) ∧
  (∀ {x : Bool} {A : Prop}, zZ (!x || x) A False ↔ A) ∧ (∀ a b : Bool, (bif a then true else b) = (a || b)) ∧ (∀ a b : Bool, (bif a then b else false) = (a && b)) ∧
  (∀ {x : Bool} {p : Prop} [DB p] {A : Prop}, zZ (!x || DB.db p) A False ↔ (x = true → p) ∧ A) ∧ (∀ {p : Prop} [DB p] {A : Prop}, zZ (DB.db p) A False ↔ p ∧ A) ∧
  (∀ {a b : Int} {A B : Prop}, zZ (zn a b) A B ↔ (a < b → A) ∧ (b ≤ a → B)) ∧ (∀ {a b : Int} {A B : Prop}, zZ (leB a b) A B ↔ (a ≤ b → A) ∧ (b < a → B)) ∧
  (∀ {a b : Int} {A B : Prop}, zZ (a != b) A B ↔ (a ≠ b → A) ∧ (a = b → B)) ∧ (∀ {a b : Int} {A B : Prop}, zZ (a == b) A B ↔ (a = b → A) ∧ (a ≠ b → B)) ∧
  (∀ {A B : Prop}, zZ true A B ↔ A) ∧ (∀ n : Nat, (n : Int).toNat = n) ∧ (∀ n : Nat, 0 + n = n) ∧ (∀ n : Nat, 0 ≤ n) ∧ (∀ n : Nat, n - 0 = n) ∧
  (∀ (k : IntKind) (n : Int), AV.int (.v (.int k n)) = n) ∧ (∀ b : Bool, (b || true) = true) ∧ (∀ {α : Type} (a b : α), (bif true then a else b) = a) ∧ (∀ {α : Type} (a b : α), (bif false then a else b) = b) :=
 ⟨zX, true_and, and_true, TH, tH, Mw, IP, ko, ZT, ZK, j6, gH, jC, Hn, Yo, Int.toNat_natCast, Nat.zero_add, Nat.zero_le, Nat.sub_zero, gj, Bool.or_true, cond_true, cond_false⟩
theorem dS : (∀ (f : Bool) (l : List Int), za Int (AV.xl f 1 l.length fun i j => AV.v (Value.int IntKind.i64 (l.getD i 0))) = true) ∧ (∀ (f : Bool) (l : List Int), za Int (AV.xl f 1 l.length fun i j => AV.v (Value.int IntKind.i64 (l.getD i zp.dflt))) = true) ∧
  (∀ (f : Bool) (l : List Int), xy (AV.xl f 1 l.length fun i j => AV.v (Value.int IntKind.i64 (l.getD i 0))) = l) ∧ (∀ (f : Bool) (l : List Int), xy (AV.xl f 1 l.length fun i j => AV.v (Value.int IntKind.i64 (l.getD i zp.dflt))) = l) ∧
  (∀ (f : Bool) (l : List Int), zv (AV.xl f 1 l.length fun i j => AV.v (Value.int IntKind.i64 (l.getD i 0))) = l) ∧ (∀ (f : Bool) (l : List Int), zv (AV.xl f 1 l.length fun i j => AV.v (Value.int IntKind.i64 (l.getD i zp.dflt))) = l) :=
 ⟨YJ, yn, W9, Yd, gK, HR⟩
def Hw : List zN → Prop
 | [] => True
 | p :: ps => p.holds ∧ Hw ps
theorem Zx : ∀ {ps : List zN}, (∀ p ∈ ps, p.holds) → Hw ps
 | [], _ => trivial
 | _ :: _, h => ⟨h _ List.mem_cons_self, Zx fun q hq => h q (List.mem_cons_of_mem _ hq)⟩
abbrev bF (t : Bool) (A : Prop) : Prop := zZ t A False
abbrev dK (x : Int) : Bool := DB.db (YZ .i64 x)
abbrev bA (a : Array UInt8) : List UInt8 := Array.toList (ByteArray.data (ByteArray.mk a))
abbrev a8 (x : UInt8) : AV := AV.v (Value.int IntKind.u8 ((UInt8.toNat x : Nat) : Int))
abbrev xI (x : List Int) : AV := AV.xl false 1 (List.length x) fun i _ => AV.v (Value.int .i64 (List.getD x i zp.dflt))
abbrev nX : Nat := 9223372036854775807
abbrev nM : Nat := 4294967280
abbrev lR : Prop := LoopState.ready = LoopState.ready ∧ xf Code = xf Code
abbrev cI (n : Nat) : Int := n
abbrev kI : Prop := IntKind.i64 = .i64
abbrev j2 : Prop := 2 = List.length [AV.junk, AV.junk]
abbrev lN {α : Type} (l : List α) : Nat := List.length l
abbrev lZ {α : Type} (l : List α) : Int := (↑(List.length l) : Int)
abbrev gD {α : Type} (l : List α) (i : Nat) (d : α) : α := List.getD l i d
abbrev iZ : Int := 0
abbrev iO : Int := 1
abbrev iX : Int := 9223372036854775807
abbrev iN : Int := -9223372036854775808
abbrev iB : Int := 1000000000
abbrev aI (n : Int) : AV := AV.v (Value.int .i64 n)
end Go.Ar

namespace Go.Ar
open Go Go.Sx Go.Lib
set_option maxRecDepth 100000
structure Row where
 w : Int
 d : Int
 s : Int
 q : Int
 n : Int
deriving DecidableEq
abbrev r0 : Row := ⟨0, 0, 0, 0, 0⟩
instance : zp Row := ⟨5, ⟨0, 0, 0, 0, 0⟩, fun c => zT [.i c.w, .i c.d, .i c.s, .i c.q, .i c.n], fun cs => ⟨AV.int (cs 0), AV.int (cs 1), AV.int (cs 2), AV.int (cs 3), AV.int (cs 4)⟩,
 fun cs => yz (cs 0) && yz (cs 1) && yz (cs 2) && yz (cs 3) && yz (cs 4), fun cs h j hj => by
 simp only [Bool.and_eq_true] at h
 match j, hj with
 | 0, _ => exact zf (Za h.1.1.1.1)
 | 1, _ => exact zf (Za h.1.1.1.2)
 | 2, _ => exact zf (Za h.1.1.2)
 | 3, _ => exact zf (Za h.1.2)
 | 4, _ => exact zf (Za h.2)⟩
instance : Yt Row := ⟨fun _ => rfl, fun _ => rfl⟩
def rowsOf (x : AV) : List Row := xy x
theorem vN (f : Bool) (l : List Row) : za Row (AV.xl f 5 l.length fun i j => zp.enc (l.getD i r0) j) = true := WC f l
theorem YA (f : Bool) (l : List Row) : za Row (AV.xl f 5 l.length fun i j => zp.enc (l.getD i zp.dflt) j) = true := WC f l
theorem vk (f : Bool) (l : List Row) : xy (AV.xl f 5 l.length fun i j => zp.enc (l.getD i r0) j) = l := XB f l 5
theorem Yb (f : Bool) (l : List Row) : xy (AV.xl f 5 l.length fun i j => zp.enc (l.getD i zp.dflt) j) = l := XB f l 5
theorem YC (f : Bool) (l : List Row) : rowsOf (AV.xl f 5 l.length fun i j => zp.enc (l.getD i r0) j) = l := XB f l 5
theorem yM (f : Bool) (l : List Row) : rowsOf (AV.xl f 5 l.length fun i j => zp.enc (l.getD i zp.dflt) j) = l := XB f l 5
theorem ZN (b : Row) : ZR (.agg 5 fun i => zp.enc b i) = b := Vz b
theorem Zr (b : Row) : ZH Row (.agg 5 fun i => zp.enc b i) = true := Xo b
theorem ZS (b : Row) (g : Nat → AV) : ZR (.agg 5 fun i => if i < 5 then zp.enc b i else g i) = b := Yt.dec b
theorem ZY (b : Row) (g : Nat → AV) : ZH Row (.agg 5 fun i => if i < 5 then zp.enc b i else g i) = true := Xo b
def zK (n a b : Int) : Bool := leB a n && leB n b
theorem Z2 {n a b : Int} : zK n a b = true ↔ a ≤ n ∧ n ≤ b := by unfold zK; rw [Bool.and_eq_true, zF, zF]
def Vt (s q : Int) : Bool := zK s 1 65536 && zK q 0 1048576
def yc (w d s q : Int) : Bool := zK w 1 1000 && zK d 1 1000 && Vt s q
def Sc (a b : Row) : Int := bif a.w - b.w != 0 then a.w - b.w else bif a.d - b.d != 0 then a.d - b.d else bif a.s - b.s != 0 then a.s - b.s else a.q - b.q
def xD (l : List Row) (i : Nat) : Int :=
 bif !yc (l.getD i r0).w (l.getD i r0).d (l.getD i r0).s (l.getD i r0).q || !zK (l.getD i r0).n 1 65536 then 2
 else bif Nat.blt 0 i && leB 0 (Sc (l.getD (i - 1) r0) (l.getD i r0)) then 10 else 0
def Y4 (l : List Row) : Int := bif Nat.blt 4096 l.length then 4 else Ya (xD l) l.length 0
def tu (x : Row) (w d s q : Int) : Bool := leB x.w w && leB x.d d && leB s x.s && leB q x.q
def yO (l : List Row) (w d s q : Int) : Nat → Int
 | 0 => 0
 | z + 1 => bif tu (l.getD z r0) w d s q then (if (l.getD z r0).n > yO l w d s q z then (l.getD z r0).n else yO l w d s q z) else yO l w d s q z
def Zl (l : List Row) (w d s q : Int) : Int := yO l w d s q l.length
def yr (l : List Row) (w d s q : Int) : Int := bif Y4 l != 0 then 1 else bif !yc w d s q then 2 else 0
def yt (l : List Row) (w d s q : Int) : Int := bif yr l w d s q != 0 then yr l w d s q else bif Zl l w d s q == 0 then 25 else 0
def yh (l : List Row) (w d s q : Int) : Int := bif yt l w d s q == 0 then Zl l w d s q else 0
theorem VO {l : List Row} (h : Y4 l = 0) : l.length ≤ 4096 ∧ ∀ i, i < l.length → xD l i = 0 := by
 unfold Y4 at h
 cases h1 : Nat.blt 4096 l.length with
 | true => simp_all
 | false =>
  rw [h1] at h
  have h : Ya (xD l) l.length 0 = 0 := h
  refine ⟨by rw [Bool.eq_false_iff, Ne, zC] at h1; omega, fun i => ?_⟩
  induction i using Nat.strongRecOn with
  | _ i ih =>
   intro hi
   refine Decidable.byContradiction fun hn => ?_
   rw [XX hi (fun j hj => ih j hj (by omega)) hn] at h
   exact hn h
theorem rM {l : List Row} {i : Nat} (h : xD l i = 0) : yc (l.getD i r0).w (l.getD i r0).d (l.getD i r0).s (l.getD i r0).q = true ∧ zK (l.getD i r0).n 1 65536 = true := by
 unfold xD at h
 grind
theorem Vq (l : List Row) (w d s q : Int) : ∀ z, 0 ≤ yO l w d s q z
 | 0 => Int.le_refl _
 | z + 1 => by
  have := Vq l w d s q z
  unfold yO
  grind
theorem RO {l : List Row} {w d s q : Int} {B : Int} (h0 : 0 ≤ B) : ∀ {z : Nat}, (∀ i, i < z → (l.getD i r0).n ≤ B) → yO l w d s q z ≤ B
 | 0, _ => h0
 | z + 1, h => by
  have := RO h0 (z := z) (l := l) (w := w) (d := d) (s := s) (q := q) fun i hi => h i (by omega)
  have hz := h z (by omega)
  unfold yO
  grind
structure Sz where
 k : Int
 w : Int
 d : Int
deriving DecidableEq
abbrev s0 : Sz := ⟨0, 0, 0⟩
instance : zp Sz := ⟨3, ⟨0, 0, 0⟩, fun c => zT [.i c.k, .i c.w, .i c.d], fun cs => ⟨AV.int (cs 0), AV.int (cs 1), AV.int (cs 2)⟩,
 fun cs => yz (cs 0) && yz (cs 1) && yz (cs 2), fun cs h j hj => by
 simp only [Bool.and_eq_true] at h
 match j, hj with
 | 0, _ => exact zf (Za h.1.1)
 | 1, _ => exact zf (Za h.1.2)
 | 2, _ => exact zf (Za h.2)⟩
instance : Yt Sz := ⟨fun _ => rfl, fun _ => rfl⟩
def x9 (a b : Sz) : Int := bif a.w * a.d - b.w * b.d != 0 then a.w * a.d - b.w * b.d else a.w - b.w
def O0 (a : Sz) : Bool := zK a.w 0 1000 && zK a.d 0 1000
theorem ov {a : Sz} (h : O0 a = true) : (0 ≤ a.w ∧ a.w ≤ 1000) ∧ (0 ≤ a.d ∧ a.d ≤ 1000) ∧ 0 ≤ a.w * a.d ∧ a.w * a.d ≤ 1000000 := by
 unfold O0 at h
 rw [Bool.and_eq_true, Z2, Z2] at h
 obtain ⟨h1, h2⟩ := h
 refine ⟨h1, h2, Int.mul_nonneg h1.1 h2.1, ?_⟩
 calc a.w * a.d ≤ 1000 * a.d := Int.mul_le_mul_of_nonneg_right h1.2 h2.1
  _ ≤ 1000000 := by omega
end Go.Ar
