/- Decimal strings of integers: what they are and what they mean. -/
import Derived.Test.YtdkpceodckdcfaaGreatDoorSxU
import Derived.Lib.ItoaLen
set_option linter.unusedSimpArgs false
set_option linter.unusedVariables false
namespace Go.Ar
open Go Go.Sx Go.Lib
set_option maxRecDepth 100000
abbrev Str := List UInt8
def isDg (c : UInt8) : Bool := Nat.ble 48 c.toNat && Nat.ble c.toNat 57
def dgV (c : UInt8) : Nat := c.toNat - 48
def dgC (d : Nat) : UInt8 := UInt8.ofNat (48 + d)
theorem isDg_iff {c : UInt8} : isDg c = true ↔ 48 ≤ c.toNat ∧ c.toNat ≤ 57 := by
 unfold isDg
 rw [Bool.and_eq_true, Nat.ble_eq, Nat.ble_eq]
theorem dgC_toNat {d : Nat} (h : d < 10) : (dgC d).toNat = 48 + d := by
 unfold dgC
 rw [UInt8.toNat_ofNat']
 omega
theorem isDg_dgC {d : Nat} (h : d < 10) : isDg (dgC d) = true := by rw [isDg_iff, dgC_toNat h]; omega
theorem dgV_dgC {d : Nat} (h : d < 10) : dgV (dgC d) = d := by unfold dgV; rw [dgC_toNat h]; omega
theorem dgC_dgV {c : UInt8} (h : isDg c = true) : dgC (dgV c) = c := by
 rw [isDg_iff] at h
 refine UInt8.toNat_inj.1 ?_
 rw [dgC_toNat (by unfold dgV; omega)]
 unfold dgV
 omega
theorem dgV_lt {c : UInt8} (h : isDg c = true) : dgV c < 10 := by rw [isDg_iff] at h; unfold dgV; omega
def decV (l : Str) : Nat := l.foldl (fun a c => 10 * a + dgV c) 0
theorem decV_snoc (l : Str) (c : UInt8) : decV (l ++ [c]) = 10 * decV l + dgV c := by unfold decV; rw [List.foldl_append]; rfl
theorem fold_acc (l : Str) : ∀ a : Nat, l.foldl (fun a c => 10 * a + dgV c) a = a * 10 ^ l.length + decV l := by
 induction l with
 | nil => intro a; simp [decV]
 | cons c l ih =>
  intro a
  unfold decV
  rw [List.foldl_cons, List.foldl_cons, ih, ih (10 * 0 + dgV c), List.length_cons, Nat.pow_succ]
  generalize 10 ^ l.length = p
  rw [Nat.mul_zero, Nat.zero_add, Nat.add_mul, Nat.add_assoc]
  congr 1
  rw [Nat.mul_comm 10 a, Nat.mul_assoc, Nat.mul_comm 10 p]
theorem decV_app (a b : Str) : decV (a ++ b) = decV a * 10 ^ b.length + decV b := by
 conv => lhs; unfold decV
 rw [List.foldl_append, fold_acc]; rfl
theorem decV_cons (c : UInt8) (l : Str) : decV (c :: l) = dgV c * 10 ^ l.length + decV l := by
 have := decV_app [c] l
 simpa [decV] using this
theorem decV_lt {l : Str} (h : l.all isDg = true) : decV l < 10 ^ l.length := by
 induction l with
 | nil => simp [decV]
 | cons c l ih =>
  rw [List.all_cons, Bool.and_eq_true] at h
  have h1 := ih h.2
  have h2 := dgV_lt h.1
  rw [decV_cons, List.length_cons, Nat.pow_succ]
  generalize 10 ^ l.length = p at *
  have : dgV c * p ≤ 9 * p := Nat.mul_le_mul_right p (by omega)
  omega
def digS (l : Str) : Bool := Nat.blt 0 l.length && l.all isDg && !(Nat.blt 1 l.length && (l.getD 0 0 == 48))
theorem decDigits_small {u : Nat} (h : u < 10) : decDigits u = [dgC u] := by rw [decDigits, dif_pos h]; rfl
theorem decDigits_big {u : Nat} (h : ¬ u < 10) : decDigits u = decDigits (u / 10) ++ [dgC (u % 10)] := by rw [decDigits, dif_neg h]; rfl
theorem decDigits_all (u : Nat) : (decDigits u).all isDg = true := by
 induction u using Nat.strongRecOn with
 | _ u ih =>
  by_cases h : u < 10
  ·rw [decDigits_small h]; simp [isDg_dgC h]
  ·rw [decDigits_big h, List.all_append, ih (u / 10) (by omega)]
   simp [isDg_dgC (Nat.mod_lt u (by decide : 10 > 0))]
theorem decV_decDigits (u : Nat) : decV (decDigits u) = u := by
 induction u using Nat.strongRecOn with
 | _ u ih =>
  by_cases h : u < 10
  ·rw [decDigits_small h]
   show 10 * 0 + dgV (dgC u) = u
   rw [dgV_dgC h]; omega
  ·rw [decDigits_big h, decV_snoc, ih (u / 10) (by omega), dgV_dgC (Nat.mod_lt u (by decide : 10 > 0))]
   omega
theorem decDigits_pos (u : Nat) : 0 < (decDigits u).length := by rw [decDigits_length]; exact nDigits_pos u
theorem decDigits_head {u : Nat} (h : u ≠ 0) : (decDigits u).getD 0 0 ≠ 48 := by
 induction u using Nat.strongRecOn with
 | _ u ih =>
  by_cases h1 : u < 10
  ·rw [decDigits_small h1]
   intro e
   have e : dgC u = 48 := e
   have := congrArg UInt8.toNat e
   rw [dgC_toNat h1] at this
   have : 48 + u = 48 := this
   omega
  ·rw [decDigits_big h1, List.getD_eq_getElem?_getD, List.getElem?_append_left (decDigits_pos _), ← List.getD_eq_getElem?_getD]
   exact ih (u / 10) (by omega) (by omega)
theorem decDigits_digS (u : Nat) : digS (decDigits u) = true := by
 unfold digS
 rw [decDigits_all, (blt_iff _ _).2 (decDigits_pos u)]
 by_cases h : u = 0
 ·subst h
  rw [decDigits_small (by decide)]; rfl
 ·rw [beq_false_of_ne (decDigits_head h), Bool.and_false]; rfl
theorem digS_iff {l : Str} : digS l = true ↔ 0 < l.length ∧ (∀ c ∈ l, isDg c = true) ∧ (1 < l.length → l.getD 0 0 ≠ 48) := by
 unfold digS
 rw [Bool.and_eq_true, Bool.and_eq_true, blt_iff, List.all_eq_true, Bool.not_eq_true', Bool.and_eq_false_iff]
 constructor
 ·rintro ⟨⟨h1, h2⟩, h3⟩
  refine ⟨h1, h2, fun h4 => ?_⟩
  rcases h3 with h3 | h3
  ·rw [(blt_iff _ _).2 h4] at h3; cases h3
  ·exact fun e => by rw [e] at h3; cases h3
 ·rintro ⟨h1, h2, h3⟩
  refine ⟨⟨h1, h2⟩, ?_⟩
  by_cases h4 : 1 < l.length
  ·exact .inr (beq_false_of_ne (h3 h4))
  ·exact .inl (by rw [Bool.eq_false_iff]; intro e; exact h4 ((blt_iff _ _).1 e))
theorem snoc_of {l : Str} (h : 0 < l.length) : ∃ a c, l = a ++ [c] := by
 have hn : l ≠ [] := fun e => by rw [e] at h; cases h
 exact ⟨l.dropLast, l.getLast hn, (List.dropLast_concat_getLast hn).symm⟩
theorem decDigits_decV {l : Str} (h : digS l = true) : decDigits (decV l) = l := by
 generalize hn : l.length = n
 induction n generalizing l with
 | zero => obtain ⟨h1, _⟩ := digS_iff.1 h; omega
 | succ n ih =>
  obtain ⟨h1, h2, h3⟩ := digS_iff.1 h
  obtain ⟨a, c, rfl⟩ := snoc_of h1
  have hc : isDg c = true := h2 c (by simp)
  have hl : a.length = n := by simpa using hn
  rw [decV_snoc]
  by_cases ha : a.length = 0
  ·obtain rfl := List.length_eq_zero_iff.1 ha
   have : 10 * decV [] + dgV c = dgV c := by simp [decV]
   rw [this, decDigits_small (dgV_lt hc), dgC_dgV hc]; rfl
  ·have hg : (a ++ [c]).getD 0 0 = a.getD 0 0 := by
    rw [List.getD_eq_getElem?_getD, List.getD_eq_getElem?_getD, List.getElem?_append_left (by omega)]
   have ha0 : a.getD 0 0 ≠ 48 := by rw [← hg]; exact h3 (by simp; omega)
   have hda : digS a = true := digS_iff.2 ⟨by omega, fun x hx => h2 x (List.mem_append_left _ hx), fun _ => ha0⟩
   have ih' := ih hda hl
   have hv := dgV_lt hc
   have hpos : decV a ≠ 0 := fun e => by
    rw [e, decDigits_small (by decide)] at ih'
    rw [← ih'] at ha0
    exact ha0 rfl
   rw [decDigits_big (by omega), show (10 * decV a + dgV c) / 10 = decV a by omega, show (10 * decV a + dgV c) % 10 = dgV c by omega, ih', dgC_dgV hc]
def intB (s : Str) : Bool := match s with | 45 :: r => digS r && !(r == [48]) | r => digS r
def valI (s : Str) : Int := match s with | 45 :: r => -(decV r : Int) | r => (decV r : Int)
theorem itoa_nat (n : Nat) : itoa (n : Int) = decDigits n := by unfold itoa; rw [if_neg (by omega), Int.toNat_natCast]
theorem itoa_neg {n : Nat} (h : n ≠ 0) : itoa (-(n : Int)) = 45 :: decDigits n := by
 unfold itoa
 rw [if_pos (by omega)]
 congr 2
 omega
theorem digS_not45 {r : Str} (h : digS (45 :: r) = true) : False := by
 have := (digS_iff.1 h).2.1 45 List.mem_cons_self
 rw [isDg_iff] at this
 exact absurd this (by decide)
theorem intB_nat {r : Str} (h : digS r = true) : intB r = true ∧ valI r = (decV r : Int) := by
 match r, h with
 | [], h => exact ⟨h, rfl⟩
 | c :: r, h =>
  by_cases hc : c = 45
  ·subst hc; exact (digS_not45 h).elim
  ·constructor
   ·unfold intB; split
    ·rename_i e; cases e; exact absurd rfl hc
    ·exact h
   ·unfold valI; split
    ·rename_i e; cases e; exact absurd rfl hc
    ·rfl
theorem itoa_intB (n : Int) : intB (itoa n) = true ∧ valI (itoa n) = n := by
 by_cases h : n < 0
 ·obtain ⟨m, rfl⟩ : ∃ m : Nat, n = -(m : Int) := ⟨n.natAbs, by omega⟩
  have hm : m ≠ 0 := by omega
  rw [itoa_neg hm]
  refine ⟨?_, ?_⟩
  ·show (digS (decDigits m) && !(decDigits m == [48])) = true
   rw [decDigits_digS]
   have : decDigits m ≠ [48] := fun e => decDigits_head hm (by rw [e]; rfl)
   rw [beq_false_of_ne this]; rfl
  ·show -((decV (decDigits m) : Nat) : Int) = _
   rw [decV_decDigits]
 ·obtain ⟨m, rfl⟩ : ∃ m : Nat, n = (m : Int) := ⟨n.toNat, by omega⟩
  rw [itoa_nat]
  obtain ⟨a, b⟩ := intB_nat (decDigits_digS m)
  exact ⟨a, by rw [b, decV_decDigits]⟩
theorem decV_zero {r : Str} (h : digS r = true) (h0 : decV r = 0) : r = [48] := by
 have := decDigits_decV h
 rw [h0, decDigits_small (by decide)] at this
 exact this.symm
theorem intB_cases {s : Str} (h : intB s = true) : (∃ r, s = 45 :: r ∧ digS r = true ∧ decV r ≠ 0 ∧ valI s = -(decV r : Int)) ∨ (digS s = true ∧ valI s = (decV s : Int)) := by
 unfold intB at h
 split at h
 ·rename_i r
  rw [Bool.and_eq_true, Bool.not_eq_true'] at h
  refine .inl ⟨r, rfl, h.1, fun e => ?_, rfl⟩
  have := decV_zero h.1 e
  rw [this] at h
  exact absurd h.2 (by decide)
 ·exact .inr ⟨h, (intB_nat h).2⟩
theorem itoa_valI {s : Str} (h : intB s = true) : itoa (valI s) = s := by
 rcases intB_cases h with ⟨r, rfl, h1, h2, h3⟩ | ⟨h1, h2⟩
 ·rw [h3, itoa_neg h2, decDigits_decV h1]
 ·rw [h2, itoa_nat, decDigits_decV h1]
def nDg (n : Int) : Nat := nDigits n.natAbs
theorem itoa_len (n : Int) : (itoa n).length = nDg n + if n < 0 then 1 else 0 := by
 unfold itoa nDg
 by_cases h : n < 0
 ·rw [if_pos h, if_pos h, List.length_cons, decDigits_length]
 ·rw [if_neg h, if_neg h, decDigits_length, show n.toNat = n.natAbs by omega]; rfl
theorem nDigits_le : ∀ {k u : Nat}, u < 10 ^ (k + 1) → nDigits u ≤ k + 1
 | 0, u, h => by rw [nDigits_small (by simpa using h)]; exact Nat.le_refl _
 | k + 1, u, h => by
  by_cases hu : u < 10
  ·rw [nDigits_small hu]; omega
  ·rw [nDigits_big hu]
   have := nDigits_le (k := k) (u := u / 10) (by rw [Nat.pow_succ] at h; omega)
   omega
theorem nDigits_le_iff {k u : Nat} (hk : 0 < k) : nDigits u ≤ k ↔ u < 10 ^ k := by
 constructor
 ·intro h
  exact Nat.lt_of_lt_of_le (lt_pow_nDigits u) (Nat.pow_le_pow_right (by decide) h)
 ·intro h
  obtain ⟨m, rfl⟩ : ∃ m, k = m + 1 := ⟨k - 1, by omega⟩
  exact nDigits_le h
theorem digS_len {l : Str} (h : digS l = true) : l.length = nDigits (decV l) := by
 conv => lhs; rw [← decDigits_decV h]
 rw [decDigits_length]
end Go.Ar

namespace Go.Ar
open Go Go.Sx Go.Lib
set_option maxRecDepth 100000
def valL (b : Int) : List Int → Int
 | [] => 0
 | x :: l => x + b * valL b l
def InL (b : Int) (l : List Int) : Prop := ∀ x ∈ l, 0 ≤ x ∧ x < b
def trimL : List Int → List Int
 | [] => []
 | x :: l => if trimL l = [] ∧ x = 0 then [] else x :: trimL l
def limbs (b n : Nat) : List Int :=
 if h : n = 0 ∨ b < 2 then [] else ((n % b : Nat) : Int) :: limbs b (n / b)
termination_by n
decreasing_by
 have h2 : n / b < n := Nat.div_lt_self (by omega) (by omega)
 exact h2
theorem limbs_zero (b : Nat) : limbs b 0 = [] := by rw [limbs, dif_pos (.inl rfl)]
theorem limbs_pos {b n : Nat} (hb : 2 ≤ b) (h : n ≠ 0) : limbs b n = ((n % b : Nat) : Int) :: limbs b (n / b) := by
 conv => lhs; rw [limbs]
 rw [dif_neg (by omega)]
theorem InL.nil (b : Int) : InL b [] := fun _ h => by cases h
theorem InL.tail {b x : Int} {l : List Int} (h : InL b (x :: l)) : InL b l := fun y hy => h y (List.mem_cons_of_mem _ hy)
theorem InL.head {b x : Int} {l : List Int} (h : InL b (x :: l)) : 0 ≤ x ∧ x < b := h x List.mem_cons_self
theorem InL.app {b : Int} {l m : List Int} (h : InL b l) (h2 : InL b m) : InL b (l ++ m) := fun x hx => (List.mem_append.1 hx).elim (h x) (h2 x)
theorem InL.one {b x : Int} (h0 : 0 ≤ x) (h1 : x < b) : InL b [x] := fun y hy => by rw [List.mem_singleton] at hy; subst hy; exact ⟨h0, h1⟩
theorem InL.snoc {b x : Int} {l : List Int} (h : InL b l) (h0 : 0 ≤ x) (h1 : x < b) : InL b (l ++ [x]) := h.app (.one h0 h1)
theorem InL.take {b : Int} {l : List Int} (h : InL b l) (n : Nat) : InL b (l.take n) := fun x hx => h x (List.mem_of_mem_take hx)
theorem InL.drop {b : Int} {l : List Int} (h : InL b l) (n : Nat) : InL b (l.drop n) := fun x hx => h x (List.mem_of_mem_drop hx)
theorem InL.get {b : Int} {l : List Int} (h : InL b l) (hb : 0 < b) (i : Nat) : 0 ≤ l.getD i 0 ∧ l.getD i 0 < b := by
 rw [List.getD_eq_getElem?_getD]
 by_cases hi : i < l.length
 ·rw [List.getElem?_eq_getElem hi]; exact h _ (List.getElem_mem hi)
 ·rw [List.getElem?_eq_none (by omega)]; exact ⟨Int.le_refl _, hb⟩
theorem InL.set {b x : Int} {l : List Int} (h : InL b l) (h0 : 0 ≤ x) (h1 : x < b) (i : Nat) : InL b (l.set i x) := fun y hy => by
 rcases List.mem_or_eq_of_mem_set hy with hy | rfl
 ·exact h y hy
 ·exact ⟨h0, h1⟩
theorem valL_nonneg {b : Int} (hb : 0 ≤ b) : ∀ {l : List Int}, InL b l → 0 ≤ valL b l
 | [], _ => Int.le_refl _
 | x :: l, h => by
  have h1 := h.head
  have h2 := Int.mul_nonneg hb (valL_nonneg hb h.tail)
  show 0 ≤ x + b * valL b l
  omega
theorem valL_app (b : Int) (l m : List Int) : valL b (l ++ m) = valL b l + b ^ l.length * valL b m := by
 induction l with
 | nil => simp [valL]
 | cons x l ih =>
  show x + b * valL b (l ++ m) = x + b * valL b l + b ^ (l.length + 1) * valL b m
  rw [ih, Int.mul_add, Int.pow_succ, ← Int.mul_assoc, Int.mul_comm b (b ^ l.length)]
  omega
theorem valL_snoc (b : Int) (l : List Int) (x : Int) : valL b (l ++ [x]) = valL b l + b ^ l.length * x := by
 rw [valL_app]
 show _ + _ * (x + b * 0) = _
 rw [Int.mul_zero, Int.add_zero]
theorem valL_lt {b : Int} (hb : 0 < b) : ∀ {l : List Int}, InL b l → valL b l < b ^ l.length
 | [], _ => by simp [valL]
 | x :: l, h => by
  have h1 := h.head
  have h2 := valL_lt hb h.tail
  show x + b * valL b l < b ^ (l.length + 1)
  rw [Int.pow_succ, Int.mul_comm _ b]
  have h3 : b * (valL b l + 1) ≤ b * b ^ l.length := Int.mul_le_mul_of_nonneg_left (by omega) (by omega)
  rw [Int.mul_add, Int.mul_one] at h3
  omega
theorem take_snocI {l : List Int} {i : Nat} (h : i < l.length) : l.take (i + 1) = l.take i ++ [l.getD i 0] := by
 rw [List.take_add_one, List.getElem?_eq_getElem h, List.getD_eq_getElem?_getD, List.getElem?_eq_getElem h]; rfl
theorem valL_take (b : Int) {l : List Int} {i : Nat} (h : i < l.length) : valL b (l.take (i + 1)) = valL b (l.take i) + b ^ i * l.getD i 0 := by
 rw [take_snocI h, valL_snoc, List.length_take, Nat.min_eq_left (by omega)]
theorem valL_takeB (b : Int) (l : List Int) (i : Nat) : valL b (l.take (i + 1)) = valL b (l.take i) + b ^ i * l.getD i 0 := by
 by_cases h : i < l.length
 ·exact valL_take b h
 ·rw [List.take_of_length_le (by omega), List.take_of_length_le (by omega), List.getD_eq_getElem?_getD, List.getElem?_eq_none (by omega)]
  simp
theorem valL_set (b : Int) : ∀ {l : List Int} {i : Nat} (x : Int), i < l.length → valL b (l.set i x) = valL b l + b ^ i * (x - l.getD i 0)
 | [], i, x, h => by cases h
 | y :: l, 0, x, h => by
  show x + b * valL b l = y + b * valL b l + b ^ 0 * (x - y)
  rw [Int.pow_zero, Int.one_mul]; omega
 | y :: l, i + 1, x, h => by
  show y + b * valL b (l.set i x) = y + b * valL b l + b ^ (i + 1) * (x - l.getD i 0)
  rw [valL_set b x (by simpa using h), Int.mul_add, Int.pow_succ, Int.mul_comm _ b, Int.mul_assoc]
  omega
theorem valL_zeros (b : Int) : ∀ n : Nat, valL b (List.replicate n 0) = 0
 | 0 => rfl
 | n + 1 => by rw [List.replicate_succ]; show 0 + b * valL b _ = 0; rw [valL_zeros b n]; simp
theorem InL.zeros {b : Int} (hb : 0 < b) (n : Nat) : InL b (List.replicate n 0) := fun x hx => by rw [List.eq_of_mem_replicate hx]; exact ⟨Int.le_refl _, hb⟩
theorem limbs_val {b : Nat} (hb : 2 ≤ b) (n : Nat) : valL b (limbs b n) = (n : Int) := by
 induction n using Nat.strongRecOn with
 | _ n ih =>
  by_cases h : n = 0
  ·subst h; rw [limbs_zero]; rfl
  ·rw [limbs_pos hb h]
   show ((n % b : Nat) : Int) + (b : Int) * valL b (limbs b (n / b)) = n
   rw [ih (n / b) (Nat.div_lt_self (by omega) (by omega))]
   exact_mod_cast Nat.mod_add_div n b
theorem limbs_in {b : Nat} (hb : 2 ≤ b) (n : Nat) : InL b (limbs b n) := by
 induction n using Nat.strongRecOn with
 | _ n ih =>
  by_cases h : n = 0
  ·subst h; rw [limbs_zero]; exact .nil _
  ·rw [limbs_pos hb h]
   intro x hx
   rcases List.mem_cons.1 hx with rfl | hx
   ·have := Nat.mod_lt n (y := b) (by omega)
    exact ⟨by omega, by omega⟩
   ·exact ih (n / b) (Nat.div_lt_self (by omega) (by omega)) x hx
theorem trim_limbs {b : Nat} (hb : 2 ≤ b) (n : Nat) : trimL (limbs b n) = limbs b n := by
 induction n using Nat.strongRecOn with
 | _ n ih =>
  by_cases h : n = 0
  ·subst h; rw [limbs_zero]; rfl
  ·rw [limbs_pos hb h]
   unfold trimL
   rw [ih (n / b) (Nat.div_lt_self (by omega) (by omega)), if_neg]
   rintro ⟨h1, h2⟩
   have h3 := limbs_val hb (n / b)
   rw [h1] at h3
   have h3 : (0 : Int) = ((n / b : Nat) : Int) := h3
   have h4 := Nat.mod_add_div n b
   have h5 : n / b = 0 := by omega
   rw [h5, Nat.mul_zero] at h4
   omega
theorem trim_eq {b : Nat} (hb : 2 ≤ b) : ∀ {l : List Int}, InL b l → trimL l = limbs b (valL b l).toNat
 | [], _ => by
  show [] = limbs b 0
  rw [limbs_zero]
 | x :: l, h => by
  have ih := trim_eq hb h.tail
  have h0 := valL_nonneg (b := (b : Int)) (by omega) h.tail
  have hx := h.head
  obtain ⟨m, hm⟩ : ∃ m : Nat, valL b l = m := ⟨(valL b l).toNat, by omega⟩
  obtain ⟨y, rfl⟩ : ∃ y : Nat, x = y := ⟨x.toNat, by omega⟩
  have e : (valL b ((y : Int) :: l)).toNat = y + b * m := by
   show ((y : Int) + (b : Int) * valL b l).toNat = _
   rw [hm]
   have : (y : Int) + (b : Int) * (m : Int) = ((y + b * m : Nat) : Int) := by push_cast; rfl
   rw [this, Int.toNat_natCast]
  rw [hm, Int.toNat_natCast] at ih
  rw [e]
  have hy : y < b := by omega
  by_cases hz : y + b * m = 0
  ·rw [hz, limbs_zero]
   have hy0 : y = 0 := by omega
   have hm0 : b * m = 0 := by omega
   have hm1 : m = 0 := by
    rcases Nat.mul_eq_zero.1 hm0 with h | h
    ·omega
    ·exact h
   unfold trimL
   rw [if_pos ⟨by rw [ih, hm1, limbs_zero], by omega⟩]
  ·rw [limbs_pos hb hz, Nat.add_mul_mod_self_left, Nat.mod_eq_of_lt hy, Nat.add_mul_div_left _ _ (by omega), Nat.div_eq_of_lt hy, Nat.zero_add, ← ih]
   show (if trimL l = [] ∧ (y : Int) = 0 then [] else (y : Int) :: trimL l) = _
   rw [if_neg]
   rintro ⟨h1, h2⟩
   rw [ih] at h1
   have h3 := limbs_val hb m
   rw [h1] at h3
   have h3 : (0 : Int) = (m : Int) := h3
   have : m = 0 := by omega
   subst this
   simp at hz
   omega
theorem limbs_eq {b : Nat} (hb : 2 ≤ b) {l : List Int} (h : InL b l) (ht : trimL l = l) : l = limbs b (valL b l).toNat := by rw [← trim_eq hb h, ht]
theorem trim_take : ∀ {l : List Int} {z : Nat}, z ≤ l.length → (∀ i, z ≤ i → l.getD i 0 = 0) → (z = 0 ∨ l.getD (z - 1) 0 ≠ 0) → trimL l = l.take z
 | [], z, h, _, _ => by simp [trimL]
 | x :: l, 0, _, h1, _ => by
  have h2 : trimL l = l.take 0 := trim_take (Nat.zero_le _) (fun i _ => h1 (i + 1) (by omega)) (.inl rfl)
  unfold trimL
  rw [if_pos ⟨h2, h1 0 (Nat.le_refl _)⟩]; rfl
 | x :: l, z + 1, h0, h1, h2 => by
  have h2 : (x :: l).getD z 0 ≠ 0 := h2.elim (fun h => absurd h (Nat.succ_ne_zero z)) fun h => h
  have h0 : z ≤ l.length := by simpa using h0
  have h3 : trimL l = l.take z := by
   refine trim_take h0 (fun i hi => h1 (i + 1) (by omega)) ?_
   match z, h2 with
   | 0, _ => exact .inl rfl
   | z + 1, h2 => exact .inr h2
  unfold trimL
  rw [h3, if_neg]
  ·rfl
  ·rintro ⟨h4, h5⟩
   match z, h2, h4 with
   | 0, h2, _ => exact h2 h5
   | z + 1, h2, h4 =>
    have := congrArg List.length h4
    rw [List.length_take, Nat.min_eq_left h0] at this
    cases this
theorem trim_last {l : List Int} (h : trimL l = l) : l.length = 0 ∨ l.getD (l.length - 1) 0 ≠ 0 := by
 induction l with
 | nil => exact .inl rfl
 | cons x l ih =>
  refine .inr ?_
  unfold trimL at h
  split at h
  ·cases h
  ·rename_i hn
   have h2 : trimL l = l := List.cons.inj h |>.2
   rcases ih h2 with h3 | h3
   ·obtain rfl := List.length_eq_zero_iff.1 h3
    intro e
    exact hn ⟨rfl, e⟩
   ·match l, h3 with
    | [], h3 => exact absurd rfl h3
    | y :: l, h3 => exact h3
theorem limbs_last {b : Nat} (hb : 2 ≤ b) {n : Nat} (h : n ≠ 0) : 0 < (limbs b n).length ∧ (limbs b n).getD ((limbs b n).length - 1) 0 ≠ 0 := by
 have h1 : 0 < (limbs b n).length := by rw [limbs_pos hb h]; simp
 exact ⟨h1, (trim_last (trim_limbs hb n)).resolve_left (by omega)⟩
theorem limbs_lt {b : Nat} (hb : 2 ≤ b) (n : Nat) : (n : Int) < (b : Int) ^ (limbs b n).length := by
 have := valL_lt (b := (b : Int)) (by omega) (limbs_in hb n)
 rwa [limbs_val hb] at this
theorem limbs_ge {b : Nat} (hb : 2 ≤ b) {n : Nat} (h : n ≠ 0) : (b : Int) ^ ((limbs b n).length - 1) ≤ (n : Int) := by
 obtain ⟨h1, h2⟩ := limbs_last hb h
 have e := limbs_val hb n
 have h3 := take_snocI (l := limbs b n) (i := (limbs b n).length - 1) (by omega)
 rw [show (limbs b n).length - 1 + 1 = (limbs b n).length by omega, List.take_length] at h3
 have h4 := valL_snoc b ((limbs b n).take ((limbs b n).length - 1)) ((limbs b n).getD ((limbs b n).length - 1) 0)
 rw [← h3, e, List.length_take, Nat.min_eq_left (by omega)] at h4
 have h5 := valL_nonneg (b := (b : Int)) (by omega) ((limbs_in hb n).take ((limbs b n).length - 1))
 have h6 := (limbs_in hb n).get (by omega) ((limbs b n).length - 1)
 have h7 : (b : Int) ^ ((limbs b n).length - 1) * 1 ≤ (b : Int) ^ ((limbs b n).length - 1) * (limbs b n).getD ((limbs b n).length - 1) 0 :=
  Int.mul_le_mul_of_nonneg_left (by omega) (Int.pow_nonneg (by omega))
 rw [Int.mul_one] at h7
 omega
theorem limbs_len_lt {b : Nat} (hb : 2 ≤ b) {m n : Nat} (h : (limbs b m).length < (limbs b n).length) : m < n := by
 have h0 : n ≠ 0 := fun e => by rw [e, limbs_zero] at h; cases h
 have h1 := limbs_lt hb m
 have h2 := limbs_ge hb h0
 have h3 : b ^ (limbs b m).length ≤ b ^ ((limbs b n).length - 1) := Nat.pow_le_pow_right (by omega) (by omega)
 have h3 : (b : Int) ^ (limbs b m).length ≤ (b : Int) ^ ((limbs b n).length - 1) := by exact_mod_cast h3
 omega
end Go.Ar

namespace Go.Ar
open Go Go.Sx Go.Lib
set_option maxRecDepth 100000
def lenD (s : Str) : Nat := match s with | 45 :: r => r.length | r => r.length
def intE (s : Str) : Int := bif intB s then (bif Nat.blt 300 (lenD s) then 4 else 0) else 11
def bothE (a b : Str) : Int := bif intE a != 0 then intE a else intE b
def resE (n : Int) : Int := bif Nat.blt 300 (nDg n) then 4 else 0
def resS (n : Int) : Str := bif resE n == 0 then itoa n else []
def opE (f : Int → Int → Int) (a b : Str) : Int := bif bothE a b != 0 then bothE a b else resE (f (valI a) (valI b))
def opS (f : Int → Int → Int) (a b : Str) : Str := bif opE f a b == 0 then itoa (f (valI a) (valI b)) else []
def cmpI (a b : Int) : Int := bif ltB a b then -1 else bif a == b then 0 else 1
def cmpV (a b : Str) : Int := bif bothE a b != 0 then 0 else cmpI (valI a) (valI b)
def divE (a b : Str) : Int := bif bothE a b != 0 then bothE a b else bif b == [48] then 12 else 0
def divQ (a b : Str) : Str := bif divE a b == 0 then itoa (Int.fdiv (valI a) (valI b)) else []
def divR (a b : Str) : Str := bif divE a b == 0 then itoa (Int.fmod (valI a) (valI b)) else []
theorem intE_zero {s : Str} : intE s = 0 ↔ intB s = true ∧ lenD s ≤ 300 := by
 unfold intE
 cases h : intB s with
 | false => simp
 | true =>
  cases h2 : Nat.blt 300 (lenD s) with
  | true => have := (blt_iff _ _).1 h2; simp; omega
  | false =>
   have : ¬ 300 < lenD s := fun e => by rw [(blt_iff _ _).2 e] at h2; cases h2
   simp; omega
theorem bothE_zero {a b : Str} (h : bothE a b = 0) : intE a = 0 ∧ intE b = 0 := by
 unfold bothE at h
 by_cases h1 : intE a = 0
 ·rw [h1] at h; exact ⟨h1, h⟩
 ·rw [bne_iff_ne.2 h1] at h; exact absurd h h1
theorem lenD_eq {s : Str} (h : intB s = true) : lenD s = nDg (valI s) := by
 rcases intB_cases h with ⟨r, rfl, h1, h2, h3⟩ | ⟨h1, h2⟩
 ·rw [h3]
  unfold nDg
  rw [Int.natAbs_neg, Int.natAbs_natCast, ← digS_len h1]; rfl
 ·rw [h2]
  unfold nDg
  rw [Int.natAbs_natCast, ← digS_len h1]
  match s, h1 with
  | [], _ => rfl
  | c :: r, h1 =>
   by_cases hc : c = 45
   ·subst hc; exact (digS_not45 h1).elim
   ·unfold lenD; split
    ·rename_i e; cases e; exact absurd rfl hc
    ·rfl
theorem lenD_le (s : Str) : lenD s ≤ s.length ∧ s.length ≤ lenD s + 1 := by
 unfold lenD
 split
 ·simp
 ·exact ⟨Nat.le_refl _, by omega⟩
theorem valI_small {s : Str} (h : intB s = true) {k : Nat} (hl : s.length ≤ k) : -(10 ^ k : Int) < valI s ∧ valI s < 10 ^ k := by
 have key : ∀ r : Str, digS r = true → r.length ≤ k → (decV r : Int) < 10 ^ k := fun r hr hl => by
  have h1 := decV_lt (List.all_eq_true.2 (digS_iff.1 hr).2.1)
  have h2 : 10 ^ r.length ≤ 10 ^ k := Nat.pow_le_pow_right (by decide) hl
  have h3 : decV r < 10 ^ k := Nat.lt_of_lt_of_le h1 h2
  exact_mod_cast h3
 have hp : (0 : Int) < 10 ^ k := Int.pow_pos (by decide)
 rcases intB_cases h with ⟨r, rfl, h1, h2, h3⟩ | ⟨h1, h2⟩
 ·have := key r h1 (by simp only [List.length_cons] at hl; omega)
  rw [h3]; omega
 ·have := key s h1 hl
  rw [h2]; omega
theorem nDg_le {n : Int} {k : Nat} (hk : 0 < k) (h : n.natAbs < 10 ^ k) : nDg n ≤ k := (nDigits_le_iff hk).2 h
end Go.Ar

namespace Go.Ar
open Go Go.Sx Go.Lib
set_option maxRecDepth 100000
theorem powI_pos {b : Int} (hb : 0 < b) (n : Nat) : 0 < b ^ n := Int.pow_pos hb
theorem powI_succ (b : Int) (n : Nat) : b ^ (n + 1) = b ^ n * b := Int.pow_succ b n
theorem tdm {n b : Int} (h : 0 ≤ n) (hb : 0 < b) : n.tmod b + b * n.tdiv b = n ∧ 0 ≤ n.tmod b ∧ n.tmod b < b ∧ 0 ≤ n.tdiv b := by
 rw [Int.tmod_eq_emod_of_nonneg h, Int.tdiv_eq_ediv_of_nonneg h]
 exact ⟨Int.emod_add_mul_ediv n b, Int.emod_nonneg n (by omega), Int.emod_lt_of_pos n hb, Int.ediv_nonneg h (by omega)⟩
structure SumZ (b : Int) (x y : List Int) (z : Nat) (out : List Int) (c : Int) : Prop where
 len : out.length = z
 in_ : InL b out
 c0 : 0 ≤ c
 c1 : c ≤ 1
 val : valL b out + b ^ z * c = valL b (x.take z) + valL b (y.take z)
theorem SumZ.zero (b : Int) (x y : List Int) : SumZ b x y 0 [] 0 := ⟨rfl, .nil b, Int.le_refl _, by omega, by simp [valL]⟩
theorem SumZ.step {b : Int} (hb : 2 ≤ b) {x y : List Int} (hx : InL b x) (hy : InL b y) {z : Nat} {out : List Int} {c : Int} (h : SumZ b x y z out c) :
  SumZ b x y (z + 1) (out ++ [(x.getD z 0 + y.getD z 0 + c).tmod b]) ((x.getD z 0 + y.getD z 0 + c).tdiv b) := by
 have x1 := hx.get (by omega) z
 have y1 := hy.get (by omega) z
 have h0 := h.c0
 have h1 := h.c1
 obtain ⟨e, m0, m1, d0⟩ := tdm (n := x.getD z 0 + y.getD z 0 + c) (b := b) (by omega) (by omega)
 have hd : (x.getD z 0 + y.getD z 0 + c).tdiv b ≤ 1 := by
  refine Decidable.byContradiction fun hn => ?_
  have : b * 2 ≤ b * (x.getD z 0 + y.getD z 0 + c).tdiv b := Int.mul_le_mul_of_nonneg_left (by omega) (by omega)
  omega
 refine ⟨by simp [h.len], h.in_.snoc m0 m1, d0, hd, ?_⟩
 rw [valL_snoc, h.len, valL_takeB, valL_takeB]
 have hv := h.val
 generalize (x.getD z 0 + y.getD z 0 + c).tmod b = m at *
 generalize (x.getD z 0 + y.getD z 0 + c).tdiv b = d at *
 have e2 : b ^ z * m + b ^ (z + 1) * d = b ^ z * x.getD z 0 + b ^ z * y.getD z 0 + b ^ z * c := by
  rw [powI_succ, Int.mul_assoc, ← Int.mul_add, e, Int.mul_add, Int.mul_add]
 omega
theorem take_max {x : List Int} {n : Nat} (h : x.length ≤ n) : x.take n = x := List.take_of_length_le h
theorem SumZ.end_ {b : Nat} (hb : 2 ≤ b) {x y : List Int} (hx : InL b x) (hy : InL b y) {z : Nat} {out : List Int} {c : Int} (h : SumZ b x y z out c) (h1 : x.length < z) (h2 : y.length < z) :
  trimL out = limbs b (valL b x + valL b y).toNat := by
 have hv := h.val
 rw [take_max (by omega), take_max (by omega)] at hv
 have x1 := valL_lt (b := (b : Int)) (by omega) hx
 have y1 := valL_lt (b := (b : Int)) (by omega) hy
 have hp : ∀ n, n < z → (b : Int) ^ n * 2 ≤ (b : Int) ^ z := fun n hn => by
  have p1 : b ^ n * 2 ≤ b ^ n * b := Nat.mul_le_mul_left _ hb
  have p2 : b ^ (n + 1) ≤ b ^ z := Nat.pow_le_pow_right (by omega) (by omega)
  rw [Nat.pow_succ] at p2
  exact_mod_cast Nat.le_trans p1 p2
 have p1 := hp _ h1
 have p2 := hp _ h2
 have o0 := valL_nonneg (b := (b : Int)) (by omega) h.in_
 have hc : c = 0 := by
  refine Decidable.byContradiction fun hn => ?_
  have : c = 1 := by have := h.c0; have := h.c1; omega
  rw [this, Int.mul_one] at hv
  omega
 rw [hc, Int.mul_zero, Int.add_zero] at hv
 rw [trim_eq hb h.in_, hv]
structure DifZ (b : Int) (x y : List Int) (z : Nat) (out : List Int) (c : Int) : Prop where
 len : out.length = z
 in_ : InL b out
 c0 : 0 ≤ c
 c1 : c ≤ 1
 val : valL b out - b ^ z * c = valL b (x.take z) - valL b (y.take z)
theorem DifZ.zero (b : Int) (x y : List Int) : DifZ b x y 0 [] 0 := ⟨rfl, .nil b, Int.le_refl _, by omega, by simp [valL]⟩
theorem DifZ.step {b : Int} (hb : 2 ≤ b) {x y : List Int} (hx : InL b x) (hy : InL b y) {z : Nat} {out : List Int} {c : Int} (h : DifZ b x y z out c) :
  (0 ≤ x.getD z 0 - y.getD z 0 - c → DifZ b x y (z + 1) (out ++ [x.getD z 0 - y.getD z 0 - c]) 0) ∧
  (x.getD z 0 - y.getD z 0 - c < 0 → DifZ b x y (z + 1) (out ++ [x.getD z 0 - y.getD z 0 - c + b]) 1) := by
 have x1 := hx.get (by omega) z
 have y1 := hy.get (by omega) z
 have h0 := h.c0
 have h1 := h.c1
 have hv := h.val
 refine ⟨fun hn => ⟨by simp [h.len], h.in_.snoc hn (by omega), Int.le_refl _, by omega, ?_⟩, fun hn => ⟨by simp [h.len], h.in_.snoc (by omega) (by omega), by omega, Int.le_refl _, ?_⟩⟩
 ·rw [valL_snoc, h.len, valL_takeB, valL_takeB, Int.mul_sub, Int.mul_sub]
  omega
 ·rw [valL_snoc, h.len, valL_takeB, valL_takeB, Int.mul_add, Int.mul_sub, Int.mul_sub, powI_succ]
  omega
theorem DifZ.end_ {b : Nat} (hb : 2 ≤ b) {x y : List Int} {z : Nat} {out : List Int} {c : Int} (h : DifZ b x y z out c) (h1 : x.length ≤ z) (h2 : y.length ≤ z) (hle : valL b y ≤ valL b x) :
  trimL out = limbs b (valL b x - valL b y).toNat := by
 have hv := h.val
 rw [take_max (by omega), take_max (by omega)] at hv
 have o1 := valL_lt (b := (b : Int)) (by omega) h.in_
 rw [h.len] at o1
 have hc : c = 0 := by
  refine Decidable.byContradiction fun hn => ?_
  have : c = 1 := by have := h.c0; have := h.c1; omega
  rw [this, Int.mul_one] at hv
  omega
 rw [hc, Int.mul_zero, Int.sub_zero] at hv
 rw [trim_eq hb h.in_, hv]
def difL (x y : List Int) : Nat → Int
 | 0 => 0
 | n + 1 => bif x.getD n 0 != y.getD n 0 then x.getD n 0 - y.getD n 0 else difL x y n
def cmpL (x y : List Int) : Int := bif Nat.beq x.length y.length then difL x y x.length else (x.length : Int) - (y.length : Int)
theorem difL_sign {b : Int} (hb : 2 ≤ b) {x y : List Int} (hx : InL b x) (hy : InL b y) : ∀ n, (difL x y n < 0 ↔ valL b (x.take n) < valL b (y.take n)) ∧ (difL x y n = 0 ↔ valL b (x.take n) = valL b (y.take n))
 | 0 => by simp [difL]
 | n + 1 => by
  have ih := difL_sign hb hx hy n
  have x1 := hx.get (by omega) n
  have y1 := hy.get (by omega) n
  have v1 := valL_nonneg (b := b) (by omega) (hx.take n)
  have v2 := valL_nonneg (b := b) (by omega) (hy.take n)
  have w1 := valL_lt (b := b) (by omega) (hx.take n)
  have w2 := valL_lt (b := b) (by omega) (hy.take n)
  have l1 : b ^ (x.take n).length ≤ b ^ n := by
   obtain ⟨m, rfl⟩ : ∃ m : Nat, b = m := ⟨b.toNat, by omega⟩
   have : m ^ (x.take n).length ≤ m ^ n := Nat.pow_le_pow_right (by omega) (by simp; omega)
   exact_mod_cast this
  have l2 : b ^ (y.take n).length ≤ b ^ n := by
   obtain ⟨m, rfl⟩ : ∃ m : Nat, b = m := ⟨b.toNat, by omega⟩
   have : m ^ (y.take n).length ≤ m ^ n := Nat.pow_le_pow_right (by omega) (by simp; omega)
   exact_mod_cast this
  rw [valL_takeB, valL_takeB]
  unfold difL
  generalize x.getD n 0 = p at *
  generalize y.getD n 0 = q at *
  by_cases e : p = q
  ·subst e
   rw [bne_self_eq_false]
   simp only [cond_false]
   exact ⟨by rw [ih.1]; omega, by rw [ih.2]; omega⟩
  ·rw [bne_iff_ne.2 e]
   simp only [cond_true]
   rcases Int.lt_or_lt_of_ne e with h | h
   ·have : b ^ n * (p + 1) ≤ b ^ n * q := Int.mul_le_mul_of_nonneg_left (by omega) (Int.le_of_lt (powI_pos (by omega) n))
    rw [Int.mul_add, Int.mul_one] at this
    omega
   ·have : b ^ n * (q + 1) ≤ b ^ n * p := Int.mul_le_mul_of_nonneg_left (by omega) (Int.le_of_lt (powI_pos (by omega) n))
    rw [Int.mul_add, Int.mul_one] at this
    omega
theorem cmpL_sign {b : Nat} (hb : 2 ≤ b) (m n : Nat) : (cmpL (limbs b m) (limbs b n) < 0 ↔ m < n) ∧ (cmpL (limbs b m) (limbs b n) = 0 ↔ m = n) := by
 unfold cmpL
 by_cases h : (limbs b m).length = (limbs b n).length
 ·have h1 := difL_sign (b := (b : Int)) (by omega) (limbs_in hb m) (limbs_in hb n) (limbs b m).length
  rw [List.take_length, h, List.take_length, limbs_val hb, limbs_val hb] at h1
  rw [h, Nat.beq_refl]
  simp only [cond_true]
  omega
 ·rw [show Nat.beq (limbs b m).length (limbs b n).length = false from Bool.eq_false_iff.2 fun e => h (Nat.eq_of_beq_eq_true e)]
  simp only [cond_false]
  rcases Nat.lt_or_gt_of_ne h with h1 | h1
  ·have := limbs_len_lt hb h1; omega
  ·have := limbs_len_lt hb h1; omega
structure MulZ (b : Int) (x y : List Int) (z : Nat) (out : List Int) : Prop where
 len : out.length = x.length + y.length + 1
 in_ : InL b out
 zero : ∀ i, z + y.length ≤ i → out.getD i 0 = 0
 val : valL b out = valL b (x.take z) * valL b y
structure MulK (b : Int) (x y : List Int) (z k : Nat) (out : List Int) (c : Int) : Prop where
 len : out.length = x.length + y.length + 1
 in_ : InL b out
 zero : ∀ i, z + y.length ≤ i → z + k ≤ i → out.getD i 0 = 0
 c0 : 0 ≤ c
 c1 : c < b
 val : valL b out + b ^ (z + k) * c = valL b (x.take z) * valL b y + b ^ z * (x.getD z 0 * valL b (y.take k))
theorem valL_nil (b : Int) : valL b [] = 0 := rfl
theorem getD_rep (n i : Nat) : (List.replicate n (0 : Int)).getD i 0 = 0 := by
 rw [List.getD_eq_getElem?_getD, List.getElem?_replicate]; split <;> rfl
theorem MulZ.zero_ {b : Int} (hb : 0 < b) (x y : List Int) : MulZ b x y 0 (List.replicate (x.length + y.length + 1) 0) := by
 refine ⟨by simp, .zeros hb _, fun i _ => getD_rep _ _, ?_⟩
 rw [valL_zeros, List.take_zero, valL_nil, Int.zero_mul]
theorem MulZ.start {b : Int} {x y : List Int} {z : Nat} {out : List Int} (hb : 0 < b) (h : MulZ b x y z out) : MulK b x y z 0 out 0 :=
 ⟨h.len, h.in_, fun i hi _ => h.zero i hi, Int.le_refl _, hb, by rw [List.take_zero, valL_nil, h.val]; simp⟩
theorem getD_setI (l : List Int) (i j : Nat) (v : Int) (hj : j < l.length) : (l.set j v).getD i 0 = if i = j then v else l.getD i 0 := by
 rw [List.getD_eq_getElem?_getD, List.getD_eq_getElem?_getD, List.getElem?_set]
 by_cases e : j = i
 ·subst e; rw [if_pos rfl, if_pos hj, if_pos rfl]; rfl
 ·rw [if_neg e, if_neg fun h => e h.symm]
theorem MulK.step {b : Int} (hb : 2 ≤ b) {x y : List Int} (hx : InL b x) (hy : InL b y) {z k : Nat} (hz : z < x.length) (hk : k ≤ y.length) {out : List Int} {c : Int} (h : MulK b x y z k out c) :
  (0 ≤ out.getD (z + k) 0 + x.getD z 0 * y.getD k 0 + c ∧ out.getD (z + k) 0 + x.getD z 0 * y.getD k 0 + c < b * b) ∧
  MulK b x y z (k + 1) (out.set (z + k) ((out.getD (z + k) 0 + x.getD z 0 * y.getD k 0 + c).tmod b)) ((out.getD (z + k) 0 + x.getD z 0 * y.getD k 0 + c).tdiv b) := by
 have x1 := hx.get (by omega) z
 have y1 := hy.get (by omega) k
 have o1 := h.in_.get (by omega) (z + k)
 have h0 := h.c0
 have h1 := h.c1
 have p0 : 0 ≤ x.getD z 0 * y.getD k 0 := Int.mul_nonneg x1.1 y1.1
 have p1 : x.getD z 0 * y.getD k 0 ≤ (b - 1) * (b - 1) := Int.mul_le_mul (by omega) (by omega) y1.1 (by omega)
 have p2 : (b - 1) * (b - 1) = b * b - 2 * b + 1 := by rw [Int.sub_mul, Int.mul_sub]; omega
 have hn0 : 0 ≤ out.getD (z + k) 0 + x.getD z 0 * y.getD k 0 + c := by omega
 have hn1 : out.getD (z + k) 0 + x.getD z 0 * y.getD k 0 + c < b * b := by omega
 obtain ⟨e, m0, m1, d0⟩ := tdm (b := b) hn0 (by omega)
 have hd : (out.getD (z + k) 0 + x.getD z 0 * y.getD k 0 + c).tdiv b < b := by
  refine Decidable.byContradiction fun hn => ?_
  have : b * b ≤ b * (out.getD (z + k) 0 + x.getD z 0 * y.getD k 0 + c).tdiv b := Int.mul_le_mul_of_nonneg_left (by omega) (by omega)
  omega
 have hlen : z + k < out.length := by rw [h.len]; omega
 refine ⟨⟨hn0, hn1⟩, by rw [List.length_set]; exact h.len, h.in_.set m0 m1 _, fun i hi hi2 => ?_, d0, hd, ?_⟩
 ·rw [getD_setI _ _ _ _ hlen, if_neg (by omega)]
  exact h.zero i hi (by omega)
 ·rw [valL_set b _ hlen, valL_takeB]
  have hv := h.val
  generalize hn : out.getD (z + k) 0 + x.getD z 0 * y.getD k 0 + c = n at *
  have e2 : b ^ (z + k) * (n.tmod b - out.getD (z + k) 0) + b ^ (z + (k + 1)) * n.tdiv b = b ^ (z + k) * (x.getD z 0 * y.getD k 0) + b ^ (z + k) * c := by
   rw [show z + (k + 1) = z + k + 1 by omega, powI_succ, Int.mul_assoc, ← Int.mul_add, ← Int.mul_add]
   congr 1
   omega
  have e3 : b ^ z * (x.getD z 0 * (valL b (y.take k) + b ^ k * y.getD k 0)) = b ^ z * (x.getD z 0 * valL b (y.take k)) + b ^ (z + k) * (x.getD z 0 * y.getD k 0) := by
   rw [Int.mul_add, Int.mul_add, Int.pow_add]
   congr 1
   rw [← Int.mul_assoc (x.getD z 0), Int.mul_comm (x.getD z 0) (b ^ k), Int.mul_assoc, ← Int.mul_assoc]
  rw [e3]
  omega
theorem MulK.end_ {b : Int} (hb : 2 ≤ b) {x y : List Int} (hx : InL b x) (hy : InL b y) {z : Nat} (hz : z < x.length) {out : List Int} {c : Int} (h : MulK b x y z (y.length + 1) out c) (hc : c = 0) : MulZ b x y (z + 1) out := by
 subst hc
 refine ⟨h.len, h.in_, fun i hi => h.zero i (by omega) (by omega), ?_⟩
 have hv := h.val
 rw [Int.mul_zero, Int.add_zero, take_max (x := y) (by omega)] at hv
 rw [hv, valL_takeB b x, Int.add_mul, Int.mul_assoc]
theorem MulK.last {b : Int} (hb : 2 ≤ b) {x y : List Int} {z : Nat} {out : List Int} {c : Int} (h : MulK b x y z y.length out c) : (out.getD (z + y.length) 0 + x.getD z 0 * y.getD y.length 0 + c).tdiv b = 0 := by
 have e : y.getD y.length 0 = 0 := by rw [List.getD_eq_getElem?_getD, List.getElem?_eq_none (Nat.le_refl _)]; rfl
 rw [h.zero _ (Nat.le_refl _) (Nat.le_refl _), e]
 rw [Int.mul_zero, Int.add_zero, Int.zero_add]
 exact Int.tdiv_eq_zero_of_lt h.c0 h.c1
theorem MulZ.end_ {b : Nat} (hb : 2 ≤ b) {x y : List Int} {out : List Int} (h : MulZ b x y x.length out) : trimL out = limbs b (valL b x * valL b y).toNat := by
 have hv := h.val
 rw [List.take_length] at hv
 rw [trim_eq hb h.in_, hv]
end Go.Ar

namespace Go.Ar
open Go Go.Sx Go.Lib
set_option maxRecDepth 100000
theorem drop_cons {l : List Int} {z : Nat} (h : z < l.length) : l.drop z = l.getD z 0 :: l.drop (z + 1) := by
 rw [List.drop_eq_getElem_cons h, List.getD_eq_getElem?_getD, List.getElem?_eq_getElem h]; rfl
theorem valL_drop (b : Int) {l : List Int} {z : Nat} (h : z < l.length) : valL b (l.drop z) = l.getD z 0 + b * valL b (l.drop (z + 1)) := by rw [drop_cons h]; rfl
theorem valL_split (b : Int) (l : List Int) {z : Nat} (h : z ≤ l.length) : valL b l = valL b (l.take z) + b ^ z * valL b (l.drop z) := by
 conv => lhs; rw [← List.take_append_drop z l]
 rw [valL_app, List.length_take, Nat.min_eq_left h]
theorem set_drop (l : List Int) (z : Nat) (v : Int) (h : z < l.length) : (l.set z v).drop z = v :: l.drop (z + 1) := by
 rw [drop_cons (by simpa using h), getD_setI _ _ _ _ h, if_pos rfl, List.drop_set]
 rw [if_pos (by omega)]
structure ShZ (b d : Int) (a : List Int) (z : Nat) (q : List Int) (r : Int) : Prop where
 len : q.length = a.length
 le : z ≤ a.length
 in_ : InL b q
 r0 : 0 ≤ r
 r1 : r < d
 val : valL b (a.drop z) = d * valL b (q.drop z) + r
theorem ShZ.start {b d : Int} (hb : 0 < b) (hd : 0 < d) (a : List Int) : ShZ b d a a.length (List.replicate a.length 0) 0 :=
 ⟨by simp, Nat.le_refl _, .zeros hb _, Int.le_refl _, hd, by rw [List.drop_of_length_le (Nat.le_refl _), List.drop_of_length_le (by simp)]; simp [valL]⟩
theorem ShZ.step {b d : Int} (hb : 0 < b) {a : List Int} (ha : InL b a) {z : Nat} {q : List Int} {r : Int} (h : ShZ b d a (z + 1) q r) :
  (0 ≤ a.getD z 0 + r * b ∧ a.getD z 0 + r * b < d * b) ∧ ShZ b d a z (q.set z ((a.getD z 0 + r * b).tdiv d)) ((a.getD z 0 + r * b).tmod d) := by
 have a1 := ha.get hb z
 have h0 := h.r0
 have h1 := h.r1
 have hz := h.le
 have p0 : 0 ≤ r * b := Int.mul_nonneg h0 (by omega)
 have p1 : (r + 1) * b ≤ d * b := Int.mul_le_mul_of_nonneg_right (by omega) (by omega)
 rw [Int.add_mul, Int.one_mul] at p1
 have n0 : 0 ≤ a.getD z 0 + r * b := by omega
 have n1 : a.getD z 0 + r * b < d * b := by omega
 obtain ⟨e, m0, m1, d0⟩ := tdm n0 (b := d) (by omega)
 have hq : (a.getD z 0 + r * b).tdiv d < b := by
  refine Decidable.byContradiction fun hn => ?_
  have : d * b ≤ d * (a.getD z 0 + r * b).tdiv d := Int.mul_le_mul_of_nonneg_left (by omega) (by omega)
  omega
 refine ⟨⟨n0, n1⟩, by rw [List.length_set]; exact h.len, by omega, h.in_.set d0 hq _, m0, m1, ?_⟩
 rw [set_drop _ _ _ (by rw [h.len]; omega), valL_drop b (by omega), h.val]
 show _ = d * (_ + b * _) + _
 generalize hN : a.getD z 0 + r * b = N at *
 have e2 : b * (d * valL b (q.drop (z + 1)) + r) = d * (b * valL b (q.drop (z + 1))) + r * b := by
  rw [Int.mul_add, ← Int.mul_assoc, Int.mul_comm b d, Int.mul_assoc, Int.mul_comm b r]
 rw [e2, Int.mul_add]
 omega
theorem ShZ.end_ {b : Nat} (hb : 2 ≤ b) {d : Nat} (hd : 0 < d) (hdb : d ≤ b) {a : List Int} {q : List Int} {r : Int} (h : ShZ b d a 0 q r) (n : Nat) (hn : valL b a = n) :
  trimL q = limbs b (n / d) ∧ r = (n % d : Nat) ∧ trimL [r] = limbs b (n % d) := by
 have hv := h.val
 rw [List.drop_zero, List.drop_zero, hn] at hv
 have q0 := valL_nonneg (b := (b : Int)) (by omega) h.in_
 have h0 := h.r0
 have h1 := h.r1
 obtain ⟨Q, hQ⟩ : ∃ Q : Nat, valL b q = Q := ⟨(valL b q).toNat, by omega⟩
 obtain ⟨R, rfl⟩ : ∃ R : Nat, r = R := ⟨r.toNat, by omega⟩
 rw [hQ] at hv
 have hv : n = d * Q + R := by exact_mod_cast hv
 have hR : R < d := by omega
 have e1 : n / d = Q := by rw [hv, Nat.mul_add_div hd, Nat.div_eq_of_lt hR, Nat.add_zero]
 have e2 : n % d = R := by rw [hv, Nat.mul_add_mod, Nat.mod_eq_of_lt hR]
 refine ⟨?_, by rw [e2], ?_⟩
 ·rw [trim_eq hb h.in_, hQ, e1, Int.toNat_natCast]
 ·rw [trim_eq hb (.one (by omega) (by omega)), e2]
  show limbs b ((R : Int) + b * 0).toNat = _
  rw [Int.mul_zero, Int.add_zero, Int.toNat_natCast]
def Out (j n : Nat) (u w : List Int) : Prop := ∀ i, i < j ∨ n ≤ i → w.getD i 0 = u.getD i 0
structure TakI (b : Int) (u v : List Int) (j : Nat) (q : Int) (i : Nat) (w : List Int) (c : Int) : Prop where
 len : w.length = u.length
 in_ : InL b w
 out : Out j (j + i) u w
 c0 : 0 ≤ c
 c1 : c ≤ q + 1
 val : valL b w - b ^ (j + i) * c = valL b u - b ^ j * (q * valL b (v.take i))
theorem TakI.start {b : Int} {u v : List Int} {j : Nat} {q : Int} (hu : InL b u) (hq : 0 ≤ q) : TakI b u v j q 0 u 0 :=
 ⟨rfl, hu, fun _ _ => rfl, Int.le_refl _, by omega, by rw [List.take_zero, valL_nil]; simp⟩
def carryB (b n : Int) : Int := bif ltB n 0 then (-n + b - 1).tdiv b else 0
theorem carryB_ok {b n : Int} (hb : 2 ≤ b) : 0 ≤ carryB b n ∧ 0 ≤ n + carryB b n * b ∧ (n < b → n + carryB b n * b < b) ∧ ∀ q, -(q * b) ≤ n → 0 ≤ q → carryB b n ≤ q := by
 unfold carryB
 cases h : ltB n 0 with
 | true =>
  have h := (ltB_iff _ _).1 h
  simp only [cond_true]
  obtain ⟨e, m0, m1, d0⟩ := tdm (n := -n + b - 1) (b := b) (by omega) (by omega)
  rw [Int.mul_comm] at e
  refine ⟨d0, by omega, fun _ => by omega, fun q hq hq0 => ?_⟩
  refine Decidable.byContradiction fun hn => ?_
  have : (q + 1) * b ≤ (-n + b - 1).tdiv b * b := Int.mul_le_mul_of_nonneg_right (by omega) (by omega)
  rw [Int.add_mul, Int.one_mul] at this
  omega
 | false =>
  have h : ¬ n < 0 := fun e => by rw [(ltB_iff _ _).2 e] at h; cases h
  simp only [cond_false, Int.zero_mul, Int.add_zero]
  exact ⟨Int.le_refl _, by omega, fun h => h, fun q _ hq => hq⟩
theorem TakI.step {b : Int} (hb : 2 ≤ b) {u v : List Int} (hv : InL b v) {j : Nat} {q : Int} (hq : 0 ≤ q) {i : Nat} (hj : j + i < u.length) {w : List Int} {c : Int} (h : TakI b u v j q i w c) :
  (-((q + 1) * b) ≤ w.getD (j + i) 0 - c - q * v.getD i 0 ∧ w.getD (j + i) 0 - c - q * v.getD i 0 < b) ∧
  TakI b u v j q (i + 1) (w.set (j + i) (w.getD (j + i) 0 - c - q * v.getD i 0 + carryB b (w.getD (j + i) 0 - c - q * v.getD i 0) * b)) (carryB b (w.getD (j + i) 0 - c - q * v.getD i 0)) := by
 have v1 := hv.get (by omega) i
 have w1 := h.in_.get (by omega) (j + i)
 have h0 := h.c0
 have h1 := h.c1
 have p0 : 0 ≤ q * v.getD i 0 := Int.mul_nonneg hq v1.1
 have p1 : q * v.getD i 0 ≤ q * (b - 1) := Int.mul_le_mul_of_nonneg_left (by omega) hq
 rw [Int.mul_sub, Int.mul_one] at p1
 have n1 : -((q + 1) * b) ≤ w.getD (j + i) 0 - c - q * v.getD i 0 := by rw [Int.add_mul, Int.one_mul]; omega
 have n2 : w.getD (j + i) 0 - c - q * v.getD i 0 < b := by omega
 have hl : j + i < w.length := by rw [h.len]; exact hj
 have hval := h.val
 refine ⟨⟨n1, n2⟩, ?_⟩
 obtain ⟨k0, k1, k2, k3⟩ := carryB_ok (b := b) (n := w.getD (j + i) 0 - c - q * v.getD i 0) hb
 refine ⟨by rw [List.length_set]; exact h.len, h.in_.set k1 (k2 n2) _, fun x hx => ?_, k0, k3 _ n1 (by omega), ?_⟩
 ·rw [getD_setI _ _ _ _ hl, if_neg (by omega)]
  exact h.out x (by omega)
 ·rw [valL_set b _ hl, valL_takeB]
  generalize hC : carryB b (w.getD (j + i) 0 - c - q * v.getD i 0) = C
  have e1 : b ^ (j + i) * (w.getD (j + i) 0 - c - q * v.getD i 0 + C * b - w.getD (j + i) 0) - b ^ (j + (i + 1)) * C = -(b ^ (j + i) * c) - b ^ (j + i) * (q * v.getD i 0) := by
   rw [show j + (i + 1) = j + i + 1 by omega, powI_succ, Int.mul_assoc, ← Int.mul_sub, ← Int.mul_neg, ← Int.mul_sub]
   congr 1
   rw [Int.mul_comm b C]
   omega
  have e2 : b ^ j * (q * (valL b (v.take i) + b ^ i * v.getD i 0)) = b ^ j * (q * valL b (v.take i)) + b ^ (j + i) * (q * v.getD i 0) := by
   rw [Int.mul_add, Int.mul_add, Int.pow_add]
   congr 1
   rw [← Int.mul_assoc q, Int.mul_comm q (b ^ i), Int.mul_assoc, ← Int.mul_assoc]
  rw [e2]
  omega
structure RstI (b : Int) (u v : List Int) (j : Nat) (q : Int) (i : Nat) (w : List Int) (c : Int) : Prop where
 len : w.length = u.length
 in_ : InL b w
 out : Out j (j + i) u w
 c0 : 0 ≤ c
 c1 : c ≤ q
 val : valL b w + b ^ (j + i) * c = valL b u + b ^ j * (q * valL b (v.take i))
theorem RstI.start {b : Int} {u v : List Int} {j : Nat} {q : Int} (hu : InL b u) (hq : 0 ≤ q) : RstI b u v j q 0 u 0 :=
 ⟨rfl, hu, fun _ _ => rfl, Int.le_refl _, hq, by rw [List.take_zero, valL_nil]; simp⟩
theorem RstI.step {b : Int} (hb : 2 ≤ b) {u v : List Int} (hv : InL b v) {j : Nat} {q : Int} (hq : 0 ≤ q) {i : Nat} (hj : j + i < u.length) {w : List Int} {c : Int} (h : RstI b u v j q i w c) :
  (0 ≤ w.getD (j + i) 0 + q * v.getD i 0 + c ∧ w.getD (j + i) 0 + q * v.getD i 0 + c < (q + 1) * b) ∧
  RstI b u v j q (i + 1) (w.set (j + i) ((w.getD (j + i) 0 + q * v.getD i 0 + c).tmod b)) ((w.getD (j + i) 0 + q * v.getD i 0 + c).tdiv b) := by
 have v1 := hv.get (by omega) i
 have w1 := h.in_.get (by omega) (j + i)
 have h0 := h.c0
 have h1 := h.c1
 have p0 : 0 ≤ q * v.getD i 0 := Int.mul_nonneg hq v1.1
 have p1 : q * v.getD i 0 ≤ q * (b - 1) := Int.mul_le_mul_of_nonneg_left (by omega) hq
 rw [Int.mul_sub, Int.mul_one] at p1
 have n1 : 0 ≤ w.getD (j + i) 0 + q * v.getD i 0 + c := by omega
 have n2 : w.getD (j + i) 0 + q * v.getD i 0 + c < (q + 1) * b := by rw [Int.add_mul, Int.one_mul]; omega
 have hl : j + i < w.length := by rw [h.len]; exact hj
 have hval := h.val
 refine ⟨⟨n1, n2⟩, ?_⟩
 obtain ⟨e, m0, m1, d0⟩ := tdm n1 (b := b) (by omega)
 have hd : (w.getD (j + i) 0 + q * v.getD i 0 + c).tdiv b ≤ q := by
  refine Decidable.byContradiction fun hn => ?_
  have : b * (q + 1) ≤ b * (w.getD (j + i) 0 + q * v.getD i 0 + c).tdiv b := Int.mul_le_mul_of_nonneg_left (by omega) (by omega)
  rw [Int.mul_comm b (q + 1)] at this
  omega
 refine ⟨by rw [List.length_set]; exact h.len, h.in_.set m0 m1 _, fun x hx => ?_, d0, hd, ?_⟩
 ·rw [getD_setI _ _ _ _ hl, if_neg (by omega)]
  exact h.out x (by omega)
 ·rw [valL_set b _ hl, valL_takeB]
  generalize hN : w.getD (j + i) 0 + q * v.getD i 0 + c = N at *
  have e1 : b ^ (j + i) * (N.tmod b - w.getD (j + i) 0) + b ^ (j + (i + 1)) * N.tdiv b = b ^ (j + i) * c + b ^ (j + i) * (q * v.getD i 0) := by
   rw [show j + (i + 1) = j + i + 1 by omega, powI_succ, Int.mul_assoc, ← Int.mul_add, ← Int.mul_add]
   congr 1
   omega
  have e2 : b ^ j * (q * (valL b (v.take i) + b ^ i * v.getD i 0)) = b ^ j * (q * valL b (v.take i)) + b ^ (j + i) * (q * v.getD i 0) := by
   rw [Int.mul_add, Int.mul_add, Int.pow_add]
   congr 1
   rw [← Int.mul_assoc q, Int.mul_comm q (b ^ i), Int.mul_assoc, ← Int.mul_assoc]
  rw [e2]
  omega
theorem InL.ext {b : Int} (hb : 0 < b) : ∀ {l m : List Int}, InL b l → InL b m → l.length = m.length → valL b l = valL b m → l = m
 | [], [], _, _, _, _ => rfl
 | [], _ :: _, _, _, h, _ => by cases h
 | _ :: _, [], _, _, h, _ => by cases h
 | x :: l, y :: m, hl, hm, h, hv => by
  have hx := hl.head
  have hy := hm.head
  have hv : x + b * valL b l = y + b * valL b m := hv
  have e1 : x = (x + b * valL b l) % b := by rw [Int.add_mul_emod_self_left, Int.emod_eq_of_lt hx.1 hx.2]
  have e2 : y = (y + b * valL b m) % b := by rw [Int.add_mul_emod_self_left, Int.emod_eq_of_lt hy.1 hy.2]
  have e3 : x = y := by rw [e1, e2, hv]
  subst e3
  have e4 : b * valL b l = b * valL b m := by omega
  rw [InL.ext hb hl.tail hm.tail (by simpa using h) (Int.eq_of_mul_eq_mul_left (by omega) e4)]
theorem valL_win {b : Int} {u : List Int} {j n : Nat} (h : ∀ i, n ≤ i → u.getD i 0 = 0) (hj : j ≤ n) : valL b (u.drop j) = valL b ((u.take n).drop j) := by
 have e : ∀ {l : List Int}, (∀ i, l.getD i 0 = 0) → valL b l = 0 := by
  intro l
  induction l with
  | nil => intro _; rfl
  | cons x l ih =>
   intro hl
   have h0 : x = 0 := hl 0
   show x + b * valL b l = 0
   rw [h0, ih fun i => hl (i + 1)]; simp
 by_cases hn : n ≤ u.length
 ·have e1 : u.drop j = (u.take n).drop j ++ u.drop n := by
   conv => lhs; rw [← List.take_append_drop n u]
   rw [List.drop_append, List.length_take, Nat.min_eq_left hn, show j - n = 0 by omega, List.drop_zero]
  rw [e1, valL_app, e (l := u.drop n), Int.mul_zero, Int.add_zero]
  intro i
  rw [List.getD_eq_getElem?_getD, List.getElem?_drop, ← List.getD_eq_getElem?_getD]
  exact h _ (by omega)
 ·rw [List.take_of_length_le (by omega)]
end Go.Ar

namespace Go.Ar
open Go Go.Sx Go.Lib
set_option maxRecDepth 100000
theorem getD_drop' (l : List Int) (j i : Nat) : (l.drop j).getD i 0 = l.getD (j + i) 0 := by
 rw [List.getD_eq_getElem?_getD, List.getElem?_drop, ← List.getD_eq_getElem?_getD]
theorem valL_all {b : Int} {l : List Int} {n : Nat} (h : ∀ i, n ≤ i → l.getD i 0 = 0) : valL b l = valL b (l.take n) := by
 have := valL_win (b := b) (j := 0) h (Nat.zero_le _)
 rwa [List.drop_zero, List.drop_zero] at this
theorem take_lt {b : Int} (hb : 0 < b) {l : List Int} (h : InL b l) (n : Nat) : 0 ≤ valL b (l.take n) ∧ valL b (l.take n) < b ^ n := by
 refine ⟨valL_nonneg (Int.le_of_lt hb) (h.take n), ?_⟩
 have h1 := valL_lt hb (h.take n)
 have h2 : b ^ (l.take n).length ≤ b ^ n := by
  obtain ⟨m, rfl⟩ : ∃ m : Nat, b = m := ⟨b.toNat, by omega⟩
  have : m ^ (l.take n).length ≤ m ^ n := Nat.pow_le_pow_right (by omega) (by simp; omega)
  exact_mod_cast this
 omega
theorem limb_zero {b : Int} (hb : 0 < b) {l : List Int} (h : InL b l) {n : Nat} (hv : valL b l < b ^ n) {i : Nat} (hi : n ≤ i) : l.getD i 0 = 0 := by
 by_cases hl : i < l.length
 ·have e := valL_split b l (z := i) (by omega)
  rw [valL_drop b hl] at e
  have h1 := (h.get hb i).1
  have h2 := (take_lt hb h i).1
  have h3 := valL_nonneg (Int.le_of_lt hb) (h.drop (i + 1))
  refine Decidable.byContradiction fun hn => ?_
  have h4 : b ^ i * 1 ≤ b ^ i * (l.getD i 0 + b * valL b (l.drop (i + 1))) := by
   refine Int.mul_le_mul_of_nonneg_left ?_ (Int.le_of_lt (powI_pos hb i))
   have := Int.mul_nonneg (Int.le_of_lt hb) h3
   omega
  have h5 : b ^ n ≤ b ^ i := by
   obtain ⟨m, rfl⟩ : ∃ m : Nat, b = m := ⟨b.toNat, by omega⟩
   have : m ^ n ≤ m ^ i := Nat.pow_le_pow_right (by omega) hi
   exact_mod_cast this
  omega
 ·rw [List.getD_eq_getElem?_getD, List.getElem?_eq_none (by omega)]; rfl
theorem top3 {b : Int} (hb : 0 < b) {l : List Int} (h : InL b l) {k : Nat} (hz : ∀ i, k + 3 ≤ i → l.getD i 0 = 0) :
  ∃ low, 0 ≤ low ∧ low < b ^ k ∧ valL b l = low + b ^ k * (l.getD k 0 + b * l.getD (k + 1) 0 + b * b * l.getD (k + 2) 0) := by
 refine ⟨_, (take_lt hb h k).1, (take_lt hb h k).2, ?_⟩
 rw [valL_all hz, show k + 3 = k + 2 + 1 from rfl, valL_takeB, show k + 2 = k + 1 + 1 from rfl, valL_takeB, valL_takeB, powI_succ b (k + 1), powI_succ b k, Int.mul_add, Int.mul_add]
 simp only [Int.mul_assoc]
 omega
structure EstI (b top v1 W V q r : Int) : Prop where
 eq : q * v1 + r = top
 r0 : 0 ≤ r
 q0 : 0 ≤ q
 lt : W < (q + 1) * V
 le : q < 2 * b
structure EstC (b : Int) (k : Nat) (u0 u1 u2 v1 v2 W V : Int) : Prop where
 hb : 2 ≤ b
 hu0 : 0 ≤ u0 ∧ u0 ≤ v1
 hu1 : 0 ≤ u1 ∧ u1 < b
 hu2 : 0 ≤ u2 ∧ u2 < b
 hv1 : 0 < v1 ∧ v1 < b
 hv2 : 0 ≤ v2 ∧ v2 < b
 w : W < b ^ k * (u2 + 1 + b * (u0 * b + u1))
 v : b ^ k * (v2 + b * v1) ≤ V
theorem EstC.start {b : Int} {k : Nat} {u0 u1 u2 v1 v2 W V : Int} (h : EstC b k u0 u1 u2 v1 v2 W V) : EstI b (u0 * b + u1) v1 W V ((u0 * b + u1).tdiv v1) ((u0 * b + u1).tmod v1) := by
 have hb := h.hb
 have a0 := h.hu0
 have a1 := h.hu1
 have a2 := h.hu2
 have b1 := h.hv1
 have b2 := h.hv2
 have p0 : 0 ≤ u0 * b := Int.mul_nonneg a0.1 (by omega)
 obtain ⟨e, m0, m1, d0⟩ := tdm (n := u0 * b + u1) (b := v1) (by omega) b1.1
 have hp := powI_pos (b := b) (by omega) k
 refine ⟨by rw [Int.mul_comm]; omega, m0, d0, ?_, ?_⟩
 ·generalize hq : (u0 * b + u1).tdiv v1 = q at *
  have t1 : u0 * b + u1 + 1 ≤ (q + 1) * v1 := by rw [Int.add_mul, Int.one_mul, Int.mul_comm q]; omega
  have t2 : b * (u0 * b + u1 + 1) ≤ b * ((q + 1) * v1) := Int.mul_le_mul_of_nonneg_left t1 (by omega)
  have t3 : b ^ k * (u2 + 1 + b * (u0 * b + u1)) ≤ b ^ k * (b * ((q + 1) * v1)) := Int.mul_le_mul_of_nonneg_left (by rw [Int.mul_add, Int.mul_one] at t2; omega) (Int.le_of_lt hp)
  have t4 : (q + 1) * (b ^ k * (v2 + b * v1)) ≤ (q + 1) * V := Int.mul_le_mul_of_nonneg_left h.v (by omega)
  have t5 : b ^ k * (b * ((q + 1) * v1)) ≤ (q + 1) * (b ^ k * (v2 + b * v1)) := by
   rw [← Int.mul_assoc (q + 1), Int.mul_comm (q + 1) (b ^ k), Int.mul_assoc]
   refine Int.mul_le_mul_of_nonneg_left ?_ (Int.le_of_lt hp)
   rw [Int.mul_add]
   have := Int.mul_nonneg (show 0 ≤ q + 1 by omega) b2.1
   have e6 : b * ((q + 1) * v1) = (q + 1) * (b * v1) := by rw [← Int.mul_assoc, Int.mul_comm b, Int.mul_assoc]
   omega
  have := h.w
  omega
 ·refine Decidable.byContradiction fun hn => ?_
  have t1 : v1 * (2 * b) ≤ v1 * (u0 * b + u1).tdiv v1 := Int.mul_le_mul_of_nonneg_left (by omega) (by omega)
  have t2 : u0 * b ≤ v1 * b := Int.mul_le_mul_of_nonneg_right a0.2 (by omega)
  have t3 : v1 * (2 * b) = v1 * b + v1 * b := by rw [Int.two_mul, Int.mul_add]
  have t4 : 1 * b ≤ v1 * b := Int.mul_le_mul_of_nonneg_right (by omega) (by omega)
  omega
theorem EstC.step {b : Int} {k : Nat} {u0 u1 u2 v1 v2 W V q r : Int} (h : EstC b k u0 u1 u2 v1 v2 W V) (hi : EstI b (u0 * b + u1) v1 W V q r) (hW : W < b * V) (hV : 0 < V)
  (hc : b ≤ q ∨ r * b + u2 < q * v2) : 0 < q ∧ EstI b (u0 * b + u1) v1 W V (q - 1) (r + v1) := by
 have hb := h.hb
 have a2 := h.hu2
 have b1 := h.hv1
 have b2 := h.hv2
 have q0 := hi.q0
 have r0 := hi.r0
 have hp := powI_pos (b := b) (by omega) k
 have hq : 0 < q := by
  rcases hc with hc | hc
  ·omega
  ·refine Decidable.byContradiction fun hn => ?_
   have : q = 0 := by omega
   subst this
   have := Int.mul_nonneg r0 (show 0 ≤ b by omega)
   omega
 refine ⟨hq, by rw [Int.sub_mul, Int.one_mul]; have := hi.eq; omega, by omega, by omega, ?_, by have := hi.le; omega⟩
 rw [Int.sub_add_cancel]
 rcases hc with hc | hc
 ·have : b * V ≤ q * V := Int.mul_le_mul_of_nonneg_right hc (by omega)
  omega
 ·have t1 : q * (b ^ k * (v2 + b * v1)) ≤ q * V := Int.mul_le_mul_of_nonneg_left h.v q0
  have t2 : b ^ k * (u2 + 1 + b * (u0 * b + u1)) ≤ q * (b ^ k * (v2 + b * v1)) := by
   rw [← Int.mul_assoc q, Int.mul_comm q (b ^ k), Int.mul_assoc]
   refine Int.mul_le_mul_of_nonneg_left ?_ (Int.le_of_lt hp)
   rw [← hi.eq, Int.mul_add, Int.mul_add, ← Int.mul_assoc q b, Int.mul_comm q b, Int.mul_assoc b q, Int.mul_comm b r]
   omega
  have := h.w
  omega
structure DivJ (b A V : Int) (n m j : Nat) (q u : List Int) : Prop where
 ql : q.length = m
 ul : u.length = m + n
 qi : InL b q
 ui : InL b u
 hi : ∀ i, j + n ≤ i → u.getD i 0 = 0
 top : valL b (u.drop j) < V
 val : A = V * (b ^ j * valL b (q.drop j)) + valL b u
theorem DivJ.start {b A V : Int} (hb : 0 < b) {n m : Nat} {u : List Int} (hl : u.length = m + n) (hu : InL b u) (hV : valL b (u.drop m) < V) (hA : A = valL b u) : DivJ b A V n m m (List.replicate m 0) u :=
 ⟨by simp, hl, .zeros hb m, hu, fun i hi => by rw [List.getD_eq_getElem?_getD, List.getElem?_eq_none (by omega)]; rfl, hV, by
  rw [List.drop_of_length_le (by simp), valL_nil, Int.mul_zero, Int.mul_zero, Int.zero_add]; exact hA⟩
theorem DivJ.win {b A V : Int} (hb : 0 < b) {n m j : Nat} {q u : List Int} (hn : 0 < n) (hj : j < m) (h : DivJ b A V n m (j + 1) q u) : 0 ≤ valL b (u.drop j) ∧ valL b (u.drop j) < b * V := by
 have h1 := h.ui.get hb j
 have h2 := h.top
 rw [valL_drop b (by rw [h.ul]; omega)]
 have h3 : b * (valL b (u.drop (j + 1)) + 1) ≤ b * V := Int.mul_le_mul_of_nonneg_left (by omega) (by omega)
 rw [Int.mul_add, Int.mul_one] at h3
 have h4 := Int.mul_nonneg (Int.le_of_lt hb) (valL_nonneg (Int.le_of_lt hb) (h.ui.drop (j + 1)))
 omega
theorem out_take {u w : List Int} {j n : Nat} (hl : w.length = u.length) (h : Out j n u w) : w.take j = u.take j := by
 refine List.ext_getElem (by simp [hl]) fun i h1 h2 => ?_
 have hi : i < j := by simp at h1; omega
 have hiw : i < w.length := by simp at h1; omega
 have e := h i (.inl hi)
 rw [List.getD_eq_getElem?_getD, List.getElem?_eq_getElem hiw, List.getD_eq_getElem?_getD, List.getElem?_eq_getElem (by omega)] at e
 rw [List.getElem_take, List.getElem_take]
 exact e
theorem valL_low {b : Int} {u w : List Int} {j n : Nat} (hl : w.length = u.length) (hj : j ≤ u.length) (h : Out j n u w) : valL b w - valL b u = b ^ j * (valL b (w.drop j) - valL b (u.drop j)) := by
 rw [valL_split b w (z := j) (by omega), valL_split b u (z := j) hj, out_take hl h, Int.mul_sub]
 omega
theorem TakI.end_ {b : Int} (hb : 2 ≤ b) {u v : List Int} {j : Nat} {q : Int} {w : List Int} {c : Int} (hj : j ≤ u.length) (hz : ∀ i, j + 1 + v.length ≤ i → u.getD i 0 = 0) (h : TakI b u v j q (v.length + 1) w c) :
  valL b (w.drop j) - b ^ (v.length + 1) * c = valL b (u.drop j) - q * valL b v ∧ 0 ≤ valL b (w.drop j) ∧ valL b (w.drop j) < b ^ (v.length + 1) := by
 have hv := h.val
 rw [take_max (by omega)] at hv
 have hl := valL_low (b := b) h.len hj h.out
 refine ⟨?_, valL_nonneg (by omega) (h.in_.drop j), ?_⟩
 ·have e : b ^ j * (valL b (w.drop j) - b ^ (v.length + 1) * c) = b ^ j * (valL b (u.drop j) - q * valL b v) := by
   rw [Int.mul_sub, Int.mul_sub, ← Int.mul_assoc, ← Int.pow_add]
   rw [Int.mul_sub] at hl
   omega
  exact Int.eq_of_mul_eq_mul_left (by have := powI_pos (b := b) (by omega) j; omega) e
 ·have hz2 : ∀ i, v.length + 1 ≤ i → (w.drop j).getD i 0 = 0 := fun i hi => by
   rw [getD_drop', h.out _ (.inr (by omega)), hz _ (by omega)]
  rw [valL_all hz2]
  exact (take_lt (by omega) (h.in_.drop j) _).2
theorem TakI.fits {b : Int} (hb : 2 ≤ b) {u v : List Int} {j : Nat} {q : Int} {w : List Int} {c : Int} (hj : j ≤ u.length) (hz : ∀ i, j + 1 + v.length ≤ i → u.getD i 0 = 0) (h : TakI b u v j q (v.length + 1) w c) :
  (c ≤ 0 → valL b (w.drop j) = valL b (u.drop j) - q * valL b v) ∧ (0 < c → valL b (u.drop j) < q * valL b v) := by
 obtain ⟨e, e0, e1⟩ := h.end_ hb hj hz
 have hp := powI_pos (b := b) (by omega) (v.length + 1)
 constructor
 ·intro hc
  have : c = 0 := by have := h.c0; omega
  subst this
  omega
 ·intro hc
  have : b ^ (v.length + 1) * 1 ≤ b ^ (v.length + 1) * c := Int.mul_le_mul_of_nonneg_left (by omega) (by omega)
  omega
theorem RstI.end_ {b : Int} (hb : 2 ≤ b) {u v : List Int} {j : Nat} {q : Int} {w : List Int} {c : Int} (hu : InL b u) (hj : j ≤ u.length) (hz : ∀ i, j + 1 + v.length ≤ i → u.getD i 0 = 0) (h : TakI b u v j q (v.length + 1) w c)
  {w2 : List Int} {c2 : Int} (h2 : RstI b w v j q (v.length + 1) w2 c2) : w2 = u := by
 obtain ⟨e, e0, e1⟩ := h.end_ hb hj hz
 have hp := powI_pos (b := b) (by omega) (v.length + 1)
 have hv := h2.val
 rw [take_max (by omega)] at hv
 have hl := valL_low (b := b) h2.len (by rw [h.len]; exact hj) h2.out
 have o2 : ∀ i, v.length + 1 ≤ i → (w2.drop j).getD i 0 = 0 := fun i hi => by
  rw [getD_drop', h2.out _ (.inr (by omega)), h.out _ (.inr (by omega)), hz _ (by omega)]
 have ou : ∀ i, v.length + 1 ≤ i → (u.drop j).getD i 0 = 0 := fun i hi => by rw [getD_drop', hz _ (by omega)]
 have b2 := (take_lt (by omega) (h2.in_.drop j) (v.length + 1))
 rw [← valL_all o2] at b2
 have bu := (take_lt (by omega) (hu.drop j) (v.length + 1))
 rw [← valL_all ou] at bu
 have e2 : valL b (w2.drop j) + b ^ (v.length + 1) * c2 = valL b (w.drop j) + q * valL b v := by
  have e3 : b ^ j * (valL b (w2.drop j) + b ^ (v.length + 1) * c2) = b ^ j * (valL b (w.drop j) + q * valL b v) := by
   rw [Int.mul_add, Int.mul_add, ← Int.mul_assoc (b ^ j), ← Int.pow_add]
   rw [Int.mul_sub] at hl
   omega
  exact Int.eq_of_mul_eq_mul_left (by have := powI_pos (b := b) (by omega) j; omega) e3
 have e4 : valL b (w2.drop j) - valL b (u.drop j) = b ^ (v.length + 1) * (c - c2) := by rw [Int.mul_sub]; omega
 have e5 : c = c2 := by
  rcases Int.lt_trichotomy c c2 with hlt | heq | hgt
  ·have : b ^ (v.length + 1) * (c - c2) ≤ b ^ (v.length + 1) * (-1) := Int.mul_le_mul_of_nonneg_left (by omega) (by omega)
   omega
  ·exact heq
  ·have : b ^ (v.length + 1) * 1 ≤ b ^ (v.length + 1) * (c - c2) := Int.mul_le_mul_of_nonneg_left (by omega) (by omega)
   omega
 have e6 : valL b (w2.drop j) = valL b (u.drop j) := by rw [e5, Int.sub_self, Int.mul_zero] at e4; omega
 refine InL.ext (by omega) h2.in_ hu (h2.len.trans h.len) ?_
 rw [valL_split b w2 (z := j) (by rw [h2.len, h.len]; exact hj), valL_split b u (z := j) hj, out_take h2.len h2.out, out_take h.len h.out, e6]
theorem DivJ.step {b A V : Int} (hb : 2 ≤ b) {v : List Int} (hv : InL b v) (hV : valL b v = V) {m j : Nat} {q u : List Int} (hj : j < m) (h : DivJ b A V v.length m (j + 1) q u) {Q : Int} (hQ : 0 ≤ Q) (hlt : valL b (u.drop j) < (Q + 1) * V)
  {w : List Int} {c : Int} (ht : TakI b u v j Q (v.length + 1) w c) (hc : c ≤ 0) : DivJ b A V v.length m j (q.set j Q) w := by
 have hul := h.ul
 obtain ⟨t1, _⟩ := ht.fits hb (by omega) (fun i hi => h.hi i (by omega))
 have t1 := t1 hc
 rw [hV] at t1
 have w0 := valL_nonneg (b := b) (by omega) (ht.in_.drop j)
 have hw : valL b (w.drop j) < V := by rw [t1]; rw [Int.add_mul, Int.one_mul] at hlt; omega
 have hVb : V < b ^ v.length := by rw [← hV]; exact valL_lt (by omega) hv
 have hV0 : 0 < V := by omega
 have hvl : 0 < v.length := by
  refine Nat.pos_of_ne_zero fun e => ?_
  rw [e, Int.pow_zero] at hVb
  omega
 obtain ⟨z1, z2⟩ := h.win (by omega) hvl hj
 have hQb : Q < b := by
  refine Decidable.byContradiction fun hn => ?_
  have : b * V ≤ Q * V := Int.mul_le_mul_of_nonneg_right (by omega) (by omega)
  omega
 refine ⟨by rw [List.length_set]; exact h.ql, by rw [ht.len]; exact hul, h.qi.set hQ hQb _, ht.in_, fun i hi => ?_, hw, ?_⟩
 ·by_cases e : i = j + v.length
  ·have := limb_zero (by omega) (ht.in_.drop j) (n := v.length) (i := v.length) (by omega) (Nat.le_refl _)
   rw [getD_drop'] at this
   rw [e]; exact this
  ·rw [ht.out i (.inr (by omega))]
   exact h.hi i (by omega)
 ·have hvv := ht.val
  have hc0 : c = 0 := by have := ht.c0; omega
  rw [hc0, Int.mul_zero, Int.sub_zero, take_max (by omega), hV] at hvv
  rw [set_drop _ _ _ (by rw [h.ql]; omega)]
  show A = V * (b ^ j * (Q + b * valL b (q.drop (j + 1)))) + valL b w
  rw [hvv, h.val, powI_succ, Int.mul_add, Int.mul_add, ← Int.mul_assoc (b ^ j) b]
  have : V * (b ^ j * Q) = b ^ j * (Q * V) := by rw [Int.mul_comm V, Int.mul_assoc]
  omega
theorem DivJ.est {b A V : Int} (hb : 2 ≤ b) {v : List Int} (hv : InL b v) (hV : valL b v = V) {k : Nat} (hk : v.length = k + 2) (h1 : 0 < v.getD (k + 1) 0) {m j : Nat} {q u : List Int} (hj : j < m) (h : DivJ b A V v.length m (j + 1) q u) :
  EstC b k (u.getD (j + (k + 2)) 0) (u.getD (j + (k + 1)) 0) (u.getD (j + k) 0) (v.getD (k + 1) 0) (v.getD k 0) (valL b (u.drop j)) V := by
 have hz : ∀ i, k + 3 ≤ i → (u.drop j).getD i 0 = 0 := fun i hi => by rw [getD_drop']; exact h.hi _ (by omega)
 obtain ⟨low, l0, l1, le⟩ := top3 (by omega) (h.ui.drop j) hz
 rw [getD_drop', getD_drop', getD_drop'] at le
 have hzv : ∀ i, k + 3 ≤ i → v.getD i 0 = 0 := fun i hi => by rw [List.getD_eq_getElem?_getD, List.getElem?_eq_none (by omega)]; rfl
 obtain ⟨lv, v0, v1, ve⟩ := top3 (by omega) hv hzv
 rw [show v.getD (k + 2) 0 = 0 by rw [List.getD_eq_getElem?_getD, List.getElem?_eq_none (by omega)]; rfl, Int.mul_zero, Int.add_zero, hV] at ve
 have a0 := h.ui.get (by omega) (j + (k + 2))
 have a1 := h.ui.get (by omega) (j + (k + 1))
 have a2 := h.ui.get (by omega) (j + k)
 have c1 := hv.get (by omega) (k + 1)
 have c2 := hv.get (by omega) k
 refine ⟨hb, ⟨a0.1, ?_⟩, a1, a2, ⟨h1, c1.2⟩, c2, ?_, by omega⟩
 ·-- the first limb is at most that of the divisor
  have ht := h.top
  have hz2 : ∀ i, k + 2 ≤ i → (u.drop (j + 1)).getD i 0 = 0 := fun i hi => by rw [getD_drop']; exact h.hi _ (by omega)
  have e1 : valL b (u.drop (j + 1)) = valL b ((u.drop (j + 1)).take (k + 1)) + b ^ (k + 1) * u.getD (j + (k + 2)) 0 := by
   rw [valL_all hz2, show k + 2 = k + 1 + 1 from rfl, valL_takeB, getD_drop', show j + 1 + (k + 1) = j + (k + 1 + 1) by omega]
  have e2 := (take_lt (b := b) (by omega) (h.ui.drop (j + 1)) (k + 1)).1
  have e3 : valL b v = valL b (v.take (k + 1)) + b ^ (k + 1) * v.getD (k + 1) 0 := by
   rw [← valL_takeB, List.take_of_length_le (by omega)]
  have e4 := (take_lt (b := b) (by omega) hv (k + 1)).2
  rw [hV] at e3
  refine Decidable.byContradiction fun hn => ?_
  have : b ^ (k + 1) * (v.getD (k + 1) 0 + 1) ≤ b ^ (k + 1) * u.getD (j + (k + 2)) 0 := Int.mul_le_mul_of_nonneg_left (by omega) (Int.le_of_lt (powI_pos (by omega) _))
  rw [Int.mul_add, Int.mul_one] at this
  omega
 ·rw [le]
  have e5 : b * (u.getD (j + (k + 2)) 0 * b + u.getD (j + (k + 1)) 0) = b * u.getD (j + (k + 1)) 0 + b * b * u.getD (j + (k + 2)) 0 := by
   rw [Int.mul_add, Int.mul_comm (u.getD (j + (k + 2)) 0) b, ← Int.mul_assoc]; omega
  rw [e5, Int.mul_add, Int.mul_add, Int.mul_add, Int.mul_add, Int.mul_add]
  omega
theorem DivJ.end_ {b : Nat} (hb : 2 ≤ b) {A V : Nat} (hV0 : 0 < V) {n m : Nat} {q u : List Int} (h : DivJ b A V n m 0 q u) : trimL q = limbs b (A / V) ∧ trimL u = limbs b (A % V) := by
 have hv := h.val
 rw [Int.pow_zero, Int.one_mul, List.drop_zero] at hv
 have ht := h.top
 rw [List.drop_zero] at ht
 have q0 := valL_nonneg (b := (b : Int)) (by omega) h.qi
 have u0 := valL_nonneg (b := (b : Int)) (by omega) h.ui
 obtain ⟨Q, hQ⟩ : ∃ Q : Nat, valL b q = Q := ⟨(valL b q).toNat, by omega⟩
 obtain ⟨R, hR⟩ : ∃ R : Nat, valL b u = R := ⟨(valL b u).toNat, by omega⟩
 rw [hQ, hR] at hv
 rw [hR] at ht
 have hv : A = V * Q + R := by exact_mod_cast hv
 have hR' : R < V := by omega
 rw [trim_eq hb h.qi, trim_eq hb h.ui, hQ, hR, Int.toNat_natCast, Int.toNat_natCast]
 rw [hv, Nat.mul_add_div hV0, Nat.div_eq_of_lt hR', Nat.add_zero, Nat.mul_add_mod, Nat.mod_eq_of_lt hR']
 exact ⟨rfl, rfl⟩
end Go.Ar

namespace Go.Ar
open Go Go.Sx Go.Lib
set_option maxRecDepth 100000
def cutN (s : Str) : Str := s.takeWhile (· != 47)
def cutD (s : Str) : Str := (s.dropWhile (· != 47)).drop 1
def slashB (s : Str) : Bool := s.any (· == 47)
def formB (s : Str) : Bool := intB (cutN s) && (!slashB s || digS (cutD s) && !(cutD s == [48]) && !(cutD s == [49]))
def ratN (s : Str) : Int := valI (cutN s)
def ratD (s : Str) : Nat := bif slashB s then decV (cutD s) else 1
def ratE (s : Str) : Int :=
 bif !formB s then 11 else bif Nat.blt 300 (lenD (cutN s)) || Nat.blt 300 (cutD s).length then 4 else bif Nat.beq (Nat.gcd (ratN s).natAbs (ratD s)) 1 then 0 else 11
def showR (n : Int) (d : Nat) : Str := itoa n ++ bif Nat.beq d 1 then [] else 47 :: decDigits d
def showQ (n : Int) (d : Nat) : Str := showR (n / (Nat.gcd n.natAbs d : Int)) (d / Nat.gcd n.natAbs d)
theorem dg_not47 {c : UInt8} (h : isDg c = true) : (c != 47) = true := by
 rw [isDg_iff] at h
 rw [bne_iff_ne]
 intro e
 subst e
 exact absurd h.1 (by decide)
theorem int_not47 {s : Str} (h : intB s = true) : ∀ c ∈ s, (c != 47) = true := by
 rcases intB_cases h with ⟨r, rfl, h1, _, _⟩ | ⟨h1, _⟩
 ·intro c hc
  rcases List.mem_cons.1 hc with rfl | hc
  ·decide
  ·exact dg_not47 ((digS_iff.1 h1).2.1 c hc)
 ·exact fun c hc => dg_not47 ((digS_iff.1 h1).2.1 c hc)
theorem takeWhile_all {p : UInt8 → Bool} : ∀ {a : Str}, (∀ c ∈ a, p c = true) → a.takeWhile p = a ∧ a.dropWhile p = []
 | [], _ => ⟨rfl, rfl⟩
 | c :: a, h => by
  obtain ⟨h1, h2⟩ := takeWhile_all (a := a) fun x hx => h x (List.mem_cons_of_mem _ hx)
  have hc := h c List.mem_cons_self
  simp [List.takeWhile_cons, List.dropWhile_cons, hc, h1, h2]
theorem takeWhile_app {p : UInt8 → Bool} {x : UInt8} {b : Str} (hx : p x = false) : ∀ {a : Str}, (∀ c ∈ a, p c = true) → (a ++ x :: b).takeWhile p = a ∧ (a ++ x :: b).dropWhile p = x :: b
 | [], _ => by simp [List.takeWhile_cons, List.dropWhile_cons, hx]
 | c :: a, h => by
  obtain ⟨h1, h2⟩ := takeWhile_app (a := a) (b := b) hx fun y hy => h y (List.mem_cons_of_mem _ hy)
  have hc := h c List.mem_cons_self
  simp [List.takeWhile_cons, List.dropWhile_cons, hc, h1, h2]
theorem cut_none {s : Str} (h : slashB s = false) : cutN s = s ∧ cutD s = [] := by
 unfold slashB at h
 rw [List.any_eq_false] at h
 obtain ⟨h1, h2⟩ := takeWhile_all (p := (· != 47)) (a := s) fun c hc => by
  have := h c hc
  rw [bne_iff_ne]
  intro e
  subst e
  exact this rfl
 exact ⟨h1, by unfold cutD; rw [h2]; rfl⟩
theorem cut_some {a b : Str} (h : ∀ c ∈ a, (c != 47) = true) : cutN (a ++ 47 :: b) = a ∧ cutD (a ++ 47 :: b) = b ∧ slashB (a ++ 47 :: b) = true := by
 obtain ⟨h1, h2⟩ := takeWhile_app (p := (· != 47)) (x := 47) (b := b) (by decide) h
 exact ⟨h1, by unfold cutD; rw [h2]; rfl, by unfold slashB; simp⟩
theorem no_slash {s : Str} (h : ∀ c ∈ s, (c != 47) = true) : slashB s = false := by
 unfold slashB
 rw [List.any_eq_false]
 intro c hc e
 have := h c hc
 rw [eq_of_beq e] at this
 exact absurd this (by decide)
theorem slash_split {s : Str} (h : slashB s = true) : s = cutN s ++ 47 :: cutD s := by
 have e := List.takeWhile_append_dropWhile (p := (· != (47 : UInt8))) (l := s)
 unfold cutN cutD
 have hd : ∃ b, s.dropWhile (· != (47 : UInt8)) = 47 :: b := by
  clear e
  induction s with
  | nil => cases h
  | cons c s ih =>
   by_cases hc : c = 47
   ·subst hc; exact ⟨s, by simp [List.dropWhile_cons]⟩
   ·have h' : slashB s = true := by
     unfold slashB at h ⊢
     rw [List.any_cons, beq_false_of_ne hc, Bool.false_or] at h
     exact h
    obtain ⟨b, hb⟩ := ih h'
    exact ⟨b, by rw [List.dropWhile_cons, if_pos (bne_iff_ne.2 hc)]; exact hb⟩
 obtain ⟨b, hb⟩ := hd
 rw [hb] at e ⊢
 exact e.symm
theorem formB_none {s : Str} (h : slashB s = false) : formB s = intB s := by
 unfold formB
 rw [h, (cut_none h).1]; simp
theorem form_cases {s : Str} (h : formB s = true) : (intB s = true ∧ slashB s = false ∧ cutN s = s ∧ ratN s = valI s ∧ ratD s = 1) ∨
  (slashB s = true ∧ s = cutN s ++ 47 :: cutD s ∧ intB (cutN s) = true ∧ digS (cutD s) = true ∧ 2 ≤ ratD s ∧ ratD s = decV (cutD s)) := by
 cases hs : slashB s with
 | false =>
  rw [formB_none hs] at h
  obtain ⟨h1, h2⟩ := cut_none hs
  exact .inl ⟨h, rfl, h1, by unfold ratN; rw [h1], by unfold ratD; rw [hs]; rfl⟩
 | true =>
  unfold formB at h
  rw [hs] at h
  simp only [Bool.not_true, Bool.false_or, Bool.and_eq_true, Bool.not_eq_true'] at h
  obtain ⟨h1, ⟨h2, h3⟩, h4⟩ := h
  have e : ratD s = decV (cutD s) := by unfold ratD; rw [hs]; rfl
  refine .inr ⟨rfl, slash_split hs, h1, h2, ?_, e⟩
  rw [e]
  have h5 := decDigits_decV h2
  refine Decidable.byContradiction fun hn => ?_
  have : decV (cutD s) = 0 ∨ decV (cutD s) = 1 := by omega
  rcases this with h6 | h6
  ·rw [h6, decDigits_small (by decide)] at h5
   rw [← h5] at h3
   exact absurd h3 (by decide)
  ·rw [h6, decDigits_small (by decide)] at h5
   rw [← h5] at h4
   exact absurd h4 (by decide)
theorem ratD_pos {s : Str} (h : formB s = true) : 1 ≤ ratD s := by rcases form_cases h with ⟨_, _, _, _, h⟩ | ⟨_, _, _, _, h, _⟩ <;> omega
theorem ratE_zero {s : Str} : ratE s = 0 ↔ formB s = true ∧ lenD (cutN s) ≤ 300 ∧ (cutD s).length ≤ 300 ∧ Nat.gcd (ratN s).natAbs (ratD s) = 1 := by
 unfold ratE
 cases h : formB s with
 | false => simp
 | true =>
  cases h2 : Nat.blt 300 (lenD (cutN s)) || Nat.blt 300 (cutD s).length with
  | true =>
   rw [Bool.or_eq_true, blt_iff, blt_iff] at h2
   simp; omega
  | false =>
   rw [Bool.or_eq_false_iff, Bool.eq_false_iff, Bool.eq_false_iff, Ne, Ne, blt_iff, blt_iff] at h2
   cases h3 : Nat.beq (Nat.gcd (ratN s).natAbs (ratD s)) 1 with
   | true =>
    have h3 := Nat.eq_of_beq_eq_true h3
    simp only [Bool.not_true, cond_false, cond_true]
    exact ⟨fun _ => ⟨trivial, by omega, by omega, h3⟩, fun _ => trivial⟩
   | false =>
    have h3 : Nat.gcd (ratN s).natAbs (ratD s) ≠ 1 := fun e => by rw [e] at h3; cases h3
    simp only [Bool.not_true, cond_false]
    exact ⟨fun h => (by cases h), fun h => absurd h.2.2.2 h3⟩
theorem showR_form {s : Str} (h : formB s = true) : showR (ratN s) (ratD s) = s := by
 unfold showR
 rcases form_cases h with ⟨h1, _, _, h4, h5⟩ | ⟨_, h2, h3, h4, h5, h6⟩
 ·rw [h4, h5, itoa_valI h1]; exact List.append_nil s
 ·rw [show Nat.beq (ratD s) 1 = false from Bool.eq_false_iff.2 fun e => by have := Nat.eq_of_beq_eq_true e; omega]
  conv => rhs; rw [h2]
  unfold ratN
  rw [itoa_valI h3, h6, decDigits_decV h4]; rfl
theorem showQ_one {n : Int} {d : Nat} (h : Nat.gcd n.natAbs d = 1) : showQ n d = showR n d := by unfold showQ; rw [h]; simp
theorem showQ_self {s : Str} (h : ratE s = 0) : showQ (ratN s) (ratD s) = s := by
 obtain ⟨h1, _, _, h4⟩ := ratE_zero.1 h
 rw [showQ_one h4, showR_form h1]
theorem showR_parts (n : Int) {d : Nat} (hd : 0 < d) : formB (showR n d) = true ∧ ratN (showR n d) = n ∧ ratD (showR n d) = d ∧ lenD (cutN (showR n d)) = nDg n ∧ (cutD (showR n d)).length = (if d = 1 then 0 else nDigits d) := by
 obtain ⟨i1, i2⟩ := itoa_intB n
 unfold showR
 by_cases h : d = 1
 ·subst h
  rw [Nat.beq_refl]
  simp only [cond_true, List.append_nil, if_true]
  have hs := no_slash (int_not47 i1)
  obtain ⟨c1, c2⟩ := cut_none hs
  refine ⟨by rw [formB_none hs]; exact i1, by unfold ratN; rw [c1, i2], by unfold ratD; rw [hs]; rfl, by rw [c1, lenD_eq i1, i2], by rw [c2]; rfl⟩
 ·rw [show Nat.beq d 1 = false from Bool.eq_false_iff.2 fun e => h (Nat.eq_of_beq_eq_true e)]
  simp only [cond_false, if_neg h]
  obtain ⟨c1, c2, c3⟩ := cut_some (b := decDigits d) (int_not47 i1)
  have hd0 : ¬ decDigits d = [48] := fun e => by
   have := decV_decDigits d
   rw [e] at this
   have : (0 : Nat) = d := this
   omega
  have hd1 : ¬ decDigits d = [49] := fun e => by
   have := decV_decDigits d
   rw [e] at this
   have : (1 : Nat) = d := this
   omega
  refine ⟨?_, by unfold ratN; rw [c1, i2], by unfold ratD; rw [c3, c2]; exact decV_decDigits d, by rw [c1, lenD_eq i1, i2], by rw [c2, decDigits_length]⟩
  unfold formB
  rw [c1, c2, c3, i1, decDigits_digS, beq_false_of_ne hd0, beq_false_of_ne hd1]; rfl
theorem gcd_div {n : Int} {d : Nat} (hd : 0 < d) : Nat.gcd (n / (Nat.gcd n.natAbs d : Int)).natAbs (d / Nat.gcd n.natAbs d) = 1 ∧ 0 < d / Nat.gcd n.natAbs d ∧
  n / (Nat.gcd n.natAbs d : Int) * (Nat.gcd n.natAbs d : Int) = n ∧ d / Nat.gcd n.natAbs d * Nat.gcd n.natAbs d = d := by
 have hg : 0 < Nat.gcd n.natAbs d := Nat.gcd_pos_of_pos_right _ hd
 have h1 : Nat.gcd n.natAbs d ∣ n.natAbs := Nat.gcd_dvd_left _ _
 have h2 : Nat.gcd n.natAbs d ∣ d := Nat.gcd_dvd_right _ _
 have h3 : ((Nat.gcd n.natAbs d : Nat) : Int) ∣ n := Int.ofNat_dvd_left.2 h1
 have e1 : (n / (Nat.gcd n.natAbs d : Int)).natAbs = n.natAbs / Nat.gcd n.natAbs d := by
  rw [Int.natAbs_ediv_of_dvd h3, Int.natAbs_natCast]
 refine ⟨?_, Nat.div_pos (Nat.le_of_dvd hd h2) hg, Int.ediv_mul_cancel h3, Nat.div_mul_cancel h2⟩
 rw [e1]
 exact Nat.coprime_div_gcd_div_gcd hg
theorem showQ_parts (n : Int) {d : Nat} (hd : 0 < d) : formB (showQ n d) = true ∧ ratN (showQ n d) = n / (Nat.gcd n.natAbs d : Int) ∧ ratD (showQ n d) = d / Nat.gcd n.natAbs d ∧ Nat.gcd (ratN (showQ n d)).natAbs (ratD (showQ n d)) = 1 := by
 obtain ⟨g1, g2, _, _⟩ := gcd_div (n := n) hd
 obtain ⟨a, b, c, _, _⟩ := showR_parts (n / (Nat.gcd n.natAbs d : Int)) g2
 unfold showQ
 exact ⟨a, b, c, by rw [b, c]; exact g1⟩
theorem showQ_val (n : Int) {d : Nat} (hd : 0 < d) : ratN (showQ n d) * (d : Int) = n * (ratD (showQ n d) : Int) := by
 obtain ⟨_, b, c, _⟩ := showQ_parts n hd
 obtain ⟨_, _, g3, g4⟩ := gcd_div (n := n) hd
 rw [b, c]
 have g4 : ((d / Nat.gcd n.natAbs d : Nat) : Int) * ((Nat.gcd n.natAbs d : Nat) : Int) = (d : Int) := by exact_mod_cast g4
 generalize n / (Nat.gcd n.natAbs d : Int) = n' at *
 generalize ((d / Nat.gcd n.natAbs d : Nat) : Int) = d' at *
 rw [← g4]
 conv => rhs; rw [← g3]
 rw [Int.mul_assoc, Int.mul_comm ((Nat.gcd n.natAbs d : Nat) : Int)]
end Go.Ar

namespace Go.Ar
open Go Go.Sx Go.Lib
set_option maxRecDepth 100000
class LawEnc (α : Type) [Enc α] : Prop where
 dec : ∀ a : α, Enc.dec (Enc.enc a) = a
 ok : ∀ a : α, Enc.ok (α := α) (Enc.enc a) = true
theorem allN_of {f : Nat → Bool} : ∀ {n : Nat}, (∀ i, i < n → f i = true) → allN f n = true
 | 0, _ => rfl
 | n + 1, h => by simp only [allN, Bool.and_eq_true]; exact ⟨allN_of fun i hi => h i (by omega), h n (by omega)⟩
section
variable {α : Type} [Enc α] [LawEnc α]
theorem slD_xl (f : Bool) (l : List α) (n : Nat) : slD (AV.xl f n l.length fun i j => Enc.enc (l.getD i Enc.dflt) j) = l := by
 show listOf l.length (fun i => Enc.dec (Enc.enc (l.getD i Enc.dflt))) = l
 simp only [LawEnc.dec]
 exact listOf_getD l _
theorem slD_slE (l : List α) : slD (slE l) = l := slD_xl false l _
theorem slOk_xl (f : Bool) (l : List α) : slOk α (AV.xl f (Enc.n α) l.length fun i j => Enc.enc (l.getD i Enc.dflt) j) = true := by
 show (Nat.beq (Enc.n α) (Enc.n α) && allN (fun i => Enc.ok (α := α) (Enc.enc (l.getD i Enc.dflt))) l.length) = true
 rw [Bool.and_eq_true]
 exact ⟨Nat.beq_refl _, allN_of fun i _ => LawEnc.ok _⟩
theorem slOk_slE (l : List α) : slOk α (slE l) = true := slOk_xl false l
theorem agD_agE (a : α) : agD (agE a) = a := LawEnc.dec a
theorem agOk_agE (a : α) : agOk α (agE a) = true := by
 show (Nat.beq (Enc.n α) (Enc.n α) && Enc.ok (α := α) (Enc.enc a)) = true
 rw [Bool.and_eq_true]
 exact ⟨Nat.beq_refl _, LawEnc.ok _⟩
end
instance : LawEnc Int := ⟨fun _ => rfl, fun _ => rfl⟩
instance : LawEnc Bool := ⟨fun _ => rfl, fun _ => rfl⟩
instance : LawEnc (List UInt8) := ⟨fun _ => rfl, fun _ => rfl⟩
theorem int_i (k : IntKind) (n : Int) : AV.int (.v (.int k n)) = n := rfl
theorem ltB_nat (z : Nat) : ltB 0 (z : Int) = Nat.blt 0 z := by rw [Bool.eq_iff_iff, ltB_iff, blt_iff]; omega
theorem pred_nat (z : Nat) : ((z : Int) - 1).toNat = z - 1 := by omega
theorem vc_tt {A B : Prop} : bsplit true A B ↔ A := by simp [bsplit_iff]
theorem vc_ff {A B : Prop} : bsplit false A B ↔ B := by simp [bsplit_iff]
theorem row_one (r : Nat → AV) : Sx.rowAt [r] = fun _ j => r j := by
 funext i j
 unfold Sx.rowAt
 cases i with
 | zero => rfl
 | succ i => rfl
def intsOf (x : AV) : List Int := slD x
theorem okIn (f : Bool) (l : List Int) : slOk Int (AV.xl f 1 l.length fun i j => AV.v (Value.int IntKind.i64 (l.getD i 0))) = true := slOk_xl f l
theorem okIn' (f : Bool) (l : List Int) : slOk Int (AV.xl f 1 l.length fun i j => AV.v (Value.int IntKind.i64 (l.getD i Enc.dflt))) = true := slOk_xl f l
theorem deI (f : Bool) (l : List Int) : slD (AV.xl f 1 l.length fun i j => AV.v (Value.int IntKind.i64 (l.getD i 0))) = l := slD_xl f l 1
theorem deI' (f : Bool) (l : List Int) : slD (AV.xl f 1 l.length fun i j => AV.v (Value.int IntKind.i64 (l.getD i Enc.dflt))) = l := slD_xl f l 1
theorem deIo (f : Bool) (l : List Int) : intsOf (AV.xl f 1 l.length fun i j => AV.v (Value.int IntKind.i64 (l.getD i 0))) = l := slD_xl f l 1
theorem deIo' (f : Bool) (l : List Int) : intsOf (AV.xl f 1 l.length fun i j => AV.v (Value.int IntKind.i64 (l.getD i Enc.dflt))) = l := slD_xl f l 1
def idxF {α : Type} (p : α → Bool) : List α → Nat → Int
 | [], _ => -1
 | a :: l, i => bif p a then (i : Int) else idxF p l (i + 1)
theorem idxF_any {α : Type} (p : α → Bool) : ∀ (l : List α) (i : Nat), leB 0 (idxF p l i) = l.any p
 | [], _ => rfl
 | a :: l, i => by
  unfold idxF
  cases h : p a with
  | true =>
   simp only [cond_true, List.any_cons, h, Bool.true_or]
   exact (leB_iff _ _).2 (by omega)
  | false =>
   simp only [cond_false, List.any_cons, h, Bool.false_or]
   exact idxF_any p l (i + 1)
theorem getD_drop {α : Type} {l : List α} {d : α} {z : Nat} (h : z < l.length) : l.drop z = l.getD z d :: l.drop (z + 1) := by
 rw [List.drop_eq_getElem_cons h, List.getD_eq_getElem?_getD, List.getElem?_eq_getElem h]; rfl
def fn0 (f : FuncId) : AV := .fn (.func f) 0 (fun _ => .junk) 0 (fun _ => .junk)
def idx_an {α : Type} [Enc α] (l : List α) (p : α → Bool) : Ann :=
 .two .auto (.two (.two .auto (.one (.loop Nat (fun σ z => [(0, σ.tm 0), (1, σ.tm 1), (6, σ.tm 0), (7, .i l.length), (8, .i z)]) (fun _ _ => []) 0
  (fun _ z => z ≤ l.length ∧ idxF p (l.drop z) z = idxF p l 0) (fun _ z => l.length - z) .auto))) .auto)
def firstN (f : Nat → Int) : Nat → Nat → Int
 | 0, _ => 0
 | n + 1, z => bif f z != 0 then f z else firstN f n (z + 1)
theorem firstN_skip {f : Nat → Int} : ∀ {k n : Nat}, k ≤ n → (∀ i, i < k → f i = 0) → firstN f n 0 = firstN f (n - k) k
 | 0, n, _, _ => by simp
 | k + 1, n, hk, h => by
  rw [firstN_skip (k := k) (by omega) fun i hi => h i (by omega), show n - k = n - (k + 1) + 1 by omega]
  show (bif f k != 0 then f k else firstN f (n - (k + 1)) (k + 1)) = _
  rw [h k (by omega)]; rfl
theorem firstN_at {f : Nat → Int} {k n : Nat} (hk : k < n) (h : ∀ i, i < k → f i = 0) (h2 : f k ≠ 0) : firstN f n 0 = f k := by
 rw [firstN_skip (k := k) (by omega) h, show n - k = n - (k + 1) + 1 by omega]
 show (bif f k != 0 then f k else firstN f (n - (k + 1)) (k + 1)) = _
 rw [bne_iff_ne.2 h2]; rfl
theorem firstN_none {f : Nat → Int} {n : Nat} (h : ∀ i, i < n → f i = 0) : firstN f n 0 = 0 := by
 rw [firstN_skip (Nat.le_refl _) h, Nat.sub_self]; rfl
theorem pw_le {a b : Nat} (h : a ≤ b) : 10 ^ a ≤ 10 ^ b := Nat.pow_le_pow_right (by omega) h
theorem pw_succ (k m : Nat) (h : m = k + 1) : 10 ^ m = 10 ^ k * 10 := by rw [h, Nat.pow_succ]
theorem pw_two (k m : Nat) (h : m = k + k) : 10 ^ m = 10 ^ k * 10 ^ k := by rw [h, Nat.pow_add]
theorem bsp_t {c : Bool} {A B : Prop} (h : c = true) (ha : A) : bsplit c A B := by rw [h, vc_tt]; exact ha
theorem sS : (∀ x : AV, avM x x) ∧ (∀ p : Prop, (True ∧ p) = p) ∧ (∀ p : Prop, (p ∧ True) = p) ∧ (∀ x : Bool, bsel true x = x) ∧ (∀ x : Bool, bsel false x = !x) ∧
  (∀ {x : Bool} {A : Prop}, bsplit (!x || x) A False ↔ A) ∧ (∀ a b : Bool, (bif a then true else b) = (a || b)) ∧ (∀ a b : Bool, (bif a then b else false) = (a && b)) ∧
  (∀ {x : Bool} {p : Prop} [DB p] {A : Prop}, bsplit (!x || DB.db p) A False ↔ (x = true → p) ∧ A) ∧ (∀ {p : Prop} [DB p] {A : Prop}, bsplit (DB.db p) A False ↔ p ∧ A) ∧
  (∀ {a b : Int} {A B : Prop}, bsplit (ltB a b) A B ↔ (a < b → A) ∧ (b ≤ a → B)) ∧ (∀ {a b : Int} {A B : Prop}, bsplit (leB a b) A B ↔ (a ≤ b → A) ∧ (b < a → B)) ∧
  (∀ {a b : Int} {A B : Prop}, bsplit (a != b) A B ↔ (a ≠ b → A) ∧ (a = b → B)) ∧ (∀ {a b : Int} {A B : Prop}, bsplit (a == b) A B ↔ (a = b → A) ∧ (a ≠ b → B)) ∧
  (∀ {A B : Prop}, bsplit true A B ↔ A) ∧ (∀ n : Nat, (n : Int).toNat = n) ∧ (∀ n : Nat, 0 + n = n) ∧ (∀ n : Nat, 0 ≤ n) ∧ (∀ n : Nat, n - 0 = n) ∧
  (∀ (k : IntKind) (n : Int), AV.int (.v (.int k n)) = n) ∧ (∀ b : Bool, (b || true) = true) ∧ (∀ {α : Type} (a b : α), (bif true then a else b) = a) ∧ (∀ {α : Type} (a b : α), (bif false then a else b) = b) :=
 ⟨avM_refl, true_and, and_true, bsel_true, bsel_false, vc_own, bif_or, bif_and, vc_gdb, vc_db, vc_lt, vc_le, vc_ne, vc_eq, vc_tt, Int.toNat_natCast, Nat.zero_add, Nat.zero_le, Nat.sub_zero, int_i, Bool.or_true, cond_true, cond_false⟩
theorem dS : (∀ (f : Bool) (l : List Int), slOk Int (AV.xl f 1 l.length fun i j => AV.v (Value.int IntKind.i64 (l.getD i 0))) = true) ∧ (∀ (f : Bool) (l : List Int), slOk Int (AV.xl f 1 l.length fun i j => AV.v (Value.int IntKind.i64 (l.getD i Enc.dflt))) = true) ∧
  (∀ (f : Bool) (l : List Int), slD (AV.xl f 1 l.length fun i j => AV.v (Value.int IntKind.i64 (l.getD i 0))) = l) ∧ (∀ (f : Bool) (l : List Int), slD (AV.xl f 1 l.length fun i j => AV.v (Value.int IntKind.i64 (l.getD i Enc.dflt))) = l) ∧
  (∀ (f : Bool) (l : List Int), intsOf (AV.xl f 1 l.length fun i j => AV.v (Value.int IntKind.i64 (l.getD i 0))) = l) ∧ (∀ (f : Bool) (l : List Int), intsOf (AV.xl f 1 l.length fun i j => AV.v (Value.int IntKind.i64 (l.getD i Enc.dflt))) = l) :=
 ⟨okIn, okIn', deI, deI', deIo, deIo'⟩
def AndC : List Cond → Prop
 | [] => True
 | p :: ps => p.holds ∧ AndC ps
theorem allC : ∀ {ps : List Cond}, (∀ p ∈ ps, p.holds) → AndC ps
 | [], _ => trivial
 | _ :: _, h => ⟨h _ List.mem_cons_self, allC fun q hq => h q (List.mem_cons_of_mem _ hq)⟩
abbrev kI : Prop := IntKind.i64 = .i64
abbrev j2 : Prop := 2 = List.length [AV.junk, AV.junk]
abbrev lN {α : Type} (l : List α) : Nat := List.length l
abbrev lZ {α : Type} (l : List α) : Int := (↑(List.length l) : Int)
abbrev gD {α : Type} (l : List α) (i : Nat) (d : α) : α := List.getD l i d
abbrev iZ : Int := 0
abbrev iO : Int := 1
abbrev iX : Int := 9223372036854775807
abbrev iN : Int := -9223372036854775808
abbrev iB : Int := 1000000000
abbrev aI (n : Int) : AV := AV.v (Value.int .i64 n)
end Go.Ar
