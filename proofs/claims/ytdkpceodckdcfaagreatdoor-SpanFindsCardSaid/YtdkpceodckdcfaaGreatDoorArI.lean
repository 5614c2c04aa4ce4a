/- Reading digits into limbs, and writing limbs as digits. -/
import Derived.Test.YtdkpceodckdcfaaGreatDoorArA
set_option linter.unusedSimpArgs false
set_option linter.unusedVariables false
namespace Go.Ar
open Go Go.Sx Go.Lib
set_option maxRecDepth 100000
def TU (k x : Nat) : zh := List.replicate (k - (decDigits x).length) 48 ++ decDigits x
theorem Ud : ∀ (k : Nat) (l : zh), zk (List.replicate k 48 ++ l) = zk l
 | 0, _ => rfl
 | k + 1, l => by
  rw [List.replicate_succ, List.cons_append, Xx, Ud k l]
  show 0 * _ + _ = _
  omega
theorem MG {k x : Nat} (hk : 0 < k) (hx : x < 10 ^ k) : (TU k x).length = k := by
 have := (Z7 hk).2 hx
 unfold TU
 rw [List.length_append, List.length_replicate, decDigits_length]
 omega
theorem lT (k x : Nat) : zk (TU k x) = x := by unfold TU; rw [Ud, Z5]
theorem kb (k x : Nat) : ∀ c ∈ TU k x, Zm c = true := fun c hc => by
 unfold TU at hc
 rcases List.mem_append.1 hc with hc | hc
 ·rw [List.eq_of_mem_replicate hc]; decide
 ·exact List.all_eq_true.1 (XC x) c hc
theorem TQ {k n x : Nat} (hk : 0 < k) (hn : n ≠ 0) (hx : x < 10 ^ k) : decDigits (n * 10 ^ k + x) = decDigits n ++ TU k x := by
 have hv : zk (decDigits n ++ TU k x) = n * 10 ^ k + x := by rw [Ue, Z5, lT, MG hk hx]
 rw [← hv]
 refine ZJ (ZX.2 ⟨?_, fun c hc => ?_, fun _ => ?_⟩)
 ·have := yw n
  grind
 ·rcases List.mem_append.1 hc with hc | hc
  ·exact List.all_eq_true.1 (XC n) c hc
  ·exact kb k x c hc
 ·rw [List.getD_eq_getElem?_getD, List.getElem?_append_left (yw n), ← List.getD_eq_getElem?_getD]
  exact XR hn
def Wz (b : Nat) (l : List Int) (i : Nat) : Nat := (zW b (l.drop i)).toNat
theorem OG {k : Nat} (hk : 0 < k) {l : List Int} (hl : Zv (10 ^ k : Nat) l) {i : Nat} (hi : i < l.length) (h0 : Wz (10 ^ k) l (i + 1) ≠ 0) :
  decDigits (Wz (10 ^ k) l i) = decDigits (Wz (10 ^ k) l (i + 1)) ++ TU k (l.getD i 0).toNat := by
 have h10 : 0 < 10 ^ k := Nat.pow_pos (by decide)
 have x1 := hl.get (by omega) i
 have v0 := zj (b := ((10 ^ k : Nat) : Int)) (by omega) (hl.drop (i + 1))
 have e := xU ((10 ^ k : Nat) : Int) hi
 have e2 : Wz (10 ^ k) l i = Wz (10 ^ k) l (i + 1) * 10 ^ k + (l.getD i 0).toNat := by
  unfold Wz
  grind
 rw [e2]
 exact TQ hk h0 (by omega)
theorem OX {b : Nat} {l : List Int} (h : 0 < l.length) : Wz b l (l.length - 1) = (l.getD (l.length - 1) 0).toNat := by
 unfold Wz
 rw [xU b (by omega), List.drop_of_length_le (by omega), y9, Int.mul_zero, Int.add_zero]
theorem LS {b : Nat} (hb : 2 ≤ b) {n : Nat} (hn : n ≠ 0) {i : Nat} (hi : i < (zw b n).length) : Wz b (zw b n) i ≠ 0 := by
 obtain ⟨h1, h2⟩ := vr hb hn
 have hin := YO hb n
 unfold Wz
 intro e
 have v0 := zj (b := (b : Int)) (by omega) (hin.drop i)
 have hz : zW b ((zw b n).drop i) = 0 := by omega
 have := T3 (b := (b : Int)) (by omega) (hin.drop i) (n := 0) (by rw [hz, Int.pow_zero]; decide) (i := (zw b n).length - 1 - i) (Nat.zero_le _)
 grind
structure Pd (k : Nat) (r : zh) (z : Nat) (L : List Int) : Prop where
 le : z ≤ r.length
 len : L.length = (r.length + k - 1) / k
 in_ : Zv (10 ^ k : Nat) L
 zero : ∀ i, z ≤ k * i → L.getD i 0 = 0
 part : L.getD (z / k) 0 < 10 ^ (z % k)
 val : zW (10 ^ k : Nat) L = (zk (r.drop (r.length - z)) : Int)
theorem Pd.start {k : Nat} (hk : 0 < k) (r : zh) : Pd k r 0 (List.replicate ((r.length + k - 1) / k) 0) := by
 have h10 : 0 < 10 ^ k := Nat.pow_pos (by decide)
 refine ⟨Nat.zero_le _, by simp, .zeros (by omega) _, fun i _ => Vo _ _, ?_, ?_⟩
 ·rw [Vo, Nat.zero_mod]; decide
 ·rw [wL, Nat.sub_zero, List.drop_of_length_le (Nat.le_refl _)]; rfl
theorem Ty {r : zh} {i : Nat} (h : i < r.length) : r.drop i = r.getD i 0 :: r.drop (i + 1) := by
 simp_all
theorem Pd.step {k : Nat} (hk : 0 < k) {r : zh} (hr : ∀ c ∈ r, Zm c = true) {z : Nat} (hz : z < r.length) {L : List Int} (h : Pd k r z L) :
  z / k < L.length ∧ Pd k r (z + 1) (L.set (z / k) (L.getD (z / k) 0 + (vQ (r.getD (r.length - 1 - z) 0) : Int) * 10 ^ (z % k))) := by
 have h10 : 0 < 10 ^ k := Nat.pow_pos (by decide)
 have hi : r.length - 1 - z < r.length := by omega
 have hd : Zm (r.getD (r.length - 1 - z) 0) = true := by
  simp_all
 have hv := tc hd
 have hdm := Nat.div_add_mod z k
 have hmod := Nat.mod_lt z hk
 have hlen : z / k < L.length := by
  rw [h.len]
  have : k * (z / k) < r.length := by omega
  have h2 : (k * (z / k) + k) / k ≤ (r.length + k - 1) / k := Nat.div_le_div_right (by omega)
  rw [Nat.add_div_right _ hk, Nat.mul_div_cancel_left _ hk] at h2
  omega
 have hp := h.part
 have hL := h.in_.get (by omega) (z / k)
 generalize hdd : vQ (r.getD (r.length - 1 - z) 0) = d at *
 have hp0 : (0 : Int) < 10 ^ (z % k) := Int.pow_pos (by decide)
 have hdp : (d : Int) * 10 ^ (z % k) ≤ 9 * 10 ^ (z % k) := Int.mul_le_mul_of_nonneg_right (by omega) (Int.le_of_lt hp0)
 have hdp0 : 0 ≤ (d : Int) * 10 ^ (z % k) := Int.mul_nonneg (by omega) (Int.le_of_lt hp0)
 have hnew : L.getD (z / k) 0 + (d : Int) * 10 ^ (z % k) < 10 ^ (z % k + 1) := by rw [Int.pow_succ]; omega
 have hle : (10 : Int) ^ (z % k + 1) ≤ ((10 ^ k : Nat) : Int) := by
  have : 10 ^ (z % k + 1) ≤ 10 ^ k := Nat.pow_le_pow_right (by decide) (by omega)
  grind
 refine ⟨hlen, by omega, by rw [List.length_set]; exact h.len, h.in_.set (by omega) (by omega) _, fun i hzi => ?_, ?_, ?_⟩
 ·have hne : i ≠ z / k := fun e => by
   grind
  rw [Yv _ _ _ _ hlen, if_neg hne]
  exact h.zero i (by omega)
 ·by_cases e : (z + 1) % k = 0
  ·have hz1 : k * ((z + 1) / k) = z + 1 := by have := Nat.div_add_mod (z + 1) k; omega
   have hne : (z + 1) / k ≠ z / k := fun e2 => by rw [e2] at hz1; omega
   rw [Yv _ _ _ _ hlen, if_neg hne, h.zero _ (by omega)]
   simp_all
  ·have e1 : (z + 1) % k = z % k + 1 ∧ (z + 1) / k = z / k := by
    have h1 : z % k + 1 < k := by
     refine Nat.lt_of_le_of_ne (by omega) fun e2 => e ?_
     have : z + 1 = k * (z / k + 1) := by rw [Nat.mul_add, Nat.mul_one]; omega
     simp_all
    have h2 : z + 1 = k * (z / k) + (z % k + 1) := by omega
    constructor
    ·rw [h2, Nat.mul_add_mod, Nat.mod_eq_of_lt h1]
    ·rw [h2, Nat.mul_add_div hk, Nat.div_eq_of_lt h1, Nat.add_zero]
   simp_all
 ·rw [WL _ _ hlen, h.val, show r.length - (z + 1) = r.length - 1 - z by omega, Ty hi, Xx, show r.length - 1 - z + 1 = r.length - z by omega, hdd, List.length_drop, show r.length - (r.length - z) = z by omega]
  have e1 : ((10 ^ k : Nat) : Int) ^ (z / k) * (10 : Int) ^ (z % k) = 10 ^ z := by
   have : (10 ^ k) ^ (z / k) * 10 ^ (z % k) = 10 ^ z := by rw [← Nat.pow_mul, ← Nat.pow_add, hdm]
   exact_mod_cast this
  grind
theorem Pd.end_ {k : Nat} (hk : 0 < k) {r : zh} {L : List Int} (h : Pd k r r.length L) : zm L = zw (10 ^ k) (zk r) := by
 have hv := h.val
 rw [Nat.sub_self, List.drop_zero] at hv
 have h2 : 2 ≤ 10 ^ k := by
  grind
 rw [YT h2 h.in_, hv, Int.toNat_natCast]
end Go.Ar

namespace Go.Ar
open Go Go.Sx Go.Lib
set_option maxRecDepth 100000
theorem ZM {b m n : Nat} (hb : 2 ≤ b) (h : m ≤ n) : (zw b m).length ≤ (zw b n).length := by
 refine Decidable.byContradiction fun hn => ?_
 have := we hb (m := n) (n := m) (by omega)
 omega
theorem yK {b n : Nat} (hb : 2 ≤ b) (h : (zw b n).length = 0) : n = 0 := by
 refine Decidable.byContradiction fun h0 => ?_
 rw [Xv hb h0] at h
 cases h
theorem wy {x y : Nat} (h : y ≠ 0) : Nat.gcd x y = Nat.gcd y (x % y) := by
 rw [Nat.gcd_comm x y, Nat.gcd_rec y x, Nat.gcd_comm]
end Go.Ar

namespace Go.Ar
open Go Go.Sx Go.Lib
set_option maxRecDepth 100000
theorem wv {l : List Int} {i : Nat} (h : l.length ≤ i) : l.getD i 0 = 0 := by rw [List.getD_eq_getElem?_getD, List.getElem?_eq_none h]; rfl
theorem GI (c : UInt8) : (zn (c.toNat : Int) 48 || zn 57 (c.toNat : Int)) = !Zm c := by
 unfold Zm
 rw [Bool.eq_iff_iff, Bool.or_eq_true, zq, zq, Bool.not_eq_true', Bool.and_eq_false_iff]
 constructor
 ·rintro (h | h)
  ·exact .inl (Bool.eq_false_iff.2 fun e => by have := Nat.le_of_ble_eq_true e; omega)
  ·exact .inr (Bool.eq_false_iff.2 fun e => by have := Nat.le_of_ble_eq_true e; omega)
 ·rintro (h | h)
  ·exact .inl (by have : ¬ 48 ≤ c.toNat := fun e => by rw [Nat.ble_eq_true_of_le e] at h; cases h
                  omega)
  ·exact .inr (by have : ¬ c.toNat ≤ 57 := fun e => by rw [Nat.ble_eq_true_of_le e] at h; cases h
                  omega)
theorem yb (c : UInt8) (n : Nat) (hn : n < 256) : ((c.toNat : Int) == (n : Int)) = (c == UInt8.ofNat n) := by
 rw [Bool.eq_iff_iff, beq_iff_eq, beq_iff_eq]
 constructor
 ·intro h
  have : c.toNat = n := by omega
  rw [← this, UInt8.ofNat_toNat]
 ·intro h
  subst h
  rw [UInt8.toNat_ofNat']
  omega
theorem Wh {l : zh} : Zw l = true ↔ 0 < l.length ∧ (∀ i, i < l.length → Zm (l.getD i 0) = true) ∧ (1 < l.length → l.getD 0 0 ≠ 48) := by
 rw [ZX]
 refine and_congr_right fun _ => and_congr_left fun _ => ⟨fun h i hi => ?_, fun h c hc => ?_⟩
 ·simp_all
 ·obtain ⟨i, hi, rfl⟩ := List.getElem_of_mem hc
  simp_all
theorem Yl {a : zh} (h : ¬ (0 < a.length ∧ a.getD 0 0 = 45)) : Zy a = Zw a ∧ Xd a = a.length ∧ zt a = (zk a : Int) := by
 match a, h with
 | [], _ => exact ⟨rfl, rfl, rfl⟩
 | c :: r, h =>
  have hc : c ≠ 45 := fun e => h ⟨by simp, e⟩
  refine ⟨?_, ?_, ?_⟩
  ·unfold Zy; split
   all_goals simp_all
  ·unfold Xd; split
   all_goals simp_all
  ·unfold zt; split
   all_goals simp_all
theorem xw {a : zh} (h0 : 0 < a.length) (h : a.getD 0 0 = 45) : a = 45 :: a.drop 1 ∧ Zy a = (Zw (a.drop 1) && !(a.drop 1 == [48])) ∧ Xd a = a.length - 1 ∧ zt a = -(zk (a.drop 1) : Int) := by
 match a, h0, h with
 | c :: r, _, h =>
  have hc : c = 45 := h
  subst hc
  exact ⟨rfl, rfl, rfl, rfl⟩
theorem tk {a : zh} (h0 : 0 < a.length) (h : a.getD 0 0 = 45) : Zy a = true ↔ 1 < a.length ∧ (∀ i, 1 ≤ i → i < a.length → Zm (a.getD i 0) = true) ∧ a.getD 1 0 ≠ 48 := by
 obtain ⟨e, hi, _, _⟩ := xw h0 h
 have hg : ∀ i, (a.drop 1).getD i 0 = a.getD (1 + i) 0 := fun i => by rw [List.getD_eq_getElem?_getD, List.getElem?_drop, ← List.getD_eq_getElem?_getD]
 have hl : (a.drop 1).length = a.length - 1 := List.length_drop
 rw [hi, Bool.and_eq_true, Wh, Bool.not_eq_true', hl]
 constructor
 ·rintro ⟨⟨h1, h2, h3⟩, h4⟩
  refine ⟨by omega, fun i hi1 hi2 => ?_, fun e48 => ?_⟩
  ·grind
  ·by_cases h5 : 1 < a.length - 1
   ·grind
   ·have h6 : (a.drop 1).length = 1 := by omega
    match hd : a.drop 1, h6 with
    | [c], _ =>
     grind
 grind
theorem P3 {a : zh} (h : Zy a = true) : Zt a = bif Nat.blt 300 (Xd a) then 4 else 0 := by unfold Zt; rw [h]; rfl
theorem Vr {a : zh} (h : ¬ Zy a = true) : Zt a = 11 := by unfold Zt; rw [Bool.eq_false_iff.2 h]; rfl
theorem X3 {x y : List Int} {z : Nat} : ∀ {n : Nat}, z ≤ n → (∀ i, z ≤ i → i < n → x.getD i 0 = y.getD i 0) → vz x y n = vz x y z
 | 0, h, _ => by rw [show z = 0 by omega]
 | n + 1, h, hh => by
  by_cases e : z = n + 1
  ·rw [e]
  ·have h1 := hh n (by omega) (by omega)
   show (bif x.getD n 0 != y.getD n 0 then x.getD n 0 - y.getD n 0 else vz x y n) = _
   rw [h1, bne_self_eq_false]
   exact X3 (n := n) (by omega) fun i h2 h3 => hh i h2 (by omega)
def ug (n : Int) : Int := bif zn n 0 then -1 else bif zn 0 n then 1 else 0
theorem rf {n : Int} (h : n < 0) : ug n = -1 := by unfold ug; rw [(zq _ _).2 h]; rfl
theorem rL {n : Int} (h : 0 < n) : ug n = 1 := by
 unfold ug
 rw [show zn n 0 = false by rw [Bool.eq_false_iff, Ne, zq]; omega, (zq _ _).2 h]; rfl
theorem oU {x y : List Int} (h : x.length ≠ y.length) : cmpL x y = (x.length : Int) - (y.length : Int) := by
 unfold cmpL
 rw [show Nat.beq x.length y.length = false from Bool.eq_false_iff.2 fun e => h (Nat.eq_of_beq_eq_true e)]; rfl
theorem cmpL_eq {x y : List Int} (h : x.length = y.length) : cmpL x y = vz x y x.length := by unfold cmpL; rw [h, Nat.beq_refl]; rfl
end Go.Ar
