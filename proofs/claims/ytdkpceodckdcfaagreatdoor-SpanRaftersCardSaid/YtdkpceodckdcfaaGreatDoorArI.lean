/- Reading digits into limbs, and writing limbs as digits. -/
import Derived.Test.YtdkpceodckdcfaaGreatDoorArA
set_option linter.unusedSimpArgs false
set_option linter.unusedVariables false
namespace Go.Ar
open Go Go.Sx Go.Lib
set_option maxRecDepth 100000
def padK (k x : Nat) : Str := List.replicate (k - (decDigits x).length) 48 ++ decDigits x
theorem decV_zeros : ∀ (k : Nat) (l : Str), decV (List.replicate k 48 ++ l) = decV l
 | 0, _ => rfl
 | k + 1, l => by
  rw [List.replicate_succ, List.cons_append, decV_cons, decV_zeros k l]
  show 0 * _ + _ = _
  rw [Nat.zero_mul, Nat.zero_add]
theorem padK_len {k x : Nat} (hk : 0 < k) (hx : x < 10 ^ k) : (padK k x).length = k := by
 have := (nDigits_le_iff hk).2 hx
 unfold padK
 rw [List.length_append, List.length_replicate, decDigits_length]
 omega
theorem padK_val (k x : Nat) : decV (padK k x) = x := by unfold padK; rw [decV_zeros, decV_decDigits]
theorem padK_dg (k x : Nat) : ∀ c ∈ padK k x, isDg c = true := fun c hc => by
 unfold padK at hc
 rcases List.mem_append.1 hc with hc | hc
 ·rw [List.eq_of_mem_replicate hc]; decide
 ·exact List.all_eq_true.1 (decDigits_all x) c hc
theorem decDigits_pad {k n x : Nat} (hk : 0 < k) (hn : n ≠ 0) (hx : x < 10 ^ k) : decDigits (n * 10 ^ k + x) = decDigits n ++ padK k x := by
 have hv : decV (decDigits n ++ padK k x) = n * 10 ^ k + x := by rw [decV_app, decV_decDigits, padK_val, padK_len hk hx]
 rw [← hv]
 refine decDigits_decV (digS_iff.2 ⟨?_, fun c hc => ?_, fun _ => ?_⟩)
 ·have := decDigits_pos n
  rw [List.length_append]; omega
 ·rcases List.mem_append.1 hc with hc | hc
  ·exact List.all_eq_true.1 (decDigits_all n) c hc
  ·exact padK_dg k x c hc
 ·rw [List.getD_eq_getElem?_getD, List.getElem?_append_left (decDigits_pos n), ← List.getD_eq_getElem?_getD]
  exact decDigits_head hn
def topN (b : Nat) (l : List Int) (i : Nat) : Nat := (valL b (l.drop i)).toNat
theorem topN_step {k : Nat} (hk : 0 < k) {l : List Int} (hl : InL (10 ^ k : Nat) l) {i : Nat} (hi : i < l.length) (h0 : topN (10 ^ k) l (i + 1) ≠ 0) :
  decDigits (topN (10 ^ k) l i) = decDigits (topN (10 ^ k) l (i + 1)) ++ padK k (l.getD i 0).toNat := by
 have h10 : 0 < 10 ^ k := Nat.pow_pos (by decide)
 have x1 := hl.get (by omega) i
 have v0 := valL_nonneg (b := ((10 ^ k : Nat) : Int)) (by omega) (hl.drop (i + 1))
 have e := valL_drop ((10 ^ k : Nat) : Int) hi
 have e2 : topN (10 ^ k) l i = topN (10 ^ k) l (i + 1) * 10 ^ k + (l.getD i 0).toNat := by
  unfold topN
  rw [e]
  generalize valL ((10 ^ k : Nat) : Int) (l.drop (i + 1)) = V at *
  obtain ⟨v, rfl⟩ : ∃ v : Nat, V = v := ⟨V.toNat, by omega⟩
  generalize l.getD i 0 = x at *
  obtain ⟨y, rfl⟩ : ∃ y : Nat, x = y := ⟨x.toNat, by omega⟩
  have : (y : Int) + ((10 ^ k : Nat) : Int) * (v : Int) = ((v * 10 ^ k + y : Nat) : Int) := by push_cast; rw [Int.mul_comm]; omega
  rw [this, Int.toNat_natCast, Int.toNat_natCast, Int.toNat_natCast]
 rw [e2]
 exact decDigits_pad hk h0 (by omega)
theorem topN_last {b : Nat} {l : List Int} (h : 0 < l.length) : topN b l (l.length - 1) = (l.getD (l.length - 1) 0).toNat := by
 unfold topN
 rw [valL_drop b (by omega), List.drop_of_length_le (by omega), valL_nil, Int.mul_zero, Int.add_zero]
theorem topN_pos {b : Nat} (hb : 2 ≤ b) {n : Nat} (hn : n ≠ 0) {i : Nat} (hi : i < (limbs b n).length) : topN b (limbs b n) i ≠ 0 := by
 obtain ⟨h1, h2⟩ := limbs_last hb hn
 have hin := limbs_in hb n
 unfold topN
 intro e
 have v0 := valL_nonneg (b := (b : Int)) (by omega) (hin.drop i)
 have hz : valL b ((limbs b n).drop i) = 0 := by omega
 have := limb_zero (b := (b : Int)) (by omega) (hin.drop i) (n := 0) (by rw [hz, Int.pow_zero]; decide) (i := (limbs b n).length - 1 - i) (Nat.zero_le _)
 rw [getD_drop'] at this
 rw [show i + ((limbs b n).length - 1 - i) = (limbs b n).length - 1 by omega] at this
 exact h2 this
structure RdZ (k : Nat) (r : Str) (z : Nat) (L : List Int) : Prop where
 le : z ≤ r.length
 len : L.length = (r.length + k - 1) / k
 in_ : InL (10 ^ k : Nat) L
 zero : ∀ i, z ≤ k * i → L.getD i 0 = 0
 part : L.getD (z / k) 0 < 10 ^ (z % k)
 val : valL (10 ^ k : Nat) L = (decV (r.drop (r.length - z)) : Int)
theorem RdZ.start {k : Nat} (hk : 0 < k) (r : Str) : RdZ k r 0 (List.replicate ((r.length + k - 1) / k) 0) := by
 have h10 : 0 < 10 ^ k := Nat.pow_pos (by decide)
 refine ⟨Nat.zero_le _, by simp, .zeros (by omega) _, fun i _ => getD_rep _ _, ?_, ?_⟩
 ·rw [getD_rep, Nat.zero_mod]; decide
 ·rw [valL_zeros, Nat.sub_zero, List.drop_of_length_le (Nat.le_refl _)]; rfl
theorem drop_consS {r : Str} {i : Nat} (h : i < r.length) : r.drop i = r.getD i 0 :: r.drop (i + 1) := by
 rw [List.drop_eq_getElem_cons h, List.getD_eq_getElem?_getD, List.getElem?_eq_getElem h]; rfl
theorem RdZ.step {k : Nat} (hk : 0 < k) {r : Str} (hr : ∀ c ∈ r, isDg c = true) {z : Nat} (hz : z < r.length) {L : List Int} (h : RdZ k r z L) :
  z / k < L.length ∧ RdZ k r (z + 1) (L.set (z / k) (L.getD (z / k) 0 + (dgV (r.getD (r.length - 1 - z) 0) : Int) * 10 ^ (z % k))) := by
 have h10 : 0 < 10 ^ k := Nat.pow_pos (by decide)
 have hi : r.length - 1 - z < r.length := by omega
 have hd : isDg (r.getD (r.length - 1 - z) 0) = true := by
  rw [List.getD_eq_getElem?_getD, List.getElem?_eq_getElem hi]
  exact hr _ (List.getElem_mem hi)
 have hv := dgV_lt hd
 have hdm := Nat.div_add_mod z k
 have hmod := Nat.mod_lt z hk
 have hlen : z / k < L.length := by
  rw [h.len]
  have : k * (z / k) < r.length := by omega
  have h2 : (k * (z / k) + k) / k ≤ (r.length + k - 1) / k := Nat.div_le_div_right (by omega)
  rw [Nat.add_div_right _ hk, Nat.mul_div_cancel_left _ hk] at h2
  omega
 have hp := h.part
 have hL := h.in_.get (by omega) (z / k)
 generalize hdd : dgV (r.getD (r.length - 1 - z) 0) = d at *
 have hp0 : (0 : Int) < 10 ^ (z % k) := Int.pow_pos (by decide)
 have hdp : (d : Int) * 10 ^ (z % k) ≤ 9 * 10 ^ (z % k) := Int.mul_le_mul_of_nonneg_right (by omega) (Int.le_of_lt hp0)
 have hdp0 : 0 ≤ (d : Int) * 10 ^ (z % k) := Int.mul_nonneg (by omega) (Int.le_of_lt hp0)
 have hnew : L.getD (z / k) 0 + (d : Int) * 10 ^ (z % k) < 10 ^ (z % k + 1) := by rw [Int.pow_succ]; omega
 have hle : (10 : Int) ^ (z % k + 1) ≤ ((10 ^ k : Nat) : Int) := by
  have : 10 ^ (z % k + 1) ≤ 10 ^ k := Nat.pow_le_pow_right (by decide) (by omega)
  exact_mod_cast this
 refine ⟨hlen, by omega, by rw [List.length_set]; exact h.len, h.in_.set (by omega) (by omega) _, fun i hzi => ?_, ?_, ?_⟩
 ·have hne : i ≠ z / k := fun e => by
   subst e
   omega
  rw [getD_setI _ _ _ _ hlen, if_neg hne]
  exact h.zero i (by omega)
 ·by_cases e : (z + 1) % k = 0
  ·have hz1 : k * ((z + 1) / k) = z + 1 := by have := Nat.div_add_mod (z + 1) k; omega
   have hne : (z + 1) / k ≠ z / k := fun e2 => by rw [e2] at hz1; omega
   rw [getD_setI _ _ _ _ hlen, if_neg hne, h.zero _ (by omega)]
   exact Int.pow_pos (by decide)
  ·have e1 : (z + 1) % k = z % k + 1 ∧ (z + 1) / k = z / k := by
    have h1 : z % k + 1 < k := by
     refine Nat.lt_of_le_of_ne (by omega) fun e2 => e ?_
     have : z + 1 = k * (z / k + 1) := by rw [Nat.mul_add, Nat.mul_one]; omega
     rw [this, Nat.mul_mod_right]
    have h2 : z + 1 = k * (z / k) + (z % k + 1) := by omega
    constructor
    ·rw [h2, Nat.mul_add_mod, Nat.mod_eq_of_lt h1]
    ·rw [h2, Nat.mul_add_div hk, Nat.div_eq_of_lt h1, Nat.add_zero]
   rw [e1.1, e1.2, getD_setI _ _ _ _ hlen, if_pos rfl]
   exact hnew
 ·rw [valL_set _ _ hlen, h.val, show r.length - (z + 1) = r.length - 1 - z by omega, drop_consS hi, decV_cons, show r.length - 1 - z + 1 = r.length - z by omega, hdd, List.length_drop, show r.length - (r.length - z) = z by omega]
  have e1 : ((10 ^ k : Nat) : Int) ^ (z / k) * (10 : Int) ^ (z % k) = 10 ^ z := by
   have : (10 ^ k) ^ (z / k) * 10 ^ (z % k) = 10 ^ z := by rw [← Nat.pow_mul, ← Nat.pow_add, hdm]
   exact_mod_cast this
  have e2 : ((10 ^ k : Nat) : Int) ^ (z / k) * (L.getD (z / k) 0 + (d : Int) * 10 ^ (z % k) - L.getD (z / k) 0) = (d : Int) * 10 ^ z := by
   rw [← e1, Int.mul_left_comm]
   congr 1
   omega
  rw [e2]
  push_cast
  omega
theorem RdZ.end_ {k : Nat} (hk : 0 < k) {r : Str} {L : List Int} (h : RdZ k r r.length L) : trimL L = limbs (10 ^ k) (decV r) := by
 have hv := h.val
 rw [Nat.sub_self, List.drop_zero] at hv
 have h2 : 2 ≤ 10 ^ k := by
  have : 10 ^ 1 ≤ 10 ^ k := Nat.pow_le_pow_right (by decide) hk
  omega
 rw [trim_eq h2 h.in_, hv, Int.toNat_natCast]
end Go.Ar

namespace Go.Ar
open Go Go.Sx Go.Lib
set_option maxRecDepth 100000
theorem limbs_len_mono {b m n : Nat} (hb : 2 ≤ b) (h : m ≤ n) : (limbs b m).length ≤ (limbs b n).length := by
 refine Decidable.byContradiction fun hn => ?_
 have := limbs_len_lt hb (m := n) (n := m) (by omega)
 omega
theorem limbs_nil {b n : Nat} (hb : 2 ≤ b) (h : (limbs b n).length = 0) : n = 0 := by
 refine Decidable.byContradiction fun h0 => ?_
 rw [limbs_pos hb h0] at h
 cases h
theorem gcd_step {x y : Nat} (h : y ≠ 0) : Nat.gcd x y = Nat.gcd y (x % y) := by
 rw [Nat.gcd_comm x y, Nat.gcd_rec y x, Nat.gcd_comm]
end Go.Ar

namespace Go.Ar
open Go Go.Sx Go.Lib
set_option maxRecDepth 100000
theorem getD_outI {l : List Int} {i : Nat} (h : l.length ≤ i) : l.getD i 0 = 0 := by rw [List.getD_eq_getElem?_getD, List.getElem?_eq_none h]; rfl
theorem getD_takeI {l : List Int} {i z : Nat} (h : i < z) : (l.take z).getD i 0 = l.getD i 0 := by
 rw [List.getD_eq_getElem?_getD, List.getElem?_take, if_pos h, ← List.getD_eq_getElem?_getD]
theorem dgc (c : UInt8) : (ltB (c.toNat : Int) 48 || ltB 57 (c.toNat : Int)) = !isDg c := by
 unfold isDg
 rw [Bool.eq_iff_iff, Bool.or_eq_true, ltB_iff, ltB_iff, Bool.not_eq_true', Bool.and_eq_false_iff]
 constructor
 ·rintro (h | h)
  ·exact .inl (Bool.eq_false_iff.2 fun e => by have := Nat.le_of_ble_eq_true e; omega)
  ·exact .inr (Bool.eq_false_iff.2 fun e => by have := Nat.le_of_ble_eq_true e; omega)
 ·rintro (h | h)
  ·exact .inl (by have : ¬ 48 ≤ c.toNat := fun e => by rw [Nat.ble_eq_true_of_le e] at h; cases h
                  omega)
  ·exact .inr (by have : ¬ c.toNat ≤ 57 := fun e => by rw [Nat.ble_eq_true_of_le e] at h; cases h
                  omega)
theorem byte_eq (c : UInt8) (n : Nat) (hn : n < 256) : ((c.toNat : Int) == (n : Int)) = (c == UInt8.ofNat n) := by
 rw [Bool.eq_iff_iff, beq_iff_eq, beq_iff_eq]
 constructor
 ·intro h
  have : c.toNat = n := by omega
  rw [← this, UInt8.ofNat_toNat]
 ·intro h
  subst h
  rw [UInt8.toNat_ofNat']
  omega
theorem digS_at {l : Str} : digS l = true ↔ 0 < l.length ∧ (∀ i, i < l.length → isDg (l.getD i 0) = true) ∧ (1 < l.length → l.getD 0 0 ≠ 48) := by
 rw [digS_iff]
 refine and_congr_right fun _ => and_congr_left fun _ => ⟨fun h i hi => ?_, fun h c hc => ?_⟩
 ·rw [List.getD_eq_getElem?_getD, List.getElem?_eq_getElem hi]
  exact h _ (List.getElem_mem hi)
 ·obtain ⟨i, hi, rfl⟩ := List.getElem_of_mem hc
  have := h i hi
  rwa [List.getD_eq_getElem?_getD, List.getElem?_eq_getElem hi] at this
theorem int_plain {a : Str} (h : ¬ (0 < a.length ∧ a.getD 0 0 = 45)) : intB a = digS a ∧ lenD a = a.length ∧ valI a = (decV a : Int) := by
 match a, h with
 | [], _ => exact ⟨rfl, rfl, rfl⟩
 | c :: r, h =>
  have hc : c ≠ 45 := fun e => h ⟨by simp, e⟩
  refine ⟨?_, ?_, ?_⟩
  ·unfold intB; split
   ·rename_i e; cases e; exact absurd rfl hc
   ·rfl
  ·unfold lenD; split
   ·rename_i e; cases e; exact absurd rfl hc
   ·rfl
  ·unfold valI; split
   ·rename_i e; cases e; exact absurd rfl hc
   ·rfl
theorem int_minus {a : Str} (h0 : 0 < a.length) (h : a.getD 0 0 = 45) : a = 45 :: a.drop 1 ∧ intB a = (digS (a.drop 1) && !(a.drop 1 == [48])) ∧ lenD a = a.length - 1 ∧ valI a = -(decV (a.drop 1) : Int) := by
 match a, h0, h with
 | c :: r, _, h =>
  have hc : c = 45 := h
  subst hc
  exact ⟨rfl, rfl, rfl, rfl⟩
theorem intB_minus {a : Str} (h0 : 0 < a.length) (h : a.getD 0 0 = 45) : intB a = true ↔ 1 < a.length ∧ (∀ i, 1 ≤ i → i < a.length → isDg (a.getD i 0) = true) ∧ a.getD 1 0 ≠ 48 := by
 obtain ⟨e, hi, _, _⟩ := int_minus h0 h
 have hg : ∀ i, (a.drop 1).getD i 0 = a.getD (1 + i) 0 := fun i => by rw [List.getD_eq_getElem?_getD, List.getElem?_drop, ← List.getD_eq_getElem?_getD]
 have hl : (a.drop 1).length = a.length - 1 := List.length_drop
 rw [hi, Bool.and_eq_true, digS_at, Bool.not_eq_true', hl]
 constructor
 ·rintro ⟨⟨h1, h2, h3⟩, h4⟩
  refine ⟨by omega, fun i hi1 hi2 => ?_, fun e48 => ?_⟩
  ·have := h2 (i - 1) (by omega)
   rw [hg] at this
   rwa [show 1 + (i - 1) = i by omega] at this
  ·by_cases h5 : 1 < a.length - 1
   ·have := h3 h5
    rw [hg] at this
    exact this e48
   ·have h6 : (a.drop 1).length = 1 := by omega
    match hd : a.drop 1, h6 with
    | [c], _ =>
     have h7 := hg 0
     rw [hd] at h7
     have h7 : c = a.getD 1 0 := h7
     rw [hd, h7, e48] at h4
     exact absurd h4 (by decide)
 ·rintro ⟨h1, h2, h3⟩
  refine ⟨⟨by omega, fun i hi => ?_, fun _ => ?_⟩, ?_⟩
  ·rw [hg]; exact h2 _ (by omega) (by omega)
  ·rw [hg]; exact h3
  ·rw [beq_eq_false_iff_ne]
   intro e2
   have h7 := hg 0
   rw [e2] at h7
   exact h3 h7.symm
theorem intE_of {a : Str} (h : intB a = true) : intE a = bif Nat.blt 300 (lenD a) then 4 else 0 := by unfold intE; rw [h]; rfl
theorem intE_not {a : Str} (h : ¬ intB a = true) : intE a = 11 := by unfold intE; rw [Bool.eq_false_iff.2 h]; rfl
theorem difL_skip {x y : List Int} {z : Nat} : ∀ {n : Nat}, z ≤ n → (∀ i, z ≤ i → i < n → x.getD i 0 = y.getD i 0) → difL x y n = difL x y z
 | 0, h, _ => by rw [show z = 0 by omega]
 | n + 1, h, hh => by
  by_cases e : z = n + 1
  ·rw [e]
  ·have h1 := hh n (by omega) (by omega)
   show (bif x.getD n 0 != y.getD n 0 then x.getD n 0 - y.getD n 0 else difL x y n) = _
   rw [h1, bne_self_eq_false]
   exact difL_skip (n := n) (by omega) fun i h2 h3 => hh i h2 (by omega)
def sgn (n : Int) : Int := bif ltB n 0 then -1 else bif ltB 0 n then 1 else 0
theorem sgn_neg {n : Int} (h : n < 0) : sgn n = -1 := by unfold sgn; rw [(ltB_iff _ _).2 h]; rfl
theorem sgn_pos {n : Int} (h : 0 < n) : sgn n = 1 := by
 unfold sgn
 rw [show ltB n 0 = false by rw [Bool.eq_false_iff, Ne, ltB_iff]; omega, (ltB_iff _ _).2 h]; rfl
theorem cmpL_ne {x y : List Int} (h : x.length ≠ y.length) : cmpL x y = (x.length : Int) - (y.length : Int) := by
 unfold cmpL
 rw [show Nat.beq x.length y.length = false from Bool.eq_false_iff.2 fun e => h (Nat.eq_of_beq_eq_true e)]; rfl
theorem cmpL_eq {x y : List Int} (h : x.length = y.length) : cmpL x y = difL x y x.length := by unfold cmpL; rw [h, Nat.beq_refl]; rfl
end Go.Ar
