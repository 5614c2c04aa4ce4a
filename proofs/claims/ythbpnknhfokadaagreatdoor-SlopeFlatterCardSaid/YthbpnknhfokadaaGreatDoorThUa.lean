/- surd: signs of surds that are far from 0. -/
import Derived.Test.YthbpnknhfokadaaGreatDoorThQk
import Derived.Test.YthbpnknhfokadaaGreatDoorArAC
import Derived.Test.YthbpnknhfokadaaGreatDoorThQi
import Derived.ChangeArms
import Derived.Lib.LaidTab
set_option linter.unusedSimpArgs false
set_option linter.unusedVariables false
namespace Go.Te
open Go Go.Sx Go.Proofs Go.Ar
set_option maxRecDepth 100000
set_option maxHeartbeats 4000000
theorem jR {x F : Rat} (h0 : 0 ≤ x) (hF : 0 ≤ F) (h : x * x ≤ F * F) : x ≤ F := (IB hF h).2
theorem jX {x F S η κ : Rat} (h0 : 0 ≤ x) (hη : 0 ≤ η) (h1 : F * F ≤ S) (h2 : S ≤ x * x + κ) (h3 : κ ≤ η * η) : F - η ≤ x := by
 refine Rat.not_lt.1 fun h => ?_
 have a := Rat.mul_nonneg (a := F - η - x) (b := F - η + x) (by grind) (by grind)
 have b := Rat.mul_nonneg (a := η) (b := F - η - x) hη (by grind)
 have c := Rat.mul_nonneg (a := η) (b := x) hη h0
 rcases Decidable.em (η = 0) with e | e
 ·subst e
  have d := Rat.mul_pos (a := F - 0 - x) (b := F - 0 - x) (by grind) (by grind)
  have d2 := Rat.mul_nonneg (a := F - 0 - x) (b := x) (by grind) h0
  grind
 ·have e0 : 0 < η := Rat.lt_of_le_of_ne hη (Ne.symm e)
  have d := Rat.mul_pos (a := η) (b := F - η - x) e0 (by grind)
  grind
theorem MM {R N : Nat} {ε η : Rat} {f : Nat → Rat} {t : Tm} (hf : gU N ε f) (hm : ZG RM t) (hn : ZG R t) (hR : R ≤ N) (h0 : t.c ≠ 0) {p : Nat} (hη : 0 ≤ η) (he : t.c * t.c * ε * (((10 ^ p : Nat) : Rat) * ((10 ^ p : Nat) : Rat)) ≤ η * η) :
  (uZ t p : Rat) - η ≤ tR f t * ((10 ^ p : Nat) : Rat) ∧ tR f t * ((10 ^ p : Nat) : Rat) ≤ (uZ t p : Rat) + 1 + η := by
 obtain ⟨a, b⟩ := mS hf hn hR
 have es : HR t = tC t := rfl
 rw [es] at a b
 have eK : ((10 ^ (2 * p) : Nat) : Rat) = ((10 ^ p : Nat) : Rat) * ((10 ^ p : Nat) : Rat) := by
  rw [← Rat.natCast_mul, ← Nat.pow_add, Nat.two_mul]
 have K0 : (0 : Rat) < ((10 ^ p : Nat) : Rat) := Rat.natCast_pos.2 (Nat.pow_pos (by decide))
 have KK := Rat.mul_pos K0 K0
 have F0 := hf.p0 (mQ t.q)
 have ev : tR f t = t.c * f (mQ t.q) := by unfold tR; rw [Sb hn]
 have a' := Rat.mul_le_mul_of_nonneg_right a (Rat.le_of_lt KK)
 have b' := Rat.mul_le_mul_of_nonneg_right b (Rat.le_of_lt KK)
 rcases Decidable.em (0 < t.c) with hc | hc
 ·obtain ⟨F, e, f1, f2⟩ := LW hm hc p
  rw [eK] at f1 f2
  rw [e, Rat.intCast_natCast]
  rw [Rat.natCast_add] at f2
  have v0 : 0 ≤ tR f t * ((10 ^ p : Nat) : Rat) := by rw [ev]; exact Rat.mul_nonneg (Rat.mul_nonneg (Rat.le_of_lt hc) F0) (Rat.le_of_lt K0)
  have n0 : (0 : Rat) ≤ (F : Rat) := Rat.natCast_nonneg
  generalize ((10 ^ p : Nat) : Rat) = K at *
  generalize (F : Rat) = x at *
  constructor
  ·refine jX v0 hη f1 (κ := t.c * t.c * ε * (K * K)) ?_ he
   grind
  ·have := jR (x := tR f t * K) (F := x + 1) v0 (by grind) (by
    have : ((1 : Nat) : Rat) = 1 := rfl
    rw [this] at f2
    grind)
   grind
 ·have hc' : t.c < 0 := Rat.lt_of_le_of_ne (Rat.not_lt.1 hc) h0
  obtain ⟨g, e, f1, f2⟩ := lL hm hc' p
  rw [eK] at f1 f2
  rw [e, Rat.intCast_neg, Rat.intCast_add, Rat.intCast_natCast]
  rw [Rat.natCast_add] at f2
  have v0 : 0 ≤ -(tR f t * ((10 ^ p : Nat) : Rat)) := by
   rw [ev]
   have := Rat.mul_nonneg (Rat.mul_nonneg (a := -t.c) (by grind) F0) (Rat.le_of_lt K0)
   grind
  have n0 : (0 : Rat) ≤ (g : Rat) := Rat.natCast_nonneg
  have one : ((1 : Int) : Rat) = 1 := rfl
  have one' : ((1 : Nat) : Rat) = 1 := rfl
  rw [one]
  rw [one'] at f2
  generalize ((10 ^ p : Nat) : Rat) = K at *
  generalize (g : Rat) = x at *
  constructor
  ·have := jR (x := -(tR f t * K)) (F := x + 1) v0 (by grind) (by grind)
   grind
  ·have := jX (x := -(tR f t * K)) (F := x) v0 hη f1 (κ := t.c * t.c * ε * (K * K)) (by grind) he
   grind
theorem T5 {f : Nat → Rat} {η K : Rat} {p : Nat} : ∀ {s : List Tm}, (∀ t ∈ s, (uZ t p : Rat) - η ≤ tR f t * K ∧ tR f t * K ≤ (uZ t p : Rat) + 1 + η) →
  (ZU s p : Rat) - (s.length : Rat) * η ≤ ev f s * K ∧ ev f s * K ≤ (ZU s p : Rat) + (s.length : Rat) + (s.length : Rat) * η
 | [], _ => by
  have e1 : (([] : List Tm).length : Rat) = 0 := rfl
  have e2 : ((ZU [] p : Int) : Rat) = 0 := rfl
  rw [YH, e1, e2]
  constructor <;> grind
 | t :: s, h => by
  obtain ⟨i1, i2⟩ := T5 (s := s) fun x hx => h x (List.mem_cons_of_mem _ hx)
  obtain ⟨h1, h2⟩ := h t List.mem_cons_self
  have e1 : (((t :: s).length : Nat) : Rat) = (s.length : Rat) + 1 := by rw [List.length_cons, Rat.natCast_add]; rfl
  have e2 : ((ZU (t :: s) p : Int) : Rat) = (uZ t p : Rat) + (ZU s p : Rat) := by
   rw [← Rat.intCast_add]
   unfold ZU
   rw [List.map_cons, List.sum_cons]
  have e3 : ev f (t :: s) = tR f t + ev f s := rfl
  rw [e1, e2, e3]
  constructor <;> grind
theorem UA {f : Nat → Rat} {s : List Tm} {p : Nat} (hl : s.length ≤ 16) (h : (ZU s p : Rat) - (s.length : Rat) * (1 / 100) ≤ ev f s * ((10 ^ p : Nat) : Rat) ∧ ev f s * ((10 ^ p : Nat) : Rat) ≤ (ZU s p : Rat) + (s.length : Rat) + (s.length : Rat) * (1 / 100)) :
  (Y6 s p ≠ 0 → Y6 s p = sg (ev f s)) ∧ (far 33 (ev f s * ((10 ^ p : Nat) : Rat)) → Y6 s p ≠ 0) := by
 obtain ⟨h1, h2⟩ := h
 have K0 : (0 : Rat) < ((10 ^ p : Nat) : Rat) := Rat.natCast_pos.2 (Nat.pow_pos (by decide))
 have l1 : (s.length : Rat) ≤ 16 := Rat.natCast_le_natCast.2 hl
 have l0 : (0 : Rat) ≤ (s.length : Rat) := Rat.natCast_nonneg
 have pos : 0 < ev f s * ((10 ^ p : Nat) : Rat) → 0 < ev f s := fun h => by
  refine Rat.not_le.1 fun h2 => ?_
  have := Rat.mul_nonneg (a := -ev f s) (by grind) (Rat.le_of_lt K0)
  grind
 have neg : ev f s * ((10 ^ p : Nat) : Rat) < 0 → ev f s < 0 := fun h => by
  refine Rat.not_le.1 fun h2 => ?_
  have := Rat.mul_nonneg h2 (Rat.le_of_lt K0)
  grind
 have iI : ∀ {a b : Int}, a ≤ b → (a : Rat) ≤ (b : Rat) := fun h => Rat.intCast_le_intCast.2 h
 unfold Y6 sg
 generalize ((10 ^ p : Nat) : Rat) = K at *
 split
 ·rename_i hp
  have hp : (1 : Rat) ≤ (ZU s p : Rat) := iI (show 1 ≤ ZU s p by omega)
  refine ⟨fun _ => ?_, fun _ => by decide⟩
  rw [if_pos (pos (by grind))]
 ·rename_i hp
  have hp : (ZU s p : Rat) ≤ 0 := iI (show ZU s p ≤ 0 by omega)
  split
  ·rename_i hq
   have hq : ((ZU s p + s.length : Int) : Rat) ≤ -1 := iI (show ZU s p + s.length ≤ -1 by omega)
   rw [Rat.intCast_add, Rat.intCast_natCast] at hq
   refine ⟨fun _ => ?_, fun _ => by decide⟩
   have := neg (by grind)
   rw [if_neg (Rat.not_lt.2 (Rat.le_of_lt this)), if_pos this]
  ·rename_i hq
   have hq : (0 : Rat) ≤ ((ZU s p + s.length : Int) : Rat) := iI (show 0 ≤ ZU s p + s.length by omega)
   rw [Rat.intCast_add, Rat.intCast_natCast] at hq
   refine ⟨fun h => absurd rfl h, fun h => ?_⟩
   exfalso
   rcases h with h | h <;> grind
abbrev sk : Nat := 10 ^ 130 * 10 ^ 130
theorem ju {c : Rat} {k : Nat} (h : c.num.natAbs ≤ k) : c * c ≤ (k : Rat) * (k : Rat) := by
 have hd : (1 : Rat) ≤ (c.den : Rat) := Rat.natCast_le_natCast.2 c.den_pos
 have e : c * (c.den : Rat) = (c.num : Rat) := by
  have h2 := Rat.mkRat_self c
  have hd : (c.den : Rat) ≠ 0 := fun e => c.den_nz (Rat.natCast_eq_zero_iff.1 e)
  rw [Rat.mkRat_eq_div] at h2
  generalize (c.num : Rat) = x at *
  generalize (c.den : Rat) = d at *
  rw [← h2]
  grind
 have e2 : (c.num : Rat) * (c.num : Rat) = ((c.num.natAbs * c.num.natAbs : Nat) : Rat) := by
  rw [← Rat.intCast_natCast, Int.natCast_mul, Int.natAbs_mul_self', Rat.intCast_mul]
 have e3 : ((c.num.natAbs * c.num.natAbs : Nat) : Rat) ≤ ((k * k : Nat) : Rat) := Rat.natCast_le_natCast.2 (Nat.mul_le_mul h h)
 rw [Rat.natCast_mul k] at e3
 rw [← e2, ← e] at e3
 have c0 := VN c
 have a := Rat.mul_le_mul_of_nonneg_left hd c0
 have b := Rat.mul_le_mul_of_nonneg_left hd (Rat.mul_nonneg c0 (Rat.le_trans (by decide : (0 : Rat) ≤ 1) hd))
 grind
theorem lK {N R k : Nat} {f : Nat → Rat} {s : List Tm} (hf : gU N (1 / (sk : Rat)) f) (hR : R ≤ N) (hRM : R ≤ RM) (hn : ∀ t ∈ s, ZG R t) (h0 : ∀ t ∈ s, t.c ≠ 0) (hb : ∀ t ∈ s, bq k t.c) (hk : k ≤ 39) (hl : s.length ≤ 16) (hs : 0 < s.length) {d : Rat} (hd : 33 ≤ d * ((10 ^ 64 : Nat) : Rat)) (hfar : far d (ev f s)) : gQ s ∧ xF s = sg (ev f s) := by
 have near : ∀ p : Nat, p ≤ 64 → (ZU s p : Rat) - (s.length : Rat) * (1 / 100) ≤ ev f s * ((10 ^ p : Nat) : Rat) ∧ ev f s * ((10 ^ p : Nat) : Rat) ≤ (ZU s p : Rat) + (s.length : Rat) + (s.length : Rat) * (1 / 100) := fun p hp => by
  refine T5 fun t ht => MM hf (sr (hn t ht) hRM) (hn t ht) hR (h0 t ht) (by decide +kernel) ?_
  have c1 := ju (k := 10 ^ 39) (Nat.le_of_lt (Nat.lt_of_lt_of_le (hb t ht).num (Nat.pow_le_pow_right (by decide) hk)))
  have p1 : ((10 ^ p : Nat) : Rat) ≤ ((10 ^ 64 : Nat) : Rat) := Rat.natCast_le_natCast.2 (Nat.pow_le_pow_right (by decide) hp)
  have p0 : (0 : Rat) ≤ ((10 ^ p : Nat) : Rat) := Rat.natCast_nonneg
  have q0 : (0 : Rat) ≤ ((10 ^ 64 : Nat) : Rat) := Rat.natCast_nonneg
  have e0 : (0 : Rat) ≤ 1 / (sk : Rat) := by decide +kernel
  have fin : ((10 ^ 39 : Nat) : Rat) * ((10 ^ 39 : Nat) : Rat) * (1 / (sk : Rat)) * (((10 ^ 64 : Nat) : Rat) * ((10 ^ 64 : Nat) : Rat)) ≤ 1 / 100 * (1 / 100) := by decide +kernel
  generalize ((10 ^ 39 : Nat) : Rat) = C at *
  generalize ((10 ^ 64 : Nat) : Rat) = K at *
  generalize ((10 ^ p : Nat) : Rat) = P at *
  generalize 1 / (sk : Rat) = ε at *
  have a1 := Rat.mul_le_mul_of_nonneg_right c1 e0
  have a2 := Rat.mul_le_mul_of_nonneg_right p1 p0
  have a3 := Rat.mul_le_mul_of_nonneg_left p1 q0
  have a4 : P * P ≤ K * K := by grind
  have b0 : 0 ≤ t.c * t.c * ε := Rat.mul_nonneg (VN _) e0
  have a5 := Rat.mul_le_mul_of_nonneg_left a4 b0
  have a6 := Rat.mul_le_mul_of_nonneg_right a1 (Rat.mul_nonneg q0 q0)
  exact Rat.le_trans a5 (Rat.le_trans a6 fin)
 obtain ⟨x1, _⟩ := UA hl (near 4 (by decide))
 obtain ⟨y1, _⟩ := UA hl (near 16 (by decide))
 obtain ⟨z1, z2⟩ := UA hl (near 64 (by decide))
 have z3 := z2 (by
  have q0 : (0 : Rat) ≤ ((10 ^ 64 : Nat) : Rat) := Rat.natCast_nonneg
  generalize ((10 ^ 64 : Nat) : Rat) = K at *
  rcases hfar with h | h
  ·exact .inl (by have := Rat.mul_le_mul_of_nonneg_right h q0; grind)
  ·exact .inr (by have := Rat.mul_le_mul_of_nonneg_right h q0; grind))
 have hv : xF s = sg (ev f s) ∧ xF s ≠ 0 := by
  unfold xF
  split
  ·split
   ·exact ⟨z1 z3, z3⟩
   ·rename_i h; exact ⟨y1 h, h⟩
  ·rename_i h; exact ⟨x1 h, h⟩
 have fl : ∀ t ∈ s, ∀ p : Int, 0 ≤ p ∧ p ≤ 64 → Qn t p := fun t ht p hp => by
  refine ⟨h0 t ht, (hb t ht).mono (by omega), sr (hn t ht) hRM, hp, ?_⟩
  unfold wI
  have hB := Nat.lt_of_lt_of_le (hb t ht).num (Nat.pow_le_pow_right (by decide : 0 < 10) hk)
  have a := Nat.mul_lt_mul'' hB hB
  have b : t.c.num.natAbs * t.c.num.natAbs * mQ t.q ≤ 10 ^ 39 * 10 ^ 39 * RM := Nat.mul_le_mul (Nat.le_of_lt a) (Nat.le_trans (hn t ht).mQ.2.2 hRM)
  have c : 10 ^ (2 * p.toNat) ≤ 10 ^ 128 := Nat.pow_le_pow_right (by decide) (by omega)
  exact Nat.lt_of_le_of_lt (Nat.mul_le_mul b c) (by decide)
 exact ⟨⟨hs, hl, fun t ht => fl t ht 4 (by decide), fun _ t ht => fl t ht 16 (by decide), fun _ _ t ht => fl t ht 64 (by decide), hv.2⟩, hv.1⟩
end Go.Te

namespace Go.Te
open Go Go.Sx Go.Proofs Go.Ar
set_option maxRecDepth 100000
set_option maxHeartbeats 4000000
structure On (P : Rat) : Prop where
 pos : 0 < P
 num : P.num.natAbs < 10 ^ 8
 den : P.den < 10 ^ 8
 nr : (nrm (mQ P)).2 ≤ RM
theorem UH {n d : Nat} (hn : 0 < n) (hd : 0 < d) : ∃ g, 0 < g ∧ (mkRat (n : Int) d).num.toNat * g = n ∧ (mkRat (n : Int) d).den * g = d ∧ (mkRat (n : Int) d).num.natAbs = (mkRat (n : Int) d).num.toNat ∧ 0 < mkRat (n : Int) d := by
 have hg : 0 < Nat.gcd d n := Nat.gcd_pos_of_pos_left _ hd
 have h1 : (mkRat (n : Int) d).num = ((n / Nat.gcd d n : Nat) : Int) := by
  rw [Rat.num_mkRat, if_neg (by omega), Int.natAbs_natCast, Int.natCast_ediv]
 have h2 : (mkRat (n : Int) d).den = d / Nat.gcd d n := by
  rw [Rat.den_mkRat, if_neg (by omega), Int.natAbs_natCast]
 refine ⟨Nat.gcd d n, hg, ?_, ?_, ?_, ?_⟩
 ·rw [h1, Int.toNat_natCast]
  exact Nat.div_mul_cancel (Nat.gcd_dvd_right _ _)
 ·rw [h2]
  exact Nat.div_mul_cancel (Nat.gcd_dvd_left _ _)
 ·rw [h1, Int.natAbs_natCast, Int.toNat_natCast]
 ·rw [Rat.mkRat_eq_div, Rat.div_def, Rat.intCast_natCast]
  exact Rat.mul_pos (Rat.natCast_pos.2 hn) (Rat.inv_pos.2 (Rat.natCast_pos.2 hd))
theorem Jj {a b : Nat} (ha : 0 < a ∧ a ≤ 48) (hb : 0 < b ∧ b ≤ 48) : 0 < a * b * (a * b) ∧ a * b * (a * b) ≤ 5308416 :=
 ⟨Nat.mul_pos (Nat.mul_pos ha.1 hb.1) (Nat.mul_pos ha.1 hb.1), Nat.mul_le_mul (Nat.mul_le_mul ha.2 hb.2) (Nat.mul_le_mul ha.2 hb.2)⟩
theorem uF {x g n : Nat} (hg : 0 < g) (h : x * g = n) : x ≤ n := by rw [← h]; exact Nat.le_mul_of_pos_right _ hg
theorem Rj {X a b : Nat} (hX : 0 < X ∧ X ≤ 21233664) (ha : 0 < a ∧ a ≤ 48) (hb : 0 < b ∧ b ≤ 48) : On (mkRat (X : Int) (a * b * (a * b))) := by
 have hab := Jj ha hb
 obtain ⟨g, g0, g1, g2, g3, g4⟩ := UH hX.1 hab.1
 have p0 : 0 < (mkRat (X : Int) (a * b * (a * b))).num.toNat := Nat.pos_of_ne_zero fun e => by rw [e] at g1; omega
 obtain ⟨s, s0, s1, _⟩ := mc ha hb p0 g1 g2
 have l1 := uF g0 g1
 have l2 := uF g0 g2
 refine ⟨g4, by rw [g3]; omega, by omega, ?_⟩
 have : 1 * (nrm (mQ (mkRat (X : Int) (a * b * (a * b))))).2 ≤ s * s * (nrm (mQ (mkRat (X : Int) (a * b * (a * b))))).2 := Nat.mul_le_mul_right _ (Nat.mul_pos s0 s0)
 unfold mQ at this ⊢
 rw [s1] at this
 have e : RM = 99999999 := rfl
 omega
theorem so {X a b : Nat} (hX : 0 < X ∧ X ≤ 21233664) (ha : 0 < a ∧ a ≤ 48) (hb : 0 < b ∧ b ≤ 48) : On (mkRat ((a * b * (a * b) : Nat) : Int) X) := by
 have hab := Jj ha hb
 obtain ⟨g, g0, g1, g2, g3, g4⟩ := UH hab.1 hX.1
 obtain ⟨s, s0, s1, _⟩ := oe ha hb (Rat.den_pos _) g1 g2
 have l1 := uF g0 g1
 have l2 := uF g0 g2
 refine ⟨g4, by rw [g3]; omega, by omega, ?_⟩
 have : 1 * (nrm (mQ (mkRat ((a * b * (a * b) : Nat) : Int) X))).2 ≤ s * s * (nrm (mQ (mkRat ((a * b * (a * b) : Nat) : Int) X))).2 := Nat.mul_le_mul_right _ (Nat.mul_pos s0 s0)
 unfold mQ at this ⊢
 rw [s1] at this
 have e : RM = 99999999 := rfl
 omega
theorem On.m {P : Rat} (h : On P) : mQ P < 10 ^ 16 := by
 unfold mQ
 have a : P.num.toNat < 10 ^ 8 := by have := h.num; omega
 exact Nat.lt_of_lt_of_le (Nat.mul_lt_mul'' a h.den) (by decide)
theorem Ja {P : Rat} (h : On P) : inT RM [⟨1, P⟩] := fun t ht => by
 rw [List.mem_singleton.1 ht]
 exact ⟨Rat.le_of_lt h.pos, h.nr⟩
theorem Vh {P : Rat} (h : On P) : Vw [⟨1, P⟩] := by
 have hi := Ja h
 have h0 : P ≠ 0 := Rat.ne_of_gt h.pos
 have e1 : xY [⟨1, P⟩] = [XP ⟨1, P⟩] := by
  unfold xY
  rw [List.filter_cons, if_pos (by rw [decide_eq_true (show (⟨1, P⟩ : Tm).q ≠ 0 from h0)]; rfl), List.filter_nil]
  rfl
 refine ⟨show 1 ≤ 256 by decide, fun t ht => ?_, fun t ht _ => ?_, hi, fun k => ?_, Nat.le_trans (UE (by decide) hi).2.1 (show 1 ≤ 16 by decide)⟩
 ·rw [List.mem_singleton.1 ht]
  exact (⟨by decide +kernel, by decide +kernel⟩ : bq 60 (1 : Rat))
 ·rw [List.mem_singleton.1 ht]
  show lP (zW P)
  have b1 : bq 8 P := ⟨h.num, h.den⟩
  refine ⟨(Zh (by decide) (by decide)).2 (b1.mono (by decide)), ?_, ?_⟩
  ·rw [zS]; exact h.pos
  ·rw [zS]
   have a1 : XZ P.num ≤ 8 := xf (by decide) b1.num
   have a2 : Lib.nDigits P.den ≤ 8 := (Zw (by decide)).2 b1.den
   omega
 ·intro x hx
  match k with
  | 0 => exact absurd hx (by rw [List.take_zero]; intro h; cases h)
  | k + 1 =>
   rw [List.take_succ_cons, List.take_nil, e1] at hx
   rw [List.mem_singleton.1 (show x ∈ [XP ⟨1, P⟩] from hx)]
   show bq 60 (1 * mkRat (nrm (mQ P)).1 P.den)
   rw [Rat.one_mul]
   have a := (Uu (tM h.pos)).2.2
   have b := h.m
   refine (UN (k := 17) P.den_pos (by rw [Int.natAbs_natCast]; omega) ?_).mono (by decide)
   have := h.den
   omega
theorem Rr {P : Rat} (h : On P) : ∃ u : Tm, YQ [⟨1, P⟩] = [u] ∧ ZG RM u ∧ nrm (mQ u.q) = (1, mQ u.q) ∧ 0 < u.c ∧ tC u = P ∧ bq 8 u.c ∧ ∃ k : Nat, u.c = mkRat k P.den ∧ k < 10 ^ 8 := by
 obtain ⟨u, e, hu, nu, cu, su, k, hk, kb⟩ := (nF (Rat.le_of_lt h.pos) h.nr).2 (Rat.ne_of_gt h.pos)
 have hm := h.m
 have kk : k < 10 ^ 8 := xj (by rw [← Nat.pow_add]; omega)
 exact ⟨u, e, hu, nu, cu, su, by rw [hk]; exact UN P.den_pos (by rw [Int.natAbs_natCast]; exact kk) h.den, k, hk, kk⟩
theorem IP {u : Tm} (hu : ZG RM u) (cu : 0 < u.c) (bu : bq 10 u.c) (bP : bq 60 (tC u)) : Vw (y7 [u] [u]) ∧ YQ (y7 [u] [u]) = [⟨tC u, 1⟩] := by
 obtain ⟨q1, m0, m1⟩ := hu.mQ
 obtain ⟨a1, a2⟩ := Kr hu hu
 have en : nrm (mQ (Xo u u).q) = (mQ u.q, 1) := by rw [a2]; exact Jl m0 (Nat.lt_of_le_of_lt (Nat.mul_le_mul m1 m1) (by decide))
 have ex : XP (Xo u u) = ⟨tC u, 1⟩ := by
  unfold XP
  rw [en]
  have e1 : (Xo u u).q.den = 1 := by rw [a1.mQ.1]; rfl
  have e2 : (Xo u u).c * mkRat ((mQ u.q : Nat) : Int) 1 = tC u := by
   rw [Rat.mkRat_eq_div, Rat.intCast_natCast, ← q1]
   show u.c * u.c * (u.q / ((1 : Nat) : Rat)) = u.c * u.c * u.q
   rw [show ((1 : Nat) : Rat) = 1 from rfl]
   grind
  simp only [e1, e2]
  rfl
 have hc : (Xo u u).c ≠ 0 := fun e => by
  rcases Rat.mul_eq_zero.1 (show u.c * u.c = 0 from e) with e | e <;> exact absurd e (Rat.ne_of_gt cu)
 have hq : (Xo u u).q ≠ 0 := fun e => by
  have := a1.mQ.2.1
  rw [e] at this
  exact absurd this (by decide +kernel)
 have h0 : tC u ≠ 0 := Rat.ne_of_gt (Rat.mul_pos (Rat.mul_pos cu cu) (by rw [q1]; exact Rat.natCast_pos.2 m0))
 have e1 : xY [Xo u u] = [⟨tC u, 1⟩] := by
  unfold xY
  rw [List.filter_cons, if_pos (by rw [decide_eq_true hc, decide_eq_true hq]; rfl), List.filter_nil, List.map_cons, List.map_nil, ex]
 have e2 : YQ [Xo u u] = [⟨tC u, 1⟩] := by
  unfold YQ Y7
  rw [e1]
  show Wq (([⟨tC u, 1⟩] : List Tm).filter _) = _
  rw [List.filter_cons, if_pos (by simpa using h0), List.filter_nil]
  rfl
 show Vw [Xo u u] ∧ YQ [Xo u u] = _
 have hin : inT RM [Xo u u] := fun t ht => by
  rw [List.mem_singleton.1 ht]
  exact ⟨(rS a1).1, by rw [en]; exact (show 1 ≤ RM by decide)⟩
 refine ⟨⟨show 1 ≤ 256 by decide, fun t ht => ?_, fun t ht _ => ?_, hin, fun k => ?_, by rw [e2]; exact (show 1 ≤ 16 by decide)⟩, e2⟩
 ·rw [List.mem_singleton.1 ht]
  exact (Sl bu bu).mono (by decide)
 ·rw [List.mem_singleton.1 ht]
  have mm : mQ u.q * mQ u.q < 10 ^ 16 := Nat.lt_of_le_of_lt (Nat.mul_le_mul m1 m1) (by decide)
  have eq : (Xo u u).q = ((mQ u.q * mQ u.q : Nat) : Rat) := by rw [a1.mQ.1, a2]
  generalize mQ u.q * mQ u.q = r at *
  have b1 : bq 16 (Xo u u).q := by
   rw [eq]
   exact ⟨by rw [Rat.num_natCast, Int.natAbs_natCast]; exact mm, by rw [Rat.den_natCast]; decide⟩
  refine ⟨(Zh (by decide) (by decide)).2 (b1.mono (by decide)), ?_, ?_⟩
  ·rw [zS]
   exact Rat.lt_of_le_of_ne (rS a1).1 (Ne.symm hq)
  ·rw [zS]
   have c1 : XZ (Xo u u).q.num ≤ 16 := xf (by decide) b1.num
   have c2 : Lib.nDigits (Xo u u).q.den ≤ 1 := (Zw (by decide)).2 (by rw [eq, Rat.den_natCast]; decide)
   omega
 ·intro x hx
  match k with
  | 0 => exact absurd hx (by rw [List.take_zero]; intro h; cases h)
  | k + 1 =>
   rw [List.take_succ_cons, List.take_nil, e1] at hx
   rw [List.mem_singleton.1 (show x ∈ [(⟨tC u, 1⟩ : Tm)] from hx)]
   exact bP
structure oneG (P : Rat) (s : List Tm) : Prop where
 made : Vw [⟨1, P⟩]
 ok : Xl s
 sqm : Vw (y7 s s)
 sq : YQ (y7 s s) = [⟨P, 1⟩]
 oks : Xl (YQ (y7 s s))
theorem Pa {P : Rat} (h : On P) : oneG P (YQ [⟨1, P⟩]) := by
 obtain ⟨u, e, hu, nu, cu, su, bu, _⟩ := Rr h
 have bP : bq 60 P := ⟨Nat.lt_of_lt_of_le h.num (by decide), Nat.lt_of_lt_of_le h.den (by decide)⟩
 have := IP hu cu (bu.mono (by decide)) (su ▸ bP)
 rw [su, ← e] at this
 exact ⟨Vh h, lV (Vh h), this.1, this.2, lV this.1⟩
theorem KM {P : Rat} (h : On P) : Nq (YQ [⟨1, P⟩]) ∧ xF (YQ [⟨1, P⟩]) = 1 := by
 obtain ⟨u, e, hu, nu, cu, su, bu, _⟩ := Rr h
 obtain ⟨f, hf⟩ := Jd RM sk (by decide) (by decide)
 obtain ⟨a, b⟩ := mS hf hu (Nat.le_refl _)
 have F0 : 0 ≤ tR f u := by
  unfold tR
  rw [Sb hu]
  exact Rat.mul_nonneg (Rat.le_of_lt cu) (hf.p0 _)
 have ee : ev f [u] = tR f u := by
  show u.c * fQ f u.q + 0 = _
  unfold tR; grind
 have hP : 1 / ((10 ^ 8 : Nat) : Rat) ≤ P := by
  have hd : (0 : Rat) < (P.den : Rat) := Rat.natCast_pos.2 P.den_pos
  have hn : (1 : Rat) ≤ P * (P.den : Rat) := by
   have h2 := Rat.mkRat_self P
   have hd0 : (P.den : Rat) ≠ 0 := Rat.ne_of_gt hd
   rw [Rat.mkRat_eq_div] at h2
   have h3 : (P.num : Rat) = P * (P.den : Rat) := by
    generalize (P.num : Rat) = x at *
    generalize (P.den : Rat) = d at *
    rw [← h2]
    grind
   rw [← h3]
   have : 0 < P.num := by
    have := Rat.num_nonneg.2 (Rat.le_of_lt h.pos)
    have h2 : P.num ≠ 0 := fun e => (Rat.ne_of_gt h.pos) (Rat.num_eq_zero.1 e)
    omega
   exact Rat.intCast_le_intCast.2 (show 1 ≤ P.num by omega)
  have hD : (P.den : Rat) ≤ ((10 ^ 8 : Nat) : Rat) := Rat.natCast_le_natCast.2 (Nat.le_of_lt h.den)
  have h8 : (0 : Rat) < ((10 ^ 8 : Nat) : Rat) := by decide +kernel
  refine VZ h8 ?_
  have := Rat.mul_le_mul_of_nonneg_left hD (Rat.le_of_lt h.pos)
  have e8 : 1 / ((10 ^ 8 : Nat) : Rat) * ((10 ^ 8 : Nat) : Rat) = 1 := by decide +kernel
  rw [e8]
  exact Rat.le_trans hn this
 have es : HR u = P := su
 have hc : u.c * u.c ≤ ((10 ^ 8 : Nat) : Rat) * ((10 ^ 8 : Nat) : Rat) := ju (Nat.le_of_lt bu.num)
 have e0 : (0 : Rat) ≤ 1 / (sk : Rat) := by decide +kernel
 have hk := Rat.mul_le_mul_of_nonneg_right hc e0
 have fin : 1 / ((10 ^ 5 : Nat) : Rat) * (1 / ((10 ^ 5 : Nat) : Rat)) + ((10 ^ 8 : Nat) : Rat) * ((10 ^ 8 : Nat) : Rat) * (1 / (sk : Rat)) < 1 / ((10 ^ 8 : Nat) : Rat) := by decide +kernel
 have d0 : (0 : Rat) ≤ 1 / ((10 ^ 5 : Nat) : Rat) := by decide +kernel
 have hfar : 1 / ((10 ^ 5 : Nat) : Rat) ≤ tR f u := by
  refine Rat.not_lt.1 fun hl => ?_
  rw [es] at b
  generalize 1 / ((10 ^ 5 : Nat) : Rat) = d at *
  generalize ((10 ^ 8 : Nat) : Rat) * ((10 ^ 8 : Nat) : Rat) * (1 / (sk : Rat)) = K at *
  generalize 1 / ((10 ^ 8 : Nat) : Rat) = g at *
  generalize u.c * u.c * (1 / (sk : Rat)) = k at *
  generalize tR f u = v at *
  have := Rat.mul_nonneg (a := d - v) (b := d + v) (by grind) (by grind)
  grind
 rw [e]
 have h1 : ∀ t ∈ [u], t = u := fun t ht => List.mem_singleton.1 ht
 obtain ⟨s1, s2⟩ := lK (s := [u]) hf (Nat.le_refl _) (Nat.le_refl _) (fun t ht => by rw [h1 t ht]; exact hu) (fun t ht => by rw [h1 t ht]; exact Rat.ne_of_gt cu) (fun t ht => by rw [h1 t ht]; exact bu) (by decide) (show 1 ≤ 16 by decide) (show 0 < 1 by decide) (d := 1 / ((10 ^ 5 : Nat) : Rat)) (by decide +kernel) (.inl (by rw [ee]; exact hfar))
 refine ⟨⟨.inr s1⟩, ?_⟩
 rw [s2, ee]
 unfold sg
 rw [if_pos (by
  have : (0 : Rat) < 1 / ((10 ^ 5 : Nat) : Rat) := by decide +kernel
  grind)]
end Go.Te

namespace Go.Te
open Go Go.Sx Go.Proofs Go.Ar
set_option maxRecDepth 100000
set_option maxHeartbeats 4000000
structure W0 (p : zj) : Prop where
 ok : YZ 140 p
 pos : 0 < zo p
theorem W0.not0 {p : zj} (h : W0 p) : (p == [48]) = false := by
 rw [← qY h.ok.1, x4]
 exact decide_eq_false (Rat.ne_of_gt h.pos)
def SN : List AV → Option (List zN × AV)
 | [.str p] => some ([.p (W0 p)], .i 0)
 | _ => none
theorem Lz (G : List (Nat × Obj)) (p : List UInt8) (hp : W0 p) :
 let q2 := (ByteArray.data (ByteArray.mk #[(48 : UInt8)])); let q1 := (p == Array.toList q2); Zy [AV.str p] → YZ 300 p ∧ bF (!zr false q1 || zr false q1) (bF (!zr false q1 || bA #[(45 : UInt8)] == [(45 : UInt8)]) ((zr false q1 = true → zk p = false) ∧ bF (!!p == Array.toList q2 || zr false q1) (zZ (bif p == Array.toList q2 then true else false) (kI ∧ (2 : Int) = iZ) (kI ∧ iZ = iZ)))) := by
 delta bF bA kI iZ
 dsimp only
 intro hb
 simp only [sS, Zu, za, zS, zF, Zz, ZC, Zr, Za, ZP, Z1, ZN, Zu, za, zS, zF, Zz, ZC, Zr, Za, ZP, Z1, ZN, xm, YU, dS]
 rw [hp.not0]
 exact ⟨hp.ok.mono (by decide), fun _ => um hp.ok.1 (Rat.le_of_lt hp.pos), trivial⟩
theorem Ii {G : List (Nat × Obj)} (hG : zO G) (p : List UInt8) (hp : W0 p) : zu Tryz.prog G 65 [.str p] (.i 0) :=
 zv (T := ((Xh G).plus 43 ua).plus 44 uc) (an := .auto) mixed (zz.plus (zz.plus zq (SC hG)) (zP.mono Pi)) (Eq.mp (by kernel_rfl) (Lz G p hp))
theorem ML {G : List (Nat × Obj)} (hG : zO G) : zP Tryz.prog G 65 SN := by
 intro xs ps r h hp
 unfold SN at h
 split at h
 ·skip
  rename_i p
  cases h
  obtain ⟨q0, -⟩ := Zo hp
  exact weaken (ys := [.str p]) ⟨zV _, trivial⟩ (Ii hG p q0)
 ·cases h
def Ks : AV → Bool
 | .v (.int .i64 0) => true
 | _ => false
theorem wL {x : AV} (h : Ks x = true) : zd x (.i 0) := by
 unfold Ks at h
 split at h
 ·exact zV _
 ·cases h
def Qw : List AV → Option (List zN × AV)
 | [.xq 1 c_s 0, .str a, .str b] => some ([.b (Ks (c_s 0)), .p (YM 140 a b)], .str (zW (zo a + zo b)))
 | _ => none
theorem KE (G : List (Nat × Obj)) (a : List UInt8) (b : List UInt8) (h : YM 140 a b) :
 Zy [AV.xq 1 (fun (x : Nat) => aI iZ) 0, AV.str a, AV.str b] → YM 140 a b ∧ zW (zo a + zo b) = zW (zo a + zo b) := by
 delta iZ aI
 intro hb
 simp only [sS, Zu, za, zS, zF, Zz, ZC, Zr, Za, ZP, Z1, ZN, Zu, za, zS, zF, Zz, ZC, Zr, Za, ZP, Z1, ZN, xm, YU, dS]
 exact h
theorem IW {G : List (Nat × Obj)} (hG : zO G) (a : List UInt8) (b : List UInt8) (h : YM 140 a b) : zu Tryz.prog G 53 [.xq 1 (fun _ => .i 0) 0, .str a, .str b] (.str (zW (zo a + zo b))) :=
 zv (T := ((Xh G).plus 30 sj).body Tryz.prog [(89, .auto)]) (an := .auto) mixed (zz.body mixed (zz.plus zq (Qh hG)) _) (Eq.mp (by kernel_rfl) (KE G a b h))
theorem Ju {G : List (Nat × Obj)} (hG : zO G) : zP Tryz.prog G 53 Qw := by
 intro xs ps r h hp
 unfold Qw at h
 split at h
 ·skip
  rename_i c_s a b
  cases h
  obtain ⟨q0, q1, -⟩ := Zo hp
  exact weaken (ys := [.xq 1 (fun _ => .i 0) 0, .str a, .str b]) ⟨⟨rfl, rfl, wL q0⟩, zV _, zV _, trivial⟩ (IW hG a b q1)
 ·cases h
def SH : List AV → Option (List zN × AV)
 | [.xq 1 c_s 0, .str a, .str b] => some ([.b (Ks (c_s 0)), .p (YM 140 a b)], .str (zW (zo a * zo b)))
 | _ => none
theorem LX (G : List (Nat × Obj)) (a : List UInt8) (b : List UInt8) (h : YM 140 a b) :
 Zy [AV.xq 1 (fun (x : Nat) => aI iZ) 0, AV.str a, AV.str b] → YM 140 a b ∧ zW (zo a * zo b) = zW (zo a * zo b) := by
 delta iZ aI
 intro hb
 simp only [sS, Zu, za, zS, zF, Zz, ZC, Zr, Za, ZP, Z1, ZN, Zu, za, zS, zF, Zz, ZC, Zr, Za, ZP, Z1, ZN, xm, YU, dS]
 exact h
theorem JS {G : List (Nat × Obj)} (hG : zO G) (a : List UInt8) (b : List UInt8) (h : YM 140 a b) : zu Tryz.prog G 90 [.xq 1 (fun _ => .i 0) 0, .str a, .str b] (.str (zW (zo a * zo b))) :=
 zv (T := ((Xh G).plus 40 vS).body Tryz.prog [(89, .auto)]) (an := .auto) mixed (zz.body mixed (zz.plus zq (Ve hG)) _) (Eq.mp (by kernel_rfl) (LX G a b h))
theorem lW {G : List (Nat × Obj)} (hG : zO G) : zP Tryz.prog G 90 SH := by
 intro xs ps r h hp
 unfold SH at h
 split at h
 ·skip
  rename_i c_s a b
  cases h
  obtain ⟨q0, q1, -⟩ := Zo hp
  exact weaken (ys := [.xq 1 (fun _ => .i 0) 0, .str a, .str b]) ⟨⟨rfl, rfl, wL q0⟩, zV _, zV _, trivial⟩ (JS hG a b q1)
 ·cases h
def px : List AV → Option (List zN × AV)
 | [.xq 1 c_s 0, .str a, .str b] => some ([.b (Ks (c_s 0)), .p (X6 a b)], .str (zW (zo a / zo b)))
 | _ => none
theorem KP (G : List (Nat × Obj)) (a : List UInt8) (b : List UInt8) (h : X6 a b) :
 Zy [AV.xq 1 (fun (x : Nat) => aI iZ) 0, AV.str a, AV.str b] → X6 a b ∧ zW (zo a / zo b) = zW (zo a / zo b) := by
 delta iZ aI
 intro hb
 simp only [sS, Zu, za, zS, zF, Zz, ZC, Zr, Za, ZP, Z1, ZN, Zu, za, zS, zF, Zz, ZC, Zr, Za, ZP, Z1, ZN, xm, YU, dS]
 exact h
theorem JB {G : List (Nat × Obj)} (hG : zO G) (a : List UInt8) (b : List UInt8) (h : X6 a b) : zu Tryz.prog G 52 [.xq 1 (fun _ => .i 0) 0, .str a, .str b] (.str (zW (zo a / zo b))) :=
 zv (T := ((Xh G).plus 66 SU).body Tryz.prog [(89, .auto)]) (an := .auto) mixed (zz.body mixed (zz.plus zq (QE hG)) _) (Eq.mp (by kernel_rfl) (KP G a b h))
theorem ib {G : List (Nat × Obj)} (hG : zO G) : zP Tryz.prog G 52 px := by
 intro xs ps r h hp
 unfold px at h
 split at h
 ·skip
  rename_i c_s a b
  cases h
  obtain ⟨q0, q1, -⟩ := Zo hp
  exact weaken (ys := [.xq 1 (fun _ => .i 0) 0, .str a, .str b]) ⟨⟨rfl, rfl, wL q0⟩, zV _, zV _, trivial⟩ (JB hG a b q1)
 ·cases h
noncomputable def Hn (G : List (Nat × Obj)) : Tb := (((Xh G).plus 53 Qw).plus 90 SH).plus 52 px
theorem WI {G : List (Nat × Obj)} (hG : zO G) : zz Tryz.prog (Hn G) := zz.plus (zz.plus (zz.plus zq (Ju hG)) (lW hG)) (ib hG)
theorem V6 : zo [49] = 1 := by decide +kernel
def QI : List AV → Option (List zN × AV)
 | [.xq 1 c_s 0, .str p, .str q] => some ([.b (Ks (c_s 0)), .p (YM 140 [49] p)], .str (zW (1 + zo p)))
 | _ => none
theorem kp (G : List (Nat × Obj)) (p : List UInt8) (q : List UInt8) (h1 : YM 140 [49] p) :
 let q1 := (bA #[(49 : UInt8)]); Zy [AV.xq 1 (fun (x : Nat) => aI iZ) 0, AV.str p, AV.str q] → YM 140 q1 p ∧ zW (zo q1 + zo p) = zW ((1 : Rat) + zo p) := by
 delta bA iZ aI
 dsimp only
 intro hb
 simp only [sS, Zu, za, zS, zF, Zz, ZC, Zr, Za, ZP, Z1, ZN, Zu, za, zS, zF, Zz, ZC, Zr, Za, ZP, Z1, ZN, xm, YU, dS, V6]
 exact h1
theorem Je {G : List (Nat × Obj)} (hG : zO G) (p : List UInt8) (q : List UInt8) (h1 : YM 140 [49] p) : zu Tryz.prog G 70 [.xq 1 (fun _ => .i 0) 0, .str p, .str q] (.str (zW (1 + zo p))) :=
 zv (T := Hn G) (an := .auto) mixed (WI hG) (Eq.mp (by kernel_rfl) (kp G p q h1))
theorem Jy {G : List (Nat × Obj)} (hG : zO G) : zP Tryz.prog G 70 QI := by
 intro xs ps r h hp
 unfold QI at h
 split at h
 ·skip
  rename_i c_s p q
  cases h
  obtain ⟨q0, q1, -⟩ := Zo hp
  exact weaken (ys := [.xq 1 (fun _ => .i 0) 0, .str p, .str q]) ⟨⟨rfl, rfl, wL q0⟩, zV _, zV _, trivial⟩ (Je hG p q q1)
 ·cases h
def pP : List AV → Option (List zN × AV)
 | [.xq 1 c_s 0, .str p, .str q] => some ([.b (Ks (c_s 0)), .p (X6 [49] p), .p (X6 [49] q), .p (YM 140 (zW (1 / zo p)) (zW (1 / zo q))), .p (X6 [49] (zW (1 / zo p + 1 / zo q)))], .str (zW (1 / (1 / zo p + 1 / zo q))))
 | _ => none
theorem KA (G : List (Nat × Obj)) (p : List UInt8) (q : List UInt8) (h1 : X6 [49] p) (h2 : X6 [49] q) (h3 : YM 140 (zW (1 / zo p)) (zW (1 / zo q))) (h4 : X6 [49] (zW (1 / zo p + 1 / zo q))) :
 let q1 := (bA #[(49 : UInt8)]); let q2 := (zW (zo q1 / zo p)); let q3 := (zW (zo q1 / zo q)); let q4 := (zW (zo q2 + zo q3)); Zy [AV.xq 1 (fun (x : Nat) => aI iZ) 0, AV.str p, AV.str q] → X6 q1 p ∧ X6 q1 q ∧ YM 140 q2 q3 ∧ X6 q1 q4 ∧ zW (zo q1 / zo q4) = zW ((1 : Rat) / ((1 : Rat) / zo p + (1 : Rat) / zo q)) := by
 delta bA iZ aI
 dsimp only
 intro hb
 simp only [sS, Zu, za, zS, zF, Zz, ZC, Zr, Za, ZP, Z1, ZN, Zu, za, zS, zF, Zz, ZC, Zr, Za, ZP, Z1, ZN, xm, YU, dS, V6]
 exact ⟨h1, h2, h3, h4⟩
theorem IJ {G : List (Nat × Obj)} (hG : zO G) (p : List UInt8) (q : List UInt8) (h1 : X6 [49] p) (h2 : X6 [49] q) (h3 : YM 140 (zW (1 / zo p)) (zW (1 / zo q))) (h4 : X6 [49] (zW (1 / zo p + 1 / zo q))) : zu Tryz.prog G 51 [.xq 1 (fun _ => .i 0) 0, .str p, .str q] (.str (zW (1 / (1 / zo p + 1 / zo q)))) :=
 zv (T := Hn G) (an := .auto) mixed (WI hG) (Eq.mp (by kernel_rfl) (KA G p q h1 h2 h3 h4))
theorem jF {G : List (Nat × Obj)} (hG : zO G) : zP Tryz.prog G 51 pP := by
 intro xs ps r h hp
 unfold pP at h
 split at h
 ·skip
  rename_i c_s p q
  cases h
  obtain ⟨q0, q1, q2, q3, q4, -⟩ := Zo hp
  exact weaken (ys := [.xq 1 (fun _ => .i 0) 0, .str p, .str q]) ⟨⟨rfl, rfl, wL q0⟩, zV _, zV _, trivial⟩ (IJ hG p q q1 q2 q3 q4)
 ·cases h
def Qa : List AV → Option (List zN × AV)
 | [.xq 1 c_s 0, .str p, .str q] => some ([.b (Ks (c_s 0)), .p (X6 [49] p), .p (X6 [49] q), .p (YM 140 (zW (1 / zo p)) (zW (1 / zo q))), .p (YM 140 [49] (zW (1 / zo p + 1 / zo q)))], .str (zW (1 + (1 / zo p + 1 / zo q))))
 | _ => none
theorem lG (G : List (Nat × Obj)) (p : List UInt8) (q : List UInt8) (h1 : X6 [49] p) (h2 : X6 [49] q) (h3 : YM 140 (zW (1 / zo p)) (zW (1 / zo q))) (h4 : YM 140 [49] (zW (1 / zo p + 1 / zo q))) :
 let q1 := (bA #[(49 : UInt8)]); let q2 := (zW (zo q1 / zo p)); let q3 := (zW (zo q1 / zo q)); let q4 := (zW (zo q2 + zo q3)); Zy [AV.xq 1 (fun (x : Nat) => aI iZ) 0, AV.str p, AV.str q] → X6 q1 p ∧ X6 q1 q ∧ YM 140 q2 q3 ∧ YM 140 q1 q4 ∧ zW (zo q1 + zo q4) = zW ((1 : Rat) + ((1 : Rat) / zo p + (1 : Rat) / zo q)) := by
 delta bA iZ aI
 dsimp only
 intro hb
 simp only [sS, Zu, za, zS, zF, Zz, ZC, Zr, Za, ZP, Z1, ZN, Zu, za, zS, zF, Zz, ZC, Zr, Za, ZP, Z1, ZN, xm, YU, dS, V6]
 exact ⟨h1, h2, h3, h4⟩
theorem Jf {G : List (Nat × Obj)} (hG : zO G) (p : List UInt8) (q : List UInt8) (h1 : X6 [49] p) (h2 : X6 [49] q) (h3 : YM 140 (zW (1 / zo p)) (zW (1 / zo q))) (h4 : YM 140 [49] (zW (1 / zo p + 1 / zo q))) : zu Tryz.prog G 106 [.xq 1 (fun _ => .i 0) 0, .str p, .str q] (.str (zW (1 + (1 / zo p + 1 / zo q)))) :=
 zv (T := Hn G) (an := .auto) mixed (WI hG) (Eq.mp (by kernel_rfl) (lG G p q h1 h2 h3 h4))
theorem jI {G : List (Nat × Obj)} (hG : zO G) : zP Tryz.prog G 106 Qa := by
 intro xs ps r h hp
 unfold Qa at h
 split at h
 ·skip
  rename_i c_s p q
  cases h
  obtain ⟨q0, q1, q2, q3, q4, -⟩ := Zo hp
  exact weaken (ys := [.xq 1 (fun _ => .i 0) 0, .str p, .str q]) ⟨⟨rfl, rfl, wL q0⟩, zV _, zV _, trivial⟩ (Jf hG p q q1 q2 q3 q4)
 ·cases h
def QV : List AV → Option (List zN × AV)
 | [.xq 1 c_s 0, .str p, .str q] => some ([.b (Ks (c_s 0)), .p (YM 140 [49] p), .p (YM 140 [49] q), .p (YM 140 (zW (1 + zo p)) (zW (1 + zo q))), .p (X6 [49] (zW ((1 + zo p) * (1 + zo q))))], .str (zW (1 / ((1 + zo p) * (1 + zo q)))))
 | _ => none
theorem Kg (G : List (Nat × Obj)) (p : List UInt8) (q : List UInt8) (h1 : YM 140 [49] p) (h2 : YM 140 [49] q) (h3 : YM 140 (zW (1 + zo p)) (zW (1 + zo q))) (h4 : X6 [49] (zW ((1 + zo p) * (1 + zo q)))) :
 let q1 := (bA #[(49 : UInt8)]); let q2 := (zW (zo q1 + zo p)); let q3 := (zW (zo q1 + zo q)); let q4 := (zW (zo q2 * zo q3)); Zy [AV.xq 1 (fun (x : Nat) => aI iZ) 0, AV.str p, AV.str q] → YM 140 q1 p ∧ YM 140 q1 q ∧ YM 140 q2 q3 ∧ X6 q1 q4 ∧ zW (zo q1 / zo q4) = zW ((1 : Rat) / (((1 : Rat) + zo p) * ((1 : Rat) + zo q))) := by
 delta bA iZ aI
 dsimp only
 intro hb
 simp only [sS, Zu, za, zS, zF, Zz, ZC, Zr, Za, ZP, Z1, ZN, Zu, za, zS, zF, Zz, ZC, Zr, Za, ZP, Z1, ZN, xm, YU, dS, V6]
 exact ⟨h1, h2, h3, h4⟩
theorem JC {G : List (Nat × Obj)} (hG : zO G) (p : List UInt8) (q : List UInt8) (h1 : YM 140 [49] p) (h2 : YM 140 [49] q) (h3 : YM 140 (zW (1 + zo p)) (zW (1 + zo q))) (h4 : X6 [49] (zW ((1 + zo p) * (1 + zo q)))) : zu Tryz.prog G 107 [.xq 1 (fun _ => .i 0) 0, .str p, .str q] (.str (zW (1 / ((1 + zo p) * (1 + zo q))))) :=
 zv (T := Hn G) (an := .auto) mixed (WI hG) (Eq.mp (by kernel_rfl) (Kg G p q h1 h2 h3 h4))
theorem jb {G : List (Nat × Obj)} (hG : zO G) : zP Tryz.prog G 107 QV := by
 intro xs ps r h hp
 unfold QV at h
 split at h
 ·skip
  rename_i c_s p q
  cases h
  obtain ⟨q0, q1, q2, q3, q4, -⟩ := Zo hp
  exact weaken (ys := [.xq 1 (fun _ => .i 0) 0, .str p, .str q]) ⟨⟨rfl, rfl, wL q0⟩, zV _, zV _, trivial⟩ (JC hG p q q1 q2 q3 q4)
 ·cases h
noncomputable def HZ (G : List (Nat × Obj)) : Tb := (((((((Xh G).plus 65 SN).plus 90 SH).plus 20 rI).plus 70 QI).plus 51 pP).plus 106 Qa).plus 107 QV
theorem QH {G : List (Nat × Obj)} (hG : zO G) : zz Tryz.prog (HZ G) := zz.plus (zz.plus (zz.plus (zz.plus (zz.plus (zz.plus (zz.plus zq (ML hG)) (lW hG)) (ma hG)) (Jy hG)) (jF hG)) (jI hG)) (jb hG)
def nI  : yQ :=
 .two .auto (.two (.two .auto (.one (.unroll 3 .auto))) .auto)
noncomputable def gv (G : List (Nat × Obj)) : Tb := (HZ G).body Tryz.prog [(54, nI)]
theorem WM {G : List (Nat × Obj)} (hG : zO G) : zz Tryz.prog (gv G) := zz.body mixed (QH hG) _
structure YY (p : zj) : Prop where
 ok : ∃ N D : Nat, (0 < N ∧ N ≤ 48) ∧ (0 < D ∧ D ≤ 48) ∧ p = zW (mkRat (N : Int) D)
def RX (p : Rat) : Rat := 1 + p * p
def wm (p q : Rat) : Rat := 1 / (1 / (p * p) + 1 / (q * q))
def Od (p q : Rat) : Rat := 1 + (1 / (p * p) + 1 / (q * q))
def oA (p q : Rat) : Rat := 1 / ((1 + p * p) * (1 + q * q))
theorem IH (n d : Nat) : mkRat ((n : Nat) : Int) d = (n : Rat) / (d : Rat) := by rw [Rat.mkRat_eq_div, Rat.intCast_natCast]
theorem Lq {n : Nat} (h : 0 < n) : (n : Rat) ≠ 0 := fun e => by have := Rat.natCast_eq_zero_iff.1 e; omega
theorem H0 : ((1 : Nat) : Rat) = 1 := rfl
section
variable {N D M E : Nat}
theorem wt (hD : 0 < D) : mkRat (N : Int) D * mkRat (N : Int) D = mkRat ((N * N : Nat) : Int) (D * D) := by
 simp only [IH, Rat.natCast_mul]
 have := Lq hD
 generalize (D : Rat) = d at *
 generalize (N : Rat) = n at *
 grind
theorem rZ (hN : 0 < N) (hD : 0 < D) : 1 / (mkRat (N : Int) D * mkRat (N : Int) D) = mkRat ((D * D : Nat) : Int) (N * N) := by
 simp only [IH, Rat.natCast_mul]
 have := Lq hD
 have := Lq hN
 generalize (D : Rat) = d at *
 generalize (N : Rat) = n at *
 grind
theorem kR (hD : 0 < D) : RX (mkRat (N : Int) D) = mkRat ((D * D + N * N : Nat) : Int) (D * 1 * (D * 1)) := by
 unfold RX
 simp only [IH, Rat.natCast_mul, Rat.natCast_add, H0]
 have := Lq hD
 generalize (D : Rat) = d at *
 generalize (N : Rat) = n at *
 grind
theorem ue (hN : 0 < N) (hD : 0 < D) (hM : 0 < M) (hE : 0 < E) : 1 / (mkRat (N : Int) D * mkRat (N : Int) D) + 1 / (mkRat (M : Int) E * mkRat (M : Int) E) = mkRat ((D * D * (M * M) + E * E * (N * N) : Nat) : Int) (N * M * (N * M)) := by
 rw [rZ hN hD, rZ hM hE]
 simp only [IH, Rat.natCast_mul, Rat.natCast_add]
 have := Lq hN
 have := Lq hM
 generalize (D : Rat) = d at *
 generalize (N : Rat) = n at *
 generalize (E : Rat) = e at *
 generalize (M : Rat) = m at *
 grind
theorem MP {n d : Nat} (hn : 0 < n) (hd : 0 < d) : 1 / mkRat (n : Int) d = mkRat (d : Int) n := by
 simp only [IH]
 have := Lq hd
 have := Lq hn
 generalize (d : Rat) = d at *
 generalize (n : Rat) = n at *
 grind
theorem w7 {n d : Nat} (hd : 0 < d) : 1 + mkRat (n : Int) d = mkRat ((d + n : Nat) : Int) d := by
 simp only [IH, Rat.natCast_add]
 have := Lq hd
 generalize (d : Rat) = d at *
 generalize (n : Rat) = n at *
 grind
theorem LI (hN : 0 < N) (hD : 0 < D) (hM : 0 < M) (hE : 0 < E) : wm (mkRat (N : Int) D) (mkRat (M : Int) E) = mkRat ((N * M * (N * M) : Nat) : Int) (D * D * (M * M) + E * E * (N * N)) := by
 unfold wm
 rw [ue hN hD hM hE, MP (Nat.add_pos_left (Nat.mul_pos (Nat.mul_pos hD hD) (Nat.mul_pos hM hM)) _) (Nat.mul_pos (Nat.mul_pos hN hM) (Nat.mul_pos hN hM))]
theorem LY (hN : 0 < N) (hD : 0 < D) (hM : 0 < M) (hE : 0 < E) : Od (mkRat (N : Int) D) (mkRat (M : Int) E) = mkRat ((N * M * (N * M) + (D * D * (M * M) + E * E * (N * N)) : Nat) : Int) (N * M * (N * M)) := by
 unfold Od
 rw [ue hN hD hM hE, w7 (Nat.mul_pos (Nat.mul_pos hN hM) (Nat.mul_pos hN hM))]
theorem Lc (hN : 0 < N) (hD : 0 < D) (hM : 0 < M) (hE : 0 < E) : oA (mkRat (N : Int) D) (mkRat (M : Int) E) = mkRat ((D * E * (D * E) : Nat) : Int) ((D * D + N * N) * (E * E + M * M)) := by
 unfold oA
 rw [wt hD, wt hE, w7 (Nat.mul_pos hD hD), w7 (Nat.mul_pos hE hE), Rat.mkRat_mul_mkRat, ← Int.natCast_mul, MP (Nat.mul_pos (Nat.add_pos_left (Nat.mul_pos hD hD) _) (Nat.add_pos_left (Nat.mul_pos hE hE) _)) (Nat.mul_pos (Nat.mul_pos hD hD) (Nat.mul_pos hE hE))]
 rw [show D * E * (D * E) = D * D * (E * E) by grind]
end
theorem Oj {N : Nat} (h : 0 < N ∧ N ≤ 48) : 0 < N * N ∧ N * N ≤ 2304 := ⟨Nat.mul_pos h.1 h.1, Nat.mul_le_mul h.2 h.2⟩
theorem Ig {n d : Nat} (hd : 0 < d) (h1 : n < 10 ^ 8) (h2 : d < 10 ^ 8) : bq 8 (mkRat (n : Int) d) := UN hd (by rw [Int.natAbs_natCast]; exact h1) h2
theorem si {n d : Nat} (hn : 0 < n) (hd : 0 < d) : 0 < mkRat (n : Int) d := by obtain ⟨_, _, _, _, _, h⟩ := UH hn hd; exact h
theorem Xr {x : Rat} (h : bq 8 x) : YZ 140 (zW x) := (Zh (by decide) (by decide)).2 (h.mono (by decide))
theorem O7 : YZ 140 (zW 1) := Xr ⟨by decide +kernel, by decide +kernel⟩
theorem Gw : W0 (zW 1) := ⟨O7, by rw [zS]; decide +kernel⟩
theorem iM {x y : Rat} (hx : YZ 140 (zW x)) (hy : YZ 140 (zW y)) (h0 : 0 < y) : X6 (zW x) (zW y) := ⟨hx, hy, by rw [zS]; exact Rat.ne_of_gt h0⟩
structure gI (x : Rat) : Prop where
 p : 0 < x
 b : bq 8 x
 s : bq 8 (x * x)
 sp : 0 < x * x
 i : bq 8 (1 / (x * x))
 f : bq 8 (1 + x * x)
 r : On (RX x)
theorem YY.one {p : zj} (h : YY p) : ∃ x, p = zW x ∧ gI x := by
 obtain ⟨N, D, hN, hD, rfl⟩ := h.ok
 have n2 := Oj hN
 have d2 := Oj hD
 refine ⟨_, rfl, si hN.1 hD.1, Ig hD.1 (by omega) (by omega), ?_, ?_, ?_, ?_, ?_⟩
 ·rw [wt hD.1]; exact Ig d2.1 (by omega) (by omega)
 ·rw [wt hD.1]; exact si n2.1 d2.1
 ·rw [rZ hN.1 hD.1]; exact Ig n2.1 (by omega) (by omega)
 ·rw [wt hD.1, w7 d2.1]; exact Ig d2.1 (by omega) (by omega)
 ·rw [kR hD.1]; exact Rj ⟨by omega, by omega⟩ hD (by decide)
structure Gx (x y : Rat) : Prop where
 s : bq 8 (1 / (x * x) + 1 / (y * y))
 sp : 0 < 1 / (x * x) + 1 / (y * y)
 h : On (wm x y)
 l : On (Od x y)
 m : bq 8 ((1 + x * x) * (1 + y * y))
 mp : 0 < (1 + x * x) * (1 + y * y)
 d : On (oA x y)
theorem YY.two {x y : Rat} (h : YY (zW x)) (g : YY (zW y)) : Gx x y := by
 obtain ⟨N, D, hN, hD, e⟩ := h.ok
 obtain ⟨M, E, hM, hE, e2⟩ := g.ok
 obtain rfl := XW e
 obtain rfl := XW e2
 have n2 := Oj hN
 have d2 := Oj hD
 have m2 := Oj hM
 have e2 := Oj hE
 have h1 : 0 < D * D * (M * M) ∧ D * D * (M * M) ≤ 2304 * 2304 := ⟨Nat.mul_pos d2.1 m2.1, Nat.mul_le_mul d2.2 m2.2⟩
 have h2 : E * E * (N * N) ≤ 2304 * 2304 := Nat.mul_le_mul e2.2 n2.2
 have h3 := Jj hN hM
 have h7 : 0 < (D * D + N * N) * (E * E + M * M) ∧ (D * D + N * N) * (E * E + M * M) ≤ 4608 * 4608 := ⟨Nat.mul_pos (by omega) (by omega), Nat.mul_le_mul (by omega) (by omega)⟩
 have h8 : 0 < D * D * (E * E) ∧ D * D * (E * E) ≤ 2304 * 2304 := ⟨Nat.mul_pos d2.1 e2.1, Nat.mul_le_mul d2.2 e2.2⟩
 refine ⟨?_, ?_, ?_, ?_, ?_, ?_, ?_⟩
 ·rw [ue hN.1 hD.1 hM.1 hE.1]; exact Ig h3.1 (by omega) (by omega)
 ·rw [ue hN.1 hD.1 hM.1 hE.1]; exact si (by omega) h3.1
 ·rw [LI hN.1 hD.1 hM.1 hE.1]; exact so ⟨by omega, by omega⟩ hN hM
 ·rw [LY hN.1 hD.1 hM.1 hE.1]; exact Rj ⟨by omega, by omega⟩ hN hM
 ·rw [wt hD.1, wt hE.1, w7 d2.1, w7 e2.1, Rat.mkRat_mul_mkRat, ← Int.natCast_mul]; exact Ig h8.1 (by omega) (by omega)
 ·rw [wt hD.1, wt hE.1, w7 d2.1, w7 e2.1, Rat.mkRat_mul_mkRat, ← Int.natCast_mul]; exact si h7.1 h8.1
 ·rw [Lc hN.1 hD.1 hM.1 hE.1]; exact so ⟨by omega, by omega⟩ hD hE
def QC : List AV → Option (List zN × AV)
 | [.str p] => some ([.p (YY p)], .tup 2 (zw [ZA (YQ [⟨1, RX (zo p)⟩]), .i 0]))
 | _ => none
theorem K4 (G : List (Nat × Obj)) (p : List UInt8) (hp : YY p) :
 let q1 := (bA #[(49 : UInt8)]); let q2 := (AV.xl true 2 1 (Sx.rowAt [zw [AV.str q1, AV.str (zW ((1 : Rat) + zo (zW (zo p * zo p))))]])); let q3 := (Z5 q2); let q4 := (YQ q3); Zy [AV.str p] → W0 p ∧ W0 q1 ∧ YM 140 p p ∧ YM 140 q1 q1 ∧ YM 140 [(49 : UInt8)] (zW (zo p * zo p)) ∧ bF (z6 Tm q2) (Vw q3 ∧ j2 ∧ (True ∧ zd (AV.xl false 2 (lN q4) fun i j => zR.enc (gD q4 i zR.dflt) j) (AV.xl false 2 (lN (YQ [Tm.mk (1 : Rat) (RX (zo p))])) fun i j => zR.enc (List.getD
 (YQ [Tm.mk (1 : Rat) (RX (zo p))]) i zR.dflt) j)) ∧ kI ∧ iZ = iZ) := by
 delta bF bA kI j2 lN gD iZ
 dsimp only
 intro hb
 simp only [sS, Zu, za, zS, zF, Zz, ZC, Zr, Za, ZP, Z1, ZN, Zu, za, zS, zF, Zz, ZC, Zr, Za, ZP, Z1, ZN, xm, YU, dS, and_self, V6]
 obtain ⟨x, rfl, h⟩ := hp.one
 have := Rat.ne_of_gt h.sp
 simp only [zS, ← Rn, xm, YU, Xd]
 exact ⟨⟨Xr h.b, by rw [zS]; exact h.p⟩, Gw, ⟨Xr h.b, Xr h.b⟩, ⟨O7, O7⟩, ⟨O7, Xr h.s⟩, Vh h.r, rfl, zV _⟩
theorem nl {G : List (Nat × Obj)} (hG : zO G) (p : List UInt8) (hp : YY p) : zu Tryz.prog G 33 [.str p] (.tup 2 (zw [ZA (YQ [⟨1, RX (zo p)⟩]), .i 0])) :=
 zv (T := gv G) (an := .auto) mixed (WM hG) (Eq.mp (by kernel_rfl) (K4 G p hp))
theorem io {G : List (Nat × Obj)} (hG : zO G) : zP Tryz.prog G 33 QC := by
 intro xs ps r h hp
 unfold QC at h
 split at h
 ·skip
  rename_i p
  cases h
  obtain ⟨q0, -⟩ := Zo hp
  exact weaken (ys := [.str p]) ⟨zV _, trivial⟩ (nl hG p q0)
 ·cases h
def QS : List AV → Option (List zN × AV)
 | [.str p, .str q] => some ([.p (YY p), .p (YY q)], .tup 2 (zw [ZA (YQ [⟨1, wm (zo p) (zo q)⟩]), .i 0]))
 | _ => none
theorem LR (G : List (Nat × Obj)) (p : List UInt8) (q : List UInt8) (hp : YY p) (hq : YY q) :
 let q1 := ((1 : Rat) / zo (zW (zo p * zo p)) + (1 : Rat) / zo (zW (zo q * zo q))); let q2 := (AV.xl true 2 1 (Sx.rowAt [zw [AV.str (bA #[(49 : UInt8)]), AV.str (zW ((1 : Rat) / q1))]])); let q3 := (Z5 q2); let q4 := (YQ q3); let q5 := (YQ [Tm.mk (1 : Rat) (wm (zo p) (zo q))]); Zy [AV.str p, AV.str q] → W0 p ∧ W0 q ∧ YM 140 p p ∧ YM 140 q q ∧ X6 [(49 : UInt8)] (zW (zo p * zo p)) ∧ X6 [(49 : UInt8)] (zW (zo q * zo q)) ∧ YM 140 (zW ((1 : Rat) / zo (zW (zo p * zo p)))) (zW ((1 : Rat) / zo (zW (zo q *
 zo q)))) ∧ X6 [(49 : UInt8)] (zW q1) ∧ bF (z6 Tm q2) (Vw q3 ∧ j2 ∧ (True ∧ zd (AV.xl false 2 (lN q4) fun i j => zR.enc (gD q4 i zR.dflt) j) (AV.xl false 2 (lN q5) fun i j => zR.enc (gD q5 i zR.dflt) j)) ∧ kI ∧ iZ = iZ) := by
 delta bF bA kI j2 lN gD iZ
 dsimp only
 intro hb
 simp only [sS, Zu, za, zS, zF, Zz, ZC, Zr, Za, ZP, Z1, ZN, Zu, za, zS, zF, Zz, ZC, Zr, Za, ZP, Z1, ZN, xm, YU, dS, and_self, V6]
 obtain ⟨x, rfl, h⟩ := hp.one
 obtain ⟨y, rfl, k⟩ := hq.one
 have m := hp.two hq
 simp only [zS, ← Rn, xm, YU, Xd]
 exact ⟨⟨Xr h.b, by rw [zS]; exact h.p⟩, ⟨Xr k.b, by rw [zS]; exact k.p⟩, ⟨Xr h.b, Xr h.b⟩, ⟨Xr k.b, Xr k.b⟩, iM O7 (Xr h.s) h.sp, iM O7 (Xr k.s) k.sp, ⟨Xr h.i, Xr k.i⟩, iM O7 (Xr m.s) m.sp, Vh m.h, rfl, zV _⟩
theorem MX {G : List (Nat × Obj)} (hG : zO G) (p : List UInt8) (q : List UInt8) (hp : YY p) (hq : YY q) : zu Tryz.prog G 27 [.str p, .str q] (.tup 2 (zw [ZA (YQ [⟨1, wm (zo p) (zo q)⟩]), .i 0])) :=
 zv (T := gv G) (an := .auto) mixed (WM hG) (Eq.mp (by kernel_rfl) (LR G p q hp hq))
theorem JD {G : List (Nat × Obj)} (hG : zO G) : zP Tryz.prog G 27 QS := by
 intro xs ps r h hp
 unfold QS at h
 split at h
 ·skip
  rename_i p q
  cases h
  obtain ⟨q0, q1, -⟩ := Zo hp
  exact weaken (ys := [.str p, .str q]) ⟨zV _, zV _, trivial⟩ (MX hG p q q0 q1)
 ·cases h
theorem ll (G : List (Nat × Obj)) (p : List UInt8) (q : List UInt8) (hp : YY p) (hq : YY q) :
 let q1 := ((1 : Rat) / zo (zW (zo p * zo p)) + (1 : Rat) / zo (zW (zo q * zo q))); let q2 := (AV.xl true 2 1 (Sx.rowAt [zw [AV.str (bA #[(49 : UInt8)]), AV.str (zW ((1 : Rat) + q1))]])); let q3 := (Z5 q2); let q4 := (YQ q3); let q5 := (YQ [Tm.mk (1 : Rat) (Od (zo p) (zo q))]); Zy [AV.str p, AV.str q] → W0 p ∧ W0 q ∧ YM 140 p p ∧ YM 140 q q ∧ X6 [(49 : UInt8)] (zW (zo p * zo p)) ∧ X6 [(49 : UInt8)] (zW (zo q * zo q)) ∧ YM 140 (zW ((1 : Rat) / zo (zW (zo p * zo p)))) (zW ((1 : Rat) / zo (zW (zo q *
 zo q)))) ∧ YM 140 [(49 : UInt8)] (zW q1) ∧ bF (z6 Tm q2) (Vw q3 ∧ j2 ∧ (True ∧ zd (AV.xl false 2 (lN q4) fun i j => zR.enc (gD q4 i zR.dflt) j) (AV.xl false 2 (lN q5) fun i j => zR.enc (gD q5 i zR.dflt) j)) ∧ kI ∧ iZ = iZ) := by
 delta bF bA kI j2 lN gD iZ
 dsimp only
 intro hb
 simp only [sS, Zu, za, zS, zF, Zz, ZC, Zr, Za, ZP, Z1, ZN, Zu, za, zS, zF, Zz, ZC, Zr, Za, ZP, Z1, ZN, xm, YU, dS, and_self, V6]
 obtain ⟨x, rfl, h⟩ := hp.one
 obtain ⟨y, rfl, k⟩ := hq.one
 have m := hp.two hq
 simp only [zS, ← Rn, xm, YU, Xd]
 exact ⟨⟨Xr h.b, by rw [zS]; exact h.p⟩, ⟨Xr k.b, by rw [zS]; exact k.p⟩, ⟨Xr h.b, Xr h.b⟩, ⟨Xr k.b, Xr k.b⟩, iM O7 (Xr h.s) h.sp, iM O7 (Xr k.s) k.sp, ⟨Xr h.i, Xr k.i⟩, ⟨O7, Xr m.s⟩, Vh m.l, rfl, zV _⟩
theorem jh {G : List (Nat × Obj)} (hG : zO G) (p : List UInt8) (q : List UInt8) (hp : YY p) (hq : YY q) : zu Tryz.prog G 67 [.str p, .str q] (.tup 2 (zw [ZA (YQ [⟨1, Od (zo p) (zo q)⟩]), .i 0])) :=
 zv (T := gv G) (an := .auto) mixed (WM hG) (Eq.mp (by kernel_rfl) (ll G p q hp hq))
theorem LE (G : List (Nat × Obj)) (p : List UInt8) (q : List UInt8) (hp : YY p) (hq : YY q) :
 let q1 := ((1 : Rat) + zo (zW (zo p * zo p))); let q2 := ((1 : Rat) + zo (zW (zo q * zo q))); let q3 := (q1 * q2); let q4 := (AV.xl true 2 1 (Sx.rowAt [zw [AV.str (bA #[(49 : UInt8)]), AV.str (zW ((1 : Rat) / q3))]])); let q5 := (Z5 q4); let q6 := (YQ q5); let q7 := (YQ [Tm.mk (1 : Rat) (oA (zo p) (zo q))]); Zy [AV.str p, AV.str q] → W0 p ∧ W0 q ∧ YM 140 p p ∧ YM 140 q q ∧ YM 140 [(49 : UInt8)] (zW (zo p * zo p)) ∧ YM 140 [(49 : UInt8)] (zW (zo q * zo q)) ∧ YM 140 (zW q1) (zW q2) ∧ X6 [(49 : UInt8)] (zW
 q3) ∧ bF (z6 Tm q4) (Vw q5 ∧ j2 ∧ (True ∧ zd (AV.xl false 2 (lN q6) fun i j => zR.enc (gD q6 i zR.dflt) j) (AV.xl false 2 (lN q7) fun i j => zR.enc (gD q7 i zR.dflt) j)) ∧ kI ∧ iZ = iZ) := by
 delta bF bA kI j2 lN gD iZ
 dsimp only
 intro hb
 simp only [sS, Zu, za, zS, zF, Zz, ZC, Zr, Za, ZP, Z1, ZN, Zu, za, zS, zF, Zz, ZC, Zr, Za, ZP, Z1, ZN, xm, YU, dS, and_self, V6]
 obtain ⟨x, rfl, h⟩ := hp.one
 obtain ⟨y, rfl, k⟩ := hq.one
 have m := hp.two hq
 simp only [zS, ← Rn, xm, YU, Xd]
 exact ⟨⟨Xr h.b, by rw [zS]; exact h.p⟩, ⟨Xr k.b, by rw [zS]; exact k.p⟩, ⟨Xr h.b, Xr h.b⟩, ⟨Xr k.b, Xr k.b⟩, ⟨O7, Xr h.s⟩, ⟨O7, Xr k.s⟩, ⟨Xr h.f, Xr k.f⟩, iM O7 (Xr m.m) m.mp, Vh m.d, rfl, zV _⟩
theorem JV {G : List (Nat × Obj)} (hG : zO G) (p : List UInt8) (q : List UInt8) (hp : YY p) (hq : YY q) : zu Tryz.prog G 68 [.str p, .str q] (.tup 2 (zw [ZA (YQ [⟨1, oA (zo p) (zo q)⟩]), .i 0])) :=
 zv (T := gv G) (an := .auto) mixed (WM hG) (Eq.mp (by kernel_rfl) (LE G p q hp hq))
def SK : List AV → Option (List zN × AV)
 | [.str p, .str q] => some ([.p (YY p), .p (YY q)], .tup 2 (zw [.str (zW (zo q / zo p)), .i 0]))
 | _ => none
theorem Nh (G : List (Nat × Obj)) (p : List UInt8) (q : List UInt8) (hp : YY p) (hq : YY q) :
 Zy [AV.str p, AV.str q] → W0 p ∧ W0 q ∧ X6 q p ∧ j2 ∧ (True ∧ zW (zo q / zo p) = zW (zo q / zo p)) ∧ kI ∧ iZ = iZ := by
 delta kI j2 iZ
 intro hb
 simp only [sS, Zu, za, zS, zF, Zz, ZC, Zr, Za, ZP, Z1, ZN, Zu, za, zS, zF, Zz, ZC, Zr, Za, ZP, Z1, ZN, xm, YU, dS]
 obtain ⟨x, rfl, h⟩ := hp.one
 obtain ⟨y, rfl, k⟩ := hq.one
 exact ⟨⟨Xr h.b, by rw [zS]; exact h.p⟩, ⟨Xr k.b, by rw [zS]; exact k.p⟩, iM (Xr k.b) (Xr h.b) h.p, rfl⟩
theorem PS {G : List (Nat × Obj)} (hG : zO G) (p : List UInt8) (q : List UInt8) (hp : YY p) (hq : YY q) : zu Tryz.prog G 31 [.str p, .str q] (.tup 2 (zw [.str (zW (zo q / zo p)), .i 0])) :=
 zv (T := ((Xh G).plus 65 SN).plus 66 SU) (an := .auto) mixed (zz.plus (zz.plus zq (ML hG)) (QE hG)) (Eq.mp (by kernel_rfl) (Nh G p q hp hq))
theorem lC {G : List (Nat × Obj)} (hG : zO G) : zP Tryz.prog G 31 SK := by
 intro xs ps r h hp
 unfold SK at h
 split at h
 ·skip
  rename_i p q
  cases h
  obtain ⟨q0, q1, -⟩ := Zo hp
  exact weaken (ys := [.str p, .str q]) ⟨zV _, zV _, trivial⟩ (PS hG p q q0 q1)
 ·cases h
end Go.Te

namespace Go.Te
open Go Go.Sx Go.Proofs Go.Ar
set_option maxRecDepth 100000
set_option maxHeartbeats 4000000
structure Gm (s t : List Tm) : Prop where
 h : IG s t ∨ JH s t
def Md : List AV → Option (List zN × AV)
 | [x, y] => some ([.b (z6 Tm x), .b (z6 Tm y), .p (Gm (Z5 x) (Z5 y))], .tup 2 (zw [.i (xF (YQ (Z5 (α := Tm) x ++ yS (-1) (Z5 (α := Tm) y)))), .i 0]))
 | _ => none
theorem He {G : List (Nat × Obj)} (hG : UZ G) : zP Tryz.prog G 23 Md := by
 intro xs ps r e hp
 unfold Md at e
 split at e
 ·rename_i x y
  cases e
  obtain ⟨q0, q1, -⟩ := Zo hp
  have q2 : Gm (Z5 x) (Z5 y) := hp _ (List.mem_cons_of_mem _ (List.mem_cons_of_mem _ List.mem_cons_self))
  rcases q2.h with h | h
  ·have := Ik hG.tab (Z5 x) (Z5 y) h
   rw [h.no, show xF [] = 0 from rfl]
   exact weaken (ys := [_, _]) ⟨ze q0, ze q1, trivial⟩ this
  ·exact weaken (ys := [_, _]) ⟨ze q0, ze q1, trivial⟩ (HL hG (Z5 x) (Z5 y) h)
 ·cases e
end Go.Te

namespace Go.Te
open Go Go.Sx Go.Proofs Go.Ar
set_option maxRecDepth 100000
set_option maxHeartbeats 4000000
end Go.Te

namespace Go.Te
open Go Go.Sx Go.Proofs Go.Ar
set_option maxRecDepth 100000
set_option maxHeartbeats 4000000
def rT (p : zj) (r : AV) : List AV → Option (List zN × AV)
 | [.str x] => some ([.b (x == p)], r)
 | _ => none
theorem kJ {G : List (Nat × Obj)} {f : FuncId} {p : zj} {r : AV} (h : zu Tryz.prog G f [.str p] r) : zP Tryz.prog G f (rT p r) := by
 intro xs ps r e hp
 unfold rT at e
 split at e
 ·rename_i x
  cases e
  have q0 : (x == p) = true := hp _ List.mem_cons_self
  rw [eq_of_beq q0]
  exact h
 ·cases e
def WF (p q : zj) (r : AV) : List AV → Option (List zN × AV)
 | [.str x, .str y] => some ([.b (x == p && y == q)], r)
 | _ => none
theorem ud {G : List (Nat × Obj)} {f : FuncId} {p q : zj} {r : AV} (h : zu Tryz.prog G f [.str p, .str q] r) : zP Tryz.prog G f (WF p q r) := by
 intro xs ps r e hp
 unfold WF at e
 split at e
 ·rename_i x y
  cases e
  have q0 : (x == p && y == q) = true := hp _ List.mem_cons_self
  rw [Bool.and_eq_true] at q0
  rw [eq_of_beq q0.1, eq_of_beq q0.2]
  exact h
 ·cases e
theorem Re : YY [49] := ⟨1, 1, by decide, by decide, by decide +kernel⟩
theorem Hj : YY [51, 47, 52] := ⟨3, 4, by decide, by decide, by decide +kernel⟩
theorem ga {G : List (Nat × Obj)} (hG : zO G) : zu Tryz.prog G 33 [.str [51, 47, 52]] (.tup 2 (zw [ZA [(⟨5 / 4, 1⟩ : Tm)], .i 0])) := by
 have := nl hG [51, 47, 52] Hj
 rwa [show YQ [⟨1, RX (zo [51, 47, 52])⟩] = [(⟨5 / 4, 1⟩ : Tm)] by decide +kernel] at this
theorem gk {G : List (Nat × Obj)} (hG : zO G) : zu Tryz.prog G 27 [.str [49], .str [49]] (.tup 2 (zw [ZA [(⟨1 / 2, 2⟩ : Tm)], .i 0])) := by
 have := MX hG [49] [49] Re Re
 rwa [show YQ [⟨1, wm (zo [49]) (zo [49])⟩] = [(⟨1 / 2, 2⟩ : Tm)] by decide +kernel] at this
theorem GY {G : List (Nat × Obj)} (hG : zO G) : zu Tryz.prog G 67 [.str [49], .str [49]] (.tup 2 (zw [ZA [(⟨1, 3⟩ : Tm)], .i 0])) := by
 have := jh hG [49] [49] Re Re
 rwa [show YQ [⟨1, Od (zo [49]) (zo [49])⟩] = [(⟨1, 3⟩ : Tm)] by decide +kernel] at this
theorem GV {G : List (Nat × Obj)} (hG : zO G) : zu Tryz.prog G 68 [.str [49], .str [49]] (.tup 2 (zw [ZA [(⟨1 / 2, 1⟩ : Tm)], .i 0])) := by
 have := JV hG [49] [49] Re Re
 rwa [show YQ [⟨1, oA (zo [49]) (zo [49])⟩] = [(⟨1 / 2, 1⟩ : Tm)] by decide +kernel] at this
theorem gm {G : List (Nat × Obj)} (hG : zO G) : zu Tryz.prog G 31 [.str [49], .str [49]] (.tup 2 (zw [.str [49], .i 0])) := by
 have := PS hG [49] [49] Re Re
 rwa [show zW (zo [49] / zo [49]) = [49] by decide +kernel] at this
noncomputable def Gq (G : List (Nat × Obj)) : Tb := ((((((Xh G).plus 33 (rT [51, 47, 52] (.tup 2 (zw [ZA [(⟨5 / 4, 1⟩ : Tm)], .i 0])))).plus 27 (WF [49] [49] (.tup 2 (zw [ZA [(⟨1 / 2, 2⟩ : Tm)], .i 0])))).plus 67 (WF [49] [49] (.tup 2 (zw [ZA [(⟨1, 3⟩ : Tm)], .i 0])))).plus 68 (WF [49] [49] (.tup 2 (zw [ZA [(⟨1 / 2, 1⟩ : Tm)], .i 0])))).plus 31 (WF [49] [49] (.tup 2 (zw [.str [49], .i 0])))).body Tryz.prog [(39, LK), (69, .auto)]
theorem Oz {G : List (Nat × Obj)} (hG : zO G) : zz Tryz.prog (Gq G) := zz.body mixed (zz.plus (zz.plus (zz.plus (zz.plus (zz.plus zq (kJ (ga hG))) (ud (gk hG))) (ud (GY hG))) (ud (GV hG))) (ud (gm hG))) _
theorem iY (G : List (Nat × Obj)) :
 Zy [] → (bif bif bif bif bif (if iZ > if iZ > if iZ > if iZ > iZ then iZ else iZ then iZ else if iZ > iZ then iZ else iZ then iZ else if iZ > if iZ > iZ then iZ else iZ then iZ else if iZ > iZ then iZ else iZ then iZ else if iZ > if iZ > if iZ > iZ then iZ else iZ then iZ else if iZ > iZ then iZ else iZ then iZ else if iZ > if iZ >
 iZ then iZ else iZ then iZ else if iZ > iZ then iZ else iZ) == iZ then true else false then true else false then true else false then [(49 : UInt8)] == bA #[(49 : UInt8)] else false then true else false) = true := by
 delta bA iZ
 intro hb
 decide +kernel
def mB : List AV → Option (List zN × AV)
 | [] => some ([], .b true)
 | _ => none
theorem Hv {G : List (Nat × Obj)} (hG : zO G) : zP Tryz.prog G 32 mB := by
 intro xs ps r e hp
 unfold mB at e
 split at e
 ·cases e
  exact zv mixed (Oz hG) (Eq.mp (by kernel_rfl) (iY G) : vm Tryz.prog (Gq G) 32 .auto [] (.b true))
 ·cases e
def Rw (a : Int) : Prop := 0 ≤ a ∧ a ≤ 255
def pN (a : Int) : Nat := a.toNat % 48 + 1
theorem Po (a : Int) : 0 < pN a ∧ pN a ≤ 48 := by unfold pN; omega
theorem gX {a : Int} (h : Rw a) : a.tmod 48 + 1 = (pN a : Int) := by
 unfold Rw at h
 unfold pN
 rw [Int.tmod_eq_emod_of_nonneg h.1]; omega
def pQ (a b : Int) : Rat := mkRat (pN a : Int) (pN b)
theorem xX (a b : Int) : YY (zW (pQ a b)) := ⟨pN a, pN b, Po a, Po b, rfl⟩
def QY : List AV → Option (List zN × AV)
 | [.v (.int .u8 a), .v (.int .u8 b)] => some ([.p (Rw a), .p (Rw b)], .tup 3 (zw [.str (zW (pQ a b)), .str (zW (pQ a b * pQ a b)), .b true]))
 | _ => none
theorem ku (G : List (Nat × Obj)) (a : Int) (b : Int) (ha : Rw a) (hc : Rw b) :
 let q2 := (Int.toNat (Int.tmod b (48 : Int) + iO)); let q1 := (ZL (Int.tmod a (48 : Int) + iO) q2); Zy [AV.v (Value.int IntKind.u8 a), AV.v (Value.int IntKind.u8 b)] → bF (dK a) (bF (dK (Int.tmod a (48 : Int) + iO)) (bF (dK b) (bF (dK (Int.tmod b (48 : Int) + iO)) (((-10000000000000000 : Int) ≤ Int.tmod a (48 : Int) + iO ∧ Int.tmod a (48 : Int) + iO ≤ (10000000000000000 : Int)) ∧ (iZ < Int.tmod b (48 : Int) + iO ∧ Int.tmod b (48 : Int) + iO ≤
 (10000000000000000 : Int)) ∧ YM 140 q1 q1 ∧ 3 = lN [AV.junk, AV.junk, AV.junk] ∧ ((True ∧ ZL (Int.tmod a (48 : Int) + iO) q2 = zW (pQ a b)) ∧ zW (zo q1 * zo q1) = zW (pQ a b * pQ a b)) ∧ (bif iZ == iZ then iZ == iZ else false) = true)))) := by
 delta bF dK lN iZ iO
 dsimp only
 intro hb
 simp only [sS, Zu, za, zS, zF, Zz, ZC, Zr, Za, ZP, Z1, ZN, dS]
 have x := xX a b
 obtain ⟨y, e, h⟩ := x.one
 have e := XW e
 have h1 := Po a
 have h2 := Po b
 have e1 := gX ha
 have e2 := gX hc
 unfold Rw at ha hc
 rw [e1, e2, Int.toNat_natCast, Yg _ h2.1]
 have eq : mkRat ((pN a : Nat) : Int) (pN b) = pQ a b := rfl
 rw [eq, zS]
 have ok := Xr (e ▸ h.b)
 refine ⟨by simp only [yD]; omega, by simp only [yD]; omega, by simp only [yD]; omega, by simp only [yD]; omega, ⟨by omega, by omega⟩, ⟨by omega, by omega⟩, ⟨ok, ok⟩, rfl, ⟨rfl, rfl⟩, rfl⟩
theorem Jv {G : List (Nat × Obj)} (hG : zO G) (a : Int) (b : Int) (ha : Rw a) (hc : Rw b) : zu Tryz.prog G 26 [.v (.int .u8 a), .v (.int .u8 b)] (.tup 3 (zw [.str (zW (pQ a b)), .str (zW (pQ a b * pQ a b)), .b true])) :=
 zv (T := ((Xh G).plus 50 PH).plus 40 vS) (an := .auto) mixed (zz.plus (zz.plus zq (jV hG)) (Ve hG)) (Eq.mp (by kernel_rfl) (ku G a b ha hc))
theorem iL {G : List (Nat × Obj)} (hG : zO G) : zP Tryz.prog G 26 QY := by
 intro xs ps r h hp
 unfold QY at h
 split at h
 ·skip
  rename_i a b
  cases h
  obtain ⟨q0, q1, -⟩ := Zo hp
  exact weaken (ys := [.v (.int .u8 a), .v (.int .u8 b)]) ⟨zV _, zV _, trivial⟩ (Jv hG a b q0 q1)
 ·cases h
noncomputable def Gp (G : List (Nat × Obj)) : Tb := (((((((((((Xh G).plus 26 QY).plus 33 QC).plus 27 QS).plus 31 SK).plus 30 sj).plus 29 rn).plus 16 nG).plus 22 mH).plus 23 Md).plus 32 mB).body Tryz.prog [(28, .auto)]
theorem Oi {G : List (Nat × Obj)} (hG : UZ G) : zz Tryz.prog (Gp G) := zz.body mixed (zz.plus (zz.plus (zz.plus (zz.plus (zz.plus (zz.plus (zz.plus (zz.plus (zz.plus (zz.plus zq (iL hG.tab)) (io hG.tab)) (JD hG.tab)) (lC hG.tab)) (Qh hG.tab)) (Qk hG.tab)) (Hi hG.tab)) (I8 hG.tab)) (He hG)) (Hv hG.tab)) _
end Go.Te

namespace Go.Te
open Go Go.Sx Go.Proofs Go.Ar
set_option maxRecDepth 100000
set_option maxHeartbeats 4000000
def Nj : List AV → Option (List zN × AV)
 | [x_s] => some ([.b (z6 Tm x_s), .p (Xl (Z5 (α := Tm) x_s)), .p (Nq (Z5 (α := Tm) x_s))], .tup 2 (zw [.i (xF (Z5 (α := Tm) x_s)), .i 0]))
 | _ => none
theorem JU (G : List (Nat × Obj)) (s : List Tm) (hs : Xl s) (hd : Nq s) :
 let q2 := (AV.xl false 2 (lN s) fun i j => zR.enc (gD s i zR.dflt) j); let q1 := (z6 Tm q2); let q3 := (Z5 q2); Zy [AV.xl false 2 (lN s) fun i j => zR.enc (gD s i zR.dflt) j] → bF q1 (Xl q3 ∧ bF q1 (Nq q3 ∧ j2 ∧ (True ∧ kI ∧ xF q3 = xF s) ∧ kI ∧ iZ = iZ)) := by
 delta bF kI j2 lN gD iZ
 dsimp only
 intro hb
 simp only [↓yU, ↓ZF, row_one]
 simp only [sS, Zu, za, zS, zF, Zz, ZC, Zr, Za, ZP, Z1, ZN, iA, Kj, KT, Mb, dS]
 exact ⟨hs, hd, rfl⟩
theorem HK {G : List (Nat × Obj)} (hG : UZ G) (s : List Tm) (hs : Xl s) (hd : Nq s) : zu Tryz.prog G 17 [ZA s] (.tup 2 (zw [.i (xF s), .i 0])) :=
 zv (T := ((Xh G).plus 35 TJ).plus 41 Pv) (an := .auto) mixed (zz.plus (zz.plus zq (P6 hG.tab)) (jy hG)) (Eq.mp (by kernel_rfl) (JU G s hs hd))
theorem Hc {G : List (Nat × Obj)} (hG : UZ G) : zP Tryz.prog G 17 Nj := by
 intro xs ps r h hp
 unfold Nj at h
 split at h
 ·skip
  rename_i x_s
  cases h
  obtain ⟨q0, q1, q2, -⟩ := Zo hp
  exact weaken (ys := [ZA (Z5 (α := Tm) x_s)]) ⟨ze q0, trivial⟩ (HK hG (Z5 (α := Tm) x_s) q1 q2)
 ·cases h
structure G9 (s : List Tm) : Prop where
 ok : Xl s
 dec : Nq s
end Go.Te

namespace Go.Te
open Go Go.Sx Go.Proofs Go.Ar
set_option maxRecDepth 100000
set_option maxHeartbeats 4000000
theorem wC {x : Rat} (h : 0 < x) : 0 < 1 / x ∧ 1 / x * x = 1 := by
 have h0 := Rat.ne_of_gt h
 refine ⟨?_, by grind⟩
 rw [Rat.div_def, Rat.one_mul]
 exact Rat.inv_pos.2 h
theorem JY {x y : Rat} (hx : 0 < x) (hy : 0 < y) : wm x y < x * x ∧ wm x y < y * y := by
 have sx := Rat.mul_pos hx hx
 have sy := Rat.mul_pos hy hy
 obtain ⟨u0, u1⟩ := wC sx
 obtain ⟨v0, v1⟩ := wC sy
 unfold wm
 generalize 1 / (x * x) = u at *
 generalize 1 / (y * y) = v at *
 obtain ⟨w0, w1⟩ := wC (show 0 < u + v by grind)
 generalize 1 / (u + v) = w at *
 generalize x * x = X at *
 generalize y * y = Y at *
 constructor
 ·refine Rat.not_le.1 fun h => ?_
  have a := Rat.mul_nonneg (a := w - X) (b := u) (by grind) (Rat.le_of_lt u0)
  have b := Rat.mul_pos w0 v0
  grind
 ·refine Rat.not_le.1 fun h => ?_
  have a := Rat.mul_nonneg (a := w - Y) (b := v) (by grind) (Rat.le_of_lt v0)
  have b := Rat.mul_pos w0 u0
  grind
theorem Mm {x : Rat} (hx : 0 < x) : wm x x + wm x x = x * x := by
 obtain ⟨u0, u1⟩ := wC (Rat.mul_pos hx hx)
 unfold wm
 generalize 1 / (x * x) = u at *
 obtain ⟨w0, w1⟩ := wC (show 0 < u + u by grind)
 generalize 1 / (u + u) = w at *
 generalize x * x = X at *
 have : (w + w) * u = X * u := by grind
 have h0 := Rat.ne_of_gt u0
 grind
theorem HU (P : Rat) : (if ([(⟨P, 1⟩ : Tm)]).length = 0 then [48] else if ([(⟨P, 1⟩ : Tm)]).length = 1 ∧ (([(⟨P, 1⟩ : Tm)]).getD 0 zR.dflt).q = 1 then zW (([(⟨P, 1⟩ : Tm)]).getD 0 zR.dflt).c else []) = zW P := by
 rw [if_neg (by simp), if_pos ⟨rfl, rfl⟩]
 rfl
theorem Hu (P : Rat) : decide (([(⟨P, 1⟩ : Tm)]).length = 0 ∨ ([(⟨P, 1⟩ : Tm)]).length = 1 ∧ (([(⟨P, 1⟩ : Tm)]).getD 0 zR.dflt).q = 1) = true := decide_eq_true (.inr ⟨rfl, rfl⟩)
noncomputable def GP (G : List (Nat × Obj)) : Tb := (Gp G).plus 17 Nj
theorem OM {G : List (Nat × Obj)} (hG : UZ G) : zz Tryz.prog (GP G) := zz.plus (Oi hG) (Hc hG)
theorem uq (G : List (Nat × Obj)) (a b c d : Int) (ha : Rw a) (hb' : Rw b) (hc : Rw c) (hd : Rw d) :
 let q3 := (YQ [Tm.mk (1 : Rat) (wm (zo (zW (pQ a b))) (zo (zW (pQ c d))))]); let q2 := (AV.xl false 2 (lN q3) fun i j => zR.enc (gD q3 i zR.dflt) j); let q1 := (z6 Tm q2); let q4 := (Z5 q2); let q5 := (y7 q4 q4); let q7 := (YQ q5); let q6 := (AV.xl false 2 (lN q7) fun i j => zR.enc (gD q7 i zR.dflt) j); let q8 := (Z5 q6); let q10 := (gD q8 0 zR.dflt); let q9 := (if lN q8 = 0 then [(48 : UInt8)] else if lN q8 = 1 ∧ Tm.q q10 = (1 : Rat) then zW (Tm.c q10) else []); let q13 := (if iZ > if iZ > iZ
 then iZ else iZ then iZ else if iZ > iZ then iZ else iZ); let q14 := (lN q8 = 0 ∨ lN q8 = 1 ∧ Tm.q q10 = (1 : Rat)); let q12 := (bif bif !true then true else !true then true else !bif q13 == iZ then decide q14 else false); let q11 := (!zr false q12 || zr false q12); let q15 := (bif bif bif !true then true else !true then true else !bif q13 == iZ then decide q14 else false then true else q13 != iZ); let q18 := (zo q9); let q17 := (Xj q18 (zo (zW (pQ a b * pQ a b)))); let q16 := (bif bif bif bif
 !true then true else !true then true else !bif q13 == iZ then decide q14 else false then true else q13 != iZ then true else leB iZ q17); let q20 := (Xj q18 (zo (zW (pQ c d * pQ c d)))); let q19 := (bif bif bif bif bif !true then true else !true then true else !bif q13 == iZ then decide q14 else false then true else q13 != iZ then true else leB iZ q17 then true else leB iZ q20); let q23 := (YQ [Tm.mk (1 : Rat) (wm (zo (zW (pQ a b))) (zo (zW (pQ a b))))]); let q22 := (AV.xl false 2 (lN q23) fun i j => zR.enc (gD q23 i
 zR.dflt) j); let q21 := (z6 Tm q22); let q24 := (Z5 q22); let q25 := (y7 q24 q24); let q27 := (YQ q25); let q26 := (AV.xl false 2 (lN q27) fun i j => zR.enc (gD q27 i zR.dflt) j); let q28 := (Z5 q26); let q30 := (gD q28 0 zR.dflt); let q29 := (if lN q28 = 0 then [(48 : UInt8)] else if lN q28 = 1 ∧ Tm.q q30 = (1 : Rat) then zW (Tm.c q30) else []); let q32 := (lN q28 = 0 ∨ lN q28 = 1 ∧ Tm.q q30 = (1 : Rat)); let q31 := (bif q13 == iZ then decide q32 else false); let q33 := (bif bif q13 == iZ then decide q32 else
 false then iZ == iZ else false); let q35 := (bif bif bif q13 == iZ then decide q32 else false then iZ == iZ else false then iZ == iZ else false); let q34 := (!zr true q35 || zr true q35); let q37 := (zo q29 + zo q29); let q36 := (bif bif bif bif q13 == iZ then decide q32 else false then iZ == iZ else false then iZ == iZ else false then zW q37 == zW (pQ a b * pQ a b) else false); let q38 := (zo (zW (pQ a b)) / zo (zW (pQ a b))); let q39 := (ByteArray.data (ByteArray.mk #[(49 : UInt8)])); Zy
 [AV.v (Value.int IntKind.u8 a), AV.v (Value.int IntKind.u8 b), AV.v (Value.int IntKind.u8 c), AV.v (Value.int IntKind.u8 d)] → (iZ ≤ a ∧ a ≤ (255 : Int)) ∧ (iZ ≤ b ∧ b ≤ (255 : Int)) ∧ (iZ ≤ c ∧ c ≤ (255 : Int)) ∧ (iZ ≤ d ∧ d ≤ (255 : Int)) ∧ YY (zW (pQ a b)) ∧ YY (zW (pQ c d)) ∧ bF q1 (bF q1 (Xl q4 ∧ Xl q4 ∧ Vw q5 ∧ bF (z6 Tm q6) (Xl q8 ∧ bF q1 (Xl q4 ∧ Nq q4 ∧ YM 140 q9 (zW (pQ a b * pQ a b)) ∧ YM 140 q9 (zW (pQ c d * pQ c d)) ∧ bF q11 (bF q11 (bF q11 (bF q11 (bF ((!!bif bif !true then true else !true then
 true else !bif q13 == iZ then decide q14 else false) || zr false q12) (bF (!zr false q15 || zr false q15) (bF ((!!bif bif bif !true then true else !true then true else !bif q13 == iZ then decide q14 else false then true else q13 != iZ) || zr false q15) (bF (!zr false q16 || zr false q16) (bF ((!!bif bif bif bif !true then true else !true then true else !bif q13 == iZ then decide q14 else false then true else q13 != iZ then true else leB iZ q17) || zr false q16) (bF (!zr false q19 || zr false q19) (bF ((!!bif bif
 bif bif bif !true then true else !true then true else !bif q13 == iZ then decide q14 else false then true else q13 != iZ then true else leB iZ q17 then true else leB iZ q20) || zr false q19) (zZ (bif bif bif bif bif bif !true then true else !true then true else !bif q13 == iZ then decide q14 else false then true else q13 != iZ then true else leB iZ q17 then true else leB iZ q20 then true else xF q4 != iO) (false = true) (YY (zW (pQ a b)) ∧ YY (zW (pQ a b)) ∧ bF q21 (bF q21 (Xl q24 ∧ Xl q24 ∧ Vw q25 ∧
 bF (z6 Tm q26) (Xl q28 ∧ YM 140 q29 q29 ∧ YY (zW (pQ a b)) ∧ YY (zW (pQ a b)) ∧ bF (!zr true q31 || zr true q31) (bF ((!bif q13 == iZ then decide q32 else false) || zr true q31) (bF (!zr true q33 || zr true q33) (bF ((!bif bif q13 == iZ then decide q32 else false then iZ == iZ else false) || zr true q33) (bF q34 (bF q34 (bF ((!bif bif bif q13 == iZ then decide q32 else false then iZ == iZ else false then iZ == iZ else false) || zr true q35) (bF (!zr true q36 || zr
 true q36) (bF ((!bif bif bif bif q13 == iZ then decide q32 else false then iZ == iZ else false then iZ == iZ else false then zW q37 == zW (pQ a b * pQ a b) else false) || zr true q36) (bF ((!bif bif bif bif bif q13 == iZ then decide q32 else false then iZ == iZ else false then iZ == iZ else false then zW q37 == zW (pQ a b * pQ a b) else false then zW q38 == Array.toList q39 else false) || zr true (bif bif bif bif bif q13 == iZ then decide q32 else false then iZ == iZ else false then
 iZ == iZ else false then zW q37 == zW (pQ a b * pQ a b) else false then zW q38 == Array.toList q39 else false)) ((bif bif bif bif bif bif q13 == iZ then decide q32 else false then iZ == iZ else false then iZ == iZ else false then zW q37 == zW (pQ a b * pQ a b) else false then zW q38 == Array.toList q39 else false then true else false) = true))))))))))))))))))))))))))))) := by
 delta bF lN gD iZ iO
 dsimp only
 intro hb
 simp only [sS, Zu, za, zS, zF, Zz, ZC, Zr, Za, ZP, Z1, ZN, dS]
 obtain ⟨x', e, h⟩ := (xX a b).one
 obtain rfl := XW e
 obtain ⟨y', e, k⟩ := (xX c d).one
 obtain rfl := XW e
 have m := (xX a b).two (xX c d)
 have n := (xX a b).two (xX a b)
 have o := Pa m.h
 have oo := o.oks
 have os := o.sq
 have w := Pa n.h
 have ww := w.oks
 have ws := w.sq
 obtain ⟨g1, g2⟩ := KM m.h
 rw [os] at oo
 rw [ws] at ww
 rw [os, ws, g2]
 obtain ⟨l1, l2⟩ := JY h.p k.p
 have c1 : Xj (wm (pQ a b) (pQ c d)) (pQ a b * pQ a b) = -1 := by unfold Xj; rw [if_pos l1]
 have c2 : Xj (wm (pQ a b) (pQ c d)) (pQ c d * pQ c d) = -1 := by unfold Xj; rw [if_pos l2]
 have hs := Mm h.p
 have ox : YZ 140 (zW (wm (pQ a b) (pQ c d))) := Xr ⟨m.h.num, m.h.den⟩
 have oy : YZ 140 (zW (wm (pQ a b) (pQ a b))) := Xr ⟨n.h.num, n.h.den⟩
 have dv : zW (pQ a b / pQ a b) = [49] := by
  rw [← Rn]
  congr 1
  have := Rat.ne_of_gt h.p
  generalize pQ a b = x at *
  grind
 simp only [HU, Hu, zS, c1, c2, hs, dv]
 refine ⟨ha, hb', hc, hd, xX a b, xX c d, o.ok, o.ok, o.sqm, oo, o.ok, g1, ⟨ox, Xr h.s⟩, ⟨ox, Xr k.s⟩, ?_⟩
 refine zX.2 ⟨fun e => ?_, fun _ => ?_⟩
 ·revert e; decide
 ·refine ⟨xX a b, xX a b, w.ok, w.ok, w.sqm, ww, ⟨oy, oy⟩, xX a b, xX a b, ?_⟩
  rw [beq_self_eq_true, beq_self_eq_true]
  rfl
theorem Ub {G : List (Nat × Obj)} (hG : UZ G) (a b c d : Int) (ha : Rw a) (hb : Rw b) (hc : Rw c) (hd : Rw d) : zu Tryz.prog G 9 [.v (.int .u8 a), .v (.int .u8 b), .v (.int .u8 c), .v (.int .u8 d)] (.b true) :=
 zv (T := GP G) (an := .auto) mixed (OM hG) (Eq.mp (by kernel_rfl) (uq G a b c d ha hb hc hd))
end Go.Te

namespace Go.Te
open Go Go.Sx Go.Proofs Go.Ar Go.RowKit
set_option maxRecDepth 100000
def Pn : List (List UInt8) := [[50], [51], [53], [55], [49, 49], [49, 51], [49, 55], [49, 57], [50, 51], [50, 57], [51, 49], [51, 55], [52, 49], [52, 51], [52, 55], [53, 51], [53, 57], [54, 49], [54, 55], [55, 49], [55, 51], [55, 57], [56, 51], [56, 57], [57, 55]]
theorem qN : (Pn.map fun z => Value.string ⟨z.toArray⟩) = zL.toList := by kernel_rfl
theorem Tv {H : Type} {enc : TypeId × Value → H} {P : Program} {w : World} {base : Nat} {sp : Nat → Bool} {held : Bool} {fuel : Nat} {t e : TypeId} {n : Nat} {cs : List Value} {zs : List (List UInt8)} {p : List MemPlace}
  (ht : P.underlying t = some (.array n e)) (he : P.underlying e = some .string) (hce : P.cellsOf e = 1) (hct : P.cellsOf t = n)
  (h : DataW.trod enc P w base sp held fuel t cs = some (.agg (zs.map fun z => .lit (.string z)), p)) : cs = zs.map fun z => Value.string ⟨z.toArray⟩ := by
 cases fuel with
 | zero => simp [DataW.trod] at h
 | succ fuel =>
  simp only [DataW.trod, ht, hce, hct, Nat.mul_one] at h
  split at h
  ·rename_i hl
   obtain ⟨xs, hm, hx⟩ := Option.map_eq_some_iff.1 h
   have hxs : xs.map (·.1) = zs.map fun z => (DataW.lit (.string z) : DataW H) := by
    have := congrArg Prod.fst hx
    simpa using this
   have hxl : xs.length = n := by simpa using Lib.mapM_length hm
   have hzl : zs.length = n := by
    have := congrArg List.length hxs
    simp at this
    omega
   apply List.ext_getElem?
   intro i
   by_cases hi : i < n
   ·obtain ⟨b, hb, hf⟩ := Lib.mapM_at hm i i (by simp [hi])
    obtain ⟨z, hc, rfl, _⟩ := DataW.trod_string he hf
    have h1 : cs[i]? = some (.string z) := by
     have := congrArg (·[0]?) hc
     simpa [List.getElem?_take, List.getElem?_drop] using this
    have h2 : (xs.map (·.1))[i]? = some (DataW.lit (.string z.data.toList) : DataW H) := by simp [hb]
    rw [hxs] at h2
    simp only [List.getElem?_map, Option.map_eq_some_iff, DataW.lit.injEq, Lit.string.injEq] at h2
    obtain ⟨z', hz', rfl⟩ := h2
    simp [h1, hz']
   ·rw [List.getElem?_eq_none (by omega), List.getElem?_eq_none (by simp; omega)]
  ·cases h
section
variable {H : Type} {enc : TypeId × Value → H} {W : World} {spare : Nat → Bool} {held : Bool}
abbrev G3 (W : World) : Nat → Prop := fun b => b < W.heap.size
theorem uG {n : Int} {d : DataW H} {ps : List MemPlace} (h : DataW.Trod enc Tryz.prog W 0 spare held 5 (.int .u8 n) d ps) : 0 ≤ n ∧ n ≤ 255 := by
 obtain ⟨m, h⟩ := h
 obtain ⟨k, h1, _, h3⟩ := DataW.trod_int Tryz.underlying5 h
 have e : [Value.int .u8 n] = [.int .u8 k] := h1
 cases e
 simp only [Lit.wf, Bool.and_eq_true, decide_eq_true_eq] at h3
 have h4 : (0 : Int) ≤ n ∧ n ≤ 255 := h3
 exact h4
end
end Go.Te
