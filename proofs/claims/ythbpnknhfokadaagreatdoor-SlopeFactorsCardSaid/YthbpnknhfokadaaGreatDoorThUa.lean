/- surd: signs of surds that are far from 0. -/
import Derived.Test.YthbpnknhfokadaaGreatDoorThQk
import Derived.Test.YthbpnknhfokadaaGreatDoorArAC
import Derived.Test.YthbpnknhfokadaaGreatDoorThQi
import Derived.ChangeArms
import Derived.Lib.LaidTab
set_option linter.unusedSimpArgs false
set_option linter.unusedVariables false
namespace Go.Te
open Go Go.Sx Go.Proofs Go.Ar
set_option maxRecDepth 100000
set_option maxHeartbeats 4000000
theorem jp {x F : Rat} (h0 : 0 ≤ x) (hF : 0 ≤ F) (h : x * x ≤ F * F) : x ≤ F := (jN hF h).2
theorem jn {x F S η κ : Rat} (h0 : 0 ≤ x) (hη : 0 ≤ η) (h1 : F * F ≤ S) (h2 : S ≤ x * x + κ) (h3 : κ ≤ η * η) : F - η ≤ x := by
 refine Rat.not_lt.1 fun h => ?_
 have a := Rat.mul_nonneg (a := F - η - x) (b := F - η + x) (by grind) (by grind)
 have b := Rat.mul_nonneg (a := η) (b := F - η - x) hη (by grind)
 have c := Rat.mul_nonneg (a := η) (b := x) hη h0
 rcases Decidable.em (η = 0) with e | e
 ·subst e
  have d := Rat.mul_pos (a := F - 0 - x) (b := F - 0 - x) (by grind) (by grind)
  have d2 := Rat.mul_nonneg (a := F - 0 - x) (b := x) (by grind) h0
  grind
 ·have e0 : 0 < η := Rat.lt_of_le_of_ne hη (Ne.symm e)
  have d := Rat.mul_pos (a := η) (b := F - η - x) e0 (by grind)
  grind
theorem nH {R N : Nat} {ε η : Rat} {f : Nat → Rat} {t : Tm} (hf : Hs N ε f) (hm : ZP RM t) (hn : ZP R t) (hR : R ≤ N) (h0 : t.c ≠ 0) {p : Nat} (hη : 0 ≤ η) (he : t.c * t.c * ε * (((10 ^ p : Nat) : Rat) * ((10 ^ p : Nat) : Rat)) ≤ η * η) :
  (V0 t p : Rat) - η ≤ Ud f t * ((10 ^ p : Nat) : Rat) ∧ Ud f t * ((10 ^ p : Nat) : Rat) ≤ (V0 t p : Rat) + 1 + η := by
 obtain ⟨a, b⟩ := mI hf hn hR
 have es : H3 t = tC t := rfl
 rw [es] at a b
 have eK : ((10 ^ (2 * p) : Nat) : Rat) = ((10 ^ p : Nat) : Rat) * ((10 ^ p : Nat) : Rat) := by
  rw [← Rat.natCast_mul, ← Nat.pow_add, Nat.two_mul]
 have K0 : (0 : Rat) < ((10 ^ p : Nat) : Rat) := Rat.natCast_pos.2 (Nat.pow_pos (by decide))
 have KK := Rat.mul_pos K0 K0
 have F0 := hf.p0 (mQ t.q)
 have ev : Ud f t = t.c * f (mQ t.q) := by unfold Ud; rw [se hn]
 have a' := Rat.mul_le_mul_of_nonneg_right a (Rat.le_of_lt KK)
 have b' := Rat.mul_le_mul_of_nonneg_right b (Rat.le_of_lt KK)
 rcases Decidable.em (0 < t.c) with hc | hc
 ·obtain ⟨F, e, f1, f2⟩ := Lv hm hc p
  rw [eK] at f1 f2
  rw [e, Rat.intCast_natCast]
  rw [Rat.natCast_add] at f2
  have v0 : 0 ≤ Ud f t * ((10 ^ p : Nat) : Rat) := by rw [ev]; exact Rat.mul_nonneg (Rat.mul_nonneg (Rat.le_of_lt hc) F0) (Rat.le_of_lt K0)
  have n0 : (0 : Rat) ≤ (F : Rat) := Rat.natCast_nonneg
  generalize ((10 ^ p : Nat) : Rat) = K at *
  generalize (F : Rat) = x at *
  constructor
  ·refine jn v0 hη f1 (κ := t.c * t.c * ε * (K * K)) ?_ he
   grind
  ·have := jp (x := Ud f t * K) (F := x + 1) v0 (by grind) (by
    have : ((1 : Nat) : Rat) = 1 := rfl
    rw [this] at f2
    grind)
   grind
 ·have hc' : t.c < 0 := Rat.lt_of_le_of_ne (Rat.not_lt.1 hc) h0
  obtain ⟨g, e, f1, f2⟩ := KR hm hc' p
  rw [eK] at f1 f2
  rw [e, Rat.intCast_neg, Rat.intCast_add, Rat.intCast_natCast]
  rw [Rat.natCast_add] at f2
  have v0 : 0 ≤ -(Ud f t * ((10 ^ p : Nat) : Rat)) := by
   rw [ev]
   have := Rat.mul_nonneg (Rat.mul_nonneg (a := -t.c) (by grind) F0) (Rat.le_of_lt K0)
   grind
  have n0 : (0 : Rat) ≤ (g : Rat) := Rat.natCast_nonneg
  have one : ((1 : Int) : Rat) = 1 := rfl
  have one' : ((1 : Nat) : Rat) = 1 := rfl
  rw [one]
  rw [one'] at f2
  generalize ((10 ^ p : Nat) : Rat) = K at *
  generalize (g : Rat) = x at *
  constructor
  ·have := jp (x := -(Ud f t * K)) (F := x + 1) v0 (by grind) (by grind)
   grind
  ·have := jn (x := -(Ud f t * K)) (F := x) v0 hη f1 (κ := t.c * t.c * ε * (K * K)) (by grind) he
   grind
theorem Tg {f : Nat → Rat} {η K : Rat} {p : Nat} : ∀ {s : List Tm}, (∀ t ∈ s, (V0 t p : Rat) - η ≤ Ud f t * K ∧ Ud f t * K ≤ (V0 t p : Rat) + 1 + η) →
  (Zu s p : Rat) - (s.length : Rat) * η ≤ ev f s * K ∧ ev f s * K ≤ (Zu s p : Rat) + (s.length : Rat) + (s.length : Rat) * η
 | [], _ => by
  have e1 : (([] : List Tm).length : Rat) = 0 := rfl
  have e2 : ((Zu [] p : Int) : Rat) = 0 := rfl
  rw [YK, e1, e2]
  constructor <;> grind
 | t :: s, h => by
  obtain ⟨i1, i2⟩ := Tg (s := s) fun x hx => h x (List.mem_cons_of_mem _ hx)
  obtain ⟨h1, h2⟩ := h t List.mem_cons_self
  have e1 : (((t :: s).length : Nat) : Rat) = (s.length : Rat) + 1 := by rw [List.length_cons, Rat.natCast_add]; rfl
  have e2 : ((Zu (t :: s) p : Int) : Rat) = (V0 t p : Rat) + (Zu s p : Rat) := by
   rw [← Rat.intCast_add]
   unfold Zu
   rw [List.map_cons, List.sum_cons]
  have e3 : ev f (t :: s) = Ud f t + ev f s := rfl
  rw [e1, e2, e3]
  constructor <;> grind
theorem UA {f : Nat → Rat} {s : List Tm} {p : Nat} (hl : s.length ≤ 16) (h : (Zu s p : Rat) - (s.length : Rat) * (1 / 100) ≤ ev f s * ((10 ^ p : Nat) : Rat) ∧ ev f s * ((10 ^ p : Nat) : Rat) ≤ (Zu s p : Rat) + (s.length : Rat) + (s.length : Rat) * (1 / 100)) :
  (Y8 s p ≠ 0 → Y8 s p = sg (ev f s)) ∧ (far 33 (ev f s * ((10 ^ p : Nat) : Rat)) → Y8 s p ≠ 0) := by
 obtain ⟨h1, h2⟩ := h
 have K0 : (0 : Rat) < ((10 ^ p : Nat) : Rat) := Rat.natCast_pos.2 (Nat.pow_pos (by decide))
 have l1 : (s.length : Rat) ≤ 16 := Rat.natCast_le_natCast.2 hl
 have l0 : (0 : Rat) ≤ (s.length : Rat) := Rat.natCast_nonneg
 have pos : 0 < ev f s * ((10 ^ p : Nat) : Rat) → 0 < ev f s := fun h => by
  refine Rat.not_le.1 fun h2 => ?_
  have := Rat.mul_nonneg (a := -ev f s) (by grind) (Rat.le_of_lt K0)
  grind
 have neg : ev f s * ((10 ^ p : Nat) : Rat) < 0 → ev f s < 0 := fun h => by
  refine Rat.not_le.1 fun h2 => ?_
  have := Rat.mul_nonneg h2 (Rat.le_of_lt K0)
  grind
 have iI : ∀ {a b : Int}, a ≤ b → (a : Rat) ≤ (b : Rat) := fun h => Rat.intCast_le_intCast.2 h
 unfold Y8 sg
 generalize ((10 ^ p : Nat) : Rat) = K at *
 split
 ·rename_i hp
  have hp : (1 : Rat) ≤ (Zu s p : Rat) := iI (show 1 ≤ Zu s p by omega)
  refine ⟨fun _ => ?_, fun _ => by decide⟩
  rw [if_pos (pos (by grind))]
 ·rename_i hp
  have hp : (Zu s p : Rat) ≤ 0 := iI (show Zu s p ≤ 0 by omega)
  split
  ·rename_i hq
   have hq : ((Zu s p + s.length : Int) : Rat) ≤ -1 := iI (show Zu s p + s.length ≤ -1 by omega)
   rw [Rat.intCast_add, Rat.intCast_natCast] at hq
   refine ⟨fun _ => ?_, fun _ => by decide⟩
   have := neg (by grind)
   rw [if_neg (Rat.not_lt.2 (Rat.le_of_lt this)), if_pos this]
  ·rename_i hq
   have hq : (0 : Rat) ≤ ((Zu s p + s.length : Int) : Rat) := iI (show 0 ≤ Zu s p + s.length by omega)
   rw [Rat.intCast_add, Rat.intCast_natCast] at hq
   refine ⟨fun h => absurd rfl h, fun h => ?_⟩
   exfalso
   rcases h with h | h <;> grind
abbrev R5 : Nat := 10 ^ 130 * 10 ^ 130
theorem jk {c : Rat} {k : Nat} (h : c.num.natAbs ≤ k) : c * c ≤ (k : Rat) * (k : Rat) := by
 have hd : (1 : Rat) ≤ (c.den : Rat) := Rat.natCast_le_natCast.2 c.den_pos
 have e : c * (c.den : Rat) = (c.num : Rat) := by
  have h2 := Rat.mkRat_self c
  have hd : (c.den : Rat) ≠ 0 := fun e => c.den_nz (Rat.natCast_eq_zero_iff.1 e)
  rw [Rat.mkRat_eq_div] at h2
  generalize (c.num : Rat) = x at *
  generalize (c.den : Rat) = d at *
  rw [← h2]
  grind
 have e2 : (c.num : Rat) * (c.num : Rat) = ((c.num.natAbs * c.num.natAbs : Nat) : Rat) := by
  rw [← Rat.intCast_natCast, Int.natCast_mul, Int.natAbs_mul_self', Rat.intCast_mul]
 have e3 : ((c.num.natAbs * c.num.natAbs : Nat) : Rat) ≤ ((k * k : Nat) : Rat) := Rat.natCast_le_natCast.2 (Nat.mul_le_mul h h)
 rw [Rat.natCast_mul k] at e3
 rw [← e2, ← e] at e3
 have c0 := Vf c
 have a := Rat.mul_le_mul_of_nonneg_left hd c0
 have b := Rat.mul_le_mul_of_nonneg_left hd (Rat.mul_nonneg c0 (Rat.le_trans (by decide : (0 : Rat) ≤ 1) hd))
 grind
theorem L5 {N R k : Nat} {f : Nat → Rat} {s : List Tm} (hf : Hs N (1 / (R5 : Rat)) f) (hR : R ≤ N) (hRM : R ≤ RM) (hn : ∀ t ∈ s, ZP R t) (h0 : ∀ t ∈ s, t.c ≠ 0) (hb : ∀ t ∈ s, bq k t.c) (hk : k ≤ 39) (hl : s.length ≤ 16) (hs : 0 < s.length) {d : Rat} (hd : 33 ≤ d * ((10 ^ 64 : Nat) : Rat)) (hfar : far d (ev f s)) : gO s ∧ Xq s = sg (ev f s) := by
 have near : ∀ p : Nat, p ≤ 64 → (Zu s p : Rat) - (s.length : Rat) * (1 / 100) ≤ ev f s * ((10 ^ p : Nat) : Rat) ∧ ev f s * ((10 ^ p : Nat) : Rat) ≤ (Zu s p : Rat) + (s.length : Rat) + (s.length : Rat) * (1 / 100) := fun p hp => by
  refine Tg fun t ht => nH hf (TG (hn t ht) hRM) (hn t ht) hR (h0 t ht) (by decide +kernel) ?_
  have c1 := jk (k := 10 ^ 39) (Nat.le_of_lt (Nat.lt_of_lt_of_le (hb t ht).num (Nat.pow_le_pow_right (by decide) hk)))
  have p1 : ((10 ^ p : Nat) : Rat) ≤ ((10 ^ 64 : Nat) : Rat) := Rat.natCast_le_natCast.2 (Nat.pow_le_pow_right (by decide) hp)
  have p0 : (0 : Rat) ≤ ((10 ^ p : Nat) : Rat) := Rat.natCast_nonneg
  have q0 : (0 : Rat) ≤ ((10 ^ 64 : Nat) : Rat) := Rat.natCast_nonneg
  have e0 : (0 : Rat) ≤ 1 / (R5 : Rat) := by decide +kernel
  have fin : ((10 ^ 39 : Nat) : Rat) * ((10 ^ 39 : Nat) : Rat) * (1 / (R5 : Rat)) * (((10 ^ 64 : Nat) : Rat) * ((10 ^ 64 : Nat) : Rat)) ≤ 1 / 100 * (1 / 100) := by decide +kernel
  generalize ((10 ^ 39 : Nat) : Rat) = C at *
  generalize ((10 ^ 64 : Nat) : Rat) = K at *
  generalize ((10 ^ p : Nat) : Rat) = P at *
  generalize 1 / (R5 : Rat) = ε at *
  have a1 := Rat.mul_le_mul_of_nonneg_right c1 e0
  have a2 := Rat.mul_le_mul_of_nonneg_right p1 p0
  have a3 := Rat.mul_le_mul_of_nonneg_left p1 q0
  have a4 : P * P ≤ K * K := by grind
  have b0 : 0 ≤ t.c * t.c * ε := Rat.mul_nonneg (Vf _) e0
  have a5 := Rat.mul_le_mul_of_nonneg_left a4 b0
  have a6 := Rat.mul_le_mul_of_nonneg_right a1 (Rat.mul_nonneg q0 q0)
  exact Rat.le_trans a5 (Rat.le_trans a6 fin)
 obtain ⟨x1, _⟩ := UA hl (near 4 (by decide))
 obtain ⟨y1, _⟩ := UA hl (near 16 (by decide))
 obtain ⟨z1, z2⟩ := UA hl (near 64 (by decide))
 have z3 := z2 (by
  have q0 : (0 : Rat) ≤ ((10 ^ 64 : Nat) : Rat) := Rat.natCast_nonneg
  generalize ((10 ^ 64 : Nat) : Rat) = K at *
  rcases hfar with h | h
  ·exact .inl (by have := Rat.mul_le_mul_of_nonneg_right h q0; grind)
  ·exact .inr (by have := Rat.mul_le_mul_of_nonneg_right h q0; grind))
 have hv : Xq s = sg (ev f s) ∧ Xq s ≠ 0 := by
  unfold Xq
  split
  ·split
   ·exact ⟨z1 z3, z3⟩
   ·rename_i h; exact ⟨y1 h, h⟩
  ·rename_i h; exact ⟨x1 h, h⟩
 have fl : ∀ t ∈ s, ∀ p : Int, 0 ≤ p ∧ p ≤ 64 → Qg t p := fun t ht p hp => by
  refine ⟨h0 t ht, (hb t ht).mono (by omega), TG (hn t ht) hRM, hp, ?_⟩
  unfold wJ
  have hB := Nat.lt_of_lt_of_le (hb t ht).num (Nat.pow_le_pow_right (by decide : 0 < 10) hk)
  have a := Nat.mul_lt_mul'' hB hB
  have b : t.c.num.natAbs * t.c.num.natAbs * mQ t.q ≤ 10 ^ 39 * 10 ^ 39 * RM := Nat.mul_le_mul (Nat.le_of_lt a) (Nat.le_trans (hn t ht).mQ.2.2 hRM)
  have c : 10 ^ (2 * p.toNat) ≤ 10 ^ 128 := Nat.pow_le_pow_right (by decide) (by omega)
  exact Nat.lt_of_le_of_lt (Nat.mul_le_mul b c) (by decide)
 exact ⟨⟨hs, hl, fun t ht => fl t ht 4 (by decide), fun _ t ht => fl t ht 16 (by decide), fun _ _ t ht => fl t ht 64 (by decide), hv.2⟩, hv.1⟩
end Go.Te

namespace Go.Te
open Go Go.Sx Go.Proofs Go.Ar
set_option maxRecDepth 100000
set_option maxHeartbeats 4000000
structure RD (P : Rat) : Prop where
 pos : 0 < P
 num : P.num.natAbs < 10 ^ 8
 den : P.den < 10 ^ 8
 nr : (nrm (mQ P)).2 ≤ RM
theorem Uy {n d : Nat} (hn : 0 < n) (hd : 0 < d) : ∃ g, 0 < g ∧ (mkRat (n : Int) d).num.toNat * g = n ∧ (mkRat (n : Int) d).den * g = d ∧ (mkRat (n : Int) d).num.natAbs = (mkRat (n : Int) d).num.toNat ∧ 0 < mkRat (n : Int) d := by
 have hg : 0 < Nat.gcd d n := Nat.gcd_pos_of_pos_left _ hd
 have h1 : (mkRat (n : Int) d).num = ((n / Nat.gcd d n : Nat) : Int) := by
  rw [Rat.num_mkRat, if_neg (by omega), Int.natAbs_natCast, Int.natCast_ediv]
 have h2 : (mkRat (n : Int) d).den = d / Nat.gcd d n := by
  rw [Rat.den_mkRat, if_neg (by omega), Int.natAbs_natCast]
 refine ⟨Nat.gcd d n, hg, ?_, ?_, ?_, ?_⟩
 ·rw [h1, Int.toNat_natCast]
  exact Nat.div_mul_cancel (Nat.gcd_dvd_right _ _)
 ·rw [h2]
  exact Nat.div_mul_cancel (Nat.gcd_dvd_left _ _)
 ·rw [h1, Int.natAbs_natCast, Int.toNat_natCast]
 ·rw [Rat.mkRat_eq_div, Rat.div_def, Rat.intCast_natCast]
  exact Rat.mul_pos (Rat.natCast_pos.2 hn) (Rat.inv_pos.2 (Rat.natCast_pos.2 hd))
theorem Jn {a b : Nat} (ha : 0 < a ∧ a ≤ 48) (hb : 0 < b ∧ b ≤ 48) : 0 < a * b * (a * b) ∧ a * b * (a * b) ≤ 5308416 :=
 ⟨Nat.mul_pos (Nat.mul_pos ha.1 hb.1) (Nat.mul_pos ha.1 hb.1), Nat.mul_le_mul (Nat.mul_le_mul ha.2 hb.2) (Nat.mul_le_mul ha.2 hb.2)⟩
theorem uF {x g n : Nat} (hg : 0 < g) (h : x * g = n) : x ≤ n := by rw [← h]; exact Nat.le_mul_of_pos_right _ hg
theorem R3 {X a b : Nat} (hX : 0 < X ∧ X ≤ 21233664) (ha : 0 < a ∧ a ≤ 48) (hb : 0 < b ∧ b ≤ 48) : RD (mkRat (X : Int) (a * b * (a * b))) := by
 have hab := Jn ha hb
 obtain ⟨g, g0, g1, g2, g3, g4⟩ := Uy hX.1 hab.1
 have p0 : 0 < (mkRat (X : Int) (a * b * (a * b))).num.toNat := Nat.pos_of_ne_zero fun e => by rw [e] at g1; omega
 obtain ⟨s, s0, s1, _⟩ := ng ha hb p0 g1 g2
 have l1 := uF g0 g1
 have l2 := uF g0 g2
 refine ⟨g4, by rw [g3]; omega, by omega, ?_⟩
 have : 1 * (nrm (mQ (mkRat (X : Int) (a * b * (a * b))))).2 ≤ s * s * (nrm (mQ (mkRat (X : Int) (a * b * (a * b))))).2 := Nat.mul_le_mul_right _ (Nat.mul_pos s0 s0)
 unfold mQ at this ⊢
 rw [s1] at this
 have e : RM = 99999999 := rfl
 omega
theorem T5 {X a b : Nat} (hX : 0 < X ∧ X ≤ 21233664) (ha : 0 < a ∧ a ≤ 48) (hb : 0 < b ∧ b ≤ 48) : RD (mkRat ((a * b * (a * b) : Nat) : Int) X) := by
 have hab := Jn ha hb
 obtain ⟨g, g0, g1, g2, g3, g4⟩ := Uy hab.1 hX.1
 obtain ⟨s, s0, s1, _⟩ := Oi ha hb (Rat.den_pos _) g1 g2
 have l1 := uF g0 g1
 have l2 := uF g0 g2
 refine ⟨g4, by rw [g3]; omega, by omega, ?_⟩
 have : 1 * (nrm (mQ (mkRat ((a * b * (a * b) : Nat) : Int) X))).2 ≤ s * s * (nrm (mQ (mkRat ((a * b * (a * b) : Nat) : Int) X))).2 := Nat.mul_le_mul_right _ (Nat.mul_pos s0 s0)
 unfold mQ at this ⊢
 rw [s1] at this
 have e : RM = 99999999 := rfl
 omega
theorem RD.m {P : Rat} (h : RD P) : mQ P < 10 ^ 16 := by
 unfold mQ
 have a : P.num.toNat < 10 ^ 8 := by have := h.num; omega
 exact Nat.lt_of_lt_of_le (Nat.mul_lt_mul'' a h.den) (by decide)
theorem iM {P : Rat} (h : RD P) : inT RM [⟨1, P⟩] := fun t ht => by
 rw [List.mem_singleton.1 ht]
 exact ⟨Rat.le_of_lt h.pos, h.nr⟩
theorem Vi {P : Rat} (h : RD P) : vq [⟨1, P⟩] := by
 have hi := iM h
 have h0 : P ≠ 0 := Rat.ne_of_gt h.pos
 have e1 : Y9 [⟨1, P⟩] = [Xn ⟨1, P⟩] := by
  unfold Y9
  rw [List.filter_cons, if_pos (by rw [decide_eq_true (show (⟨1, P⟩ : Tm).q ≠ 0 from h0)]; rfl), List.filter_nil]
  rfl
 refine ⟨show 1 ≤ 256 by decide, fun t ht => ?_, fun t ht _ => ?_, hi, fun k => ?_, Nat.le_trans (vf (by decide) hi).2.1 (show 1 ≤ 16 by decide)⟩
 ·rw [List.mem_singleton.1 ht]
  exact (⟨by decide +kernel, by decide +kernel⟩ : bq 60 (1 : Rat))
 ·rw [List.mem_singleton.1 ht]
  show mN (zW P)
  have b1 : bq 8 P := ⟨h.num, h.den⟩
  refine ⟨(Zk (by decide) (by decide)).2 (b1.mono (by decide)), ?_, ?_⟩
  ·rw [zS]; exact h.pos
  ·rw [zS]
   have a1 : x9 P.num ≤ 8 := xt (by decide) b1.num
   have a2 : Lib.nDigits P.den ≤ 8 := (z8 (by decide)).2 b1.den
   omega
 ·intro x hx
  match k with
  | 0 => exact absurd hx (by rw [List.take_zero]; intro h; cases h)
  | k + 1 =>
   rw [List.take_succ_cons, List.take_nil, e1] at hx
   rw [List.mem_singleton.1 (show x ∈ [Xn ⟨1, P⟩] from hx)]
   show bq 60 (1 * mkRat (nrm (mQ P)).1 P.den)
   rw [Rat.one_mul]
   have a := (U3 (UH h.pos)).2.2
   have b := h.m
   refine (V2 (k := 17) P.den_pos (by rw [Int.natAbs_natCast]; omega) ?_).mono (by decide)
   have := h.den
   omega
theorem vH {P : Rat} (h : RD P) : ∃ u : Tm, Z3 [⟨1, P⟩] = [u] ∧ ZP RM u ∧ nrm (mQ u.q) = (1, mQ u.q) ∧ 0 < u.c ∧ tC u = P ∧ bq 8 u.c ∧ ∃ k : Nat, u.c = mkRat k P.den ∧ k < 10 ^ 8 := by
 obtain ⟨u, e, hu, nu, cu, su, k, hk, kb⟩ := (mf (Rat.le_of_lt h.pos) h.nr).2 (Rat.ne_of_gt h.pos)
 have hm := h.m
 have kk : k < 10 ^ 8 := xj (by rw [← Nat.pow_add]; omega)
 exact ⟨u, e, hu, nu, cu, su, by rw [hk]; exact V2 P.den_pos (by rw [Int.natAbs_natCast]; exact kk) h.den, k, hk, kk⟩
theorem J4 {u : Tm} (hu : ZP RM u) (cu : 0 < u.c) (bu : bq 10 u.c) (bP : bq 60 (tC u)) : vq (YZ [u] [u]) ∧ Z3 (YZ [u] [u]) = [⟨tC u, 1⟩] := by
 obtain ⟨q1, m0, m1⟩ := hu.mQ
 obtain ⟨a1, a2⟩ := Ly hu hu
 have en : nrm (mQ (XO u u).q) = (mQ u.q, 1) := by rw [a2]; exact jC m0 (Nat.lt_of_le_of_lt (Nat.mul_le_mul m1 m1) (by decide))
 have ex : Xn (XO u u) = ⟨tC u, 1⟩ := by
  unfold Xn
  rw [en]
  have e1 : (XO u u).q.den = 1 := by rw [a1.mQ.1]; rfl
  have e2 : (XO u u).c * mkRat ((mQ u.q : Nat) : Int) 1 = tC u := by
   rw [Rat.mkRat_eq_div, Rat.intCast_natCast, ← q1]
   show u.c * u.c * (u.q / ((1 : Nat) : Rat)) = u.c * u.c * u.q
   rw [show ((1 : Nat) : Rat) = 1 from rfl]
   grind
  simp only [e1, e2]
  rfl
 have hc : (XO u u).c ≠ 0 := fun e => by
  rcases Rat.mul_eq_zero.1 (show u.c * u.c = 0 from e) with e | e <;> exact absurd e (Rat.ne_of_gt cu)
 have hq : (XO u u).q ≠ 0 := fun e => by
  have := a1.mQ.2.1
  rw [e] at this
  exact absurd this (by decide +kernel)
 have h0 : tC u ≠ 0 := Rat.ne_of_gt (Rat.mul_pos (Rat.mul_pos cu cu) (by rw [q1]; exact Rat.natCast_pos.2 m0))
 have e1 : Y9 [XO u u] = [⟨tC u, 1⟩] := by
  unfold Y9
  rw [List.filter_cons, if_pos (by rw [decide_eq_true hc, decide_eq_true hq]; rfl), List.filter_nil, List.map_cons, List.map_nil, ex]
 have e2 : Z3 [XO u u] = [⟨tC u, 1⟩] := by
  unfold Z3 Y7
  rw [e1]
  show Wt (([⟨tC u, 1⟩] : List Tm).filter _) = _
  rw [List.filter_cons, if_pos (by simpa using h0), List.filter_nil]
  rfl
 show vq [XO u u] ∧ Z3 [XO u u] = _
 have hin : inT RM [XO u u] := fun t ht => by
  rw [List.mem_singleton.1 ht]
  exact ⟨(vo a1).1, by rw [en]; exact (show 1 ≤ RM by decide)⟩
 refine ⟨⟨show 1 ≤ 256 by decide, fun t ht => ?_, fun t ht _ => ?_, hin, fun k => ?_, by rw [e2]; exact (show 1 ≤ 16 by decide)⟩, e2⟩
 ·rw [List.mem_singleton.1 ht]
  exact (sE bu bu).mono (by decide)
 ·rw [List.mem_singleton.1 ht]
  have mm : mQ u.q * mQ u.q < 10 ^ 16 := Nat.lt_of_le_of_lt (Nat.mul_le_mul m1 m1) (by decide)
  have eq : (XO u u).q = ((mQ u.q * mQ u.q : Nat) : Rat) := by rw [a1.mQ.1, a2]
  generalize mQ u.q * mQ u.q = r at *
  have b1 : bq 16 (XO u u).q := by
   rw [eq]
   exact ⟨by rw [Rat.num_natCast, Int.natAbs_natCast]; exact mm, by rw [Rat.den_natCast]; decide⟩
  refine ⟨(Zk (by decide) (by decide)).2 (b1.mono (by decide)), ?_, ?_⟩
  ·rw [zS]
   exact Rat.lt_of_le_of_ne (vo a1).1 (Ne.symm hq)
  ·rw [zS]
   have c1 : x9 (XO u u).q.num ≤ 16 := xt (by decide) b1.num
   have c2 : Lib.nDigits (XO u u).q.den ≤ 1 := (z8 (by decide)).2 (by rw [eq, Rat.den_natCast]; decide)
   omega
 ·intro x hx
  match k with
  | 0 => exact absurd hx (by rw [List.take_zero]; intro h; cases h)
  | k + 1 =>
   rw [List.take_succ_cons, List.take_nil, e1] at hx
   rw [List.mem_singleton.1 (show x ∈ [(⟨tC u, 1⟩ : Tm)] from hx)]
   exact bP
structure oneG (P : Rat) (s : List Tm) : Prop where
 made : vq [⟨1, P⟩]
 ok : wG s
 sqm : vq (YZ s s)
 sq : Z3 (YZ s s) = [⟨P, 1⟩]
 oks : wG (Z3 (YZ s s))
theorem sH {P : Rat} (h : RD P) : oneG P (Z3 [⟨1, P⟩]) := by
 obtain ⟨u, e, hu, nu, cu, su, bu, _⟩ := vH h
 have bP : bq 60 P := ⟨Nat.lt_of_lt_of_le h.num (by decide), Nat.lt_of_lt_of_le h.den (by decide)⟩
 have := J4 hu cu (bu.mono (by decide)) (su ▸ bP)
 rw [su, ← e] at this
 exact ⟨Vi h, NA (Vi h), this.1, this.2, NA this.1⟩
end Go.Te

namespace Go.Te
open Go Go.Sx Go.Proofs Go.Ar
set_option maxRecDepth 100000
set_option maxHeartbeats 4000000
structure WB (p : zj) : Prop where
 ok : Yx 140 p
 pos : 0 < zo p
theorem WB.not0 {p : zj} (h : WB p) : (p == [48]) = false := by
 rw [← qY h.ok.1, x8]
 exact decide_eq_false (Rat.ne_of_gt h.pos)
def Sj : List AV → Option (List zN × AV)
 | [.str p] => some ([.p (WB p)], .i 0)
 | _ => none
theorem KY (G : List (Nat × Obj)) (p : List UInt8) (hp : WB p) :
 let q2 := (ByteArray.data (ByteArray.mk #[(48 : UInt8)])); let q1 := (p == Array.toList q2); ZY [AV.str p] → Yx 300 p ∧ bF (!zR false q1 || zR false q1) (bF (!zR false q1 || bA #[(45 : UInt8)] == [(45 : UInt8)]) ((zR false q1 = true → zk p = false) ∧ bF (!!p == Array.toList q2 || zR false q1) (zZ (bif p == Array.toList q2 then true else false) (kI ∧ (2 : Int) = iZ) (kI ∧ iZ = iZ)))) := by
 delta bF bA kI iZ
 dsimp only
 intro hb
 simp only [sS, ZU, zA, zS, zE, ZX, ZB, ZQ, Z0, ZN, Z6, ZM, ZU, zA, zS, zE, ZX, ZB, ZQ, Z0, ZN, Z6, ZM, xn, YS, dS]
 rw [hp.not0]
 exact ⟨hp.ok.mono (by decide), fun _ => uL hp.ok.1 (Rat.le_of_lt hp.pos), trivial⟩
theorem JP {G : List (Nat × Obj)} (hG : zO G) (p : List UInt8) (hp : WB p) : zu Tryz.prog G 65 [.str p] (.i 0) :=
 zv (T := ((Xh G).plus 43 tX).plus 44 ue) (an := .auto) mixed (zz.plus (zz.plus zq (rq hG)) (zP.mono PU)) (Eq.mp (by kernel_rfl) (KY G p hp))
theorem m8 {G : List (Nat × Obj)} (hG : zO G) : zP Tryz.prog G 65 Sj := by
 intro xs ps r h hp
 unfold Sj at h
 split at h
 ·skip
  rename_i p
  cases h
  obtain ⟨q0, -⟩ := Zo hp
  exact weaken (ys := [.str p]) ⟨zV _, trivial⟩ (JP hG p q0)
 ·cases h
def Lg : AV → Bool
 | .v (.int .i64 0) => true
 | _ => false
theorem wY {x : AV} (h : Lg x = true) : ze x (.i 0) := by
 unfold Lg at h
 split at h
 ·exact zV _
 ·cases h
def Qn : List AV → Option (List zN × AV)
 | [.xq 1 c_s 0, .str a, .str b] => some ([.b (Lg (c_s 0)), .p (YJ 140 a b)], .str (zW (zo a + zo b)))
 | _ => none
theorem KV (G : List (Nat × Obj)) (a : List UInt8) (b : List UInt8) (h : YJ 140 a b) :
 ZY [AV.xq 1 (fun (x : Nat) => aI iZ) 0, AV.str a, AV.str b] → YJ 140 a b ∧ zW (zo a + zo b) = zW (zo a + zo b) := by
 delta iZ aI
 intro hb
 simp only [sS, ZU, zA, zS, zE, ZX, ZB, ZQ, Z0, ZN, Z6, ZM, ZU, zA, zS, zE, ZX, ZB, ZQ, Z0, ZN, Z6, ZM, xn, YS, dS]
 exact h
theorem JR {G : List (Nat × Obj)} (hG : zO G) (a : List UInt8) (b : List UInt8) (h : YJ 140 a b) : zu Tryz.prog G 53 [.xq 1 (fun _ => .i 0) 0, .str a, .str b] (.str (zW (zo a + zo b))) :=
 zv (T := ((Xh G).plus 30 S7).body Tryz.prog [(89, .auto)]) (an := .auto) mixed (zz.body mixed (zz.plus zq (Ql hG)) _) (Eq.mp (by kernel_rfl) (KV G a b h))
theorem iK {G : List (Nat × Obj)} (hG : zO G) : zP Tryz.prog G 53 Qn := by
 intro xs ps r h hp
 unfold Qn at h
 split at h
 ·skip
  rename_i c_s a b
  cases h
  obtain ⟨q0, q1, -⟩ := Zo hp
  exact weaken (ys := [.xq 1 (fun _ => .i 0) 0, .str a, .str b]) ⟨⟨rfl, rfl, wY q0⟩, zV _, zV _, trivial⟩ (JR hG a b q1)
 ·cases h
def Sz : List AV → Option (List zN × AV)
 | [.xq 1 c_s 0, .str a, .str b] => some ([.b (Lg (c_s 0)), .p (YJ 140 a b)], .str (zW (zo a * zo b)))
 | _ => none
theorem LU (G : List (Nat × Obj)) (a : List UInt8) (b : List UInt8) (h : YJ 140 a b) :
 ZY [AV.xq 1 (fun (x : Nat) => aI iZ) 0, AV.str a, AV.str b] → YJ 140 a b ∧ zW (zo a * zo b) = zW (zo a * zo b) := by
 delta iZ aI
 intro hb
 simp only [sS, ZU, zA, zS, zE, ZX, ZB, ZQ, Z0, ZN, Z6, ZM, ZU, zA, zS, zE, ZX, ZB, ZQ, Z0, ZN, Z6, ZM, xn, YS, dS]
 exact h
theorem Ju {G : List (Nat × Obj)} (hG : zO G) (a : List UInt8) (b : List UInt8) (h : YJ 140 a b) : zu Tryz.prog G 90 [.xq 1 (fun _ => .i 0) 0, .str a, .str b] (.str (zW (zo a * zo b))) :=
 zv (T := ((Xh G).plus 40 vS).body Tryz.prog [(89, .auto)]) (an := .auto) mixed (zz.body mixed (zz.plus zq (Vt hG)) _) (Eq.mp (by kernel_rfl) (LU G a b h))
theorem M6 {G : List (Nat × Obj)} (hG : zO G) : zP Tryz.prog G 90 Sz := by
 intro xs ps r h hp
 unfold Sz at h
 split at h
 ·skip
  rename_i c_s a b
  cases h
  obtain ⟨q0, q1, -⟩ := Zo hp
  exact weaken (ys := [.xq 1 (fun _ => .i 0) 0, .str a, .str b]) ⟨⟨rfl, rfl, wY q0⟩, zV _, zV _, trivial⟩ (Ju hG a b q1)
 ·cases h
def qC : List AV → Option (List zN × AV)
 | [.xq 1 c_s 0, .str a, .str b] => some ([.b (Lg (c_s 0)), .p (X7 a b)], .str (zW (zo a / zo b)))
 | _ => none
theorem Ko (G : List (Nat × Obj)) (a : List UInt8) (b : List UInt8) (h : X7 a b) :
 ZY [AV.xq 1 (fun (x : Nat) => aI iZ) 0, AV.str a, AV.str b] → X7 a b ∧ zW (zo a / zo b) = zW (zo a / zo b) := by
 delta iZ aI
 intro hb
 simp only [sS, ZU, zA, zS, zE, ZX, ZB, ZQ, Z0, ZN, Z6, ZM, ZU, zA, zS, zE, ZX, ZB, ZQ, Z0, ZN, Z6, ZM, xn, YS, dS]
 exact h
theorem Jt {G : List (Nat × Obj)} (hG : zO G) (a : List UInt8) (b : List UInt8) (h : X7 a b) : zu Tryz.prog G 52 [.xq 1 (fun _ => .i 0) 0, .str a, .str b] (.str (zW (zo a / zo b))) :=
 zv (T := ((Xh G).plus 66 s7).body Tryz.prog [(89, .auto)]) (an := .auto) mixed (zz.body mixed (zz.plus zq (pm hG)) _) (Eq.mp (by kernel_rfl) (Ko G a b h))
theorem ij {G : List (Nat × Obj)} (hG : zO G) : zP Tryz.prog G 52 qC := by
 intro xs ps r h hp
 unfold qC at h
 split at h
 ·skip
  rename_i c_s a b
  cases h
  obtain ⟨q0, q1, -⟩ := Zo hp
  exact weaken (ys := [.xq 1 (fun _ => .i 0) 0, .str a, .str b]) ⟨⟨rfl, rfl, wY q0⟩, zV _, zV _, trivial⟩ (Jt hG a b q1)
 ·cases h
noncomputable def HX (G : List (Nat × Obj)) : Tb := (((Xh G).plus 53 Qn).plus 90 Sz).plus 52 qC
theorem Wn {G : List (Nat × Obj)} (hG : zO G) : zz Tryz.prog (HX G) := zz.plus (zz.plus (zz.plus zq (iK hG)) (M6 hG)) (ij hG)
theorem VD : zo [49] = 1 := by decide +kernel
def Qr : List AV → Option (List zN × AV)
 | [.xq 1 c_s 0, .str p, .str q] => some ([.b (Lg (c_s 0)), .p (YJ 140 [49] p)], .str (zW (1 + zo p)))
 | _ => none
theorem Kf (G : List (Nat × Obj)) (p : List UInt8) (q : List UInt8) (h1 : YJ 140 [49] p) :
 let q1 := (bA #[(49 : UInt8)]); ZY [AV.xq 1 (fun (x : Nat) => aI iZ) 0, AV.str p, AV.str q] → YJ 140 q1 p ∧ zW (zo q1 + zo p) = zW ((1 : Rat) + zo p) := by
 delta bA iZ aI
 dsimp only
 intro hb
 simp only [sS, ZU, zA, zS, zE, ZX, ZB, ZQ, Z0, ZN, Z6, ZM, ZU, zA, zS, zE, ZX, ZB, ZQ, Z0, ZN, Z6, ZM, xn, YS, dS, VD]
 exact h1
theorem IP {G : List (Nat × Obj)} (hG : zO G) (p : List UInt8) (q : List UInt8) (h1 : YJ 140 [49] p) : zu Tryz.prog G 70 [.xq 1 (fun _ => .i 0) 0, .str p, .str q] (.str (zW (1 + zo p))) :=
 zv (T := HX G) (an := .auto) mixed (Wn hG) (Eq.mp (by kernel_rfl) (Kf G p q h1))
theorem IV {G : List (Nat × Obj)} (hG : zO G) : zP Tryz.prog G 70 Qr := by
 intro xs ps r h hp
 unfold Qr at h
 split at h
 ·skip
  rename_i c_s p q
  cases h
  obtain ⟨q0, q1, -⟩ := Zo hp
  exact weaken (ys := [.xq 1 (fun _ => .i 0) 0, .str p, .str q]) ⟨⟨rfl, rfl, wY q0⟩, zV _, zV _, trivial⟩ (IP hG p q q1)
 ·cases h
def pj : List AV → Option (List zN × AV)
 | [.xq 1 c_s 0, .str p, .str q] => some ([.b (Lg (c_s 0)), .p (X7 [49] p), .p (X7 [49] q), .p (YJ 140 (zW (1 / zo p)) (zW (1 / zo q))), .p (X7 [49] (zW (1 / zo p + 1 / zo q)))], .str (zW (1 / (1 / zo p + 1 / zo q))))
 | _ => none
theorem LZ (G : List (Nat × Obj)) (p : List UInt8) (q : List UInt8) (h1 : X7 [49] p) (h2 : X7 [49] q) (h3 : YJ 140 (zW (1 / zo p)) (zW (1 / zo q))) (h4 : X7 [49] (zW (1 / zo p + 1 / zo q))) :
 let q1 := (bA #[(49 : UInt8)]); let q2 := (zW (zo q1 / zo p)); let q3 := (zW (zo q1 / zo q)); let q4 := (zW (zo q2 + zo q3)); ZY [AV.xq 1 (fun (x : Nat) => aI iZ) 0, AV.str p, AV.str q] → X7 q1 p ∧ X7 q1 q ∧ YJ 140 q2 q3 ∧ X7 q1 q4 ∧ zW (zo q1 / zo q4) = zW ((1 : Rat) / ((1 : Rat) / zo p + (1 : Rat) / zo q)) := by
 delta bA iZ aI
 dsimp only
 intro hb
 simp only [sS, ZU, zA, zS, zE, ZX, ZB, ZQ, Z0, ZN, Z6, ZM, ZU, zA, zS, zE, ZX, ZB, ZQ, Z0, ZN, Z6, ZM, xn, YS, dS, VD]
 exact ⟨h1, h2, h3, h4⟩
theorem Io {G : List (Nat × Obj)} (hG : zO G) (p : List UInt8) (q : List UInt8) (h1 : X7 [49] p) (h2 : X7 [49] q) (h3 : YJ 140 (zW (1 / zo p)) (zW (1 / zo q))) (h4 : X7 [49] (zW (1 / zo p + 1 / zo q))) : zu Tryz.prog G 51 [.xq 1 (fun _ => .i 0) 0, .str p, .str q] (.str (zW (1 / (1 / zo p + 1 / zo q)))) :=
 zv (T := HX G) (an := .auto) mixed (Wn hG) (Eq.mp (by kernel_rfl) (LZ G p q h1 h2 h3 h4))
theorem iG {G : List (Nat × Obj)} (hG : zO G) : zP Tryz.prog G 51 pj := by
 intro xs ps r h hp
 unfold pj at h
 split at h
 ·skip
  rename_i c_s p q
  cases h
  obtain ⟨q0, q1, q2, q3, q4, -⟩ := Zo hp
  exact weaken (ys := [.xq 1 (fun _ => .i 0) 0, .str p, .str q]) ⟨⟨rfl, rfl, wY q0⟩, zV _, zV _, trivial⟩ (Io hG p q q1 q2 q3 q4)
 ·cases h
def Qx : List AV → Option (List zN × AV)
 | [.xq 1 c_s 0, .str p, .str q] => some ([.b (Lg (c_s 0)), .p (X7 [49] p), .p (X7 [49] q), .p (YJ 140 (zW (1 / zo p)) (zW (1 / zo q))), .p (YJ 140 [49] (zW (1 / zo p + 1 / zo q)))], .str (zW (1 + (1 / zo p + 1 / zo q))))
 | _ => none
theorem Kj (G : List (Nat × Obj)) (p : List UInt8) (q : List UInt8) (h1 : X7 [49] p) (h2 : X7 [49] q) (h3 : YJ 140 (zW (1 / zo p)) (zW (1 / zo q))) (h4 : YJ 140 [49] (zW (1 / zo p + 1 / zo q))) :
 let q1 := (bA #[(49 : UInt8)]); let q2 := (zW (zo q1 / zo p)); let q3 := (zW (zo q1 / zo q)); let q4 := (zW (zo q2 + zo q3)); ZY [AV.xq 1 (fun (x : Nat) => aI iZ) 0, AV.str p, AV.str q] → X7 q1 p ∧ X7 q1 q ∧ YJ 140 q2 q3 ∧ YJ 140 q1 q4 ∧ zW (zo q1 + zo q4) = zW ((1 : Rat) + ((1 : Rat) / zo p + (1 : Rat) / zo q)) := by
 delta bA iZ aI
 dsimp only
 intro hb
 simp only [sS, ZU, zA, zS, zE, ZX, ZB, ZQ, Z0, ZN, Z6, ZM, ZU, zA, zS, zE, ZX, ZB, ZQ, Z0, ZN, Z6, ZM, xn, YS, dS, VD]
 exact ⟨h1, h2, h3, h4⟩
theorem iq {G : List (Nat × Obj)} (hG : zO G) (p : List UInt8) (q : List UInt8) (h1 : X7 [49] p) (h2 : X7 [49] q) (h3 : YJ 140 (zW (1 / zo p)) (zW (1 / zo q))) (h4 : YJ 140 [49] (zW (1 / zo p + 1 / zo q))) : zu Tryz.prog G 106 [.xq 1 (fun _ => .i 0) 0, .str p, .str q] (.str (zW (1 + (1 / zo p + 1 / zo q)))) :=
 zv (T := HX G) (an := .auto) mixed (Wn hG) (Eq.mp (by kernel_rfl) (Kj G p q h1 h2 h3 h4))
theorem JM {G : List (Nat × Obj)} (hG : zO G) : zP Tryz.prog G 106 Qx := by
 intro xs ps r h hp
 unfold Qx at h
 split at h
 ·skip
  rename_i c_s p q
  cases h
  obtain ⟨q0, q1, q2, q3, q4, -⟩ := Zo hp
  exact weaken (ys := [.xq 1 (fun _ => .i 0) 0, .str p, .str q]) ⟨⟨rfl, rfl, wY q0⟩, zV _, zV _, trivial⟩ (iq hG p q q1 q2 q3 q4)
 ·cases h
def Qj : List AV → Option (List zN × AV)
 | [.xq 1 c_s 0, .str p, .str q] => some ([.b (Lg (c_s 0)), .p (YJ 140 [49] p), .p (YJ 140 [49] q), .p (YJ 140 (zW (1 + zo p)) (zW (1 + zo q))), .p (X7 [49] (zW ((1 + zo p) * (1 + zo q))))], .str (zW (1 / ((1 + zo p) * (1 + zo q)))))
 | _ => none
theorem L3 (G : List (Nat × Obj)) (p : List UInt8) (q : List UInt8) (h1 : YJ 140 [49] p) (h2 : YJ 140 [49] q) (h3 : YJ 140 (zW (1 + zo p)) (zW (1 + zo q))) (h4 : X7 [49] (zW ((1 + zo p) * (1 + zo q)))) :
 let q1 := (bA #[(49 : UInt8)]); let q2 := (zW (zo q1 + zo p)); let q3 := (zW (zo q1 + zo q)); let q4 := (zW (zo q2 * zo q3)); ZY [AV.xq 1 (fun (x : Nat) => aI iZ) 0, AV.str p, AV.str q] → YJ 140 q1 p ∧ YJ 140 q1 q ∧ YJ 140 q2 q3 ∧ X7 q1 q4 ∧ zW (zo q1 / zo q4) = zW ((1 : Rat) / (((1 : Rat) + zo p) * ((1 : Rat) + zo q))) := by
 delta bA iZ aI
 dsimp only
 intro hb
 simp only [sS, ZU, zA, zS, zE, ZX, ZB, ZQ, Z0, ZN, Z6, ZM, ZU, zA, zS, zE, ZX, ZB, ZQ, Z0, ZN, Z6, ZM, xn, YS, dS, VD]
 exact ⟨h1, h2, h3, h4⟩
theorem Il {G : List (Nat × Obj)} (hG : zO G) (p : List UInt8) (q : List UInt8) (h1 : YJ 140 [49] p) (h2 : YJ 140 [49] q) (h3 : YJ 140 (zW (1 + zo p)) (zW (1 + zo q))) (h4 : X7 [49] (zW ((1 + zo p) * (1 + zo q)))) : zu Tryz.prog G 107 [.xq 1 (fun _ => .i 0) 0, .str p, .str q] (.str (zW (1 / ((1 + zo p) * (1 + zo q))))) :=
 zv (T := HX G) (an := .auto) mixed (Wn hG) (Eq.mp (by kernel_rfl) (L3 G p q h1 h2 h3 h4))
theorem Iu {G : List (Nat × Obj)} (hG : zO G) : zP Tryz.prog G 107 Qj := by
 intro xs ps r h hp
 unfold Qj at h
 split at h
 ·skip
  rename_i c_s p q
  cases h
  obtain ⟨q0, q1, q2, q3, q4, -⟩ := Zo hp
  exact weaken (ys := [.xq 1 (fun _ => .i 0) 0, .str p, .str q]) ⟨⟨rfl, rfl, wY q0⟩, zV _, zV _, trivial⟩ (Il hG p q q1 q2 q3 q4)
 ·cases h
noncomputable def HG (G : List (Nat × Obj)) : Tb := (((((((Xh G).plus 65 Sj).plus 90 Sz).plus 20 RY).plus 70 Qr).plus 51 pj).plus 106 Qx).plus 107 Qj
theorem py {G : List (Nat × Obj)} (hG : zO G) : zz Tryz.prog (HG G) := zz.plus (zz.plus (zz.plus (zz.plus (zz.plus (zz.plus (zz.plus zq (m8 hG)) (M6 hG)) (Nb hG)) (IV hG)) (iG hG)) (JM hG)) (Iu hG)
def na  : yQ :=
 .two .auto (.two (.two .auto (.one (.unroll 3 .auto))) .auto)
noncomputable def gV (G : List (Nat × Obj)) : Tb := (HG G).body Tryz.prog [(54, na)]
theorem Wi {G : List (Nat × Obj)} (hG : zO G) : zz Tryz.prog (gV G) := zz.body mixed (py hG) _
structure YL (p : zj) : Prop where
 ok : ∃ N D : Nat, (0 < N ∧ N ≤ 48) ∧ (0 < D ∧ D ≤ 48) ∧ p = zW (mkRat (N : Int) D)
def Yk (p : Rat) : Rat := 1 + p * p
def Q5 (p q : Rat) : Rat := 1 / (1 / (p * p) + 1 / (q * q))
def Of (p q : Rat) : Rat := 1 + (1 / (p * p) + 1 / (q * q))
def O4 (p q : Rat) : Rat := 1 / ((1 + p * p) * (1 + q * q))
theorem Jk (n d : Nat) : mkRat ((n : Nat) : Int) d = (n : Rat) / (d : Rat) := by rw [Rat.mkRat_eq_div, Rat.intCast_natCast]
theorem mr {n : Nat} (h : 0 < n) : (n : Rat) ≠ 0 := fun e => by have := Rat.natCast_eq_zero_iff.1 e; omega
theorem H7 : ((1 : Nat) : Rat) = 1 := rfl
section
variable {N D M E : Nat}
theorem Xy (hD : 0 < D) : mkRat (N : Int) D * mkRat (N : Int) D = mkRat ((N * N : Nat) : Int) (D * D) := by
 simp only [Jk, Rat.natCast_mul]
 have := mr hD
 generalize (D : Rat) = d at *
 generalize (N : Rat) = n at *
 grind
theorem Sb (hN : 0 < N) (hD : 0 < D) : 1 / (mkRat (N : Int) D * mkRat (N : Int) D) = mkRat ((D * D : Nat) : Int) (N * N) := by
 simp only [Jk, Rat.natCast_mul]
 have := mr hD
 have := mr hN
 generalize (D : Rat) = d at *
 generalize (N : Rat) = n at *
 grind
theorem kY (hD : 0 < D) : Yk (mkRat (N : Int) D) = mkRat ((D * D + N * N : Nat) : Int) (D * 1 * (D * 1)) := by
 unfold Yk
 simp only [Jk, Rat.natCast_mul, Rat.natCast_add, H7]
 have := mr hD
 generalize (D : Rat) = d at *
 generalize (N : Rat) = n at *
 grind
theorem ub (hN : 0 < N) (hD : 0 < D) (hM : 0 < M) (hE : 0 < E) : 1 / (mkRat (N : Int) D * mkRat (N : Int) D) + 1 / (mkRat (M : Int) E * mkRat (M : Int) E) = mkRat ((D * D * (M * M) + E * E * (N * N) : Nat) : Int) (N * M * (N * M)) := by
 rw [Sb hN hD, Sb hM hE]
 simp only [Jk, Rat.natCast_mul, Rat.natCast_add]
 have := mr hN
 have := mr hM
 generalize (D : Rat) = d at *
 generalize (N : Rat) = n at *
 generalize (E : Rat) = e at *
 generalize (M : Rat) = m at *
 grind
theorem MJ {n d : Nat} (hn : 0 < n) (hd : 0 < d) : 1 / mkRat (n : Int) d = mkRat (d : Int) n := by
 simp only [Jk]
 have := mr hd
 have := mr hn
 generalize (d : Rat) = d at *
 generalize (n : Rat) = n at *
 grind
theorem WY {n d : Nat} (hd : 0 < d) : 1 + mkRat (n : Int) d = mkRat ((d + n : Nat) : Int) d := by
 simp only [Jk, Rat.natCast_add]
 have := mr hd
 generalize (d : Rat) = d at *
 generalize (n : Rat) = n at *
 grind
theorem L2 (hN : 0 < N) (hD : 0 < D) (hM : 0 < M) (hE : 0 < E) : Q5 (mkRat (N : Int) D) (mkRat (M : Int) E) = mkRat ((N * M * (N * M) : Nat) : Int) (D * D * (M * M) + E * E * (N * N)) := by
 unfold Q5
 rw [ub hN hD hM hE, MJ (Nat.add_pos_left (Nat.mul_pos (Nat.mul_pos hD hD) (Nat.mul_pos hM hM)) _) (Nat.mul_pos (Nat.mul_pos hN hM) (Nat.mul_pos hN hM))]
theorem KC (hN : 0 < N) (hD : 0 < D) (hM : 0 < M) (hE : 0 < E) : Of (mkRat (N : Int) D) (mkRat (M : Int) E) = mkRat ((N * M * (N * M) + (D * D * (M * M) + E * E * (N * N)) : Nat) : Int) (N * M * (N * M)) := by
 unfold Of
 rw [ub hN hD hM hE, WY (Nat.mul_pos (Nat.mul_pos hN hM) (Nat.mul_pos hN hM))]
theorem l8 (hN : 0 < N) (hD : 0 < D) (hM : 0 < M) (hE : 0 < E) : O4 (mkRat (N : Int) D) (mkRat (M : Int) E) = mkRat ((D * E * (D * E) : Nat) : Int) ((D * D + N * N) * (E * E + M * M)) := by
 unfold O4
 rw [Xy hD, Xy hE, WY (Nat.mul_pos hD hD), WY (Nat.mul_pos hE hE), Rat.mkRat_mul_mkRat, ← Int.natCast_mul, MJ (Nat.mul_pos (Nat.add_pos_left (Nat.mul_pos hD hD) _) (Nat.add_pos_left (Nat.mul_pos hE hE) _)) (Nat.mul_pos (Nat.mul_pos hD hD) (Nat.mul_pos hE hE))]
 rw [show D * E * (D * E) = D * D * (E * E) by grind]
end
theorem R4 {N : Nat} (h : 0 < N ∧ N ≤ 48) : 0 < N * N ∧ N * N ≤ 2304 := ⟨Nat.mul_pos h.1 h.1, Nat.mul_le_mul h.2 h.2⟩
theorem Ic {n d : Nat} (hd : 0 < d) (h1 : n < 10 ^ 8) (h2 : d < 10 ^ 8) : bq 8 (mkRat (n : Int) d) := V2 hd (by rw [Int.natAbs_natCast]; exact h1) h2
theorem rZ {n d : Nat} (hn : 0 < n) (hd : 0 < d) : 0 < mkRat (n : Int) d := by obtain ⟨_, _, _, _, _, h⟩ := Uy hn hd; exact h
theorem Xo {x : Rat} (h : bq 8 x) : Yx 140 (zW x) := (Zk (by decide) (by decide)).2 (h.mono (by decide))
theorem P4 : Yx 140 (zW 1) := Xo ⟨by decide +kernel, by decide +kernel⟩
theorem gC : WB (zW 1) := ⟨P4, by rw [zS]; decide +kernel⟩
theorem Js {x y : Rat} (hx : Yx 140 (zW x)) (hy : Yx 140 (zW y)) (h0 : 0 < y) : X7 (zW x) (zW y) := ⟨hx, hy, by rw [zS]; exact Rat.ne_of_gt h0⟩
structure Gx (x : Rat) : Prop where
 p : 0 < x
 b : bq 8 x
 s : bq 8 (x * x)
 sp : 0 < x * x
 i : bq 8 (1 / (x * x))
 f : bq 8 (1 + x * x)
 r : RD (Yk x)
theorem YL.one {p : zj} (h : YL p) : ∃ x, p = zW x ∧ Gx x := by
 obtain ⟨N, D, hN, hD, rfl⟩ := h.ok
 have n2 := R4 hN
 have d2 := R4 hD
 refine ⟨_, rfl, rZ hN.1 hD.1, Ic hD.1 (by omega) (by omega), ?_, ?_, ?_, ?_, ?_⟩
 ·rw [Xy hD.1]; exact Ic d2.1 (by omega) (by omega)
 ·rw [Xy hD.1]; exact rZ n2.1 d2.1
 ·rw [Sb hN.1 hD.1]; exact Ic n2.1 (by omega) (by omega)
 ·rw [Xy hD.1, WY d2.1]; exact Ic d2.1 (by omega) (by omega)
 ·rw [kY hD.1]; exact R3 ⟨by omega, by omega⟩ hD (by decide)
structure Gt (x y : Rat) : Prop where
 s : bq 8 (1 / (x * x) + 1 / (y * y))
 sp : 0 < 1 / (x * x) + 1 / (y * y)
 h : RD (Q5 x y)
 l : RD (Of x y)
 m : bq 8 ((1 + x * x) * (1 + y * y))
 mp : 0 < (1 + x * x) * (1 + y * y)
 d : RD (O4 x y)
theorem YL.two {x y : Rat} (h : YL (zW x)) (g : YL (zW y)) : Gt x y := by
 obtain ⟨N, D, hN, hD, e⟩ := h.ok
 obtain ⟨M, E, hM, hE, e2⟩ := g.ok
 obtain rfl := Xt e
 obtain rfl := Xt e2
 have n2 := R4 hN
 have d2 := R4 hD
 have m2 := R4 hM
 have e2 := R4 hE
 have h1 : 0 < D * D * (M * M) ∧ D * D * (M * M) ≤ 2304 * 2304 := ⟨Nat.mul_pos d2.1 m2.1, Nat.mul_le_mul d2.2 m2.2⟩
 have h2 : E * E * (N * N) ≤ 2304 * 2304 := Nat.mul_le_mul e2.2 n2.2
 have h3 := Jn hN hM
 have h7 : 0 < (D * D + N * N) * (E * E + M * M) ∧ (D * D + N * N) * (E * E + M * M) ≤ 4608 * 4608 := ⟨Nat.mul_pos (by omega) (by omega), Nat.mul_le_mul (by omega) (by omega)⟩
 have h8 : 0 < D * D * (E * E) ∧ D * D * (E * E) ≤ 2304 * 2304 := ⟨Nat.mul_pos d2.1 e2.1, Nat.mul_le_mul d2.2 e2.2⟩
 refine ⟨?_, ?_, ?_, ?_, ?_, ?_, ?_⟩
 ·rw [ub hN.1 hD.1 hM.1 hE.1]; exact Ic h3.1 (by omega) (by omega)
 ·rw [ub hN.1 hD.1 hM.1 hE.1]; exact rZ (by omega) h3.1
 ·rw [L2 hN.1 hD.1 hM.1 hE.1]; exact T5 ⟨by omega, by omega⟩ hN hM
 ·rw [KC hN.1 hD.1 hM.1 hE.1]; exact R3 ⟨by omega, by omega⟩ hN hM
 ·rw [Xy hD.1, Xy hE.1, WY d2.1, WY e2.1, Rat.mkRat_mul_mkRat, ← Int.natCast_mul]; exact Ic h8.1 (by omega) (by omega)
 ·rw [Xy hD.1, Xy hE.1, WY d2.1, WY e2.1, Rat.mkRat_mul_mkRat, ← Int.natCast_mul]; exact rZ h7.1 h8.1
 ·rw [l8 hN.1 hD.1 hM.1 hE.1]; exact T5 ⟨by omega, by omega⟩ hD hE
def QK : List AV → Option (List zN × AV)
 | [.str p] => some ([.p (YL p)], .tup 2 (zw [Z1 (Z3 [⟨1, Yk (zo p)⟩]), .i 0]))
 | _ => none
theorem LW (G : List (Nat × Obj)) (p : List UInt8) (hp : YL p) :
 let q1 := (bA #[(49 : UInt8)]); let q2 := (AV.xl true 2 1 (Sx.rowAt [zw [AV.str q1, AV.str (zW ((1 : Rat) + zo (zW (zo p * zo p))))]])); let q3 := (yY q2); let q4 := (Z3 q3); ZY [AV.str p] → WB p ∧ WB q1 ∧ YJ 140 p p ∧ YJ 140 q1 q1 ∧ YJ 140 [(49 : UInt8)] (zW (zo p * zo p)) ∧ bF (ZZ Tm q2) (vq q3 ∧ j2 ∧ (True ∧ ze (AV.xl false 2 (lN q4) fun i j => zr.enc (gD q4 i zr.dflt) j) (AV.xl false 2 (lN (Z3 [Tm.mk (1 : Rat) (Yk (zo p))])) fun i j => zr.enc (List.getD
 (Z3 [Tm.mk (1 : Rat) (Yk (zo p))]) i zr.dflt) j)) ∧ kI ∧ iZ = iZ) := by
 delta bF bA kI j2 lN gD iZ
 dsimp only
 intro hb
 simp only [sS, ZU, zA, zS, zE, ZX, ZB, ZQ, Z0, ZN, Z6, ZM, ZU, zA, zS, zE, ZX, ZB, ZQ, Z0, ZN, Z6, ZM, xn, YS, dS, and_self, VD]
 obtain ⟨x, rfl, h⟩ := hp.one
 have := Rat.ne_of_gt h.sp
 simp only [zS, ← RX, xn, YS, Xf]
 exact ⟨⟨Xo h.b, by rw [zS]; exact h.p⟩, gC, ⟨Xo h.b, Xo h.b⟩, ⟨P4, P4⟩, ⟨P4, Xo h.s⟩, Vi h.r, rfl, zV _⟩
theorem nU {G : List (Nat × Obj)} (hG : zO G) (p : List UInt8) (hp : YL p) : zu Tryz.prog G 33 [.str p] (.tup 2 (zw [Z1 (Z3 [⟨1, Yk (zo p)⟩]), .i 0])) :=
 zv (T := gV G) (an := .auto) mixed (Wi hG) (Eq.mp (by kernel_rfl) (LW G p hp))
theorem jc {G : List (Nat × Obj)} (hG : zO G) : zP Tryz.prog G 33 QK := by
 intro xs ps r h hp
 unfold QK at h
 split at h
 ·skip
  rename_i p
  cases h
  obtain ⟨q0, -⟩ := Zo hp
  exact weaken (ys := [.str p]) ⟨zV _, trivial⟩ (nU hG p q0)
 ·cases h
def pF : List AV → Option (List zN × AV)
 | [.str p, .str q] => some ([.p (YL p), .p (YL q)], .tup 2 (zw [Z1 (Z3 [⟨1, Q5 (zo p) (zo q)⟩]), .i 0]))
 | _ => none
theorem LQ (G : List (Nat × Obj)) (p : List UInt8) (q : List UInt8) (hp : YL p) (hq : YL q) :
 let q1 := ((1 : Rat) / zo (zW (zo p * zo p)) + (1 : Rat) / zo (zW (zo q * zo q))); let q2 := (AV.xl true 2 1 (Sx.rowAt [zw [AV.str (bA #[(49 : UInt8)]), AV.str (zW ((1 : Rat) / q1))]])); let q3 := (yY q2); let q4 := (Z3 q3); let q5 := (Z3 [Tm.mk (1 : Rat) (Q5 (zo p) (zo q))]); ZY [AV.str p, AV.str q] → WB p ∧ WB q ∧ YJ 140 p p ∧ YJ 140 q q ∧ X7 [(49 : UInt8)] (zW (zo p * zo p)) ∧ X7 [(49 : UInt8)] (zW (zo q * zo q)) ∧ YJ 140 (zW ((1 : Rat) / zo (zW (zo p * zo p)))) (zW ((1 : Rat) / zo (zW (zo q *
 zo q)))) ∧ X7 [(49 : UInt8)] (zW q1) ∧ bF (ZZ Tm q2) (vq q3 ∧ j2 ∧ (True ∧ ze (AV.xl false 2 (lN q4) fun i j => zr.enc (gD q4 i zr.dflt) j) (AV.xl false 2 (lN q5) fun i j => zr.enc (gD q5 i zr.dflt) j)) ∧ kI ∧ iZ = iZ) := by
 delta bF bA kI j2 lN gD iZ
 dsimp only
 intro hb
 simp only [sS, ZU, zA, zS, zE, ZX, ZB, ZQ, Z0, ZN, Z6, ZM, ZU, zA, zS, zE, ZX, ZB, ZQ, Z0, ZN, Z6, ZM, xn, YS, dS, and_self, VD]
 obtain ⟨x, rfl, h⟩ := hp.one
 obtain ⟨y, rfl, k⟩ := hq.one
 have m := hp.two hq
 simp only [zS, ← RX, xn, YS, Xf]
 exact ⟨⟨Xo h.b, by rw [zS]; exact h.p⟩, ⟨Xo k.b, by rw [zS]; exact k.p⟩, ⟨Xo h.b, Xo h.b⟩, ⟨Xo k.b, Xo k.b⟩, Js P4 (Xo h.s) h.sp, Js P4 (Xo k.s) k.sp, ⟨Xo h.i, Xo k.i⟩, Js P4 (Xo m.s) m.sp, Vi m.h, rfl, zV _⟩
theorem NU {G : List (Nat × Obj)} (hG : zO G) (p : List UInt8) (q : List UInt8) (hp : YL p) (hq : YL q) : zu Tryz.prog G 27 [.str p, .str q] (.tup 2 (zw [Z1 (Z3 [⟨1, Q5 (zo p) (zo q)⟩]), .i 0])) :=
 zv (T := gV G) (an := .auto) mixed (Wi hG) (Eq.mp (by kernel_rfl) (LQ G p q hp hq))
theorem II {G : List (Nat × Obj)} (hG : zO G) : zP Tryz.prog G 27 pF := by
 intro xs ps r h hp
 unfold pF at h
 split at h
 ·skip
  rename_i p q
  cases h
  obtain ⟨q0, q1, -⟩ := Zo hp
  exact weaken (ys := [.str p, .str q]) ⟨zV _, zV _, trivial⟩ (NU hG p q q0 q1)
 ·cases h
theorem KQ (G : List (Nat × Obj)) (p : List UInt8) (q : List UInt8) (hp : YL p) (hq : YL q) :
 let q1 := ((1 : Rat) / zo (zW (zo p * zo p)) + (1 : Rat) / zo (zW (zo q * zo q))); let q2 := (AV.xl true 2 1 (Sx.rowAt [zw [AV.str (bA #[(49 : UInt8)]), AV.str (zW ((1 : Rat) + q1))]])); let q3 := (yY q2); let q4 := (Z3 q3); let q5 := (Z3 [Tm.mk (1 : Rat) (Of (zo p) (zo q))]); ZY [AV.str p, AV.str q] → WB p ∧ WB q ∧ YJ 140 p p ∧ YJ 140 q q ∧ X7 [(49 : UInt8)] (zW (zo p * zo p)) ∧ X7 [(49 : UInt8)] (zW (zo q * zo q)) ∧ YJ 140 (zW ((1 : Rat) / zo (zW (zo p * zo p)))) (zW ((1 : Rat) / zo (zW (zo q *
 zo q)))) ∧ YJ 140 [(49 : UInt8)] (zW q1) ∧ bF (ZZ Tm q2) (vq q3 ∧ j2 ∧ (True ∧ ze (AV.xl false 2 (lN q4) fun i j => zr.enc (gD q4 i zr.dflt) j) (AV.xl false 2 (lN q5) fun i j => zr.enc (gD q5 i zr.dflt) j)) ∧ kI ∧ iZ = iZ) := by
 delta bF bA kI j2 lN gD iZ
 dsimp only
 intro hb
 simp only [sS, ZU, zA, zS, zE, ZX, ZB, ZQ, Z0, ZN, Z6, ZM, ZU, zA, zS, zE, ZX, ZB, ZQ, Z0, ZN, Z6, ZM, xn, YS, dS, and_self, VD]
 obtain ⟨x, rfl, h⟩ := hp.one
 obtain ⟨y, rfl, k⟩ := hq.one
 have m := hp.two hq
 simp only [zS, ← RX, xn, YS, Xf]
 exact ⟨⟨Xo h.b, by rw [zS]; exact h.p⟩, ⟨Xo k.b, by rw [zS]; exact k.p⟩, ⟨Xo h.b, Xo h.b⟩, ⟨Xo k.b, Xo k.b⟩, Js P4 (Xo h.s) h.sp, Js P4 (Xo k.s) k.sp, ⟨Xo h.i, Xo k.i⟩, ⟨P4, Xo m.s⟩, Vi m.l, rfl, zV _⟩
theorem Jr {G : List (Nat × Obj)} (hG : zO G) (p : List UInt8) (q : List UInt8) (hp : YL p) (hq : YL q) : zu Tryz.prog G 67 [.str p, .str q] (.tup 2 (zw [Z1 (Z3 [⟨1, Of (zo p) (zo q)⟩]), .i 0])) :=
 zv (T := gV G) (an := .auto) mixed (Wi hG) (Eq.mp (by kernel_rfl) (KQ G p q hp hq))
theorem LI (G : List (Nat × Obj)) (p : List UInt8) (q : List UInt8) (hp : YL p) (hq : YL q) :
 let q1 := ((1 : Rat) + zo (zW (zo p * zo p))); let q2 := ((1 : Rat) + zo (zW (zo q * zo q))); let q3 := (q1 * q2); let q4 := (AV.xl true 2 1 (Sx.rowAt [zw [AV.str (bA #[(49 : UInt8)]), AV.str (zW ((1 : Rat) / q3))]])); let q5 := (yY q4); let q6 := (Z3 q5); let q7 := (Z3 [Tm.mk (1 : Rat) (O4 (zo p) (zo q))]); ZY [AV.str p, AV.str q] → WB p ∧ WB q ∧ YJ 140 p p ∧ YJ 140 q q ∧ YJ 140 [(49 : UInt8)] (zW (zo p * zo p)) ∧ YJ 140 [(49 : UInt8)] (zW (zo q * zo q)) ∧ YJ 140 (zW q1) (zW q2) ∧ X7 [(49 : UInt8)] (zW
 q3) ∧ bF (ZZ Tm q4) (vq q5 ∧ j2 ∧ (True ∧ ze (AV.xl false 2 (lN q6) fun i j => zr.enc (gD q6 i zr.dflt) j) (AV.xl false 2 (lN q7) fun i j => zr.enc (gD q7 i zr.dflt) j)) ∧ kI ∧ iZ = iZ) := by
 delta bF bA kI j2 lN gD iZ
 dsimp only
 intro hb
 simp only [sS, ZU, zA, zS, zE, ZX, ZB, ZQ, Z0, ZN, Z6, ZM, ZU, zA, zS, zE, ZX, ZB, ZQ, Z0, ZN, Z6, ZM, xn, YS, dS, and_self, VD]
 obtain ⟨x, rfl, h⟩ := hp.one
 obtain ⟨y, rfl, k⟩ := hq.one
 have m := hp.two hq
 simp only [zS, ← RX, xn, YS, Xf]
 exact ⟨⟨Xo h.b, by rw [zS]; exact h.p⟩, ⟨Xo k.b, by rw [zS]; exact k.p⟩, ⟨Xo h.b, Xo h.b⟩, ⟨Xo k.b, Xo k.b⟩, ⟨P4, Xo h.s⟩, ⟨P4, Xo k.s⟩, ⟨Xo h.f, Xo k.f⟩, Js P4 (Xo m.m) m.mp, Vi m.d, rfl, zV _⟩
theorem io {G : List (Nat × Obj)} (hG : zO G) (p : List UInt8) (q : List UInt8) (hp : YL p) (hq : YL q) : zu Tryz.prog G 68 [.str p, .str q] (.tup 2 (zw [Z1 (Z3 [⟨1, O4 (zo p) (zo q)⟩]), .i 0])) :=
 zv (T := gV G) (an := .auto) mixed (Wi hG) (Eq.mp (by kernel_rfl) (LI G p q hp hq))
def SA : List AV → Option (List zN × AV)
 | [.str p, .str q] => some ([.p (YL p), .p (YL q)], .tup 2 (zw [.str (zW (zo q / zo p)), .i 0]))
 | _ => none
theorem NH (G : List (Nat × Obj)) (p : List UInt8) (q : List UInt8) (hp : YL p) (hq : YL q) :
 ZY [AV.str p, AV.str q] → WB p ∧ WB q ∧ X7 q p ∧ j2 ∧ (True ∧ zW (zo q / zo p) = zW (zo q / zo p)) ∧ kI ∧ iZ = iZ := by
 delta kI j2 iZ
 intro hb
 simp only [sS, ZU, zA, zS, zE, ZX, ZB, ZQ, Z0, ZN, Z6, ZM, ZU, zA, zS, zE, ZX, ZB, ZQ, Z0, ZN, Z6, ZM, xn, YS, dS]
 obtain ⟨x, rfl, h⟩ := hp.one
 obtain ⟨y, rfl, k⟩ := hq.one
 exact ⟨⟨Xo h.b, by rw [zS]; exact h.p⟩, ⟨Xo k.b, by rw [zS]; exact k.p⟩, Js (Xo k.b) (Xo h.b) h.p, rfl⟩
theorem PT {G : List (Nat × Obj)} (hG : zO G) (p : List UInt8) (q : List UInt8) (hp : YL p) (hq : YL q) : zu Tryz.prog G 31 [.str p, .str q] (.tup 2 (zw [.str (zW (zo q / zo p)), .i 0])) :=
 zv (T := ((Xh G).plus 65 Sj).plus 66 s7) (an := .auto) mixed (zz.plus (zz.plus zq (m8 hG)) (pm hG)) (Eq.mp (by kernel_rfl) (NH G p q hp hq))
theorem KJ {G : List (Nat × Obj)} (hG : zO G) : zP Tryz.prog G 31 SA := by
 intro xs ps r h hp
 unfold SA at h
 split at h
 ·skip
  rename_i p q
  cases h
  obtain ⟨q0, q1, -⟩ := Zo hp
  exact weaken (ys := [.str p, .str q]) ⟨zV _, zV _, trivial⟩ (PT hG p q q0 q1)
 ·cases h
end Go.Te

namespace Go.Te
open Go Go.Sx Go.Proofs Go.Ar
set_option maxRecDepth 100000
set_option maxHeartbeats 4000000
structure gM (s t : List Tm) : Prop where
 h : IC s t ∨ ig s t
def mn : List AV → Option (List zN × AV)
 | [x, y] => some ([.b (ZZ Tm x), .b (ZZ Tm y), .p (gM (yY x) (yY y))], .tup 2 (zw [.i (Xq (Z3 (yY (α := Tm) x ++ Zg (-1) (yY (α := Tm) y)))), .i 0]))
 | _ => none
theorem I5 {G : List (Nat × Obj)} (hG : qx G) : zP Tryz.prog G 23 mn := by
 intro xs ps r e hp
 unfold mn at e
 split at e
 ·rename_i x y
  cases e
  obtain ⟨q0, q1, -⟩ := Zo hp
  have q2 : gM (yY x) (yY y) := hp _ (List.mem_cons_of_mem _ (List.mem_cons_of_mem _ List.mem_cons_self))
  rcases q2.h with h | h
  ·have := jA hG.tab (yY x) (yY y) h
   rw [h.no, show Xq [] = 0 from rfl]
   exact weaken (ys := [_, _]) ⟨zd q0, zd q1, trivial⟩ this
  ·exact weaken (ys := [_, _]) ⟨zd q0, zd q1, trivial⟩ (gZ hG (yY x) (yY y) h)
 ·cases e
end Go.Te

namespace Go.Te
open Go Go.Sx Go.Proofs Go.Ar
set_option maxRecDepth 100000
set_option maxHeartbeats 4000000
theorem kM {P Q : Rat} (hP : RD P) (hQ : RD Q) : vq (Z3 [⟨1, P⟩] ++ Zg (-1) (Z3 [⟨1, Q⟩])) ∧ gS RM (Z3 (Z3 [⟨1, P⟩] ++ Zg (-1) (Z3 [⟨1, Q⟩]))) ∧ (∀ x ∈ Z3 (Z3 [⟨1, P⟩] ++ Zg (-1) (Z3 [⟨1, Q⟩])), bq 39 x.c) ∧ (Z3 (Z3 [⟨1, P⟩] ++ Zg (-1) (Z3 [⟨1, Q⟩]))).length ≤ 2 ∧ ∀ f, hom f → ev f (Z3 (Z3 [⟨1, P⟩] ++ Zg (-1) (Z3 [⟨1, Q⟩]))) = ev f (Z3 [⟨1, P⟩]) - ev f (Z3 [⟨1, Q⟩]) := by
 obtain ⟨u, e, hu, nu, cu, su, bu, j, hj, jj⟩ := vH hP
 obtain ⟨w, e2, hw, nw, cw, sw, bw, k, hk, kk⟩ := vH hQ
 rw [e, e2]
 have g1 : ∀ x ∈ [u], ZP RM x := fun x hx => by rw [List.mem_singleton.1 hx]; exact hu
 have g2 : ∀ x ∈ [w], ZP RM x := fun x hx => by rw [List.mem_singleton.1 hx]; exact hw
 have hn : ∀ x ∈ [u] ++ Zg (-1) [w], ZP RM x := m9 g1 (MW g2)
 have hi : inT RM ([u] ++ Zg (-1) [w]) := fun x hx => vo (hn x hx)
 have hL : 0 < P.den * Q.den := Nat.mul_pos P.den_pos Q.den_pos
 have hL2 : P.den * Q.den ≤ 10 ^ 8 * 10 ^ 8 := Nat.mul_le_mul (Nat.le_of_lt hP.den) (Nat.le_of_lt hQ.den)
 have one : ∀ {x : Rat} {n d a : Nat}, 0 < d → x = mkRat (n : Int) d → n < 10 ^ 8 → a ≤ 10 ^ 8 → ∃ z : Int, x * ((d * a : Nat) : Rat) = (z : Rat) ∧ z.natAbs ≤ 10 ^ 8 * 10 ^ 8 := fun {x n d a} hd hx hn ha => by
  refine ⟨((n * a : Nat) : Int), ?_, by rw [Int.natAbs_natCast]; exact Nat.mul_le_mul (Nat.le_of_lt hn) ha⟩
  have hd0 : (d : Rat) ≠ 0 := fun e => by have := Rat.natCast_eq_zero_iff.1 e; omega
  rw [hx, Rat.mkRat_eq_div, Rat.intCast_natCast, Rat.intCast_natCast, Rat.natCast_mul, Rat.natCast_mul]
  generalize (d : Rat) = y at *
  grind
 have hm : IO (P.den * Q.den) (10 ^ 8 * 10 ^ 8) ([u] ++ Zg (-1) [w]) := fun x hx => by
  rcases List.mem_append.1 hx with h | h
  ·rw [List.mem_singleton.1 h]
   exact one P.den_pos hj jj (Nat.le_of_lt hQ.den)
  ·unfold Zg at h
   obtain ⟨y, hy, rfl⟩ := List.mem_map.1 h
   rw [List.mem_singleton.1 hy]
   obtain ⟨z, z1, z2⟩ := one Q.den_pos hk kk (Nat.le_of_lt hP.den)
   refine ⟨-z, ?_, by rw [Int.natAbs_neg]; exact z2⟩
   rw [Nat.mul_comm, Rat.intCast_neg, ← z1]
   show w.c * -1 * _ = _
   grind
 have ll : ([u] ++ Zg (-1) [w]).length ≤ 2 := by rw [List.length_append, Ks]; exact Nat.le_refl 2
 have hp := (mq hn hm).mono (Nat.mul_le_mul_right _ ll)
 obtain ⟨h1, h2, h3⟩ := vf (by decide) hi
 refine ⟨jG ⟨hL, Nat.lt_of_le_of_lt (Nat.mul_le_mul_right _ hL2) (by decide)⟩ (by omega) (by omega) hn (J9 (fun x hx => by rw [List.mem_singleton.1 hx]; exact bu.mono (by decide)) (J7 fun x hx => by rw [List.mem_singleton.1 hx]; exact bw.mono (by decide))) hp (by decide), h1, ?_, by omega, fun f hf => ?_⟩
 ·exact Pq hL h1.nat h1.unr h3 hp (by decide) (Nat.lt_of_le_of_lt (Nat.mul_le_mul_right _ hL2) (by decide))
 ·rw [h3 f hf, WG, qn]
  grind
theorem P2 {P : Rat} (h : RD P) {f : Nat → Rat} (hf : Hs RM (1 / (R5 : Rat)) f) : 0 ≤ ev f (Z3 [⟨1, P⟩]) ∧ ev f (Z3 [⟨1, P⟩]) * ev f (Z3 [⟨1, P⟩]) ≤ P ∧ P ≤ ev f (Z3 [⟨1, P⟩]) * ev f (Z3 [⟨1, P⟩]) + 1 / ((10 ^ 20 : Nat) : Rat) ∧ ev f (Z3 [⟨1, P⟩]) ≤ 10000 := by
 obtain ⟨u, e, hu, nu, cu, su, bu, _⟩ := vH h
 obtain ⟨a, b⟩ := mI hf hu (Nat.le_refl _)
 have F0 : 0 ≤ Ud f u := by
  unfold Ud
  rw [se hu]
  exact Rat.mul_nonneg (Rat.le_of_lt cu) (hf.p0 _)
 have ee : ev f [u] = Ud f u := by
  show u.c * fQ f u.q + 0 = _
  unfold Ud; grind
 have es : H3 u = P := su
 have hc : u.c * u.c ≤ ((10 ^ 8 : Nat) : Rat) * ((10 ^ 8 : Nat) : Rat) := jk (Nat.le_of_lt bu.num)
 have hk := Rat.mul_le_mul_of_nonneg_right hc (show (0 : Rat) ≤ 1 / (R5 : Rat) by decide +kernel)
 have fin : ((10 ^ 8 : Nat) : Rat) * ((10 ^ 8 : Nat) : Rat) * (1 / (R5 : Rat)) ≤ 1 / ((10 ^ 20 : Nat) : Rat) := by decide +kernel
 have hP : P ≤ 10000 * 10000 := by
  have hd : (0 : Rat) < (P.den : Rat) := Rat.natCast_pos.2 P.den_pos
  have h2 := Rat.mkRat_self P
  have hd0 : (P.den : Rat) ≠ 0 := Rat.ne_of_gt hd
  rw [Rat.mkRat_eq_div] at h2
  have h3 : (P.num : Rat) = P * (P.den : Rat) := by
   generalize (P.num : Rat) = x at *
   generalize (P.den : Rat) = d at *
   rw [← h2]
   grind
  have h4 : (P.num : Rat) ≤ 10000 * 10000 := by
   have : (P.num : Rat) ≤ ((100000000 : Int) : Rat) := Rat.intCast_le_intCast.2 (by have := h.num; omega)
   exact Rat.le_trans this (by decide +kernel)
  have h5 : (1 : Rat) ≤ (P.den : Rat) := Rat.natCast_le_natCast.2 P.den_pos
  have h6 := Rat.mul_le_mul_of_nonneg_left h5 (Rat.le_of_lt h.pos)
  grind
 rw [e, ee]
 rw [es] at a b
 refine ⟨F0, a, ?_, (jN (by decide +kernel) (Rat.le_trans a hP)).2⟩
 generalize Ud f u * Ud f u = V at *
 grind
theorem K8 {P Q : Rat} (hP : RD P) (hQ : RD Q) (gp : P < Q → 1 ≤ (Q - P) * 10000000) (gq : Q < P → 1 ≤ (P - Q) * 10000000) :
  gM (Z3 [⟨1, P⟩]) (Z3 [⟨1, Q⟩]) ∧ Xq (Z3 (Z3 [⟨1, P⟩] ++ Zg (-1) (Z3 [⟨1, Q⟩]))) = if P < Q then -1 else if Q < P then 1 else 0 := by
 obtain ⟨m, g, b, l, v⟩ := kM hP hQ
 have o1 := (sH hP).ok
 have o2 := (sH hQ).ok
 have irr : ∀ x : Rat, ¬x < x := fun x h => Rat.not_lt.2 (Rat.le_refl) h
 by_cases he : P = Q
 ·subst he
  have z : Z3 (Z3 [⟨1, P⟩] ++ Zg (-1) (Z3 [⟨1, P⟩])) = [] := PX g fun f hf => by rw [v f hf]; grind
  exact ⟨⟨.inl ⟨o1, o1, m, z⟩⟩, by rw [z, if_neg (irr _), if_neg (irr _)]; rfl⟩
 ·obtain ⟨f, hf⟩ := iz RM R5 (by decide) (by decide)
  obtain ⟨x0, x1, x2, x3⟩ := P2 hP hf
  obtain ⟨y0, y1, y2, y3⟩ := P2 hQ hf
  have hev := v f hf.hom
  have c1 : (0 : Rat) < 1 / ((10 ^ 13 : Nat) : Rat) := by decide +kernel
  have c2 : 1 / ((10 ^ 13 : Nat) : Rat) * 20000 + 1 / ((10 ^ 20 : Nat) : Rat) < 1 / 10000000 := by decide +kernel
  have gap : ∀ {a b : Rat}, 1 ≤ (b - a) * 10000000 → 1 / 10000000 ≤ b - a := fun h => by grind
  have far1 : (P < Q → ev f (Z3 [⟨1, P⟩]) - ev f (Z3 [⟨1, Q⟩]) ≤ -(1 / ((10 ^ 13 : Nat) : Rat))) ∧ (Q < P → 1 / ((10 ^ 13 : Nat) : Rat) ≤ ev f (Z3 [⟨1, P⟩]) - ev f (Z3 [⟨1, Q⟩])) := by
   clear hev v b g m
   generalize ev f (Z3 [⟨1, P⟩]) = x at *
   generalize ev f (Z3 [⟨1, Q⟩]) = y at *
   generalize 1 / ((10 ^ 13 : Nat) : Rat) = d at *
   generalize 1 / ((10 ^ 20 : Nat) : Rat) = k at *
   constructor
   ·intro h
    have hg := gap (gp h)
    refine Rat.not_lt.1 fun hl => ?_
    have a1 := Rat.mul_nonneg (a := d - (y - x)) (b := y + x) (by grind) (by grind)
    have a2 := Rat.mul_le_mul_of_nonneg_left (show y + x ≤ 20000 by grind) (Rat.le_of_lt c1)
    grind
   ·intro h
    have hg := gap (gq h)
    refine Rat.not_lt.1 fun hl => ?_
    have a1 := Rat.mul_nonneg (a := d - (x - y)) (b := y + x) (by grind) (by grind)
    have a2 := Rat.mul_le_mul_of_nonneg_left (show y + x ≤ 20000 by grind) (Rat.le_of_lt c1)
    grind
  have hfar : far (1 / ((10 ^ 13 : Nat) : Rat)) (ev f (Z3 (Z3 [⟨1, P⟩] ++ Zg (-1) (Z3 [⟨1, Q⟩])))) := by
   rw [hev]
   rcases Decidable.em (P < Q) with h | h
   ·exact .inr (far1.1 h)
   ·exact .inl (far1.2 (Rat.lt_of_le_of_ne (Rat.not_lt.1 h) (Ne.symm he)))
  have hne : Z3 (Z3 [⟨1, P⟩] ++ Zg (-1) (Z3 [⟨1, Q⟩])) ≠ [] := fun e => by
   rw [e, YK] at hfar
   rcases hfar with h | h <;> grind
  obtain ⟨s1, s2⟩ := L5 hf (Nat.le_refl _) (Nat.le_refl _) g.nat g.ne b (Nat.le_refl _) (by omega) (List.length_pos_iff.2 hne) (by decide +kernel) hfar
  refine ⟨⟨.inr ⟨o1, o2, m, s1⟩⟩, ?_⟩
  rw [s2, hev]
  unfold sg
  rcases Decidable.em (P < Q) with h | h
  ·have := far1.1 h
   rw [if_pos h, if_neg (by grind), if_pos (by grind)]
  ·have h2 : Q < P := Rat.lt_of_le_of_ne (Rat.not_lt.1 h) (Ne.symm he)
   have := far1.2 h2
   rw [if_neg h, if_pos h2, if_pos (by grind)]
end Go.Te

namespace Go.Te
open Go Go.Sx Go.Proofs Go.Ar
set_option maxRecDepth 100000
set_option maxHeartbeats 4000000
def rQ (p : zj) (r : AV) : List AV → Option (List zN × AV)
 | [.str x] => some ([.b (x == p)], r)
 | _ => none
theorem Lj {G : List (Nat × Obj)} {f : FuncId} {p : zj} {r : AV} (h : zu Tryz.prog G f [.str p] r) : zP Tryz.prog G f (rQ p r) := by
 intro xs ps r e hp
 unfold rQ at e
 split at e
 ·rename_i x
  cases e
  have q0 : (x == p) = true := hp _ List.mem_cons_self
  rw [eq_of_beq q0]
  exact h
 ·cases e
def Wc (p q : zj) (r : AV) : List AV → Option (List zN × AV)
 | [.str x, .str y] => some ([.b (x == p && y == q)], r)
 | _ => none
theorem uC {G : List (Nat × Obj)} {f : FuncId} {p q : zj} {r : AV} (h : zu Tryz.prog G f [.str p, .str q] r) : zP Tryz.prog G f (Wc p q r) := by
 intro xs ps r e hp
 unfold Wc at e
 split at e
 ·rename_i x y
  cases e
  have q0 : (x == p && y == q) = true := hp _ List.mem_cons_self
  rw [Bool.and_eq_true] at q0
  rw [eq_of_beq q0.1, eq_of_beq q0.2]
  exact h
 ·cases e
theorem rh : YL [49] := ⟨1, 1, by decide, by decide, by decide +kernel⟩
theorem HO : YL [51, 47, 52] := ⟨3, 4, by decide, by decide, by decide +kernel⟩
theorem gI {G : List (Nat × Obj)} (hG : zO G) : zu Tryz.prog G 33 [.str [51, 47, 52]] (.tup 2 (zw [Z1 [(⟨5 / 4, 1⟩ : Tm)], .i 0])) := by
 have := nU hG [51, 47, 52] HO
 rwa [show Z3 [⟨1, Yk (zo [51, 47, 52])⟩] = [(⟨5 / 4, 1⟩ : Tm)] by decide +kernel] at this
theorem Gu {G : List (Nat × Obj)} (hG : zO G) : zu Tryz.prog G 27 [.str [49], .str [49]] (.tup 2 (zw [Z1 [(⟨1 / 2, 2⟩ : Tm)], .i 0])) := by
 have := NU hG [49] [49] rh rh
 rwa [show Z3 [⟨1, Q5 (zo [49]) (zo [49])⟩] = [(⟨1 / 2, 2⟩ : Tm)] by decide +kernel] at this
theorem ga {G : List (Nat × Obj)} (hG : zO G) : zu Tryz.prog G 67 [.str [49], .str [49]] (.tup 2 (zw [Z1 [(⟨1, 3⟩ : Tm)], .i 0])) := by
 have := Jr hG [49] [49] rh rh
 rwa [show Z3 [⟨1, Of (zo [49]) (zo [49])⟩] = [(⟨1, 3⟩ : Tm)] by decide +kernel] at this
theorem gJ {G : List (Nat × Obj)} (hG : zO G) : zu Tryz.prog G 68 [.str [49], .str [49]] (.tup 2 (zw [Z1 [(⟨1 / 2, 1⟩ : Tm)], .i 0])) := by
 have := io hG [49] [49] rh rh
 rwa [show Z3 [⟨1, O4 (zo [49]) (zo [49])⟩] = [(⟨1 / 2, 1⟩ : Tm)] by decide +kernel] at this
theorem Gr {G : List (Nat × Obj)} (hG : zO G) : zu Tryz.prog G 31 [.str [49], .str [49]] (.tup 2 (zw [.str [49], .i 0])) := by
 have := PT hG [49] [49] rh rh
 rwa [show zW (zo [49] / zo [49]) = [49] by decide +kernel] at this
noncomputable def Gf (G : List (Nat × Obj)) : Tb := ((((((Xh G).plus 33 (rQ [51, 47, 52] (.tup 2 (zw [Z1 [(⟨5 / 4, 1⟩ : Tm)], .i 0])))).plus 27 (Wc [49] [49] (.tup 2 (zw [Z1 [(⟨1 / 2, 2⟩ : Tm)], .i 0])))).plus 67 (Wc [49] [49] (.tup 2 (zw [Z1 [(⟨1, 3⟩ : Tm)], .i 0])))).plus 68 (Wc [49] [49] (.tup 2 (zw [Z1 [(⟨1 / 2, 1⟩ : Tm)], .i 0])))).plus 31 (Wc [49] [49] (.tup 2 (zw [.str [49], .i 0])))).body Tryz.prog [(39, kD), (69, .auto)]
theorem OY {G : List (Nat × Obj)} (hG : zO G) : zz Tryz.prog (Gf G) := zz.body mixed (zz.plus (zz.plus (zz.plus (zz.plus (zz.plus zq (Lj (gI hG))) (uC (Gu hG))) (uC (ga hG))) (uC (gJ hG))) (uC (Gr hG))) _
theorem iL (G : List (Nat × Obj)) :
 ZY [] → (bif bif bif bif bif (if iZ > if iZ > if iZ > if iZ > iZ then iZ else iZ then iZ else if iZ > iZ then iZ else iZ then iZ else if iZ > if iZ > iZ then iZ else iZ then iZ else if iZ > iZ then iZ else iZ then iZ else if iZ > if iZ > if iZ > iZ then iZ else iZ then iZ else if iZ > iZ then iZ else iZ then iZ else if iZ > if iZ >
 iZ then iZ else iZ then iZ else if iZ > iZ then iZ else iZ) == iZ then true else false then true else false then true else false then [(49 : UInt8)] == bA #[(49 : UInt8)] else false then true else false) = true := by
 delta bA iZ
 intro hb
 decide +kernel
def mj : List AV → Option (List zN × AV)
 | [] => some ([], .b true)
 | _ => none
theorem HE {G : List (Nat × Obj)} (hG : zO G) : zP Tryz.prog G 32 mj := by
 intro xs ps r e hp
 unfold mj at e
 split at e
 ·cases e
  exact zv mixed (OY hG) (Eq.mp (by kernel_rfl) (iL G) : v7 Tryz.prog (Gf G) 32 .auto [] (.b true))
 ·cases e
def RR (a : Int) : Prop := 0 ≤ a ∧ a ≤ 255
def pN (a : Int) : Nat := a.toNat % 48 + 1
theorem uV (a : Int) : 0 < pN a ∧ pN a ≤ 48 := by unfold pN; omega
theorem HY {a : Int} (h : RR a) : a.tmod 48 + 1 = (pN a : Int) := by
 unfold RR at h
 unfold pN
 rw [Int.tmod_eq_emod_of_nonneg h.1]; omega
def pQ (a b : Int) : Rat := mkRat (pN a : Int) (pN b)
theorem u7 (a b : Int) : YL (zW (pQ a b)) := ⟨pN a, pN b, uV a, uV b, rfl⟩
def qM : List AV → Option (List zN × AV)
 | [.v (.int .u8 a), .v (.int .u8 b)] => some ([.p (RR a), .p (RR b)], .tup 3 (zw [.str (zW (pQ a b)), .str (zW (pQ a b * pQ a b)), .b true]))
 | _ => none
theorem Lk (G : List (Nat × Obj)) (a : Int) (b : Int) (ha : RR a) (hc : RR b) :
 let q2 := (Int.toNat (Int.tmod b (48 : Int) + iO)); let q1 := (Zj (Int.tmod a (48 : Int) + iO) q2); ZY [AV.v (Value.int IntKind.u8 a), AV.v (Value.int IntKind.u8 b)] → bF (dK a) (bF (dK (Int.tmod a (48 : Int) + iO)) (bF (dK b) (bF (dK (Int.tmod b (48 : Int) + iO)) (((-10000000000000000 : Int) ≤ Int.tmod a (48 : Int) + iO ∧ Int.tmod a (48 : Int) + iO ≤ (10000000000000000 : Int)) ∧ (iZ < Int.tmod b (48 : Int) + iO ∧ Int.tmod b (48 : Int) + iO ≤
 (10000000000000000 : Int)) ∧ YJ 140 q1 q1 ∧ 3 = lN [AV.junk, AV.junk, AV.junk] ∧ ((True ∧ Zj (Int.tmod a (48 : Int) + iO) q2 = zW (pQ a b)) ∧ zW (zo q1 * zo q1) = zW (pQ a b * pQ a b)) ∧ (bif iZ == iZ then iZ == iZ else false) = true)))) := by
 delta bF dK lN iZ iO
 dsimp only
 intro hb
 simp only [sS, ZU, zA, zS, zE, ZX, ZB, ZQ, Z0, ZN, Z6, ZM, dS]
 have x := u7 a b
 obtain ⟨y, e, h⟩ := x.one
 have e := Xt e
 have h1 := uV a
 have h2 := uV b
 have e1 := HY ha
 have e2 := HY hc
 unfold RR at ha hc
 rw [e1, e2, Int.toNat_natCast, YG _ h2.1]
 have eq : mkRat ((pN a : Nat) : Int) (pN b) = pQ a b := rfl
 rw [eq, zS]
 have ok := Xo (e ▸ h.b)
 refine ⟨by simp only [yc]; omega, by simp only [yc]; omega, by simp only [yc]; omega, by simp only [yc]; omega, ⟨by omega, by omega⟩, ⟨by omega, by omega⟩, ⟨ok, ok⟩, rfl, ⟨rfl, rfl⟩, rfl⟩
theorem Ih {G : List (Nat × Obj)} (hG : zO G) (a : Int) (b : Int) (ha : RR a) (hc : RR b) : zu Tryz.prog G 26 [.v (.int .u8 a), .v (.int .u8 b)] (.tup 3 (zw [.str (zW (pQ a b)), .str (zW (pQ a b * pQ a b)), .b true])) :=
 zv (T := ((Xh G).plus 50 P7).plus 40 vS) (an := .auto) mixed (zz.plus (zz.plus zq (jl hG)) (Vt hG)) (Eq.mp (by kernel_rfl) (Lk G a b ha hc))
theorem Jl {G : List (Nat × Obj)} (hG : zO G) : zP Tryz.prog G 26 qM := by
 intro xs ps r h hp
 unfold qM at h
 split at h
 ·skip
  rename_i a b
  cases h
  obtain ⟨q0, q1, -⟩ := Zo hp
  exact weaken (ys := [.v (.int .u8 a), .v (.int .u8 b)]) ⟨zV _, zV _, trivial⟩ (Ih hG a b q0 q1)
 ·cases h
theorem iD {n1 d1 n2 d2 : Nat} (h1 : 0 < d1) (h2 : 0 < d2) (hd : d1 * d2 ≤ 10000000) (hl : mkRat (n1 : Int) d1 < mkRat (n2 : Int) d2) : 1 ≤ (mkRat (n2 : Int) d2 - mkRat (n1 : Int) d1) * 10000000 := by
 have e : (mkRat (n2 : Int) d2 - mkRat (n1 : Int) d1) * ((d1 * d2 : Nat) : Rat) = (((n2 * d1 : Nat) : Int) - ((n1 * d2 : Nat) : Int) : Int) := by
  rw [Rat.intCast_sub, Rat.intCast_natCast, Rat.intCast_natCast]
  simp only [Jk, Rat.natCast_mul]
  have := mr h1
  have := mr h2
  generalize (d1 : Rat) = x at *
  generalize (d2 : Rat) = y at *
  grind
 have D0 : (0 : Rat) < ((d1 * d2 : Nat) : Rat) := Rat.natCast_pos.2 (Nat.mul_pos h1 h2)
 have D1 : ((d1 * d2 : Nat) : Rat) ≤ 10000000 := by
  have := Rat.natCast_le_natCast.2 hd
  exact this
 have p := Rat.mul_pos (a := mkRat (n2 : Int) d2 - mkRat (n1 : Int) d1) (by grind) D0
 rw [e] at p
 have q : 1 ≤ ((n2 * d1 : Nat) : Int) - ((n1 * d2 : Nat) : Int) := Rat.intCast_pos.1 p
 have q : ((1 : Int) : Rat) ≤ ((((n2 * d1 : Nat) : Int) - ((n1 * d2 : Nat) : Int) : Int) : Rat) := Rat.intCast_le_intCast.2 q
 rw [← e] at q
 have r := Rat.mul_le_mul_of_nonneg_left D1 (show 0 ≤ mkRat (n2 : Int) d2 - mkRat (n1 : Int) d1 by grind)
 exact Rat.le_trans q r
theorem P8 (a b c d : Int) (h : Yk (pQ a b) < Yk (pQ c d)) : 1 ≤ (Yk (pQ c d) - Yk (pQ a b)) * 10000000 := by
 have h1 := R4 (uV b)
 have h2 := R4 (uV d)
 have e1 : Yk (pQ a b) = 1 + mkRat ((pN a * pN a : Nat) : Int) (pN b * pN b) := by unfold Yk pQ; rw [Xy (uV b).1]
 have e2 : Yk (pQ c d) = 1 + mkRat ((pN c * pN c : Nat) : Int) (pN d * pN d) := by unfold Yk pQ; rw [Xy (uV d).1]
 have hm : pN b * pN b * (pN d * pN d) ≤ 2304 * 2304 := Nat.mul_le_mul h1.2 h2.2
 have g := iD (n1 := pN a * pN a) (n2 := pN c * pN c) h1.1 h2.1 (Nat.le_trans hm (by decide))
 rw [e1, e2] at h ⊢
 generalize mkRat ((pN a * pN a : Nat) : Int) (pN b * pN b) = u at *
 generalize mkRat ((pN c * pN c : Nat) : Int) (pN d * pN d) = v at *
 have := g (by grind)
 grind
theorem NL {x y : Rat} (hx : 0 < x) (hy : 0 < y) : Yk x < Yk y ↔ x < y := by
 unfold Yk
 constructor
 ·intro h
  refine Rat.not_le.1 fun hl => ?_
  have := Rat.mul_nonneg (a := x - y) (b := x + y) (by grind) (by grind)
  grind
 ·intro h
  have := Rat.mul_pos (a := y - x) (b := x + y) (by grind) (by grind)
  grind
noncomputable def GP (G : List (Nat × Obj)) : Tb := (((((((((((Xh G).plus 26 qM).plus 33 QK).plus 27 pF).plus 31 SA).plus 30 S7).plus 29 Sy).plus 16 lU).plus 22 MY).plus 23 mn).plus 32 mj).body Tryz.prog [(28, .auto)]
theorem oN {G : List (Nat × Obj)} (hG : qx G) : zz Tryz.prog (GP G) := zz.body mixed (zz.plus (zz.plus (zz.plus (zz.plus (zz.plus (zz.plus (zz.plus (zz.plus (zz.plus (zz.plus zq (Jl hG.tab)) (jc hG.tab)) (II hG.tab)) (KJ hG.tab)) (Ql hG.tab)) (pZ hG.tab)) (Hy hG.tab)) (H9 hG.tab)) (I5 hG)) (HE hG.tab)) _
theorem uO (G : List (Nat × Obj)) (a b c d : Int) (ha : RR a) (hb' : RR b) (hc : RR c) (hd : RR d) :
 let q3 := (Z3 [Tm.mk (1 : Rat) (Yk (zo (zW (pQ a b))))]); let q2 := (AV.xl false 2 (lN q3) fun i j => zr.enc (gD q3 i zr.dflt) j); let q1 := (ZZ Tm q2); let q4 := (yY q2); let q5 := (YZ q4 q4); let q7 := (Z3 q5); let q6 := (AV.xl false 2 (lN q7) fun i j => zr.enc (gD q7 i zr.dflt) j); let q8 := (yY q6); let q9 := (bA #[(49 : UInt8)]); let q11 := (Z3 [Tm.mk (1 : Rat) (Yk (zo (zW (pQ c d))))]); let q10 := (AV.xl false 2 (lN q11) fun i j => zr.enc (gD q11 i zr.dflt) j); let q12 :=
 (yY q10); let q15 := (if iZ > if iZ > iZ then iZ else iZ then iZ else if iZ > iZ then iZ else iZ); let q17 := (gD q8 0 zr.dflt); let q16 := (lN q8 = 0 ∨ lN q8 = 1 ∧ Tm.q q17 = (1 : Rat)); let q14 := (bif bif true then true else false then bif q15 == iZ then decide q16 else false else false); let q13 := (!zR true q14 || zR true q14); let q20 := (if iZ > if iZ > if iZ > iZ then iZ else iZ then iZ else if iZ > iZ then iZ
 else iZ then iZ else if iZ > if iZ > iZ then iZ else iZ then iZ else if iZ > iZ then iZ else iZ); let q19 := (bif bif bif true then true else false then bif q15 == iZ then decide q16 else false else false then q20 == iZ else false); let q18 := (!zR true q19 || zR true q19); let q23 := (if lN q8 = 0 then [(48 : UInt8)] else if lN q8 = 1 ∧ Tm.q q17 = (1 : Rat) then zW (Tm.c q17) else []); let q24 := (zo q9 + zo (zW (pQ a b * pQ a b))); let q22 := (bif bif bif bif true then
 true else false then bif q15 == iZ then decide q16 else false else false then q20 == iZ else false then q23 == zW q24 else false); let q21 := (!zR true q22 || zR true q22); let q25 := (Z3 (yY q2 ++ Zg (-1 : Rat) q12)); ZY [AV.v (Value.int IntKind.u8 a), AV.v (Value.int IntKind.u8 b), AV.v (Value.int IntKind.u8 c), AV.v (Value.int IntKind.u8 d)] → (iZ ≤ a ∧ a ≤ (255 : Int)) ∧ (iZ ≤ b ∧ b ≤ (255 : Int)) ∧ (iZ ≤ c ∧ c ≤ (255 : Int)) ∧ (iZ ≤ d ∧ d ≤ (255 : Int)) ∧ YL (zW (pQ a b)) ∧ YL (zW (pQ c d)) ∧ bF q1 (bF q1 (wG q4 ∧ wG
 q4 ∧ vq q5 ∧ bF (ZZ Tm q6) (wG q8 ∧ YJ 140 q9 (zW (pQ a b * pQ a b)) ∧ bF q1 (bF (ZZ Tm q10) (gM q4 q12 ∧ YJ 140 (zW (pQ a b)) (zW (pQ c d)) ∧ bF q13 (bF q13 (bF q13 (bF q13 (bF q13 (bF ((!bif bif true then true else false then bif q15 == iZ then decide q16 else false else false) || zR true q14) (bF q18 (bF q18 (bF ((!bif bif bif true then true else false then bif q15 == iZ then decide q16 else false else false then q20 == iZ else false) || zR true q19) (bF q21 (bF q21 (bF ((!bif bif bif bif true
 then true else false then bif q15 == iZ then decide q16 else false else false then q20 == iZ else false then q23 == zW q24 else false) || zR true q22) (bF ((!bif bif bif bif bif true then true else false then bif q15 == iZ then decide q16 else false else false then q20 == iZ else false then q23 == zW q24 else false then Xq q25 == XA (zo (zW (pQ a b))) (zo (zW (pQ c d))) else false) || zR true (bif bif bif bif bif true then true else false then bif q15 == iZ then decide q16 else false else false then q20 == iZ else false then q23 ==
 zW q24 else false then Xq q25 == XA (zo (zW (pQ a b))) (zo (zW (pQ c d))) else false)) ((bif bif bif bif bif bif true then true else false then bif q15 == iZ then decide q16 else false else false then q20 == iZ else false then q23 == zW q24 else false then Xq q25 == XA (zo (zW (pQ a b))) (zo (zW (pQ c d))) else false then true else false) = true)))))))))))))))))) := by
 delta bF bA lN gD iZ
 dsimp only
 intro hb
 simp only [sS, ZU, zA, zS, zE, ZX, ZB, ZQ, Z0, ZN, Z6, ZM, dS]
 obtain ⟨x', e, h⟩ := (u7 a b).one
 obtain rfl := Xt e
 obtain ⟨y', e, k⟩ := (u7 c d).one
 obtain rfl := Xt e
 have o := sH h.r
 obtain ⟨c1, c2⟩ := K8 h.r k.r (P8 a b c d) (P8 c d a b)
 have f1 := NL h.p k.p
 have f2 := NL k.p h.p
 have os := o.sq
 have oo := o.oks
 rw [os] at oo
 rw [os, c2, VD]
 have ok := RX ▸ P4
 refine ⟨ha, hb', hc, hd, u7 a b, u7 c d, o.ok, o.ok, o.sqm, oo, ⟨ok, Xo h.s⟩, c1, ⟨Xo h.b, Xo k.b⟩, ?_⟩
 have fv : Yk (pQ a b) = 1 + pQ a b * pQ a b := rfl
 have e1 : decide (([(⟨Yk (pQ a b), 1⟩ : Tm)]).length = 0 ∨ ([(⟨Yk (pQ a b), 1⟩ : Tm)]).length = 1 ∧ (([(⟨Yk (pQ a b), 1⟩ : Tm)]).getD 0 zr.dflt).q = 1) = true := decide_eq_true (.inr ⟨rfl, rfl⟩)
 have e2 : (if ([(⟨Yk (pQ a b), 1⟩ : Tm)]).length = 0 then [48] else if ([(⟨Yk (pQ a b), 1⟩ : Tm)]).length = 1 ∧ (([(⟨Yk (pQ a b), 1⟩ : Tm)]).getD 0 zr.dflt).q = 1 then zW (([(⟨Yk (pQ a b), 1⟩ : Tm)]).getD 0 zr.dflt).c else []) = zW (1 + pQ a b * pQ a b) := by
  rw [if_neg (by simp), if_pos ⟨rfl, rfl⟩]
  rfl
 rw [e1, e2, beq_self_eq_true]
 have e3 : (if Yk (pQ a b) < Yk (pQ c d) then -1 else if Yk (pQ c d) < Yk (pQ a b) then 1 else (0 : Int)) = XA (pQ a b) (pQ c d) := by
  unfold XA
  rcases Decidable.em (pQ a b < pQ c d) with g | g
  ·rw [if_pos (f1.2 g), if_pos g]
  ·rw [if_neg fun e => g (f1.1 e), if_neg g]
   rcases Decidable.em (pQ c d < pQ a b) with g2 | g2
   ·rw [if_pos (f2.2 g2), if_neg fun e => Rat.ne_of_gt g2 e]
   ·have : pQ a b = pQ c d := Rat.le_antisymm (Rat.not_lt.1 g2) (Rat.not_lt.1 g)
    rw [if_neg fun e => g2 (f2.1 e), if_pos this]
 rw [e3, beq_self_eq_true]
 rfl
theorem tG {G : List (Nat × Obj)} (hG : qx G) (a b c d : Int) (ha : RR a) (hb : RR b) (hc : RR c) (hd : RR d) : zu Tryz.prog G 10 [.v (.int .u8 a), .v (.int .u8 b), .v (.int .u8 c), .v (.int .u8 d)] (.b true) :=
 zv (T := GP G) (an := .auto) mixed (oN hG) (Eq.mp (by kernel_rfl) (uO G a b c d ha hb hc hd))
end Go.Te

namespace Go.Te
open Go Go.Sx Go.Proofs Go.Ar Go.RowKit
set_option maxRecDepth 100000
def PO : List (List UInt8) := [[50], [51], [53], [55], [49, 49], [49, 51], [49, 55], [49, 57], [50, 51], [50, 57], [51, 49], [51, 55], [52, 49], [52, 51], [52, 55], [53, 51], [53, 57], [54, 49], [54, 55], [55, 49], [55, 51], [55, 57], [56, 51], [56, 57], [57, 55]]
theorem Qw : (PO.map fun z => Value.string ⟨z.toArray⟩) = zL.toList := by kernel_rfl
theorem Tv {H : Type} {enc : TypeId × Value → H} {P : Program} {w : World} {base : Nat} {sp : Nat → Bool} {held : Bool} {fuel : Nat} {t e : TypeId} {n : Nat} {cs : List Value} {zs : List (List UInt8)} {p : List MemPlace}
  (ht : P.underlying t = some (.array n e)) (he : P.underlying e = some .string) (hce : P.cellsOf e = 1) (hct : P.cellsOf t = n)
  (h : DataW.trod enc P w base sp held fuel t cs = some (.agg (zs.map fun z => .lit (.string z)), p)) : cs = zs.map fun z => Value.string ⟨z.toArray⟩ := by
 cases fuel with
 | zero => simp [DataW.trod] at h
 | succ fuel =>
  simp only [DataW.trod, ht, hce, hct, Nat.mul_one] at h
  split at h
  ·rename_i hl
   obtain ⟨xs, hm, hx⟩ := Option.map_eq_some_iff.1 h
   have hxs : xs.map (·.1) = zs.map fun z => (DataW.lit (.string z) : DataW H) := by
    have := congrArg Prod.fst hx
    simpa using this
   have hxl : xs.length = n := by simpa using Lib.mapM_length hm
   have hzl : zs.length = n := by
    have := congrArg List.length hxs
    simp at this
    omega
   apply List.ext_getElem?
   intro i
   by_cases hi : i < n
   ·obtain ⟨b, hb, hf⟩ := Lib.mapM_at hm i i (by simp [hi])
    obtain ⟨z, hc, rfl, _⟩ := DataW.trod_string he hf
    have h1 : cs[i]? = some (.string z) := by
     have := congrArg (·[0]?) hc
     simpa [List.getElem?_take, List.getElem?_drop] using this
    have h2 : (xs.map (·.1))[i]? = some (DataW.lit (.string z.data.toList) : DataW H) := by simp [hb]
    rw [hxs] at h2
    simp only [List.getElem?_map, Option.map_eq_some_iff, DataW.lit.injEq, Lit.string.injEq] at h2
    obtain ⟨z', hz', rfl⟩ := h2
    simp [h1, hz']
   ·rw [List.getElem?_eq_none (by omega), List.getElem?_eq_none (by simp; omega)]
  ·cases h
section
variable {H : Type} {enc : TypeId × Value → H} {W : World} {spare : Nat → Bool} {held : Bool}
abbrev G8 (W : World) : Nat → Prop := fun b => b < W.heap.size
theorem uD {n : Int} {d : DataW H} {ps : List MemPlace} (h : DataW.Trod enc Tryz.prog W 0 spare held 5 (.int .u8 n) d ps) : 0 ≤ n ∧ n ≤ 255 := by
 obtain ⟨m, h⟩ := h
 obtain ⟨k, h1, _, h3⟩ := DataW.trod_int Tryz.underlying5 h
 have e : [Value.int .u8 n] = [.int .u8 k] := h1
 cases e
 simp only [Lit.wf, Bool.and_eq_true, decide_eq_true_eq] at h3
 have h4 : (0 : Int) ≤ n ∧ n ≤ 255 := h3
 exact h4
end
end Go.Te
