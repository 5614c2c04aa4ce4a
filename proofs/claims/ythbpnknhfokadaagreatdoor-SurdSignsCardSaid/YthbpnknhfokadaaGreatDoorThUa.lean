/- surd: signs of surds that are far from 0. -/
import Derived.Test.YthbpnknhfokadaaGreatDoorThQk
import Derived.Test.YthbpnknhfokadaaGreatDoorArAC
import Derived.ChangeArms
import Derived.Lib.LaidTab
import Derived.Test.YthbpnknhfokadaaGreatDoorCards
import Derived.Test.YthbpnknhfokadaaGreatDoorTie
import Derived.WalkKit
import Derived.ProofKit
import Derived.OpenShut
import Derived.WideKeyArgs
import Derived.Deep.DeepHandedRow
set_option linter.unusedSimpArgs false
set_option linter.unusedVariables false
namespace Go.Te
open Go Go.Sx Go.Proofs Go.Ar
set_option maxRecDepth 100000
set_option maxHeartbeats 4000000
theorem ju {x F : Rat} (h0 : 0 ≤ x) (hF : 0 ≤ F) (h : x * x ≤ F * F) : x ≤ F := (pf hF h).2
theorem K5 {x F S η κ : Rat} (h0 : 0 ≤ x) (hη : 0 ≤ η) (h1 : F * F ≤ S) (h2 : S ≤ x * x + κ) (h3 : κ ≤ η * η) : F - η ≤ x := by
 refine Rat.not_lt.1 fun h => ?_
 have a := Rat.mul_nonneg (a := F - η - x) (b := F - η + x) (by grind) (by grind)
 have b := Rat.mul_nonneg (a := η) (b := F - η - x) hη (by grind)
 have c := Rat.mul_nonneg (a := η) (b := x) hη h0
 rcases Decidable.em (η = 0) with e | e
 ·subst e
  have d := Rat.mul_pos (a := F - 0 - x) (b := F - 0 - x) (by grind) (by grind)
  have d2 := Rat.mul_nonneg (a := F - 0 - x) (b := x) (by grind) h0
  grind
 ·have e0 : 0 < η := Rat.lt_of_le_of_ne hη (Ne.symm e)
  have d := Rat.mul_pos (a := η) (b := F - η - x) e0 (by grind)
  grind
theorem Mq {R N : Nat} {ε η : Rat} {f : Nat → Rat} {t : Tm} (hf : OC N ε f) (hm : Zw RM t) (hn : Zw R t) (hR : R ≤ N) (h0 : t.c ≠ 0) {p : Nat} (hη : 0 ≤ η) (he : t.c * t.c * ε * (((10 ^ p : Nat) : Rat) * ((10 ^ p : Nat) : Rat)) ≤ η * η) :
  (wi t p : Rat) - η ≤ Vx f t * ((10 ^ p : Nat) : Rat) ∧ Vx f t * ((10 ^ p : Nat) : Rat) ≤ (wi t p : Rat) + 1 + η := by
 obtain ⟨a, b⟩ := NN hf hn hR
 have es : PO t = lF t := rfl
 rw [es] at a b
 have eK : ((10 ^ (2 * p) : Nat) : Rat) = ((10 ^ p : Nat) : Rat) * ((10 ^ p : Nat) : Rat) := by
  rw [← Rat.natCast_mul, ← Nat.pow_add, Nat.two_mul]
 have K0 : (0 : Rat) < ((10 ^ p : Nat) : Rat) := Rat.natCast_pos.2 (Nat.pow_pos (by decide))
 have KK := Rat.mul_pos K0 K0
 have F0 := hf.p0 (mQ t.q)
 have ev : Vx f t = t.c * f (mQ t.q) := by unfold Vx; rw [vJ hn]
 have a' := Rat.mul_le_mul_of_nonneg_right a (Rat.le_of_lt KK)
 have b' := Rat.mul_le_mul_of_nonneg_right b (Rat.le_of_lt KK)
 rcases Decidable.em (0 < t.c) with hc | hc
 ·obtain ⟨F, e, f1, f2⟩ := Kg hm hc p
  rw [eK] at f1 f2
  rw [e, Rat.intCast_natCast]
  rw [Rat.natCast_add] at f2
  have v0 : 0 ≤ Vx f t * ((10 ^ p : Nat) : Rat) := by rw [ev]; exact Rat.mul_nonneg (Rat.mul_nonneg (Rat.le_of_lt hc) F0) (Rat.le_of_lt K0)
  have n0 : (0 : Rat) ≤ (F : Rat) := Rat.natCast_nonneg
  generalize ((10 ^ p : Nat) : Rat) = K at *
  generalize (F : Rat) = x at *
  constructor
  ·refine K5 v0 hη f1 (κ := t.c * t.c * ε * (K * K)) ?_ he
   grind
  ·have := ju (x := Vx f t * K) (F := x + 1) v0 (by grind) (by
    have : ((1 : Nat) : Rat) = 1 := rfl
    rw [this] at f2
    grind)
   grind
 ·have hc' : t.c < 0 := Rat.lt_of_le_of_ne (Rat.not_lt.1 hc) h0
  obtain ⟨g, e, f1, f2⟩ := Kl hm hc' p
  rw [eK] at f1 f2
  rw [e, Rat.intCast_neg, Rat.intCast_add, Rat.intCast_natCast]
  rw [Rat.natCast_add] at f2
  have v0 : 0 ≤ -(Vx f t * ((10 ^ p : Nat) : Rat)) := by
   rw [ev]
   have := Rat.mul_nonneg (Rat.mul_nonneg (a := -t.c) (by grind) F0) (Rat.le_of_lt K0)
   grind
  have n0 : (0 : Rat) ≤ (g : Rat) := Rat.natCast_nonneg
  have one : ((1 : Int) : Rat) = 1 := rfl
  have one' : ((1 : Nat) : Rat) = 1 := rfl
  rw [one]
  rw [one'] at f2
  generalize ((10 ^ p : Nat) : Rat) = K at *
  generalize (g : Rat) = x at *
  constructor
  ·have := ju (x := -(Vx f t * K)) (F := x + 1) v0 (by grind) (by grind)
   grind
  ·have := K5 (x := -(Vx f t * K)) (F := x) v0 hη f1 (κ := t.c * t.c * ε * (K * K)) (by grind) he
   grind
theorem sY {f : Nat → Rat} {η K : Rat} {p : Nat} : ∀ {s : List Tm}, (∀ t ∈ s, (wi t p : Rat) - η ≤ Vx f t * K ∧ Vx f t * K ≤ (wi t p : Rat) + 1 + η) →
  (Zu s p : Rat) - (s.length : Rat) * η ≤ ev f s * K ∧ ev f s * K ≤ (Zu s p : Rat) + (s.length : Rat) + (s.length : Rat) * η
 | [], _ => by
  have e1 : (([] : List Tm).length : Rat) = 0 := rfl
  have e2 : ((Zu [] p : Int) : Rat) = 0 := rfl
  rw [yz, e1, e2]
  constructor <;> grind
 | t :: s, h => by
  obtain ⟨i1, i2⟩ := sY (s := s) fun x hx => h x (List.mem_cons_of_mem _ hx)
  obtain ⟨h1, h2⟩ := h t List.mem_cons_self
  have e1 : (((t :: s).length : Nat) : Rat) = (s.length : Rat) + 1 := by rw [List.length_cons, Rat.natCast_add]; rfl
  have e2 : ((Zu (t :: s) p : Int) : Rat) = (wi t p : Rat) + (Zu s p : Rat) := by
   rw [← Rat.intCast_add]
   unfold Zu
   rw [List.map_cons, List.sum_cons]
  have e3 : ev f (t :: s) = Vx f t + ev f s := rfl
  rw [e1, e2, e3]
  constructor <;> grind
theorem tr {f : Nat → Rat} {s : List Tm} {p : Nat} (hl : s.length ≤ 16) (h : (Zu s p : Rat) - (s.length : Rat) * (1 / 100) ≤ ev f s * ((10 ^ p : Nat) : Rat) ∧ ev f s * ((10 ^ p : Nat) : Rat) ≤ (Zu s p : Rat) + (s.length : Rat) + (s.length : Rat) * (1 / 100)) :
  (Yv s p ≠ 0 → Yv s p = sg (ev f s)) ∧ (far 33 (ev f s * ((10 ^ p : Nat) : Rat)) → Yv s p ≠ 0) := by
 obtain ⟨h1, h2⟩ := h
 have K0 : (0 : Rat) < ((10 ^ p : Nat) : Rat) := Rat.natCast_pos.2 (Nat.pow_pos (by decide))
 have l1 : (s.length : Rat) ≤ 16 := Rat.natCast_le_natCast.2 hl
 have l0 : (0 : Rat) ≤ (s.length : Rat) := Rat.natCast_nonneg
 have pos : 0 < ev f s * ((10 ^ p : Nat) : Rat) → 0 < ev f s := fun h => by
  refine Rat.not_le.1 fun h2 => ?_
  have := Rat.mul_nonneg (a := -ev f s) (by grind) (Rat.le_of_lt K0)
  grind
 have neg : ev f s * ((10 ^ p : Nat) : Rat) < 0 → ev f s < 0 := fun h => by
  refine Rat.not_le.1 fun h2 => ?_
  have := Rat.mul_nonneg h2 (Rat.le_of_lt K0)
  grind
 have iI : ∀ {a b : Int}, a ≤ b → (a : Rat) ≤ (b : Rat) := fun h => Rat.intCast_le_intCast.2 h
 unfold Yv sg
 generalize ((10 ^ p : Nat) : Rat) = K at *
 split
 ·rename_i hp
  have hp : (1 : Rat) ≤ (Zu s p : Rat) := iI (show 1 ≤ Zu s p by omega)
  refine ⟨fun _ => ?_, fun _ => by decide⟩
  rw [if_pos (pos (by grind))]
 ·rename_i hp
  have hp : (Zu s p : Rat) ≤ 0 := iI (show Zu s p ≤ 0 by omega)
  split
  ·rename_i hq
   have hq : ((Zu s p + s.length : Int) : Rat) ≤ -1 := iI (show Zu s p + s.length ≤ -1 by omega)
   rw [Rat.intCast_add, Rat.intCast_natCast] at hq
   refine ⟨fun _ => ?_, fun _ => by decide⟩
   have := neg (by grind)
   rw [if_neg (Rat.not_lt.2 (Rat.le_of_lt this)), if_pos this]
  ·rename_i hq
   have hq : (0 : Rat) ≤ ((Zu s p + s.length : Int) : Rat) := iI (show 0 ≤ Zu s p + s.length by omega)
   rw [Rat.intCast_add, Rat.intCast_natCast] at hq
   refine ⟨fun h => absurd rfl h, fun h => ?_⟩
   exfalso
   rcases h with h | h <;> grind
abbrev vu : Nat := 10 ^ 130 * 10 ^ 130
theorem Ih {c : Rat} {k : Nat} (h : c.num.natAbs ≤ k) : c * c ≤ (k : Rat) * (k : Rat) := by
 have hd : (1 : Rat) ≤ (c.den : Rat) := Rat.natCast_le_natCast.2 c.den_pos
 have e : c * (c.den : Rat) = (c.num : Rat) := by
  have h2 := Rat.mkRat_self c
  have hd : (c.den : Rat) ≠ 0 := fun e => c.den_nz (Rat.natCast_eq_zero_iff.1 e)
  rw [Rat.mkRat_eq_div] at h2
  generalize (c.num : Rat) = x at *
  generalize (c.den : Rat) = d at *
  rw [← h2]
  grind
 have e2 : (c.num : Rat) * (c.num : Rat) = ((c.num.natAbs * c.num.natAbs : Nat) : Rat) := by
  rw [← Rat.intCast_natCast, Int.natCast_mul, Int.natAbs_mul_self', Rat.intCast_mul]
 have e3 : ((c.num.natAbs * c.num.natAbs : Nat) : Rat) ≤ ((k * k : Nat) : Rat) := Rat.natCast_le_natCast.2 (Nat.mul_le_mul h h)
 rw [Rat.natCast_mul k] at e3
 rw [← e2, ← e] at e3
 have c0 := xZ c
 have a := Rat.mul_le_mul_of_nonneg_left hd c0
 have b := Rat.mul_le_mul_of_nonneg_left hd (Rat.mul_nonneg c0 (Rat.le_trans (by decide : (0 : Rat) ≤ 1) hd))
 grind
theorem PH {N R k : Nat} {f : Nat → Rat} {s : List Tm} (hf : OC N (1 / (vu : Rat)) f) (hR : R ≤ N) (hRM : R ≤ RM) (hn : ∀ t ∈ s, Zw R t) (h0 : ∀ t ∈ s, t.c ≠ 0) (hb : ∀ t ∈ s, bq k t.c) (hk : k ≤ 39) (hl : s.length ≤ 16) (hs : 0 < s.length) {d : Rat} (hd : 33 ≤ d * ((10 ^ 64 : Nat) : Rat)) (hfar : far d (ev f s)) : Hl s ∧ za s = sg (ev f s) := by
 have near : ∀ p : Nat, p ≤ 64 → (Zu s p : Rat) - (s.length : Rat) * (1 / 100) ≤ ev f s * ((10 ^ p : Nat) : Rat) ∧ ev f s * ((10 ^ p : Nat) : Rat) ≤ (Zu s p : Rat) + (s.length : Rat) + (s.length : Rat) * (1 / 100) := fun p hp => by
  refine sY fun t ht => Mq hf (Wh (hn t ht) hRM) (hn t ht) hR (h0 t ht) (by decide +kernel) ?_
  have c1 := Ih (k := 10 ^ 39) (Nat.le_of_lt (Nat.lt_of_lt_of_le (hb t ht).num (Nat.pow_le_pow_right (by decide) hk)))
  have p1 : ((10 ^ p : Nat) : Rat) ≤ ((10 ^ 64 : Nat) : Rat) := Rat.natCast_le_natCast.2 (Nat.pow_le_pow_right (by decide) hp)
  have p0 : (0 : Rat) ≤ ((10 ^ p : Nat) : Rat) := Rat.natCast_nonneg
  have q0 : (0 : Rat) ≤ ((10 ^ 64 : Nat) : Rat) := Rat.natCast_nonneg
  have e0 : (0 : Rat) ≤ 1 / (vu : Rat) := by decide +kernel
  have fin : ((10 ^ 39 : Nat) : Rat) * ((10 ^ 39 : Nat) : Rat) * (1 / (vu : Rat)) * (((10 ^ 64 : Nat) : Rat) * ((10 ^ 64 : Nat) : Rat)) ≤ 1 / 100 * (1 / 100) := by decide +kernel
  generalize ((10 ^ 39 : Nat) : Rat) = C at *
  generalize ((10 ^ 64 : Nat) : Rat) = K at *
  generalize ((10 ^ p : Nat) : Rat) = P at *
  generalize 1 / (vu : Rat) = ε at *
  have a1 := Rat.mul_le_mul_of_nonneg_right c1 e0
  have a2 := Rat.mul_le_mul_of_nonneg_right p1 p0
  have a3 := Rat.mul_le_mul_of_nonneg_left p1 q0
  have a4 : P * P ≤ K * K := by grind
  have b0 : 0 ≤ t.c * t.c * ε := Rat.mul_nonneg (xZ _) e0
  have a5 := Rat.mul_le_mul_of_nonneg_left a4 b0
  have a6 := Rat.mul_le_mul_of_nonneg_right a1 (Rat.mul_nonneg q0 q0)
  exact Rat.le_trans a5 (Rat.le_trans a6 fin)
 obtain ⟨x1, _⟩ := tr hl (near 4 (by decide))
 obtain ⟨y1, _⟩ := tr hl (near 16 (by decide))
 obtain ⟨z1, z2⟩ := tr hl (near 64 (by decide))
 have z3 := z2 (by
  have q0 : (0 : Rat) ≤ ((10 ^ 64 : Nat) : Rat) := Rat.natCast_nonneg
  generalize ((10 ^ 64 : Nat) : Rat) = K at *
  rcases hfar with h | h
  ·exact .inl (by have := Rat.mul_le_mul_of_nonneg_right h q0; grind)
  ·exact .inr (by have := Rat.mul_le_mul_of_nonneg_right h q0; grind))
 have hv : za s = sg (ev f s) ∧ za s ≠ 0 := by
  unfold za
  split
  ·split
   ·exact ⟨z1 z3, z3⟩
   ·rename_i h; exact ⟨y1 h, h⟩
  ·rename_i h; exact ⟨x1 h, h⟩
 have fl : ∀ t ∈ s, ∀ p : Int, 0 ≤ p ∧ p ≤ 64 → qT t p := fun t ht p hp => by
  refine ⟨h0 t ht, (hb t ht).mono (by omega), Wh (hn t ht) hRM, hp, ?_⟩
  unfold X4
  have hB := Nat.lt_of_lt_of_le (hb t ht).num (Nat.pow_le_pow_right (by decide : 0 < 10) hk)
  have a := Nat.mul_lt_mul'' hB hB
  have b : t.c.num.natAbs * t.c.num.natAbs * mQ t.q ≤ 10 ^ 39 * 10 ^ 39 * RM := Nat.mul_le_mul (Nat.le_of_lt a) (Nat.le_trans (hn t ht).mQ.2.2 hRM)
  have c : 10 ^ (2 * p.toNat) ≤ 10 ^ 128 := Nat.pow_le_pow_right (by decide) (by omega)
  exact Nat.lt_of_le_of_lt (Nat.mul_le_mul b c) (by decide)
 exact ⟨⟨hs, hl, fun t ht => fl t ht 4 (by decide), fun _ t ht => fl t ht 16 (by decide), fun _ _ t ht => fl t ht 64 (by decide), hv.2⟩, hv.1⟩
end Go.Te

namespace Go.Te
open Go Go.Sx Go.Proofs Go.Ar
set_option maxRecDepth 100000
set_option maxHeartbeats 4000000
def mU : List AV → Option (List zn × AV)
 | [x_s] => some ([.b (zB Tm x_s), .p (xj (yx (α := Tm) x_s)), .p (ot (yx (α := Tm) x_s))], .tup 2 (zw [.i (za (yx (α := Tm) x_s)), .i 0]))
 | _ => none
theorem jF (G : List (Nat × Obj)) (s : List Tm) (hs : xj s) (hd : ot s) :
 let q2 := (AV.xl false 2 (lN s) fun i j => zr.enc (gD s i zr.dflt) j); let q1 := (zB Tm q2); let q3 := (yx q2); Zt [AV.xl false 2 (lN s) fun i j => zr.enc (gD s i zr.dflt) j] → bF q1 (xj q3 ∧ bF q1 (ot q3 ∧ j2 ∧ (True ∧ kI ∧ za q3 = za s) ∧ kI ∧ iZ = iZ)) := by
 delta bF kI j2 lN gD iZ
 dsimp only
 intro hb
 simp only [↓yy, ↓Zi, row_one]
 simp only [sS, YK, yi, zk, yo, Yx, XQ, YC, wn, xJ, wE, XU, mZ, Pe, Po, Rw, dS]
 exact ⟨hs, hd, rfl⟩
theorem ID {G : List (Nat × Obj)} (hG : VV G) (s : List Tm) (hs : xj s) (hd : ot s) : zU Tryz.prog G 17 [ZD s] (.tup 2 (zw [.i (za s), .i 0])) :=
 zW (T := ((W2 G).plus 35 sx).plus 41 pc) (an := .auto) mixed (zz.plus (zz.plus zQ (pO hG.tab)) (jt hG)) (Eq.mp (by kernel_rfl) (jF G s hs hd))
theorem IJ {G : List (Nat × Obj)} (hG : VV G) : zp Tryz.prog G 17 mU := by
 intro xs ps r h hp
 unfold mU at h
 split at h
 ·skip
  rename_i x_s
  cases h
  obtain ⟨q0, q1, q2, -⟩ := ZF hp
  exact weaken (ys := [ZD (yx (α := Tm) x_s)]) ⟨zd q0, trivial⟩ (ID hG (yx (α := Tm) x_s) q1 q2)
 ·cases h
structure Gq (s : List Tm) : Prop where
 ok : xj s
 dec : ot s
def rm (x : Sm) : Nat := (x.B.toNat % 20 + 1) * (x.D.toNat % 20 + 1) * (x.F.toNat % 20 + 1)
theorem Nv (x : Sm) : 0 < rm x ∧ rm x ≤ 8000 := by
 unfold rm
 have h1 : x.B.toNat % 20 + 1 ≤ 20 := by omega
 have h2 : x.D.toNat % 20 + 1 ≤ 20 := by omega
 have h3 : x.F.toNat % 20 + 1 ≤ 20 := by omega
 exact ⟨Nat.mul_pos (Nat.mul_pos (by omega) (by omega)) (by omega), Nat.mul_le_mul (Nat.mul_le_mul h1 h2) h3⟩
theorem qL {n d : Int} {L e : Nat} (hn : -128 ≤ n ∧ n ≤ 127) (he : L = (d.toNat % 20 + 1) * e) : ∃ z : Int, rF n d * (L : Rat) = (z : Rat) ∧ z.natAbs ≤ 128 * L := by
 have hD0 : 0 < d.toNat % 20 + 1 := by omega
 have hel : e ≤ L := by rw [he]; exact Nat.le_mul_of_pos_left _ hD0
 refine ⟨n * (e : Int), ?_, ?_⟩
 ·unfold rF
  rw [Rat.mkRat_eq_div, he, Rat.natCast_mul, Rat.intCast_mul, Rat.intCast_natCast]
  have hd : ((d.toNat % 20 + 1 : Nat) : Rat) ≠ 0 := fun e => by have := Rat.natCast_eq_zero_iff.1 e; omega
  generalize ((d.toNat % 20 + 1 : Nat) : Rat) = q at *
  grind
 ·rw [Int.natAbs_mul, Int.natAbs_natCast]
  exact Nat.mul_le_mul (by omega) hel
theorem NM {x : Sm} (h : V4 x) : UI (rm x) (128 * rm x) (yD x) := fun t ht => by
 unfold yD at ht
 simp only [List.mem_cons, List.not_mem_nil, or_false] at ht
 rcases ht with rfl | rfl | rfl
 ·exact qL (e := (x.D.toNat % 20 + 1) * (x.F.toNat % 20 + 1)) h.A (by unfold rm; rw [Nat.mul_assoc])
 ·exact qL (e := (x.B.toNat % 20 + 1) * (x.F.toNat % 20 + 1)) h.C (by unfold rm; grind)
 ·exact qL (e := (x.B.toNat % 20 + 1) * (x.D.toNat % 20 + 1)) h.E (by unfold rm; grind)
theorem kU {r n : Nat} (h0 : 0 < r) (h1 : r ≤ 255) (hn : nrm r = (1, r)) (hb : n ≤ 255) : ∃ m, m ≤ ZJ (255 / r) ∧ fR r n = ((m * r : Nat) : Rat) := by
 by_cases h : ∃ j, n * r = j * j
 ·obtain ⟨j, hj⟩ := h
  obtain ⟨m, rfl⟩ := mg h0 h1 hn (j := j) ⟨n, by rw [← hj, Nat.mul_comm]⟩
  refine ⟨m, Ka ?_, by rw [ux hj, Nat.mul_comm]⟩
  have e : n * r = (m * m * r) * r := by rw [hj]; grind
  have e2 := Nat.eq_of_mul_eq_mul_right h0 e
  rw [Nat.le_div_iff_mul_le h0]
  omega
 ·exact ⟨0, Nat.zero_le _, by rw [vH fun k hk => h ⟨k, hk⟩, Nat.zero_mul]; rfl⟩
theorem PD {x : Sm} (h : V4 x) : ∀ t ∈ Zg (yD x), (∃ z : Int, t.c * (rm x : Rat) = (z : Rat)) ∧ PO t ≤ PB := fun t ht => by
 obtain ⟨g1, _, g3⟩ := xm (by decide) (QA h)
 have hn := g1.nat t ht
 obtain ⟨er, r0, r1⟩ := hn.mQ
 obtain ⟨z, z1, z2⟩ := SS (r := mQ t.q) (Q := ZJ (255 / mQ t.q)) (Wo h) (NM h) fun u hu => kU r0 r1 (g1.nrm t ht) ((Wo h u hu).fQ (fun _ => 0)).2.1
 rw [← g3 _ (VP _), Vg g1.nat g1.unr ht] at z1
 obtain ⟨L0', L1⟩ := Nv x
 have hr : ((mQ t.q : Nat) : Rat) ≠ 0 := fun e => by have := Rat.natCast_eq_zero_iff.1 e; omega
 have hz : t.c * (rm x : Rat) = (z : Rat) := by
  generalize ((mQ t.q : Nat) : Rat) = r at *
  have : r * (t.c * (rm x : Rat)) = r * (z : Rat) := by grind
  grind
 refine ⟨⟨z, hz⟩, ?_⟩
 have hl : (yD x).length = 3 := rfl
 rw [hl] at z2
 have q1 := (yH (255 / mQ t.q)).1
 have q2 : 255 / mQ t.q * mQ t.q ≤ 255 := Nat.div_mul_le_self _ _
 generalize ZJ (255 / mQ t.q) = Q at *
 generalize 255 / mQ t.q = D at *
 have hLL : (0 : Rat) < ((rm x * rm x : Nat) : Rat) := Rat.natCast_pos.2 (Nat.mul_pos L0' L0')
 refine xe hLL ?_
 rw [wZ hn hz]
 have e1 : z * z * ((mQ t.q : Nat) : Int) = ((z.natAbs * z.natAbs * mQ t.q : Nat) : Int) := by
  rw [Int.natCast_mul, Int.natCast_mul, Int.natAbs_mul_self']
 rw [e1, Rat.intCast_natCast]
 have e2 : PB * ((rm x * rm x : Nat) : Rat) = ((37601280 * (rm x * rm x) : Nat) : Rat) := (Rat.natCast_mul 37601280 _).symm
 rw [e2]
 refine Rat.natCast_le_natCast.2 ?_
 generalize rm x = L at *
 generalize mQ t.q = r at *
 have s1 := Nat.mul_le_mul z2 z2
 have s2 : Q * Q * r ≤ 255 := Nat.le_trans (Nat.mul_le_mul_right r q1) q2
 calc z.natAbs * z.natAbs * r ≤ 3 * (128 * L * Q) * (3 * (128 * L * Q)) * r := Nat.mul_le_mul_right _ s1
  _ = 147456 * (L * L) * (Q * Q * r) := by grind
  _ ≤ 147456 * (L * L) * 255 := Nat.mul_le_mul_left _ s2
  _ = 37601280 * (L * L) := by grind
theorem hJ {x : Sm} (h : V4 x) : ∀ t ∈ Zg (yD x), bq 39 t.c :=
 Vu (L := L0) (by decide) (v7 h).g.nat (v7 h).g.unr (fun _ _ => rfl) (v7 h).pg (by decide) (by decide)
theorem iF {x : Sm} {f : Nat → Rat} (h : V4 x) (hf : OC 65025 (1 / (vu : Rat)) f) (hne : Zg (yD x) ≠ []) : far (1 / (WF : Rat)) (ev f (Zg (yD x))) := by
 have hl : (Zg (yD x)).length ≤ 3 := (v7 h).len
 obtain ⟨L0', L1⟩ := Nv x
 exact gj L0' L1 hf (by decide +kernel) (by decide +kernel) (v7 h).g hl hne (fun t ht => (PD h t ht).1) fun t ht => (PD h t ht).2
theorem tn {x : Sm} {f : Nat → Rat} (h : V4 x) (hf : OC 65025 (1 / (vu : Rat)) f) : Gq (Zg (yD x)) ∧ za (Zg (yD x)) = sg (ev f (Zg (yD x))) ∧ (Zg (yD x) ≠ [] → far (1 / (WF : Rat)) (ev f (Zg (yD x)))) := by
 have ok : xj (Zg (yD x)) := I7 (v7 h) (show 255 ≤ RM by decide) (by decide) (by decide)
 have hl : (Zg (yD x)).length ≤ 3 := (v7 h).len
 by_cases hne : Zg (yD x) = []
 ·refine ⟨⟨ok, ⟨.inl hne⟩⟩, ?_, fun e => absurd hne e⟩
  rw [hne, yz]
  decide +kernel
 ·have hfar := iF h hf hne
  obtain ⟨s1, s2⟩ := PH hf (show 255 ≤ 65025 by decide) (show 255 ≤ RM by decide) (v7 h).g.nat (v7 h).g.ne (hJ h) (Nat.le_refl _) (by omega) (List.length_pos_iff.2 hne) (show 33 ≤ 1 / (WF : Rat) * ((10 ^ 64 : Nat) : Rat) by decide +kernel) hfar
  exact ⟨⟨ok, ⟨.inr s1⟩⟩, s2, fun _ => hfar⟩
theorem GU {t : Tm} {R : Nat} (hn : Zw R t) (h : PO t ≤ PB) : ab 6144 t.c := by
 refine pf (by decide +kernel) (Rat.le_trans (GT hn) (Rat.le_trans h ?_))
 decide +kernel
theorem Nz {x y : Sm} {f : Nat → Rat} (hx : V4 x) (hy : V4 y) (hf : OC 65025 (1 / (vu : Rat)) f) :
  vU (Z9 (Zg (yD x)) (Zg (yD y))) ∧ Gq (Zg (Z9 (Zg (yD x)) (Zg (yD y)))) ∧ za (Zg (Z9 (Zg (yD x)) (Zg (yD y)))) = za (Zg (yD x)) * za (Zg (yD y)) := by
 have a := jQ hx
 have b := jQ hy
 have la : (Zg (yD x)).length ≤ 3 := a.len
 have lb : (Zg (yD y)).length ≤ 3 := b.len
 have E : (oR (He x) (He y)).length = 9 := by rw [Ma]; rfl
 have p := JQ (E := oR (He x) (He y)) a b (fun _ h => h) (by omega) (by decide) (Nat.le_trans (Nat.mul_le_mul la lb) (by decide))
 have ok : xj (Zg (Z9 (Zg (yD x)) (Zg (yD y)))) := HZ p.f (by decide) I5 (by omega) (by decide)
 obtain ⟨_, s1, f1⟩ := tn hx hf
 obtain ⟨_, s2, f2⟩ := tn hy hf
 refine ⟨p.made, ?_⟩
 by_cases hne : Zg (yD x) = [] ∨ Zg (yD y) = []
 ·have e0 : Z9 (Zg (yD x)) (Zg (yD y)) = [] := by
   rcases hne with e | e <;> rw [e]
   ·rfl
   ·unfold Z9
    simp
  have e1 : Zg (Z9 (Zg (yD x)) (Zg (yD y))) = [] := by rw [e0]; rfl
  refine ⟨⟨ok, ⟨.inl e1⟩⟩, ?_⟩
  rw [e1]
  rcases hne with e | e <;> rw [e]
  ·rw [show za [] = 0 by decide, Int.zero_mul]
  ·rw [show za [] = 0 by decide, Int.mul_zero]
 ·have hX : Zg (yD x) ≠ [] := fun e => hne (.inl e)
  have hY : Zg (yD y) ≠ [] := fun e => hne (.inr e)
  have hev := p.ev f hf.hom
  have hbi := Ph hf (by decide +kernel) (by decide +kernel) b.g.nat (fun t ht => GU (b.g.nat t ht) (PD hy t ht).2) a.g.nat (fun t ht => GU (a.g.nat t ht) (PD hx t ht).2)
  rw [← hev] at hbi
  have l1 : ((Zg (yD x)).length : Rat) ≤ 3 := Rat.natCast_le_natCast.2 la
  have l2 : ((Zg (yD y)).length : Rat) ≤ 3 := Rat.natCast_le_natCast.2 lb
  have l3 : (0 : Rat) ≤ ((Zg (yD x)).length : Rat) := Rat.natCast_nonneg
  have e0 : (0 : Rat) ≤ 6144 * (1024 * (1 / (vu : Rat))) := by decide +kernel
  have hz : ((Zg (yD x)).length : Rat) * (6144 * (((Zg (yD y)).length : Rat) * (6144 * (1024 * (1 / (vu : Rat)))))) ≤ 3 * (6144 * (3 * (6144 * (1024 * (1 / (vu : Rat)))))) := by
   have k1 := Rat.mul_le_mul_of_nonneg_right l2 e0
   have k2 := Rat.mul_le_mul_of_nonneg_left k1 (show (0 : Rat) ≤ 6144 by decide +kernel)
   have k3 := Rat.mul_le_mul_of_nonneg_left k2 l3
   have k4 := Rat.mul_le_mul_of_nonneg_right l1 (show (0 : Rat) ≤ 6144 * (3 * (6144 * (1024 * (1 / (vu : Rat))))) by decide +kernel)
   exact Rat.le_trans k3 k4
  obtain ⟨g1, g2⟩ := ja (d := 1 / (WF : Rat)) (e := 3 * (6144 * (3 * (6144 * (1024 * (1 / (vu : Rat))))))) (by decide +kernel) (f1 hX) (f2 hY) (by decide +kernel) (Vt hbi hz)
  have hP : Zg (Z9 (Zg (yD x)) (Zg (yD y))) ≠ [] := fun e => by
   rw [e, yz] at g2
   have : (0 : Rat) < 1 / (WF : Rat) * (1 / (WF : Rat)) - 3 * (6144 * (3 * (6144 * (1024 * (1 / (vu : Rat)))))) := by decide +kernel
   rcases g2 with g | g <;> grind
  have hb : ∀ t ∈ Zg (Z9 (Zg (yD x)) (Zg (yD y))), bq 39 t.c := Vu (L := LP) (by decide) p.f.g.nat p.f.g.unr (fun _ _ => rfl) p.f.pg (by decide) (by decide)
  have hlen := p.f.len
  obtain ⟨t1, t2⟩ := PH hf (show RP ≤ 65025 by decide) (show RP ≤ RM by decide) p.f.g.nat p.f.g.ne hb (Nat.le_refl _) (by omega) (List.length_pos_iff.2 hP) (by decide +kernel) g2
  exact ⟨⟨ok, ⟨.inr t1⟩⟩, by rw [t2, g1, ← s1, ← s2]⟩
noncomputable def gB (G : List (Nat × Obj)) : Tb := ((((W2 G).plus 11 M4).plus 16 M5).plus 17 mU).plus 15 Mz
theorem O0 {G : List (Nat × Obj)} (hG : VV G) : zz Tryz.prog (gB G) := zz.plus (zz.plus (zz.plus (zz.plus zQ (Ib hG.tab)) (Hy hG.tab)) (IJ hG)) (Ig hG)
theorem Nh (x : Rat) : sg x = 1 ∨ sg x = -1 ∨ sg x = 0 := by
 unfold sg
 split
 ·exact .inl rfl
 ·split
  ·exact .inr (.inl rfl)
  ·exact .inr (.inr rfl)
theorem P2 {x : Sm} {f : Nat → Rat} (h : V4 x) (hf : OC 65025 (1 / (vu : Rat)) f) : (za (Zg (yD x)) = 1 ∨ za (Zg (yD x)) = -1 ∨ za (Zg (yD x)) = 0) ∧ (za (Zg (yD x)) = 0 ↔ (Zg (yD x)).length = 0) := by
 obtain ⟨_, s1, f1⟩ := tn h hf
 refine ⟨s1 ▸ Nh _, ?_, ?_⟩
 ·intro e
  refine Decidable.byContradiction fun hne => ?_
  have hf := f1 fun e => hne (by rw [e]; rfl)
  rw [s1] at e
  have : (0 : Rat) < 1 / (WF : Rat) := by decide +kernel
  revert e
  unfold sg
  rcases hf with g | g
  ·rw [if_pos (show 0 < ev f (Zg (yD x)) by grind)]; decide
  ·rw [if_neg (show ¬0 < ev f (Zg (yD x)) by grind), if_pos (show ev f (Zg (yD x)) < 0 by grind)]; decide
 ·intro e
  rw [List.length_eq_zero_iff.1 e]
  decide
theorem Sj (G : List (Nat × Obj)) (x y : Sm) (hx : V4 x) (hy : V4 y) :
 let q1 := (Z4 (AV.agg 8 fun (i : Nat) => zr.enc x (0 + i))); let q2 := (Z4 (AV.agg 8 fun (i : Nat) => zr.enc y (0 + i))); let q5 := (lN (Zg (yD q1))); let q4 := (AV.xl false 2 q5 fun i j => zr.enc (gD (Zg (yD (Z4 (AV.agg 8 fun (i : Nat) => zr.enc x (0 + i))))) i zr.dflt) j); let q3 := (zB Tm q4); let q6 := (yx q4); let q8 := (AV.xl false 2 (lN (Zg (yD q2))) fun i j => zr.enc (gD (Zg (yD (Z4 (AV.agg 8 fun (i : Nat) => zr.enc y (0 + i))))) i zr.dflt) j); let q7 := (zB Tm q8); let q9 := (yx q8); let q10 := (Z9 q6 q9); let q11 := (Z9 q6
 q6); let q12 := (AV.xl false 2 (lN (Zg q10)) fun i j => zr.enc (gD (Zg (Z9 (yx (AV.xl false 2 (lN (Zg (yD (Z4 (AV.agg 8 fun (i : Nat) => zr.enc x (0 + i)))))) fun i j => zr.enc (gD (Zg (yD (Z4 (AV.agg 8 fun (i : Nat) => zr.enc x (0 + i))))) i zr.dflt) j)) (yx (AV.xl false 2 (lN (Zg (yD (Z4 (AV.agg 8 fun (i : Nat) => zr.enc y (0 + i)))))) fun i j => zr.enc (gD (Zg (yD (Z4 (AV.agg 8 fun (i : Nat) => zr.enc y (0 + i))))) i zr.dflt) j)))) i zr.dflt) j); let q13 := (yx q12); let q14 := (AV.xl false 2 (lN (Zg q11))
 fun i j => let q15 := (yx (AV.xl false 2 (lN (Zg (yD (Z4 (AV.agg 8 fun (i : Nat) => zr.enc x (0 + i)))))) fun i j => zr.enc (gD (Zg (yD (Z4 (AV.agg 8 fun (i : Nat) => zr.enc x (0 + i))))) i zr.dflt) j)); zr.enc (gD (Zg (Z9 q15 q15)) i zr.dflt) j); let q16 := (yx q14); let q18 := (bif bif iZ == iZ then iZ == iZ else false then za q13 == za q6 * za q9 else false); let q17 := (!zS true q18 || zS true q18); let q20 := (bif bif bif iZ == iZ then iZ == iZ else false then za q13 == za q6 *
 za q9 else false then za q16 == za q6 * za q6 else false); let q19 := (!zS true q20 || zS true q20); let q22 := (za q6 == iZ); let q23 := ((cI q5) == iZ); let q21 := (bif bif bif bif iZ == iZ then iZ == iZ else false then za q13 == za q6 * za q9 else false then za q16 == za q6 * za q6 else false then q22 == q23 else false); let q25 := (za q6); let q24 := (bif bif bif bif bif iZ == iZ then iZ == iZ else false then za q13 == za q6 * za q9 else false then za q16 == za q6 * za q6 else
 false then q22 == q23 else false then leB (-1 : Int) q25 else false); Zt [AV.agg 8 (zr.enc x), AV.agg 8 (zr.enc y)] → V4 q1 ∧ V4 q2 ∧ bF q3 (xj q6 ∧ ot q6 ∧ bF q7 (xj q9 ∧ ot q9 ∧ bF q3 (bF q7 (xj q6 ∧ xj q9 ∧ vU q10 ∧ bF q3 (bF q3 (xj q6 ∧ xj q6 ∧ vU q11 ∧ bF (zB Tm q12) (xj q13 ∧ ot q13 ∧ bF (zB Tm q14) (xj q16 ∧ ot q16 ∧ bF (!zS true (bif iZ == iZ then iZ == iZ else false) || dK (za q6 * za q9)) (bF q17 (bF q17 (zZ (!zS true q18 || dK (za q6 * za q6))
 (bF q17 (bF q17 (bF ((!bif bif iZ == iZ then iZ == iZ else false then za q13 == za q6 * za q9 else false) || zS true q18) (bF q19 (bF q19 (bF q19 (bF q19 (bF q19 (bF ((!bif bif bif iZ == iZ then iZ == iZ else false then za q13 == za q6 * za q9 else false then za q16 == za q6 * za q6 else false) || zS true q20) (bF (!zS true q21 || zS true q21) (bF ((!bif bif bif bif iZ == iZ then iZ == iZ else false then za q13 == za q6 * za q9 else
 false then za q16 == za q6 * za q6 else false then q22 == q23 else false) || zS true q21) (bF (!zS true q24 || zS true q24) (bF ((!bif bif bif bif bif iZ == iZ then iZ == iZ else false then za q13 == za q6 * za q9 else false then za q16 == za q6 * za q6 else false then q22 == q23 else false then leB (-1 : Int) q25 else false) || zS true q24) (bF ((!bif bif bif bif bif bif iZ == iZ then iZ == iZ else false then za q13 == za q6 * za q9 else false then za q16 == za q6 * za q6 else false then
 q22 == q23 else false then leB (-1 : Int) q25 else false then leB q25 iO else false) || zS true (bif bif bif bif bif bif iZ == iZ then iZ == iZ else false then za q13 == za q6 * za q9 else false then za q16 == za q6 * za q6 else false then q22 == q23 else false then leB (-1 : Int) q25 else false then leB q25 iO else false)) ((bif bif bif bif bif bif bif iZ == iZ then iZ == iZ else false then za q13 == za q6 * za q9 else false then za q16 == za q6 * za q6 else false then q22 == q23 else false then leB
 (-1 : Int) q25 else false then leB q25 iO else false then true else false) = true))))))))))))))) False))))))))))) := by
 delta bF dK cI lN gD iZ iO
 dsimp only
 intro hb
 simp only [Nat.zero_add]
 simp only [sS, YK, yi, zk, yo, Yx, XQ, YC, wn, xJ, wE, XU, mZ, Pe, Po, Rw, dS]
 obtain ⟨f, hf⟩ := Is 65025 vu (by decide) (by decide)
 obtain ⟨a1, _, _⟩ := tn hx hf
 obtain ⟨b1, _, _⟩ := tn hy hf
 obtain ⟨p1, p2, p3⟩ := Nz hx hy hf
 obtain ⟨q1, q2, q3⟩ := Nz hx hx hf
 obtain ⟨z1, z2⟩ := P2 hx hf
 obtain ⟨w1, w2⟩ := P2 hy hf
 have e1 : (za (Zg (yD x)) == 0) = (((Zg (yD x)).length : Int) == 0) := by
  rw [Bool.eq_iff_iff, beq_iff_eq, beq_iff_eq]
  exact ⟨fun h => by have := z2.1 h; omega, fun h => z2.2 (by omega)⟩
 have e2 : leB (-1) (za (Zg (yD x))) = true := by rcases z1 with h | h | h <;> rw [h] <;> decide
 have e3 : leB (za (Zg (yD x))) 1 = true := by rcases z1 with h | h | h <;> rw [h] <;> decide
 refine ⟨hx, hy, a1.ok, a1.dec, b1.ok, b1.dec, a1.ok, b1.ok, p1, a1.ok, a1.ok, q1, p2.ok, p2.dec, q2.ok, q2.dec, fun _ => ?_, fun _ => ?_, ?_⟩
 ·rcases z1 with h | h | h <;> rcases w1 with g | g | g <;> rw [h, g] <;> simp only [yR] <;> omega
 ·rcases z1 with h | h | h <;> rw [h] <;> simp only [yR] <;> omega
 ·rw [p3, q3, e1, e2, e3, beq_self_eq_true, beq_self_eq_true, beq_self_eq_true]
  cases (((Zg (yD x)).length : Int) == 0) <;> rfl
theorem rL {G : List (Nat × Obj)} (hG : VV G) (x y : Sm) (hx : V4 x) (hy : V4 y) : zU Tryz.prog G 5 [Yc x, Yc y] (.b true) :=
 zW (T := gB G) (an := .auto) mixed (O0 hG) (Eq.mp (by kernel_rfl) (Sj G x y hx hy))
end Go.Te

namespace Go.Te
open Go Go.Sx Go.Proofs Go.Ar Go.RowKit
set_option maxRecDepth 100000
def Ps : List (List UInt8) := [[50], [51], [53], [55], [49, 49], [49, 51], [49, 55], [49, 57], [50, 51], [50, 57], [51, 49], [51, 55], [52, 49], [52, 51], [52, 55], [53, 51], [53, 57], [54, 49], [54, 55], [55, 49], [55, 51], [55, 57], [56, 51], [56, 57], [57, 55]]
theorem QC : (Ps.map fun z => Value.string ⟨z.toArray⟩) = zm.toList := by kernel_rfl
theorem t7 {H : Type} {enc : TypeId × Value → H} {P : Program} {w : World} {base : Nat} {sp : Nat → Bool} {held : Bool} {fuel : Nat} {t e : TypeId} {n : Nat} {cs : List Value} {zs : List (List UInt8)} {p : List MemPlace}
  (ht : P.underlying t = some (.array n e)) (he : P.underlying e = some .string) (hce : P.cellsOf e = 1) (hct : P.cellsOf t = n)
  (h : DataW.trod enc P w base sp held fuel t cs = some (.agg (zs.map fun z => .lit (.string z)), p)) : cs = zs.map fun z => Value.string ⟨z.toArray⟩ := by
 cases fuel with
 | zero => simp [DataW.trod] at h
 | succ fuel =>
  simp only [DataW.trod, ht, hce, hct, Nat.mul_one] at h
  split at h
  ·rename_i hl
   obtain ⟨xs, hm, hx⟩ := Option.map_eq_some_iff.1 h
   have hxs : xs.map (·.1) = zs.map fun z => (DataW.lit (.string z) : DataW H) := by
    have := congrArg Prod.fst hx
    simpa using this
   have hxl : xs.length = n := by simpa using Lib.mapM_length hm
   have hzl : zs.length = n := by
    have := congrArg List.length hxs
    simp at this
    omega
   apply List.ext_getElem?
   intro i
   by_cases hi : i < n
   ·obtain ⟨b, hb, hf⟩ := Lib.mapM_at hm i i (by simp [hi])
    obtain ⟨z, hc, rfl, _⟩ := DataW.trod_string he hf
    have h1 : cs[i]? = some (.string z) := by
     have := congrArg (·[0]?) hc
     simpa [List.getElem?_take, List.getElem?_drop] using this
    have h2 : (xs.map (·.1))[i]? = some (DataW.lit (.string z.data.toList) : DataW H) := by simp [hb]
    rw [hxs] at h2
    simp only [List.getElem?_map, Option.map_eq_some_iff, DataW.lit.injEq, Lit.string.injEq] at h2
    obtain ⟨z', hz', rfl⟩ := h2
    simp [h1, hz']
   ·rw [List.getElem?_eq_none (by omega), List.getElem?_eq_none (by simp; omega)]
  ·cases h
section
variable {H : Type} {enc : TypeId × Value → H} {W : World} {spare : Nat → Bool} {held : Bool}
abbrev gn (W : World) : Nat → Prop := fun b => b < W.heap.size
theorem qx {m : Nat} {cs : List Value} {x : DataW H × List MemPlace} (h : DataW.trod enc Tryz.prog W 0 spare held m 5 cs = some x) : ∃ n, cs = [.int .u8 n] ∧ (0 ≤ n ∧ n ≤ 255) := by
 obtain ⟨k, h1, _, h3⟩ := DataW.trod_int Tryz.underlying5 h
 simp only [Lit.wf, Bool.and_eq_true, decide_eq_true_eq] at h3
 have h4 : (0 : Int) ≤ k ∧ k ≤ 255 := h3
 exact ⟨k, h1, h4⟩
theorem Mu {m : Nat} {cs : List Value} {x : DataW H × List MemPlace} (h : DataW.trod enc Tryz.prog W 0 spare held m 22 cs = some x) : ∃ n, cs = [.int .i8 n] ∧ (-128 ≤ n ∧ n ≤ 127) := by
 obtain ⟨k, h1, _, h3⟩ := DataW.trod_int Tryz.underlying22 h
 simp only [Lit.wf, Bool.and_eq_true, decide_eq_true_eq] at h3
 have h4 : (-128 : Int) ≤ k ∧ k ≤ 127 := h3
 exact ⟨k, h1, h4⟩
theorem So : Tryz.prog.cellsOf 24 = 8 := by kernel_rfl
theorem cells5 : Tryz.prog.cellsOf 5 = 1 := by kernel_rfl
theorem LI : Tryz.prog.cellsOf 22 = 1 := by kernel_rfl
theorem mb {n : Nat} {cs : List Value} {x : DataW H × List MemPlace} (h : DataW.trod enc Tryz.prog W 0 spare held n 24 cs = some x) : ∃ g : Sm, (∀ j, j < 8 → zf W (gn W) yB (zr.enc g j) (cs.getD j undef)) ∧ V4 g := by
 obtain ⟨xs, m, _, _, hl, hx, hf⟩ := DataW.trod_struct Tryz.underlying24 h
 rw [So] at hl
 match cs, hl with
 | [c0, c1, c2, c3, c4, c5, c6, c7], _ =>
 have hx3 : xs.length = 8 := hx
 have g0 : DataW.trod enc Tryz.prog W 0 spare held m 22 (([c0, c1, c2, c3, c4, c5, c6, c7].drop 0).take (Tryz.prog.cellsOf 22)) = xs[0]? := hf 0 _ rfl
 have g1 : DataW.trod enc Tryz.prog W 0 spare held m 22 (([c0, c1, c2, c3, c4, c5, c6, c7].drop 1).take (Tryz.prog.cellsOf 22)) = xs[1]? := hf 1 _ rfl
 have g2 : DataW.trod enc Tryz.prog W 0 spare held m 22 (([c0, c1, c2, c3, c4, c5, c6, c7].drop 2).take (Tryz.prog.cellsOf 22)) = xs[2]? := hf 2 _ rfl
 have g3 : DataW.trod enc Tryz.prog W 0 spare held m 5 (([c0, c1, c2, c3, c4, c5, c6, c7].drop 3).take (Tryz.prog.cellsOf 5)) = xs[3]? := hf 3 _ rfl
 have g4 : DataW.trod enc Tryz.prog W 0 spare held m 5 (([c0, c1, c2, c3, c4, c5, c6, c7].drop 4).take (Tryz.prog.cellsOf 5)) = xs[4]? := hf 4 _ rfl
 have g5 : DataW.trod enc Tryz.prog W 0 spare held m 5 (([c0, c1, c2, c3, c4, c5, c6, c7].drop 5).take (Tryz.prog.cellsOf 5)) = xs[5]? := hf 5 _ rfl
 have g6 : DataW.trod enc Tryz.prog W 0 spare held m 5 (([c0, c1, c2, c3, c4, c5, c6, c7].drop 6).take (Tryz.prog.cellsOf 5)) = xs[6]? := hf 6 _ rfl
 have g7 : DataW.trod enc Tryz.prog W 0 spare held m 5 (([c0, c1, c2, c3, c4, c5, c6, c7].drop 7).take (Tryz.prog.cellsOf 5)) = xs[7]? := hf 7 _ rfl
 rw [LI] at g0 g1 g2
 rw [cells5] at g3 g4 g5 g6 g7
 rw [List.getElem?_eq_getElem (by omega)] at g0 g1 g2 g3 g4 g5 g6 g7
 obtain ⟨z0, e0, b0⟩ := Mu g0
 obtain ⟨z1, e1, b1⟩ := Mu g1
 obtain ⟨z2, e2, b2⟩ := Mu g2
 obtain ⟨z3, e3, b3⟩ := qx g3
 obtain ⟨z4, e4, b4⟩ := qx g4
 obtain ⟨z5, e5, b5⟩ := qx g5
 obtain ⟨z6, e6, b6⟩ := qx g6
 obtain ⟨z7, e7, b7⟩ := qx g7
 simp only [List.drop_zero, List.drop_succ_cons, List.take_succ_cons, List.take_zero, List.cons.injEq, and_true] at e0 e1 e2 e3 e4 e5 e6 e7
 subst e0 e1 e2 e3 e4 e5 e6 e7
 refine ⟨⟨z0, z1, z2, z3, z4, z5, z6, z7⟩, fun j hj => ?_, ⟨b0, b1, b2, b3, b4, b5, b6, b7⟩⟩
 match j, hj with
 | 0, _ => exact .v _
 | 1, _ => exact .v _
 | 2, _ => exact .v _
 | 3, _ => exact .v _
 | 4, _ => exact .v _
 | 5, _ => exact .v _
 | 6, _ => exact .v _
 | 7, _ => exact .v _
theorem P4 {cs : Array Value} {d : DataW H} {ps : List MemPlace} (h : DataW.Trod enc Tryz.prog W 0 spare held 24 (.agg cs) d ps) (hs : cs.size = 8) : ∃ b : Sm, zf W (gn W) yB (Yc b) (.agg cs) ∧ V4 b := by
 obtain ⟨m, h⟩ := h
 have hcs : (Value.agg cs).cells.toList = cs.toList := rfl
 rw [hcs] at h
 obtain ⟨b, hb, hi⟩ := mb h
 refine ⟨b, .agg cs hs fun i hi => ?_, hi⟩
 have e : cs.getD i undef = cs.toList.getD i undef := by
  rw [Array.getD_eq_getD_getElem?, List.getD_eq_getElem?_getD, Array.getElem?_toList]
 rw [e]
 exact hb i hi
end
end Go.Te

namespace Go.Proofs.YthbpnknhfokadaaGreatDoor.surdSigns
open Go Go.ChangeShapes Go.WideShapes Go.ChangeAt Go.RowKit
theorem own : ownKnob Tryz.prog.godebug = none := by kernel_rfl
theorem JC : Tryz.prog.globalNamed "internal/strconv.uint64pow10" = some 1 := by kernel_rfl
theorem laidOut : laidOutB Tryz.prog = true := by kernel_rfl
theorem HE : Tryz.prog.readableRec 24 = true := by kernel_rfl
theorem I0 : (24 : TypeId) < Tryz.prog.types.size := of_decide_eq_true (by kernel_rfl)
theorem ta {W W' : World} (h : Below W.heap.size W W') (may : MemPlace → Prop) : W.keptBut W' may := by
 refine ⟨h.os, h.output, fun i hi => ?_⟩
 rw [h.block i hi]
 cases hh : W.heap[i]? with
 | none => rfl
 | some o => cases o <;> simp
theorem TX {W W' : World} (h : Below W.heap.size W W') {p : MemPlace} (hp : p.block < W.heap.size) : W.sameAt W' p := by
 cases p with
 | cell b off =>
  show W'.cell? _ = W.cell? _
  exact World.cell?_of_block (h.block b hp)
 | map b => exact h.block b hp
theorem OO {H : Type} {enc : TypeId × Value → H} {P : Program} {f : Func} {s : ChangeSpec} {apart fresh handsOn again : Bool} {W W' : World} {args : Array Value} {v : Value} {ds gs : List (DataW H)} {before pa pv : List MemPlace}
  (hW : DataW.Whole enc P f.params.toList s.vars apart W args.toList ds gs before)
  (hres : ∀ (b : Nat) (sp : Nat → Bool) (hd : Bool), DataW.TrodAll enc P W' b sp hd f.resultTypes.toList (v.resultList f.resultTypes.size) (s.fn H (ds ++ gs)).results [])
  (hargs : ∀ sp : Nat → Bool, (∀ p ∈ before, sp p.block = true) → DataW.TrodAll enc P W' 0 sp true f.params.toList args.toList (s.fn H (ds ++ gs)).args pa)
  (hvars : ∀ sp : Nat → Bool, (∀ p ∈ before, sp p.block = true) → DataW.TrodVars enc P W' sp s.vars (s.fn H (ds ++ gs)).vars pv)
  (hps : before = pa ++ pv) (hb : Below W.heap.size W W')
  (hok : ∀ (j : Nat) (t : TypeId) (r : Value), f.resultTypes[j]? = some t → (v.resultList f.resultTypes.size)[j]? = some r → Value.okWide P W' .any 0 t r) :
  s.post enc P f apart fresh handsOn again W args v W' := by
 have hlt : ∀ p ∈ before, p.block < W.heap.size := fun p hp => hW.lt p hp
 have hold : ∀ p ∈ before, (fun b => decide (b < W.heap.size)) p.block = true := fun p hp => by simpa using hlt p hp
 refine ⟨ds, gs, before, [], pa, pv, hW, hres _ _ _, hargs _ hold, hvars _ hold, ta hb _, fun _ => ?_⟩
 obtain ⟨_, _, _, _, _, hz, hn⟩ := hW
 refine ⟨hok, _, _, ([] ++ pa) ++ pv, ⟨[] ++ pa, pv, trodAll_append (hargs _ (fun _ _ => rfl)) (hres _ _ _), hvars _ (fun _ _ => rfl), rfl, ?_, ?_⟩, ?_⟩
 ·intro b off hp
  have hp' : MemPlace.cell b off ∈ before := by rw [hps]; simpa using hp
  have e : W'.frozen? ⟨b, off, none⟩ = W.frozen? ⟨b, off, none⟩ := by
   unfold World.frozen?
   rw [hb.block b (hlt _ hp')]
  rw [e]
  exact hz b off hp'
 ·intro ha
  have := hn ha
  rw [hps] at this
  simpa using this
 ·intro p hp _
  rw [hps]
  simpa using hp
theorem table {W : World} (h : laidMetH Tryz.prog Rows.surdSignsRow.laid W) : ∃ cs t fr, W.heap[1]? = some (.cells cs t fr) ∧ cs = (Lib.pow10Tab.map fun z => Value.int .u64 z).toArray := by
 have h' : laidMet Tryz.prog (("math/bits.deBruijn32tab", Rows.laid_math_bits_deBruijn32tab) :: ("math/bits.deBruijn64tab", Rows.laid_math_bits_deBruijn64tab) :: ("internal/strconv.uint64pow10", Rows.laid_internal_strconv_uint64pow10) :: [("unicode/utf8.acceptRanges", Rows.laid_unicode_utf8_acceptRanges), ("strconv.ErrRange", Rows.laid_strconv_ErrRange), ("strconv.ErrSyntax", Rows.laid_strconv_ErrSyntax), ("kingpost/root.primes", Rows.laid_kingpost_root_primes), ("kingpost/surd.signPlaces", Rows.laid_kingpost_surd_signPlaces), ("unicode/utf8.first", Rows.laid_unicode_utf8_first)]) W := h
 obtain ⟨ps, ⟨_, _, _, _, _, _, _, _, _, _, ⟨_, _, _, _, _, _, _, _, _, _, ⟨g, t, cs, fuel, p, q, hg, hty, hvar, hd, _⟩, _⟩, _⟩, _⟩ := h'
 obtain rfl := Option.some.inj (JC.symm.trans hg)
 have hcs : cs.toList = Lib.pow10Tab.map fun z => Value.int .u64 z := by
  obtain rfl : t = 216 := Option.some.inj ((show (Tryz.prog.globals[1]?).map (·.type) = some 216 by kernel_rfl).symm.trans hty) |>.symm
  exact Lib.cells_of_tab (n := 20) (e := 160) (zs := Lib.pow10Tab) (by kernel_rfl) (by kernel_rfl) (by kernel_rfl) (by kernel_rfl) hd
 unfold World.var? at hvar
 rw [JC] at hvar
 simp only [Option.bind_some] at hvar
 split at hvar
 ·rename_i cs' t' fr hh
  cases hvar
  exact ⟨_, _, _, hh, by rw [← hcs]⟩
 ·cases hvar
theorem jT : Tryz.prog.globalNamed "kingpost/root.primes" = some 2 := by kernel_rfl
theorem iU {W : World} (h : laidMetH Tryz.prog Rows.surdSignsRow.laid W) : ∃ t fr, W.heap[2]? = some (.cells Te.zm t fr) := by
 have h' : laidMet Tryz.prog (("math/bits.deBruijn32tab", Rows.laid_math_bits_deBruijn32tab) :: ("math/bits.deBruijn64tab", Rows.laid_math_bits_deBruijn64tab) :: ("internal/strconv.uint64pow10", Rows.laid_internal_strconv_uint64pow10) :: [("unicode/utf8.acceptRanges", Rows.laid_unicode_utf8_acceptRanges), ("strconv.ErrRange", Rows.laid_strconv_ErrRange), ("strconv.ErrSyntax", Rows.laid_strconv_ErrSyntax), ("kingpost/root.primes", Rows.laid_kingpost_root_primes), ("kingpost/surd.signPlaces", Rows.laid_kingpost_surd_signPlaces), ("unicode/utf8.first", Rows.laid_unicode_utf8_first)]) W := h
 obtain ⟨ps, ⟨_, _, _, _, _, _, _, _, _, _, ⟨_, _, _, _, _, _, _, _, _, _, ⟨_, _, _, _, _, _, _, _, _, _, ⟨_, _, _, _, _, _, _, _, _, _, ⟨_, _, _, _, _, _, _, _, _, _, ⟨_, _, _, _, _, _, _, _, _, _, ⟨g, t, cs, fuel, p, q, hg, hty, hvar, hd, _⟩, _⟩, _⟩, _⟩, _⟩, _⟩, _⟩, _⟩ := h'
 obtain rfl := Option.some.inj (jT.symm.trans hg)
 have hcs : cs.toList = Te.zm.toList := by
  obtain rfl : t = 218 := Option.some.inj ((show (Tryz.prog.globals[2]?).map (·.type) = some 218 by kernel_rfl).symm.trans hty) |>.symm
  exact (Te.t7 (n := 25) (e := 9) (zs := Te.Ps) Tryz.underlying218 Tryz.underlying9 (by kernel_rfl) (by kernel_rfl) hd).trans Te.QC
 unfold World.var? at hvar
 rw [jT] at hvar
 simp only [Option.bind_some] at hvar
 split at hvar
 ·rename_i cs' t' fr hh
  cases hvar
  exact ⟨_, _, by rw [← Array.toList_inj.1 hcs]; exact hh⟩
 ·cases hvar
theorem K9 : Tryz.prog.globalNamed "kingpost/surd.signPlaces" = some 0 := by kernel_rfl
theorem HR {W : World} (h : laidMetH Tryz.prog Rows.surdSignsRow.laid W) : ∃ t fr, W.heap[0]? = some (.cells Te.Zj t fr) := by
 have h' : laidMet Tryz.prog (("math/bits.deBruijn32tab", Rows.laid_math_bits_deBruijn32tab) :: ("math/bits.deBruijn64tab", Rows.laid_math_bits_deBruijn64tab) :: ("internal/strconv.uint64pow10", Rows.laid_internal_strconv_uint64pow10) :: [("unicode/utf8.acceptRanges", Rows.laid_unicode_utf8_acceptRanges), ("strconv.ErrRange", Rows.laid_strconv_ErrRange), ("strconv.ErrSyntax", Rows.laid_strconv_ErrSyntax), ("kingpost/root.primes", Rows.laid_kingpost_root_primes), ("kingpost/surd.signPlaces", Rows.laid_kingpost_surd_signPlaces), ("unicode/utf8.first", Rows.laid_unicode_utf8_first)]) W := h
 obtain ⟨ps, ⟨_, _, _, _, _, _, _, _, _, _, ⟨_, _, _, _, _, _, _, _, _, _, ⟨_, _, _, _, _, _, _, _, _, _, ⟨_, _, _, _, _, _, _, _, _, _, ⟨_, _, _, _, _, _, _, _, _, _, ⟨_, _, _, _, _, _, _, _, _, _, ⟨_, _, _, _, _, _, _, _, _, _, ⟨g, t, cs, fuel, p, q, hg, hty, hvar, hd, _⟩, _⟩, _⟩, _⟩, _⟩, _⟩, _⟩, _⟩, _⟩ := h'
 obtain rfl := Option.some.inj (K9.symm.trans hg)
 have hcs : cs.toList = [4, 16, 64].map fun z => Value.int .i64 z := by
  obtain rfl : t = 115 := Option.some.inj ((show (Tryz.prog.globals[0]?).map (·.type) = some 115 by kernel_rfl).symm.trans hty) |>.symm
  exact Lib.cells_of_tab (n := 3) (e := 3) (zs := [4, 16, 64]) (by kernel_rfl) (by kernel_rfl) (by kernel_rfl) (by kernel_rfl) hd
 have hcs2 : cs = Te.Zj := Array.toList_inj.1 hcs
 unfold World.var? at hvar
 rw [K9] at hvar
 simp only [Option.bind_some] at hvar
 split at hvar
 ·rename_i cs' t' fr hh
  cases hvar
  exact ⟨_, _, by rw [← hcs2]; exact hh⟩
 ·cases hvar
set_option maxRecDepth 100000 in
set_option maxHeartbeats 1000000 in
theorem lW (H : Type) (enc : TypeId × Value → H) (W : World) (base : Nat) (args : Array Value) (ds gs : List (DataW H)) (before : List MemPlace)
  (hval : ∀ (j : Nat) t v, Tryz.f5.params[j]? = some t → args[j]? = some v → Value.okWide Tryz.prog W .any base t v)
  (hW : DataW.Whole enc Tryz.prog Tryz.f5.params.toList Rows.surdSignsSpec.vars false W args.toList ds gs before) (hL : laidMetH Tryz.prog Rows.surdSignsRow.laid W) :
  Calls Tryz.prog 5 args W fun e W' => ∃ v, e = .returned v ∧ Rows.surdSignsSpec.post enc Tryz.prog Tryz.f5 false true false false W args v W' := by
 have hW' := hW
 have hlt := hW.lt
 obtain ⟨p, q, hA0, hV, rfl, hfz, hnd⟩ := hW
 have hA : DataW.TrodAll enc Tryz.prog W 0 (fun _ => true) true Tryz.f5.params.toList args.toList ds p := hA0
 rw [Tryz.params5] at hA hval
 obtain ⟨v0, vs0, d0, ds0, p0, q0, hargs, rfl, rfl, h0, r0⟩ := trodAll_cons hA
 obtain ⟨v1, vs1, d1, ds1, p1, q1, rfl, rfl, rfl, h1, r1⟩ := trodAll_cons r0
 obtain ⟨rfl, rfl, rfl⟩ := trodAll_nil r1
 obtain rfl : args = #[v0, v1] := by cases args; simp_all
 obtain ⟨rfl, rfl⟩ := trodVars_none hV
 clear hA0
 simp only [List.append_nil] at hW' hlt
 obtain ⟨as0, rfl, hs0⟩ := okWide_struct Tryz.underlying24 (hval 0 24 v0 rfl rfl)
 obtain ⟨as1, rfl, hs1⟩ := okWide_struct Tryz.underlying24 (hval 1 24 v1 rfl rfl)
 obtain ⟨b0, hb0, hi0⟩ := Te.P4 h0 (hs0.trans Te.So)
 obtain ⟨b1, hb1, hi1⟩ := Te.P4 h1 (hs1.trans Te.So)
 obtain ⟨cs, t, fr, hh, hcs⟩ := table hL
 obtain ⟨t1, fr1, hh1⟩ := iU hL
 obtain ⟨t2, fr2, hh2⟩ := HR hL
 have hG : Te.VV [(2, Obj.cells Te.zm t1 fr1), (0, Obj.cells Te.Zj t2 fr2), (1, Obj.cells cs t fr)] := ⟨⟨⟨1, t, fr, JC, by rw [hcs]; exact List.mem_cons_of_mem _ (List.mem_cons_of_mem _ List.mem_cons_self)⟩, t1, fr1, _, rfl⟩, t1, fr1, t2, fr2, _, rfl⟩
 have lt : ∀ {k : Nat} {o : Obj}, W.heap[k]? = some o → k < W.heap.size := fun {k o} h => by
  rcases Nat.lt_or_ge k W.heap.size with h' | h'
  ·exact h'
  ·rw [Array.getElem?_eq_none h'] at h; cases h
 have walk := (Te.rL hG b0 b1 hi0 hi1).2 W (Te.gn W) [.agg as0, .agg as1] (fun b h => h) (fun b o hb => by
  rcases List.mem_cons.1 hb with hb | hb
  ·cases hb; exact ⟨lt hh1, hh1⟩
  rcases List.mem_cons.1 hb with hb | hb
  ·cases hb; exact ⟨lt hh2, hh2⟩
  rw [List.mem_singleton] at hb
  cases hb; exact ⟨lt hh, hh⟩) ⟨hb0, hb1, trivial⟩
 refine walk.mono fun e W' ⟨hb, rv, he, hr⟩ => ?_
 obtain rfl := Sx.ZR hr
 subst he
 have again : ∀ {t : TypeId} (hrec : Tryz.prog.readableRec t = true) (hrow : t < Tryz.prog.types.size) {v : Value} {d : DataW H} {ps : List MemPlace}, DataW.Trod enc Tryz.prog W 0 (fun _ => true) true t v d ps → (∀ p ∈ ps, p.block < W.heap.size) → ∀ sp : Nat → Bool, (∀ p ∈ ps, sp p.block = true) →
   DataW.Trod enc Tryz.prog W' 0 sp true t v d ps := fun hrec hrow _ _ _ h hp sp hs => Go.WideElems.Trod_stays laidOut hrec hrow h (fun p hp' => TX hb.toBelow (hp p hp')) hs
 refine ⟨_, rfl, OO (pa := p0 ++ (p1 ++ ([]))) (pv := []) hW' (fun _ _ _ => trodAll_cons_mk (shut_bool Tryz.underlying4 _) trodAll_mk0) (fun sp hsp => ?_) (fun _ _ => rfl) (by simp) hb.toBelow (ok_one (by kernel_rfl) rfl (okWide_bool_mk Tryz.underlying4 _))⟩
 rw [Tryz.params5]
 exact trodAll_cons_mk (again HE I0 h0 (fun p hp => hlt p (by simp [hp])) sp fun p hp => hsp p (by simp [hp]))
  (trodAll_cons_mk (again HE I0 h1 (fun p hp => hlt p (by simp [hp])) sp fun p hp => hsp p (by simp [hp])) trodAll_mk0)
def Hd : List Int := [0, 1, 28, 2, 29, 14, 24, 3, 30, 22, 20, 15, 25, 17, 4, 8, 31, 27, 13, 23, 21, 19, 16, 7, 26, 12, 18, 6, 11, 5, 10, 9]
def Ii : List Int := [0, 1, 56, 2, 57, 49, 28, 3, 61, 58, 42, 50, 38, 29, 17, 4, 62, 47, 59, 36, 45, 43, 51, 22, 53, 39, 33, 30, 24, 18, 12, 5, 63, 55, 48, 27, 60, 41, 37, 16, 46, 35, 44, 21, 52, 32, 23, 11, 54, 26, 40, 15, 34, 20, 31, 10, 25, 14, 19, 9, 13, 8, 7, 6]
def first : List Int := Go.Pinned.utf8FirstZ.map fun (n : Nat) => (n : Int)
def Jc : List Int := [128, 191, 160, 191, 128, 159, 144, 191, 128, 143] ++ List.replicate 22 0
def put (cs : Array Value) : Obj → Obj
 | .cells _ t frozen => .cells cs t frozen
 | o => o
def bytesOf (l : List Int) : Array Value := (l.map fun z => Value.int .u8 z).toArray
noncomputable def N2 (h : Array Obj) : Array Obj :=
 ((((((((((h.modify 2 (put Te.zm)).modify 0 (put Te.Zj)).modify 1 (put (Lib.pow10Tab.map fun z => Value.int .u64 z).toArray)).modify 4 (put (bytesOf Hd))).modify 5 (put (bytesOf Ii))).modify 9 (put (bytesOf Jc))).modify 8 (put (bytesOf first))).modify
  7 (put #[.iface 275 (.pointer (some ⟨h.size, 0, none⟩))])).modify 6 (put #[.iface 275 (.pointer (some ⟨h.size + 1, 0, none⟩))])).push
  (.cells #[.string ⟨#[118, 97, 108, 117, 101, 32, 111, 117, 116, 32, 111, 102, 32, 114, 97, 110, 103, 101]⟩] 277 (0, 0))).push (.cells #[.string ⟨#[105, 110, 118, 97, 108, 105, 100, 32, 115, 121, 110, 116, 97, 120]⟩] 277 (0, 0))
noncomputable def Vo (os : Os) : World := { World.holding Tryz.prog os ⟨#[], #[], []⟩ with heap := N2 (World.holding Tryz.prog os ⟨#[], #[], []⟩).heap }
abbrev wA : Array Value := #[.agg #[.int .i8 0, .int .i8 0, .int .i8 0, .int .u8 0, .int .u8 0, .int .u8 0, .int .u8 0, .int .u8 0], .agg #[.int .i8 0, .int .i8 0, .int .i8 0, .int .u8 0, .int .u8 0, .int .u8 0, .int .u8 0, .int .u8 0]]
theorem nj (os : Os) : laidMet Tryz.prog Rows.surdSignsRow.laid ((Vo os).forCall (fun _ _ => 0) ⟨#[], wA, []⟩).memory :=
 laidMet_of_run' 8 (by kernel_rfl) (by kernel_rfl)
theorem reads (os : Os) {H : Type} (enc : TypeId × Value → H) : ∃ places, DataW.whole enc Tryz.prog ((Vo os).forCall (fun _ _ => 0) ⟨#[], wA, []⟩).memory Tryz.f5.params.toList Rows.surdSignsSpec.vars false wA.toList 8 = some ([.agg [.lit (.int .i8 0), .lit (.int .i8 0), .lit (.int .i8 0), .lit (.int .u8 0), .lit (.int .u8 0), .lit (.int .u8 0), .lit (.int .u8 0), .lit (.int .u8 0)], .agg [.lit (.int .i8 0), .lit (.int .i8 0), .lit (.int .i8 0), .lit (.int .u8 0), .lit (.int .u8 0), .lit (.int .u8 0), .lit (.int .u8 0), .lit (.int .u8 0)]], [], places) :=
 ⟨[], by kernel_rfl⟩
set_option maxRecDepth 100000 in
theorem lifted (os : Os) (started : os.Started) (H : Type) (enc : TypeId × Value → H) (F : Stop.Interp) :
  ReturnsInHanded {} Tryz.checked os 5 .any ((OpenSpec.ofChange Rows.surdSignsSpec).preRow enc Tryz.prog Tryz.f5 Rows.surdSignsRow.domain false Rows.surdSignsRow.laid) (((OpenSpec.ofChange Rows.surdSignsSpec).at F).post enc Tryz.prog Tryz.f5 false true false false) := by
 obtain ⟨places, hx⟩ := reads os enc
 refine returnsInHanded_of_row (C := Tryz.checked) (s := OpenSpec.ofChange Rows.surdSignsSpec) own started (by kernel_rfl) Tryz.func5
  (witness_row_at (enc := enc) (C := Tryz.checked) false (Vo os) wA rfl (by kernel_rfl) (by kernel_rfl) (by kernel_rfl)
   (OpenSpec.preRow_of_cond 8 hx (by kernel_rfl) (fun k hk => by cases hk) (by kernel_rfl) (nj os))) ?_
 intro W base args ds gs before hval hW _ _ _ hL _ _
 exact lW H enc W base args ds gs before hval hW hL
end Go.Proofs.YthbpnknhfokadaaGreatDoor.surdSigns

namespace Go.Proofs.YthbpnknhfokadaaGreatDoor.surdSigns
open Go Go.ChangeShapes Go.WideShapes Go.ChangeAt Go.RowKit
theorem GD : (Rows.surdSignsRow.inPlace == Tryz.pinned.checked.prog.inPlace 5) = true := by kernel_rfl
theorem G2 : (Rows.surdSignsRow.unfollowed == Tryz.pinned.checked.prog.unfollowed 5) = true := by kernel_rfl
theorem GE : (Rows.surdSignsRow.recurses == Tryz.pinned.checked.prog.recurses 5) = true := by kernel_rfl
theorem Gd : (Rows.surdSignsRow.named == Tryz.pinned.checked.prog.varsNamed 5) = true := by kernel_rfl
theorem closed : joinedFacts Tryz.pinned.checked.prog 5 Tryz.f5 (OpenSpec.ofChange Rows.surdSignsSpec).bare Rows.surdSignsRow = true := by
 unfold joinedFacts
 rw [GD, G2, GE, Gd]
 kernel_rfl
theorem wrap : Tryz.f5.isWrapper Tryz.pinned.checked.prog Rows.surdSignsRow.wrapper Rows.surdSignsRow.mainSum := by
 unfold Func.isWrapper; first | (rw [if_pos (by decide +kernel)]; kernel_rfl) | (rw [if_neg (by decide +kernel)]; exact ⟨rfl, rfl⟩)
theorem HU : Tryz.f5.isInstance Tryz.pinned.checked.prog Rows.surdSignsRow.origin Rows.surdSignsRow.targs := of_decide_eq_true (by kernel_rfl)
theorem named : Tryz.pinned.checked.prog.funcNamed Rows.surdSignsRow.func = some 5 := by kernel_rfl
theorem said : Rows.SurdSignsSaid :=
 OpenClaim.holds_of_cond 5 Tryz.f5 rfl rfl rfl rfl rfl rfl rfl ⟨rfl, rfl, rfl, rfl, rfl⟩ rfl rfl rfl rfl rfl named Tryz.func5 closed
  HU wrap
  (fun os started H enc _ F => by rw [OpenClaim.pre_eq_preRow]; exact lifted os started H enc F)
end Go.Proofs.YthbpnknhfokadaaGreatDoor.surdSigns
