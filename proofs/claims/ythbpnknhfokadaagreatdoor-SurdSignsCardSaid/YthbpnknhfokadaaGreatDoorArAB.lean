/- Sums of roots: terms whose roots are integers, 0 among them; rational values. -/
import Derived.Test.YthbpnknhfokadaaGreatDoorArZ
set_option linter.unusedSimpArgs false
set_option linter.unusedVariables false
namespace Go.Ar
open Go Go.Lib
set_option maxRecDepth 100000
def nat0 (R : Nat) (t : Tm) : Prop := ∃ r : Nat, t.q = (r : Rat) ∧ r ≤ R
theorem Zw.nat0 {R : Nat} {t : Tm} (h : Zw R t) : nat0 R t := by obtain ⟨r, e, _, h1⟩ := h; exact ⟨r, e, h1⟩
theorem nat0.mono {R Q : Nat} {t : Tm} (h : nat0 R t) (hq : R ≤ Q) : nat0 Q t := by obtain ⟨r, e, h1⟩ := h; exact ⟨r, e, Nat.le_trans h1 hq⟩
theorem nat0.fQ {R : Nat} {t : Tm} (h : nat0 R t) (f : Nat → Rat) : fQ f t.q = f (mQ t.q) ∧ mQ t.q ≤ R ∧ t.q = ((mQ t.q : Nat) : Rat) := by
 obtain ⟨r, e, h1⟩ := h
 rw [e, XK, WU]
 exact ⟨rfl, h1, rfl⟩
theorem nat0.in_ {R : Nat} {t : Tm} (h : nat0 R t) : 0 ≤ t.q ∧ (nrm (mQ t.q)).2 ≤ max R 1 := by
 obtain ⟨_, h1, e⟩ := h.fQ (fun _ => 0)
 refine ⟨by rw [e]; exact Rat.natCast_nonneg, ?_⟩
 rcases Nat.eq_zero_or_pos (mQ t.q) with h0 | h0
 ·rw [h0, show (nrm 0).2 = 1 from by decide +kernel]; omega
 ·have := (qC h0).2.1
  omega
theorem Mt {R L D : Nat} : ∀ {V : List Tm}, (∀ t ∈ V, nat0 R t) → (∀ t ∈ V, ∃ z : Int, t.c * (L : Rat) = (z : Rat) ∧ z.natAbs ≤ D) → pg L (V.length * (D * R)) V
 | [], _, _ => fun r k _ => ⟨0, by rw [List.take_nil, yz, Rat.zero_mul]; rfl, Nat.zero_le _⟩
 | t :: V, h, g => fun r k hr => by
  match k with
  | 0 => exact ⟨0, by rw [List.take_zero, yz, Rat.zero_mul]; rfl, Nat.zero_le _⟩
  | k + 1 =>
   obtain ⟨z, h1, h2⟩ := Mt (fun x hx => h x (List.mem_cons_of_mem _ hx)) (fun x hx => g x (List.mem_cons_of_mem _ hx)) r k hr
   obtain ⟨y, g1, g2⟩ := g t List.mem_cons_self
   obtain ⟨f1, f2, _⟩ := (h t List.mem_cons_self).fQ (fR r)
   obtain ⟨m, m1, m2⟩ := jV (r := r) hr f2
   refine ⟨y * m + z, ?_, ?_⟩
   ·rw [List.take_succ_cons, Zk, f1, m1, Rat.intCast_add, ← h1, Rat.intCast_mul, ← g1, Rat.intCast_natCast]
    grind
   ·have a1 := Int.natAbs_add_le (y * m) z
    have a2 : (y * m).natAbs ≤ D * (R * r) := by rw [Int.natAbs_mul, Int.natAbs_natCast]; exact Nat.mul_le_mul g2 m2
    rw [List.length_cons, Nat.add_mul, Nat.add_mul]
    rw [← Nat.mul_assoc] at a2
    rw [Nat.one_mul]
    exact Nat.le_trans a1 (Nat.le_trans (Nat.add_le_add a2 h2) (Nat.le_of_eq (Nat.add_comm _ _)))
end Go.Ar
