/- Sums of roots: terms whose roots are integers, 0 among them; rational values. -/
import Derived.Test.YthbpnknhfokadaaGreatDoorArZ
set_option linter.unusedSimpArgs false
set_option linter.unusedVariables false
namespace Go.Ar
open Go Go.Lib
set_option maxRecDepth 100000
def nat0 (R : Nat) (t : Tm) : Prop := ∃ r : Nat, t.q = (r : Rat) ∧ r ≤ R
theorem ZG.nat0 {R : Nat} {t : Tm} (h : ZG R t) : nat0 R t := by obtain ⟨r, e, _, h1⟩ := h; exact ⟨r, e, h1⟩
theorem nat0.mono {R Q : Nat} {t : Tm} (h : nat0 R t) (hq : R ≤ Q) : nat0 Q t := by obtain ⟨r, e, h1⟩ := h; exact ⟨r, e, Nat.le_trans h1 hq⟩
theorem nat0.fQ {R : Nat} {t : Tm} (h : nat0 R t) (f : Nat → Rat) : fQ f t.q = f (mQ t.q) ∧ mQ t.q ≤ R ∧ t.q = ((mQ t.q : Nat) : Rat) := by
 obtain ⟨r, e, h1⟩ := h
 rw [e, we, WX]
 exact ⟨rfl, h1, rfl⟩
theorem nat0.in_ {R : Nat} {t : Tm} (h : nat0 R t) : 0 ≤ t.q ∧ (nrm (mQ t.q)).2 ≤ max R 1 := by
 obtain ⟨_, h1, e⟩ := h.fQ (fun _ => 0)
 refine ⟨by rw [e]; exact Rat.natCast_nonneg, ?_⟩
 rcases Nat.eq_zero_or_pos (mQ t.q) with h0 | h0
 ·rw [h0, show (nrm 0).2 = 1 from by decide +kernel]; omega
 ·have := (Uu h0).2.1
  omega
end Go.Ar
