/- Sums of roots: terms whose roots are integers, 0 among them; rational values. -/
import Derived.Test.YthbpnknhfokadaaGreatDoorArZ
set_option linter.unusedSimpArgs false
set_option linter.unusedVariables false
namespace Go.Ar
open Go Go.Lib
set_option maxRecDepth 100000
def nat0 (R : Nat) (t : Tm) : Prop := ∃ r : Nat, t.q = (r : Rat) ∧ r ≤ R
theorem ZZ.nat0 {R : Nat} {t : Tm} (h : ZZ R t) : nat0 R t := by obtain ⟨r, e, _, h1⟩ := h; exact ⟨r, e, h1⟩
theorem nat0.mono {R Q : Nat} {t : Tm} (h : nat0 R t) (hq : R ≤ Q) : nat0 Q t := by obtain ⟨r, e, h1⟩ := h; exact ⟨r, e, Nat.le_trans h1 hq⟩
theorem nat0.fQ {R : Nat} {t : Tm} (h : nat0 R t) (f : Nat → Rat) : fQ f t.q = f (mQ t.q) ∧ mQ t.q ≤ R ∧ t.q = ((mQ t.q : Nat) : Rat) := by
 obtain ⟨r, e, h1⟩ := h
 rw [e, Yp, Y4]
 exact ⟨rfl, h1, rfl⟩
theorem nat0.in_ {R : Nat} {t : Tm} (h : nat0 R t) : 0 ≤ t.q ∧ (nrm (mQ t.q)).2 ≤ max R 1 := by
 obtain ⟨_, h1, e⟩ := h.fQ (fun _ => 0)
 refine ⟨by rw [e]; exact Rat.natCast_nonneg, ?_⟩
 rcases Nat.eq_zero_or_pos (mQ t.q) with h0 | h0
 ·rw [h0, show (nrm 0).2 = 1 from by decide +kernel]; omega
 ·have := (W8 h0).2.1
  omega
theorem qh {R L D : Nat} : ∀ {V : List Tm}, (∀ t ∈ V, nat0 R t) → (∀ t ∈ V, ∃ z : Int, t.c * (L : Rat) = (z : Rat) ∧ z.natAbs ≤ D) → pg L (V.length * (D * R)) V
 | [], _, _ => fun r k _ => ⟨0, by rw [List.take_nil, Z9, Rat.zero_mul]; rfl, Nat.zero_le _⟩
 | t :: V, h, g => fun r k hr => by
  match k with
  | 0 => exact ⟨0, by rw [List.take_zero, Z9, Rat.zero_mul]; rfl, Nat.zero_le _⟩
  | k + 1 =>
   obtain ⟨z, h1, h2⟩ := qh (fun x hx => h x (List.mem_cons_of_mem _ hx)) (fun x hx => g x (List.mem_cons_of_mem _ hx)) r k hr
   obtain ⟨y, g1, g2⟩ := g t List.mem_cons_self
   obtain ⟨f1, f2, _⟩ := (h t List.mem_cons_self).fQ (fR r)
   obtain ⟨m, m1, m2⟩ := Kf (r := r) hr f2
   refine ⟨y * m + z, ?_, ?_⟩
   ·rw [List.take_succ_cons, Zq, f1, m1, Rat.intCast_add, ← h1, Rat.intCast_mul, ← g1, Rat.intCast_natCast]
    grind
   ·have a1 := Int.natAbs_add_le (y * m) z
    have a2 : (y * m).natAbs ≤ D * (R * r) := by rw [Int.natAbs_mul, Int.natAbs_natCast]; exact Nat.mul_le_mul g2 m2
    rw [List.length_cons, Nat.add_mul, Nat.add_mul]
    rw [← Nat.mul_assoc] at a2
    rw [Nat.one_mul]
    exact Nat.le_trans a1 (Nat.le_trans (Nat.add_le_add a2 h2) (Nat.le_of_eq (Nat.add_comm _ _)))
theorem mf {R : Nat} (hR : R < 4294967296) {p : List Tm} {v : Rat} (h : gS R p) (he : ∀ f, tR f → ev f p = v * f 1) : p = if v = 0 then [] else [⟨v, 1⟩] := by
 have key : ∀ x ∈ p, mQ x.q = 1 := fun x hx => by
  have h1 := VS h.nat h.unr hx
  rw [he _ (Vh _)] at h1
  obtain ⟨_, hp, hb⟩ := (h.nat x hx).mQ
  by_cases hs : ∃ k, 1 * mQ x.q = k * k
  ·obtain ⟨k, hk⟩ := hs
   rw [Nat.one_mul] at hk
   have h2 := h.nrm x hx
   have hk0 : 0 < k := Nat.pos_of_ne_zero fun e => by rw [e] at hk; omega
   rw [hk, sB hk0 (by omega)] at h2
   have h3 : k = 1 := congrArg Prod.fst h2
   rw [hk, h3]
  ·rw [V6 fun k hk => hs ⟨k, hk⟩, Rat.mul_zero] at h1
   rcases Rat.mul_eq_zero.1 h1.symm with e | e
   ·exact absurd e (h.ne x hx)
   ·have := Rat.natCast_eq_zero_iff.1 e
    omega
 cases p with
 | nil =>
  have h1 := he (fR 1) (Vh 1)
  rw [Z9, WB (r := 1) (n := 1) (k := 1) rfl] at h1
  have : v = 0 := by
   have e : v * ((1 : Nat) : Rat) = v := by
    show v * 1 = v
    exact Rat.mul_one v
   rw [← e]; exact h1.symm
  rw [if_pos this]
 | cons x r =>
  have hx := key x List.mem_cons_self
  have hr : r = [] := by
   cases r with
   | nil => rfl
   | cons y r =>
    have hy := key y (List.mem_cons_of_mem _ List.mem_cons_self)
    have := (List.pairwise_cons.1 h.unr).1 y List.mem_cons_self 1
    rw [hx, hy] at this
    exact absurd rfl this
  subst hr
  have h1 := VS h.nat h.unr (x := x) List.mem_cons_self
  rw [he _ (Vh _), hx, WB (r := 1) (n := 1) (k := 1) rfl] at h1
  have h2 : v = x.c := by
   have e : ∀ q : Rat, q * ((1 : Nat) : Rat) = q := fun q => Rat.mul_one q
   rw [e, e] at h1
   exact h1
  have h3 := h.ne x List.mem_cons_self
  rw [if_neg (by rw [h2]; exact h3), h2]
  obtain ⟨e, _, _⟩ := (h.nat x List.mem_cons_self).mQ
  rw [hx] at e
  congr 1
  cases x
  simp only at e
  rw [e]; rfl
end Go.Ar
