/- The least section. -/
import Derived.Test.YtdkpceodckdcfaaGreatDoorArA
set_option linter.unusedSimpArgs false
set_option linter.unusedVariables false
namespace Go.Ar
open Go Go.Sx
theorem x5 {a b : Sz} : x9 a b < 0 ↔ a.w * a.d < b.w * b.d ∨ a.w * a.d = b.w * b.d ∧ a.w < b.w := by
 unfold x9
 grind
def Vh (m : Sz) : List Sz → Sz
 | [] => m
 | x :: r => Vh (bif zn (x9 x m) 0 then x else m) r
def minS : List Sz → Sz
 | [] => s0
 | x :: r => Vh x r
theorem RN : ∀ (r : List Sz) (m : Sz), Vh m r ∈ m :: r
 | [], _ => List.mem_cons_self
 | x :: r, m => by
  have := RN r (bif zn (x9 x m) 0 then x else m)
  unfold Vh
  grind
theorem PT : ∀ (r : List Sz) (m : Sz), ∀ y ∈ m :: r, ¬ x9 y (Vh m r) < 0
 | [], m, y, hy => by
  obtain rfl := List.mem_singleton.1 hy
  unfold Vh
  rw [x5]; omega
 | x :: r, m, y, hy => by
  unfold Vh
  have ih := PT r (bif zn (x9 x m) 0 then x else m)
  have h0 := ih _ List.mem_cons_self
  have hxm : ¬ x9 x (Vh (bif zn (x9 x m) 0 then x else m) r) < 0 ∧ ¬ x9 m (Vh (bif zn (x9 x m) 0 then x else m) r) < 0 := by
   generalize Vh (bif zn (x9 x m) 0 then x else m) r = z at h0
   cases h : zn (x9 x m) 0 with
   | true =>
    rw [h] at h0
    rw [zq] at h
    simp only [cond_true] at h0
    rw [x5] at h h0 ⊢
    rw [x5]
    omega
   | false =>
    rw [h] at h0
    rw [Bool.eq_false_iff, Ne, zq] at h
    simp only [cond_false] at h0
    rw [x5] at h h0 ⊢
    rw [x5]
    omega
  grind
theorem WP {l : List Sz} (h : l ≠ []) : minS l ∈ l := by
 match l, h with
 | x :: r, _ => exact RN r x
theorem K6 {l : List Sz} {y : Sz} (h : y ∈ l) : ¬ x9 y (minS l) < 0 := by
 match l, h with
 | x :: r, h => exact PT r x y h
theorem Ob {a b : Sz} (ha : 1 ≤ a.w ∧ a.k = 0) (hb : b.k = 0) (h1 : ¬ x9 a b < 0) (h2 : ¬ x9 b a < 0) : a = b := by
 rw [x5] at h1 h2
 have e1 : a.w = b.w := by omega
 have e2 : a.w * a.d = b.w * b.d := by omega
 rw [← e1] at e2
 have e3 : a.d = b.d := Int.eq_of_mul_eq_mul_left (by omega) e2
 cases a; cases b
 simp_all
theorem ny {l : List Sz} {p : List Nat} (hl : l ≠ []) (hk : ∀ x ∈ l, 1 ≤ x.w ∧ x.k = 0) (hp : p.Perm (List.range l.length)) (hs : p.Pairwise fun i j => ¬ x9 (l.getD j s0) (l.getD i s0) < 0) :
  l.getD (p.getD 0 0) s0 = minS l := by
 have hlen : p.length = l.length := by rw [hp.length_eq, List.length_range]
 have hpos : 0 < l.length := List.length_pos_iff.2 hl
 have hin : ∀ n, n < p.length → p.getD n 0 < l.length := fun n hn => by
  have : p.getD n 0 ∈ p := by
   simp_all
  grind
 have get : ∀ i, i < l.length → l.getD i s0 ∈ l := fun i hi => by
  simp_all
 have hm := get _ (hin 0 (by omega))
 refine Ob (hk _ hm) (hk _ (WP hl)).2 (K6 hm) ?_
 obtain ⟨i, hi, he⟩ := List.getElem_of_mem (WP hl)
 have hip : i ∈ p := hp.mem_iff.2 (List.mem_range.2 hi)
 obtain ⟨n, hn, hni⟩ := List.getElem_of_mem hip
 have hi2 : minS l = l.getD i s0 := by rw [List.getD_eq_getElem?_getD, List.getElem?_eq_getElem hi, ← he]; rfl
 rw [hi2]
 by_cases h0 : n = 0
 ·subst h0
  have : p.getD 0 0 = i := by rw [List.getD_eq_getElem?_getD, List.getElem?_eq_getElem hn, ← hni]; rfl
  rw [this, x5]
  omega
 ·have h1 := List.pairwise_iff_getElem.1 hs 0 n (by omega) hn (by omega)
  simp_all
def um (f : Row → Bool) (l : List Row) : List Sz := (l.filter f).map fun x => ⟨0, x.w, x.d⟩
theorem RH {f : Row → Bool} {l : List Row} {x : Row} : um f (l ++ [x]) = um f l ++ bif f x then [⟨0, x.w, x.d⟩] else [] := by
 unfold um
 grind
theorem P5 {f : Row → Bool} {l : List Row} : (um f l).length ≤ l.length := by
 unfold um
 grind
theorem Pn {f : Row → Bool} {l : List Row} {y : Sz} : y ∈ um f l ↔ ∃ x ∈ l, f x = true ∧ (⟨0, x.w, x.d⟩ : Sz) = y := by
 unfold um
 grind
end Go.Ar
