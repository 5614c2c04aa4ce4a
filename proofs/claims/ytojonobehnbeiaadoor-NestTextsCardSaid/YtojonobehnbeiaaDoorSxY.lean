/- For proofs of verification conditions. -/
import Derived.Test.YtojonobehnbeiaaDoorSxV
namespace Go.Sx
open Go Go.RowKit

theorem vc_db {p : Prop} [DB p] {A : Prop} : bsplit (DB.db p) A False ↔ p ∧ A := by
  rw [bsplit_iff]
  constructor
  · rintro ⟨h1, h2⟩
    have : DB.db p = true := by cases h : DB.db p with
      | true => rfl
      | false => exact (h2 h).elim
    exact ⟨DB.iff.1 this, h1 this⟩
  · rintro ⟨hp, ha⟩
    exact ⟨fun _ => ha, fun h => by rw [DB.iff.2 hp] at h; cases h⟩
theorem vc_lt {a b : Int} {A B : Prop} : bsplit (ltB a b) A B ↔ (a < b → A) ∧ (b ≤ a → B) := by
  rw [bsplit_iff, ltB_eq, decide_eq_true_eq, decide_eq_false_iff_not, Int.not_lt]
theorem vc_le {a b : Int} {A B : Prop} : bsplit (leB a b) A B ↔ (a ≤ b → A) ∧ (b < a → B) := by
  rw [bsplit_iff, leB_eq, decide_eq_true_eq, decide_eq_false_iff_not, Int.not_le]
theorem vc_ne {a b : Int} {A B : Prop} : bsplit (a != b) A B ↔ (a ≠ b → A) ∧ (a = b → B) := by
  rw [bsplit_iff, bne_iff_ne, bne_eq_false_iff_eq]
theorem vc_eq {a b : Int} {A B : Prop} : bsplit (a == b) A B ↔ (a = b → A) ∧ (a ≠ b → B) := by
  rw [bsplit_iff, beq_iff_eq, beq_eq_false_iff_ne]
theorem vc_ref {a : Int} {A B : Prop} : bsplit (a != a) A B ↔ B := by simp [bsplit_iff]
theorem vc_grd' {x y : Bool} {A : Prop} : bsplit (!x || y) A False ↔ (x = true → y = true) ∧ A := by cases x <;> cases y <;> simp [bsplit]
theorem bif_or (a b : Bool) : (bif a then true else b) = (a || b) := by cases a <;> rfl
theorem bif_and (a b : Bool) : (bif a then b else false) = (a && b) := by cases a <;> rfl
theorem vc_gdb {x : Bool} {p : Prop} [DB p] {A : Prop} : bsplit (!x || DB.db p) A False ↔ (x = true → p) ∧ A := by
  rw [vc_grd', DB.iff]
/-- A guard that holds because it is its own. -/
theorem vc_own {x : Bool} {A : Prop} : bsplit (!x || x) A False ↔ A := by cases x <;> simp [bsplit]
theorem vc_own' {x y : Bool} {A : Prop} (h : y = x) : bsplit (!x || y) A False ↔ A := by subst h; exact vc_own
theorem bsel_true (x : Bool) : bsel true x = x := rfl
theorem bsel_false (x : Bool) : bsel false x = !x := rfl
/-- A guarded condition. -/
theorem vc_grd {x y : Bool} {A : Prop} : bsplit (!x || y) A False ↔ (x = true → y = true) ∧ A := by cases x <;> cases y <;> simp [bsplit]
theorem vc_b {x : Bool} {A : Prop} : bsplit x A False ↔ x = true ∧ A := by cases x <;> simp [bsplit]
theorem vEq_int {k k' : IntKind} {a b : Int} : (k = k' ∧ a = b) ↔ (k = k' ∧ a = b) := Iff.rfl
theorem xl_refl {f : Bool} {n m : Nat} {p : Nat → Nat → Prop} (h : ∀ i j, p i j) : (f = true → f = true) ∧ n = n ∧ m = m ∧ ∀ i j, i < m → j < n → p i j := ⟨fun h => h, rfl, rfl, fun i j _ _ => h i j⟩
end Go.Sx
