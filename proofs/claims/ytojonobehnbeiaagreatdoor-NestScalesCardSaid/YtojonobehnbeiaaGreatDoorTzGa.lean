/- nest.First, as a plain function. -/
import Derived.Test.YtojonobehnbeiaaGreatDoorTzEa
namespace Go.Tz
open Go Go.Sx Go.Proofs
set_option maxRecDepth 100000
def addI (A : List Cut) (B : List Bar) (k : Int) (us : List Used) (n : Nat) : Nat → Option Nat
  | 0 => none
  | m + 1 => match addI A B k us n m with
    | some i => some i
    | none => bif (withU A B k (us.getD m u0) n).isSome then some m else none
def lessB (b c : Bar) : Bool := ltB (bif (b.l - c.l) != 0 then b.l - c.l else b.c - c.c) 0
def bestJ (A : List Cut) (B : List Bar) (k : Int) (us : List Used) (n : Nat) : Nat → Int × List Int
  | 0 => (-1, [])
  | j + 1 => match freshU A B k us n j with
    | some u => bif ltB (bestJ A B k us n j).1 0 || lessB (B.getD j b0) (B.getD (bestJ A B k us n j).1.toNat b0) then ((j : Int), u.at_) else bestJ A B k us n j
    | none => bestJ A B k us n j
def stepF (A : List Cut) (B : List Bar) (k : Int) (us : List Used) (n : Nat) : Option (List Used) :=
  match addI A B k us n us.length with
  | some i => (withU A B k (us.getD i u0) n).map fun u => us.set i u
  | none => bif ltB (bestJ A B k us n B.length).1 0 then none else some (us ++ [⟨(bestJ A B k us n B.length).1, [(n : Int)], (bestJ A B k us n B.length).2⟩])
def firstF (A : List Cut) (B : List Bar) (k : Int) : Nat → Option (List Used)
  | 0 => some []
  | n + 1 => match firstF A B k n with
    | some us => stepF A B k us n
    | none => none
theorem addI_some {A : List Cut} {B : List Bar} {k : Int} {us : List Used} {n : Nat} : ∀ {m i : Nat}, addI A B k us n m = some i → i < m ∧ ∃ u, withU A B k (us.getD i u0) n = some u
  | 0, i, h => by cases h
  | m + 1, i, h => by
    unfold addI at h
    split at h
    · rename_i j hj
      cases h
      obtain ⟨a, b⟩ := addI_some hj
      exact ⟨by omega, b⟩
    · cases hc : (withU A B k (us.getD m u0) n).isSome with
      | true =>
        rw [hc] at h
        cases h
        exact ⟨by omega, Option.isSome_iff_exists.1 hc⟩
      | false => rw [hc] at h; cases h
theorem addI_mono {A : List Cut} {B : List Bar} {k : Int} {us : List Used} {n i : Nat} : ∀ {m m' : Nat}, addI A B k us n m = some i → m ≤ m' → addI A B k us n m' = some i
  | m, 0, h, hm => by obtain rfl : m = 0 := by omega
                      exact h
  | m, m' + 1, h, hm => by
    by_cases e : m = m' + 1
    · rw [← e]; exact h
    · have := addI_mono (m' := m') h (by omega)
      unfold addI
      rw [this]
theorem bestJ_ok {A : List Cut} {B : List Bar} {k : Int} {us : List Used} {n : Nat} : ∀ {j : Nat}, ltB (bestJ A B k us n j).1 0 = false →
    ∃ i : Nat, i < j ∧ (bestJ A B k us n j).1 = (i : Int) ∧ freshU A B k us n i = some ⟨(i : Int), [(n : Int)], (bestJ A B k us n j).2⟩
  | 0, h => by
    have : ltB (-1) 0 = true := (ltB_iff _ _).2 (by decide)
    unfold bestJ at h
    rw [this] at h; cases h
  | j + 1, h => by
    have up : ltB (bestJ A B k us n j).1 0 = false → ∃ i : Nat, i < j + 1 ∧ (bestJ A B k us n j).1 = (i : Int) ∧ freshU A B k us n i = some ⟨(i : Int), [(n : Int)], (bestJ A B k us n j).2⟩ := fun h => by
      obtain ⟨i, h1, h2, h3⟩ := bestJ_ok h
      exact ⟨i, by omega, h2, h3⟩
    unfold bestJ at h ⊢
    cases hf : freshU A B k us n j with
    | none => rw [hf] at h; exact up h
    | some u =>
      rw [hf] at h
      simp only at h ⊢
      cases hc : ltB (bestJ A B k us n j).1 0 || lessB (B.getD j b0) (B.getD (bestJ A B k us n j).1.toNat b0) with
      | false => rw [hc] at h; exact up h
      | true =>
        rw [hc] at h
        refine ⟨j, by omega, rfl, ?_⟩
        obtain ⟨e1, e2⟩ := withU_bar (freshU_some hf).2
        rw [hf]
        cases u
        simp only at e1 e2
        subst e1 e2
        rfl
theorem stepF_fin {A : List Cut} {B : List Bar} {k : Int} {us us' us2 : List Used} {n : Nat} (hn : n < A.length) (h : stepF A B k us n = some us') (hf : Fin A B k (n + 1) us' us2) : Fin A B k n us us2 := by
  unfold stepF at h
  split at h
  · rename_i i hi
    obtain ⟨h1, u, h2⟩ := addI_some hi
    rw [h2] at h
    cases h
    exact .add hn h1 h2 hf
  · cases hc : ltB (bestJ A B k us n B.length).1 0 with
    | true => rw [hc] at h; cases h
    | false =>
      rw [hc] at h
      cases h
      obtain ⟨i, h1, h2, h3⟩ := bestJ_ok hc
      rw [h2] at hf
      exact .fresh hn h1 h3 hf
theorem firstF_fin {A : List Cut} {B : List Bar} {k : Int} : ∀ {n : Nat} {us us' : List Used}, n ≤ A.length → firstF A B k n = some us → Fin A B k n us us' → Fin A B k 0 [] us'
  | 0, us, us', _, h, hf => by cases h; exact hf
  | n + 1, us, us', hn, h, hf => by
    unfold firstF at h
    split at h
    · rename_i us1 h1
      exact firstF_fin (by omega) h1 (stepF_fin (by omega) h hf)
    · cases h
theorem first_fin {A : List Cut} {B : List Bar} {k : Int} {us : List Used} (h : firstF A B k A.length = some us) : Fin A B k 0 [] us := firstF_fin (Nat.le_refl _) h (.done us)
theorem stepF_in {A : List Cut} {B : List Bar} {k : Int} {us us' : List Used} {n : Nat} (h : stepF A B k us n = some us') (hi : InU B.length n us) : InU B.length (n + 1) us' ∧ us'.length ≤ us.length + 1 := by
  unfold stepF at h
  split at h
  · rename_i i hI
    obtain ⟨h1, u, h2⟩ := addI_some hI
    rw [h2] at h
    cases h
    exact ⟨hi.put h1 h2, by simp⟩
  · cases hc : ltB (bestJ A B k us n B.length).1 0 with
    | true => rw [hc] at h; cases h
    | false =>
      rw [hc] at h
      cases h
      obtain ⟨i, h1, h2, h3⟩ := bestJ_ok hc
      rw [h2]
      exact ⟨hi.new h1 h3, by simp⟩
end Go.Tz
