/- What is asked for a search. -/
import Derived.Test.YtojonobehnbeiaaGreatDoorTzEa
namespace Go.Tz
open Go Go.Sx Go.Proofs
set_option maxRecDepth 100000
theorem barsE_good {B : List Bar} (h : barsE B = 0) : GoodB B := fun b hb => by
  obtain ⟨i, hi, e⟩ := List.mem_iff_getElem.1 hb
  have := barsE_at h (u := ⟨(i : Int), [], []⟩) (by simp only; omega) (by simp only; omega)
  unfold barAt at this
  simp only [Int.toNat_natCast] at this
  rwa [List.getD_eq_getElem?_getD, List.getElem?_eq_getElem hi, Option.getD_some, e] at this
theorem firstE_zero {f : Bar → Int} : ∀ {l : List Bar}, (∀ b ∈ l, f b = 0) → firstE f l = 0
  | [], _ => rfl
  | b :: l, h => by
    unfold firstE
    rw [h b List.mem_cons_self]
    exact firstE_zero (l := l) fun x hx => h x (List.mem_cons_of_mem _ hx)
theorem good_barsE {B : List Bar} (h : GoodB B) (hl : B.length ≤ 64) : barsE B = 0 := by
  unfold barsE
  rw [show Nat.blt 64 B.length = false from Bool.eq_false_iff.2 fun e => by have := (blt_iff _ _).1 e; omega]
  exact firstE_zero h
theorem Fin.len {A : List Cut} {B : List Bar} {k : Int} {n : Nat} {us us' : List Used} (h : Fin A B k n us us') : us'.length + n ≤ us.length + A.length := by
  induction h with
  | done us => omega
  | add hn hi hw h ih => rw [List.length_set] at ih; omega
  | fresh hn hj hw h ih => rw [List.length_append, List.length_singleton] at ih; omega
structure Askd (ps : List Cut) (bs : List Bar) (k : Int) : Prop where
  c : cutsE ps = 0
  b : GoodB bs
  k0 : 0 ≤ k
  k1 : k ≤ 100
  n : (splitL ps).length ≤ 8
  m : bs.length ≤ 4
theorem Askd.start {ps : List Cut} {bs : List Bar} {k : Int} (h : Askd ps bs k) : startE ps bs k = 0 ∧ startL ps bs k = splitL ps := by
  have e : startE ps bs k = 0 := by
    unfold startE
    rw [h.c, good_barsE h.b (by have := h.m; omega)]
    rw [show (ltB k 0 || ltB 100 k) = false by
      rw [Bool.or_eq_false_iff]
      constructor
      · rw [Bool.eq_false_iff]; intro e; have := (ltB_iff _ _).1 e; have := h.k0; omega
      · rw [Bool.eq_false_iff]; intro e; have := (ltB_iff _ _).1 e; have := h.k1; omega,
      show Nat.blt 64 (splitL ps).length = false from Bool.eq_false_iff.2 fun e => by have := (blt_iff _ _).1 e; have := h.n; omega]
    rfl
  exact ⟨e, by unfold startL; rw [e]; rfl⟩
end Go.Tz
