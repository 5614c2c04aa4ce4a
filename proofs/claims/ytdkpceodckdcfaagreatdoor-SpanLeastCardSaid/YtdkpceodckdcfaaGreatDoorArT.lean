/- The least section. -/
import Derived.Test.YtdkpceodckdcfaaGreatDoorArS
set_option linter.unusedSimpArgs false
set_option linter.unusedVariables false
namespace Go.Ar
open Go Go.Sx
theorem ordS_lt {a b : Sz} : ordS a b < 0 ↔ a.w * a.d < b.w * b.d ∨ a.w * a.d = b.w * b.d ∧ a.w < b.w := by
  unfold ordS
  generalize a.w * a.d = x
  generalize b.w * b.d = y
  cases h : x - y != 0 with
  | true => rw [bne_iff_ne] at h; simp only [cond_true]; omega
  | false => rw [bne_eq_false_iff_eq] at h; simp only [cond_false]; omega
def minF (m : Sz) : List Sz → Sz
  | [] => m
  | x :: r => minF (bif ltB (ordS x m) 0 then x else m) r
def minS : List Sz → Sz
  | [] => s0
  | x :: r => minF x r
theorem minF_mem : ∀ (r : List Sz) (m : Sz), minF m r ∈ m :: r
  | [], _ => List.mem_cons_self
  | x :: r, m => by
    have := minF_mem r (bif ltB (ordS x m) 0 then x else m)
    unfold minF
    rcases List.mem_cons.1 this with h | h
    · rw [h]
      cases ltB (ordS x m) 0 with
      | true => exact List.mem_cons_of_mem _ List.mem_cons_self
      | false => exact List.mem_cons_self
    · exact List.mem_cons_of_mem _ (List.mem_cons_of_mem _ h)
theorem minF_le : ∀ (r : List Sz) (m : Sz), ∀ y ∈ m :: r, ¬ ordS y (minF m r) < 0
  | [], m, y, hy => by
    obtain rfl := List.mem_singleton.1 hy
    unfold minF
    rw [ordS_lt]; omega
  | x :: r, m, y, hy => by
    unfold minF
    have ih := minF_le r (bif ltB (ordS x m) 0 then x else m)
    have h0 := ih _ List.mem_cons_self
    have hxm : ¬ ordS x (minF (bif ltB (ordS x m) 0 then x else m) r) < 0 ∧ ¬ ordS m (minF (bif ltB (ordS x m) 0 then x else m) r) < 0 := by
      generalize minF (bif ltB (ordS x m) 0 then x else m) r = z at h0
      cases h : ltB (ordS x m) 0 with
      | true =>
        rw [h] at h0
        rw [ltB_iff] at h
        simp only [cond_true] at h0
        rw [ordS_lt] at h h0 ⊢
        rw [ordS_lt]
        generalize x.w * x.d = a at *
        generalize m.w * m.d = b at *
        generalize z.w * z.d = c at *
        omega
      | false =>
        rw [h] at h0
        rw [Bool.eq_false_iff, Ne, ltB_iff] at h
        simp only [cond_false] at h0
        rw [ordS_lt] at h h0 ⊢
        rw [ordS_lt]
        generalize x.w * x.d = a at *
        generalize m.w * m.d = b at *
        generalize z.w * z.d = c at *
        omega
    rcases List.mem_cons.1 hy with rfl | hy
    · exact hxm.2
    rcases List.mem_cons.1 hy with rfl | hy
    · exact hxm.1
    · exact ih _ (List.mem_cons_of_mem _ hy)
theorem minS_mem {l : List Sz} (h : l ≠ []) : minS l ∈ l := by
  match l, h with
  | x :: r, _ => exact minF_mem r x
theorem minS_le {l : List Sz} {y : Sz} (h : y ∈ l) : ¬ ordS y (minS l) < 0 := by
  match l, h with
  | x :: r, h => exact minF_le r x y h
theorem ordS_anti {a b : Sz} (ha : 1 ≤ a.w ∧ a.k = 0) (hb : b.k = 0) (h1 : ¬ ordS a b < 0) (h2 : ¬ ordS b a < 0) : a = b := by
  rw [ordS_lt] at h1 h2
  have e1 : a.w = b.w := by omega
  have e2 : a.w * a.d = b.w * b.d := by omega
  rw [← e1] at e2
  have e3 : a.d = b.d := Int.eq_of_mul_eq_mul_left (by omega) e2
  cases a; cases b
  simp only at *
  simp [e1, e3, ha.2, hb]
theorem minS_only {l : List Sz} {p : List Nat} (hl : l ≠ []) (hk : ∀ x ∈ l, 1 ≤ x.w ∧ x.k = 0) (hp : p.Perm (List.range l.length)) (hs : p.Pairwise fun i j => ¬ ordS (l.getD j s0) (l.getD i s0) < 0) :
    l.getD (p.getD 0 0) s0 = minS l := by
  have hlen : p.length = l.length := by rw [hp.length_eq, List.length_range]
  have hpos : 0 < l.length := List.length_pos_iff.2 hl
  have hin : ∀ n, n < p.length → p.getD n 0 < l.length := fun n hn => by
    have : p.getD n 0 ∈ p := by
      rw [List.getD_eq_getElem?_getD, List.getElem?_eq_getElem hn]
      exact List.getElem_mem hn
    exact List.mem_range.1 (hp.mem_iff.1 this)
  have get : ∀ i, i < l.length → l.getD i s0 ∈ l := fun i hi => by
    rw [List.getD_eq_getElem?_getD, List.getElem?_eq_getElem hi]
    exact List.getElem_mem hi
  have hm := get _ (hin 0 (by omega))
  refine ordS_anti (hk _ hm) (hk _ (minS_mem hl)).2 (minS_le hm) ?_
  obtain ⟨i, hi, he⟩ := List.getElem_of_mem (minS_mem hl)
  have hip : i ∈ p := hp.mem_iff.2 (List.mem_range.2 hi)
  obtain ⟨n, hn, hni⟩ := List.getElem_of_mem hip
  have hi2 : minS l = l.getD i s0 := by rw [List.getD_eq_getElem?_getD, List.getElem?_eq_getElem hi, ← he]; rfl
  rw [hi2]
  by_cases h0 : n = 0
  · subst h0
    have : p.getD 0 0 = i := by rw [List.getD_eq_getElem?_getD, List.getElem?_eq_getElem hn, ← hni]; rfl
    rw [this, ordS_lt]
    omega
  · have h1 := List.pairwise_iff_getElem.1 hs 0 n (by omega) hn (by omega)
    have e0 : p[0] = p.getD 0 0 := by rw [List.getD_eq_getElem?_getD, List.getElem?_eq_getElem (by omega)]; rfl
    rw [hni, e0] at h1
    exact h1
def szs (f : Row → Bool) (l : List Row) : List Sz := (l.filter f).map fun x => ⟨0, x.w, x.d⟩
theorem szs_snoc {f : Row → Bool} {l : List Row} {x : Row} : szs f (l ++ [x]) = szs f l ++ bif f x then [⟨0, x.w, x.d⟩] else [] := by
  unfold szs
  rw [List.filter_append, List.map_append]
  cases h : f x <;> simp [h]
theorem szs_len {f : Row → Bool} {l : List Row} : (szs f l).length ≤ l.length := by
  unfold szs
  rw [List.length_map]
  exact List.length_filter_le _ _
theorem szs_mem {f : Row → Bool} {l : List Row} {y : Sz} : y ∈ szs f l ↔ ∃ x ∈ l, f x = true ∧ (⟨0, x.w, x.d⟩ : Sz) = y := by
  unfold szs
  rw [List.mem_map]
  constructor
  · rintro ⟨x, hx, e⟩
    rw [List.mem_filter] at hx
    exact ⟨x, hx.1, hx.2, e⟩
  · rintro ⟨x, hx, hf, e⟩
    exact ⟨x, List.mem_filter.2 ⟨hx, hf⟩, e⟩
end Go.Ar
