/- All costs multiplied by a positive number: the same nests, which cost as much more. -/
import Derived.Test.YtojonobehnbeiaaGreatDoorTzGa
namespace Go.Tz
open Go Go.Sx Go.Proofs
set_option maxRecDepth 100000
def dearB (K : Int) (b : Bar) : Bar := { b with c := b.c * K }
def dearL (K : Int) (B : List Bar) : List Bar := B.map (dearB K)
theorem dearB_0 (K : Int) : dearB K b0 = b0 := by unfold dearB b0; simp
theorem dear_getD (K : Int) (B : List Bar) (j : Nat) : (dearL K B).getD j b0 = dearB K (B.getD j b0) := by
  unfold dearL
  rw [List.getD_eq_getElem?_getD, List.getD_eq_getElem?_getD, List.getElem?_map]
  cases B[j]? with
  | none => exact (dearB_0 K).symm
  | some b => rfl
theorem dear_len (K : Int) (B : List Bar) : (dearL K B).length = B.length := by simp [dearL]
theorem barE_dear {K : Int} {b : Bar} (h : barE b = 0) (h0 : 0 < K) (h1 : b.c * K ≤ 1073741824) : barE (dearB K b) = 0 := by
  have hc := (barE_gaps h).2.2.2.2.2.2.2.2
  have hk : 0 ≤ b.c * K := Int.mul_nonneg hc.1 (by omega)
  have e : between (dearB K b).c 0 1073741824 = between b.c 0 1073741824 := by
    have : between b.c 0 1073741824 = true := by unfold between; rw [Bool.and_eq_true, leB_iff, leB_iff]; omega
    rw [this]
    unfold between dearB
    rw [Bool.and_eq_true, leB_iff, leB_iff]
    exact ⟨hk, h1⟩
  unfold barE at h ⊢
  rw [e]
  exact h
theorem withU_dear {A : List Cut} {B : List Bar} {k K : Int} (h : GoodB B) (h' : GoodB (dearL K B)) (u : Used) (n : Nat) : withU A (dearL K B) k u n = withU A B k u n := by
  have eb : barAt (dearL K B) u = dearB K (barAt B u) := dear_getD K B u.bar.toNat
  unfold withU
  rw [eb]
  by_cases hu : u.bar.toNat < B.length
  · have g1 : barE (barAt B u) = 0 := h.at hu
    have g2 : barE (dearB K (barAt B u)) = 0 := by
      rw [← eb]
      exact h'.at (by rw [dear_len]; exact hu)
    obtain ⟨e1, e2⟩ := fits_like g1 g2 rfl rfl (lensL A (u.ps ++ [(n : Int)])) k
    rw [e1, e2]
    rfl
  · have e : barAt B u = b0 := by
      unfold barAt
      rw [List.getD_eq_getElem?_getD, List.getElem?_eq_none (by omega)]; rfl
    rw [e, dearB_0]
theorem freeB_dear (K : Int) (B : List Bar) (us : List Used) (j : Nat) : freeB (dearL K B) us j = freeB B us j := by
  unfold freeB
  rw [dear_getD]; rfl
section
variable {A : List Cut} {B : List Bar} {k K : Int} (h : GoodB B) (h' : GoodB (dearL K B))
include h h'
theorem freshU_dear (us : List Used) (n j : Nat) : freshU A (dearL K B) k us n j = freshU A B k us n j := by
  unfold freshU
  rw [freeB_dear, withU_dear h h']
theorem addI_dear (us : List Used) (n : Nat) : ∀ m, addI A (dearL K B) k us n m = addI A B k us n m
  | 0 => rfl
  | m + 1 => by
    unfold addI
    rw [addI_dear us n m, withU_dear h h']
end
theorem mul_neg_iff {a K : Int} (h : 0 < K) : a * K < 0 ↔ a < 0 := by
  constructor
  · intro hh
    refine Decidable.byContradiction fun hn => ?_
    have := Int.mul_nonneg (show 0 ≤ a by omega) (show 0 ≤ K by omega)
    omega
  · intro hh
    exact Int.mul_neg_of_neg_of_pos hh h
theorem mul_le_iff {a b K : Int} (h : 0 < K) : a * K ≤ b * K ↔ a ≤ b := by
  have e := mul_neg_iff (a := b - a) h
  rw [Int.sub_mul] at e
  omega
theorem lessB_dear {K : Int} (hK : 0 < K) (b c : Bar) : lessB (dearB K b) (dearB K c) = lessB b c := by
  unfold lessB
  have e1 : (dearB K b).l = b.l := rfl
  have e2 : (dearB K c).l = c.l := rfl
  have e3 : (dearB K b).c - (dearB K c).c = (b.c - c.c) * K := by rw [Int.sub_mul]; rfl
  rw [e1, e2, e3]
  cases b.l - c.l != 0 with
  | true => rfl
  | false =>
    simp only [cond_false]
    have := mul_neg_iff (a := b.c - c.c) hK
    cases h1 : ltB (b.c - c.c) 0 with
    | true => rw [ltB_iff] at h1 ⊢; exact this.2 h1
    | false =>
      rw [Bool.eq_false_iff, Ne, ltB_iff] at h1 ⊢
      exact fun h2 => h1 (this.1 h2)
section
variable {A : List Cut} {B : List Bar} {k K : Int} (h : GoodB B) (h' : GoodB (dearL K B)) (hK : 0 < K)
include h h' hK
theorem bestJ_dear (us : List Used) (n : Nat) : ∀ j, bestJ A (dearL K B) k us n j = bestJ A B k us n j
  | 0 => rfl
  | j + 1 => by
    unfold bestJ
    rw [bestJ_dear us n j, freshU_dear h h', dear_getD, dear_getD, lessB_dear hK]
theorem stepF_dear (us : List Used) (n : Nat) : stepF A (dearL K B) k us n = stepF A B k us n := by
  unfold stepF
  rw [addI_dear h h', dear_len, bestJ_dear h h' hK]
  split
  · rw [withU_dear h h']
  · rfl
theorem firstF_dear : ∀ n, firstF A (dearL K B) k n = firstF A B k n
  | 0 => rfl
  | n + 1 => by
    unfold firstF
    rw [firstF_dear n]
    split
    · exact stepF_dear h h' hK _ _
    · rfl
end
theorem costU_dear (K : Int) (B : List Bar) : ∀ us, costU (dearL K B) us = costU B us * K
  | [] => by simp [costU]
  | u :: us => by
    have ih := costU_dear K B us
    unfold costU at ih ⊢
    rw [List.map_cons, List.map_cons, List.sum_cons, List.sum_cons, ih, Int.add_mul]
    congr 1
    show ((dearL K B).getD u.bar.toNat b0).c = _
    rw [dear_getD]; rfl
structure Sc (K : Int) (f f' : Fd) : Prop where
  found : f'.found = f.found
  best : f'.best = f.best
  least : f'.least = f.least * K
theorem Sc.fold {K : Int} {g g' : Fd → Nat → Fd} (hg : ∀ i f f', Sc K f f' → Sc K (g f i) (g' f' i)) : ∀ (l : List Nat) (f f' : Fd), Sc K f f' → Sc K (l.foldl g f) (l.foldl g' f')
  | [], _, _, h => h
  | i :: l, f, f', h => Sc.fold hg l _ _ (hg i f f' h)
theorem Sc.stop {K : Int} (hK : 0 < K) {B : List Bar} {f f' : Fd} (h : Sc K f f') (us : List Used) : stopF (dearL K B) us f' = stopF B us f := by
  unfold stopF
  rw [h.found, h.least, costU_dear]
  congr 1
  have := mul_le_iff (a := f.least) (b := costU B us) hK
  cases h1 : leB f.least (costU B us) with
  | true => rw [leB_iff] at h1 ⊢; exact this.2 h1
  | false =>
    rw [Bool.eq_false_iff, Ne, leB_iff] at h1 ⊢
    exact fun h2 => h1 (this.1 h2)
theorem Sc.keep {K : Int} (hK : 0 < K) {B : List Bar} {f f' : Fd} (h : Sc K f f') (us : List Used) : Sc K (keepF B us f) (keepF (dearL K B) us f') := by
  unfold keepF
  rw [h.stop hK us]
  cases stopF B us f with
  | true => exact h
  | false => exact ⟨rfl, rfl, costU_dear K B us⟩
theorem fromF_dear {A : List Cut} {B : List Bar} {k K : Int} (h : GoodB B) (h' : GoodB (dearL K B)) (hK : 0 < K) : ∀ (fuel n : Nat) (us : List Used) (f f' : Fd), Sc K f f' → Sc K (fromF A B k fuel n us f) (fromF A (dearL K B) k fuel n us f')
  | 0, _, _, _, _, hs => hs
  | fuel + 1, n, us, f, f', hs => by
    unfold fromF
    rw [hs.stop hK us]
    cases stopF B us f with
    | true => exact hs
    | false =>
    simp only [cond_false]
    cases Nat.beq n A.length with
    | true => exact hs.keep hK us
    | false =>
    simp only [cond_false]
    rw [dear_len]
    refine Sc.fold (fun j f f' hs => ?_) _ _ _ (Sc.fold (fun i f f' hs => ?_) _ _ _ hs)
    · rw [freshU_dear h h']
      cases freshU A B k us n j with
      | none => exact hs
      | some u => exact fromF_dear h h' hK fuel (n + 1) (us ++ [u]) f f' hs
    · rw [withU_dear h h']
      cases withU A B k (us.getD i u0) n with
      | none => exact hs
      | some u => exact fromF_dear h h' hK fuel (n + 1) (us.set i u) f f' hs
theorem bestF_dear {A : List Cut} {B : List Bar} {k K : Int} (h : GoodB B) (h' : GoodB (dearL K B)) (hK : 0 < K) : Sc K (bestF A B k) (bestF A (dearL K B) k) :=
  fromF_dear h h' hK _ _ _ _ _ ⟨rfl, rfl, by simp⟩
end Go.Tz
