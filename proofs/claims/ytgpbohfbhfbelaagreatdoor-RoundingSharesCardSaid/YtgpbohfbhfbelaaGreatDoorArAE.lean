/- Shares of a total by weights: the greatest remainders get one more. -/
set_option linter.unusedSimpArgs false
set_option linter.unusedVariables false
namespace Go.Ar
def TJ (r : Nat → Nat) (x : Nat) : List Nat → List Nat
 | [] => [x]
 | y :: l => if r y < r x then x :: y :: l else y :: TJ r x l
def yE (r : Nat → Nat) : Nat → List Nat
 | 0 => []
 | n + 1 => TJ r n (yE r n)
theorem uo (r : Nat → Nat) (x : Nat) : ∀ l : List Nat, (TJ r x l).Perm (x :: l)
 | [] => List.Perm.refl _
 | y :: l => by
  unfold TJ
  split
  ·exact List.Perm.refl _
  ·exact ((uo r x l).cons y).trans (List.Perm.swap x y l)
theorem Xt (r : Nat → Nat) : ∀ n, (yE r n).Perm (List.range n)
 | 0 => List.Perm.refl _
 | n + 1 => by
  rw [List.range_succ]
  exact (uo r n _).trans (((Xt r n).cons n).trans (List.perm_append_singleton n (List.range n)).symm)
def lU (r : Nat → Nat) (a b : Nat) : Prop := r b < r a ∨ r a = r b ∧ a < b
theorem qB {r : Nat → Nat} {x : Nat} : ∀ {l : List Nat}, l.Pairwise (lU r) → (∀ y ∈ l, y < x) → (TJ r x l).Pairwise (lU r)
 | [], _, _ => List.pairwise_singleton _ _
 | y :: l, h, hx => by
  obtain ⟨h1, h2⟩ := List.pairwise_cons.1 h
  unfold TJ
  split
  ·rename_i hr
   refine List.pairwise_cons.2 ⟨fun z hz => ?_, h⟩
   rcases List.mem_cons.1 hz with rfl | hz
   ·exact .inl hr
   ·have := h1 z hz
    unfold lU at *
    omega
  ·rename_i hr
   refine List.pairwise_cons.2 ⟨fun z hz => ?_, qB h2 fun z hz => hx z (List.mem_cons_of_mem _ hz)⟩
   rcases List.mem_cons.1 ((uo r x l).mem_iff.1 hz) with rfl | hz
   ·have := hx y List.mem_cons_self
    unfold lU
    omega
   ·exact h1 z hz
theorem VS {r : Nat → Nat} {n y : Nat} : y ∈ yE r n ↔ y < n := by rw [(Xt r n).mem_iff, List.mem_range]
theorem VQ (r : Nat → Nat) : ∀ n, (yE r n).Pairwise (lU r)
 | 0 => List.Pairwise.nil
 | n + 1 => qB (VQ r n) fun _ h => VS.1 h
theorem yB (r : Nat → Nat) (n : Nat) : (yE r n).length = n := by rw [(Xt r n).length_eq, List.length_range]
theorem oI {r : Nat → Nat} {x : Nat} : ∀ {l : List Nat} {j : Nat}, l.Pairwise (lU r) → j ≤ l.length → (∀ y ∈ l.drop j, r y < r x) → (∀ k, j = k + 1 → r x ≤ r (l.getD k 0)) → TJ r x l = l.take j ++ x :: l.drop j
 | [], j, _, hj, _, _ => by
  obtain rfl : j = 0 := by simpa using hj
  rfl
 | y :: l, 0, _, _, h, _ => by
  have := h y List.mem_cons_self
  unfold TJ
  rw [if_pos this]
  rfl
 | y :: l, j + 1, hp, hj, h, hk => by
  obtain ⟨h1, h2⟩ := List.pairwise_cons.1 hp
  have hy : r x ≤ r y := by
   match j, hk j rfl with
   | 0, g => exact g
   | k + 1, g =>
    have hm : l.getD k 0 ∈ l := by
     have hk : k < l.length := by simp only [List.length_cons] at hj; omega
     rw [List.getD_eq_getElem?_getD, List.getElem?_eq_getElem hk, Option.getD_some]
     exact List.getElem_mem hk
    have := h1 _ hm
    have g : r x ≤ r (l.getD k 0) := g
    unfold lU at this
    omega
  unfold TJ
  rw [if_neg (by omega), oI (j := j) h2 (by simpa using hj) (fun z hz => h z hz) fun k e => ?_]
  ·rfl
  ·subst e
   exact hk (k + 1) rfl
def xX (T S : Nat) (w : List Nat) (i : Nat) : Nat := T * w.getD i 0 % S
def ww (T S : Nat) (w : List Nat) (i : Nat) : Nat := T * w.getD i 0 / S
def w9 (T S : Nat) (w : List Nat) : Nat := T - ((List.range w.length).map (ww T S w)).sum
def more (T S : Nat) (w : List Nat) : List Nat := (yE (xX T S w) w.length).take (w9 T S w)
def Yv (T : Nat) (w : List Nat) : List Nat := (List.range w.length).map fun i => ww T w.sum w i + if i ∈ more T w.sum w then 1 else 0
theorem Wa (f g : Nat → Nat) : ∀ l : List Nat, (l.map fun i => f i + g i).sum = (l.map f).sum + (l.map g).sum
 | [] => rfl
 | x :: l => by
  simp only [List.map_cons, List.sum_cons]
  rw [Wa f g l]
  omega
theorem WL (c : Nat) (f : Nat → Nat) : ∀ l : List Nat, (l.map fun i => c * f i).sum = c * (l.map f).sum
 | [] => rfl
 | x :: l => by
  simp only [List.map_cons, List.sum_cons]
  rw [WL c f l, Nat.mul_add]
theorem tI : ∀ w : List Nat, ((List.range w.length).map fun i => w.getD i 0).sum = w.sum
 | [] => rfl
 | x :: w => by
  rw [List.length_cons, List.range_succ_eq_map, List.map_cons, List.sum_cons, List.map_map, List.sum_cons, ← tI w]
  rfl
theorem Kp {T : Nat} {w : List Nat} : w.sum * ((List.range w.length).map (ww T w.sum w)).sum + ((List.range w.length).map (xX T w.sum w)).sum = T * w.sum := by
 rw [← WL, ← Wa]
 have : ∀ i, w.sum * ww T w.sum w i + xX T w.sum w i = T * w.getD i 0 := fun i => Nat.div_add_mod _ _
 simp only [this]
 rw [WL, tI]
theorem tA {T : Nat} {w : List Nat} (hS : 0 < w.sum) : ((List.range w.length).map (xX T w.sum w)).sum = w.sum * w9 T w.sum w ∧ ((List.range w.length).map (ww T w.sum w)).sum + w9 T w.sum w = T := by
 have h := Kp (T := T) (w := w)
 unfold w9
 generalize ((List.range w.length).map (ww T w.sum w)).sum = q at *
 generalize ((List.range w.length).map (xX T w.sum w)).sum = r at *
 have hq : q ≤ T := by
  refine Nat.le_of_mul_le_mul_left (c := w.sum) ?_ hS
  rw [Nat.mul_comm w.sum T]
  omega
 refine ⟨?_, by omega⟩
 rw [Nat.mul_sub, Nat.mul_comm w.sum T]
 omega
theorem vF {B : Nat} {f : Nat → Nat} : ∀ {l : List Nat}, (∀ i ∈ l, f i ≤ B) → (l.map f).sum ≤ l.length * B
 | [], _ => by simp
 | x :: l, h => by
  have := vF (B := B) (f := f) (l := l) fun i hi => h i (List.mem_cons_of_mem _ hi)
  have := h x List.mem_cons_self
  rw [List.map_cons, List.sum_cons, List.length_cons, Nat.succ_mul]
  omega
theorem MK {l m : List Nat} (h : l.Perm m) : l.sum = m.sum := by
 induction h with
 | nil => rfl
 | cons _ _ ih => rw [List.sum_cons, List.sum_cons, ih]
 | swap _ _ _ => simp only [List.sum_cons]; omega
 | trans _ _ a b => rw [a, b]
theorem Vw {T : Nat} {w : List Nat} (hS : 0 < w.sum) : w9 T w.sum w ≤ w.length ∧ ∀ i ∈ more T w.sum w, 0 < xX T w.sum w i := by
 have hlt : ∀ i, xX T w.sum w i < w.sum := fun i => Nat.mod_lt _ hS
 obtain ⟨h1, _⟩ := tA (T := T) hS
 have hN : w9 T w.sum w ≤ w.length := by
  have := vF (B := w.sum) (f := xX T w.sum w) (l := List.range w.length) fun i _ => Nat.le_of_lt (hlt i)
  rw [h1, List.length_range, Nat.mul_comm] at this
  exact Nat.le_of_mul_le_mul_right this hS
 refine ⟨hN, fun i hi => Nat.pos_of_ne_zero fun h0 => ?_⟩
 -- all behind i have nothing left, so what is left in all is less than left * sum
 have hb := VQ (xX T w.sum w) w.length
 have hs : ((yE (xX T w.sum w) w.length).map (xX T w.sum w)).sum = w.sum * w9 T w.sum w := by
  rw [← h1]
  exact MK ((Xt _ _).map _)
 have hl := yB (xX T w.sum w) w.length
 unfold more at hi
 generalize w9 T w.sum w = L at *
 generalize yE (xX T w.sum w) w.length = O at *
 rw [← List.take_append_drop L O, List.map_append, List.sum_append] at hs
 rw [← List.take_append_drop L O] at hb
 obtain ⟨p1, p2, p3⟩ := List.pairwise_append.1 hb
 have z : ((O.drop L).map (xX T w.sum w)).sum ≤ (O.drop L).length * 0 := vF fun y hy => by
  have := p3 i hi y hy
  unfold lU at this
  omega
 obtain ⟨a, b, e⟩ := List.append_of_mem hi
 have ll : (O.take L).length = L := by rw [List.length_take]; omega
 rw [e, List.length_append, List.length_cons] at ll
 rw [e, List.map_append, List.map_cons, List.sum_append, List.sum_cons, h0] at hs
 have a1 := vF (B := w.sum) (f := xX T w.sum w) (l := a) fun i _ => Nat.le_of_lt (hlt i)
 have a2 := vF (B := w.sum) (f := xX T w.sum w) (l := b) fun i _ => Nat.le_of_lt (hlt i)
 have a3 : w.sum * L = a.length * w.sum + b.length * w.sum + w.sum := by
  rw [← ll]
  have : w.sum * (a.length + (b.length + 1)) = a.length * w.sum + b.length * w.sum + w.sum := by grind
  exact this
 omega
theorem px (T : Nat) (w : List Nat) : (Yv T w).length = w.length := by unfold Yv; rw [List.length_map, List.length_range]
theorem V2 {T : Nat} {w : List Nat} {i : Nat} (hi : i < w.length) : (Yv T w).getD i 0 = ww T w.sum w i + if i ∈ more T w.sum w then 1 else 0 := by
 unfold Yv
 rw [List.getD_eq_getElem?_getD, List.getElem?_map, List.getElem?_range hi]
 rfl
theorem Rq {m : List Nat} : ∀ {l : List Nat}, l.Nodup → (∀ x ∈ m, x ∈ l) → m.Nodup → (l.map fun i => if i ∈ m then 1 else 0).sum = m.length
 | [], _, h, _ => by
  cases m with
  | nil => rfl
  | cons x m => exact absurd (h x List.mem_cons_self) (by simp)
 | y :: l, hl, h, hm => by
  obtain ⟨h1, h2⟩ := List.nodup_cons.1 hl
  rw [List.map_cons, List.sum_cons]
  by_cases hy : y ∈ m
  ·have ih := Rq (m := m.erase y) h2 (fun x hx => by
    have hx' := List.mem_of_mem_erase hx
    rcases List.mem_cons.1 (h x hx') with rfl | hx2
    ·exact absurd hx (hm.not_mem_erase)
    ·exact hx2) (hm.erase y)
   have e : (l.map fun i => if i ∈ m then 1 else 0) = l.map fun i => if i ∈ m.erase y then 1 else 0 := by
    refine List.map_congr_left fun i hi => ?_
    have : i ≠ y := fun e => h1 (e ▸ hi)
    simp only [List.mem_erase_of_ne this]
   rw [if_pos hy, e, ih, List.length_erase_of_mem hy]
   have := List.length_pos_of_mem hy
   omega
  ·rw [if_neg hy, Rq (m := m) h2 (fun x hx => (List.mem_cons.1 (h x hx)).resolve_left fun e => hy (e ▸ hx)) hm, Nat.zero_add]
theorem nU {T : Nat} {w : List Nat} (hS : 0 < w.sum) : (Yv T w).sum = T := by
 obtain ⟨h1, h2⟩ := tA (T := T) hS
 obtain ⟨h3, _⟩ := Vw (T := T) hS
 unfold Yv
 rw [Wa]
 have hO : (yE (xX T w.sum w) w.length).Nodup := (Xt _ _).nodup_iff.2 List.nodup_range
 rw [Rq (m := more T w.sum w) List.nodup_range (fun x hx => by rw [List.mem_range]; exact VS.1 (List.mem_of_mem_take hx)) (hO.sublist (List.take_sublist _ _))]
 unfold more
 rw [List.length_take, yB]
 omega
theorem Pq {T : Nat} {w : List Nat} (hS : 0 < w.sum) {i : Nat} (hi : i < w.length) : (Yv T w).getD i 0 * w.sum < T * w.getD i 0 + w.sum ∧ T * w.getD i 0 < (Yv T w).getD i 0 * w.sum + w.sum := by
 rw [V2 hi]
 have e : w.sum * ww T w.sum w i + xX T w.sum w i = T * w.getD i 0 := Nat.div_add_mod _ _
 have hlt : xX T w.sum w i < w.sum := Nat.mod_lt _ hS
 rw [← e, Nat.add_mul, Nat.mul_comm w.sum (ww T w.sum w i)]
 split
 ·rename_i hm
  have := (Vw hS).2 i hm
  omega
 ·omega
theorem LK {T : Nat} {w : List Nat} {i k : Nat} (hi : i < w.length) (h : lU (xX T w.sum w) i k) (hk : k ∈ more T w.sum w) : i ∈ more T w.sum w := by
 unfold more at *
 have hb := VQ (xX T w.sum w) w.length
 have hm : i ∈ yE (xX T w.sum w) w.length := VS.2 hi
 generalize w9 T w.sum w = L at *
 generalize yE (xX T w.sum w) w.length = O at *
 rw [← List.take_append_drop L O] at hb hm
 obtain ⟨_, _, p3⟩ := List.pairwise_append.1 hb
 rcases List.mem_append.1 hm with hm | hm
 ·exact hm
 ·have := p3 k hk i hm
  unfold lU at *
  omega
theorem pz {T : Nat} {w : List Nat} (hS : 0 < w.sum) {i k : Nat} (hi : i < w.length) (hk : k < w.length) (h : w.getD k 0 < w.getD i 0 ∨ w.getD i 0 = w.getD k 0 ∧ i < k) : (Yv T w).getD k 0 ≤ (Yv T w).getD i 0 := by
 rw [V2 hi, V2 hk]
 have le : w.getD k 0 ≤ w.getD i 0 := by omega
 have hq : ww T w.sum w k ≤ ww T w.sum w i := Nat.div_le_div_right (Nat.mul_le_mul_left _ le)
 by_cases hl : ww T w.sum w k < ww T w.sum w i
 ·split <;> split <;> omega
 ·have hqe : ww T w.sum w k = ww T w.sum w i := by omega
  by_cases hm : k ∈ more T w.sum w
  ·have e1 : w.sum * ww T w.sum w i + xX T w.sum w i = T * w.getD i 0 := Nat.div_add_mod _ _
   have e2 : w.sum * ww T w.sum w k + xX T w.sum w k = T * w.getD k 0 := Nat.div_add_mod _ _
   have hp := (Vw hS).2 k hm
   have hb : lU (xX T w.sum w) i k := by
    rw [hqe] at e2
    rcases h with h | ⟨h, hlt⟩
    ·have hT : 0 < T := Nat.pos_of_ne_zero fun e => by
      rw [show T * w.getD k 0 = 0 by rw [e, Nat.zero_mul]] at e2
      omega
     have := Nat.mul_lt_mul_of_pos_left h hT
     exact .inl (by omega)
    ·rw [h] at e1
     exact .inr ⟨by omega, hlt⟩
   rw [if_pos hm, if_pos (LK hi hb hm)]
   omega
  ·rw [if_neg hm]
   omega
end Go.Ar
