/- slices.SortFunc over own slices of structures, by a comparing function without captures. -/
import Derived.Test.YtgpbohfbhfbelaaGreatDoorSxSn
import Derived.Shelf.SlSortCmp.NoneTotal
set_option linter.unusedSimpArgs false
set_option linter.unusedVariables false
namespace Go.Sx
open Go Go.Proofs Go.RowKit Go.Shelf
structure GR (P : Program) (k F : Nat) (ok : (Nat → AV) → Bool) (ci : (Nat → AV) → (Nat → AV) → Int) : Prop where
 pos : 0 < k
 ent : Enters P F
 call : ∀ r s, ok r = true → ok s = true → zT P [] F [.agg k r, .agg k s] (.i (ci r s))
 swo : ∀ (els : Nat → Nat → AV) (f : Nat → Nat), Go.Sort.SWO (ltOf fun x y => ci (els (f x)) (els (f y)))
section
variable {P : Program} {E : Env} {nb : Nat} {bl : Nat → OB} {S : Nat → Prop} {ρ : Nat → Go.Sx.Own} {w : World} {k F : Nat} {ok : (Nat → AV) → Bool} {ci : (Nat → AV) → (Nat → AV) → Int}
def encR (k : Nat) (c : Array Value) (len i : Nat) : List Value := (List.range k).map fun j => c.getD ((if i < len then i else 0) * k + j) undef
theorem qg (k : Nat) (c : Array Value) (len i : Nat) : (encR k c len i).length = k := by simp [encR]
theorem Tq {enc : Nat → List Value} {w : World} {g n : Nat} {dk : Array Nat} {os : Array Obj} {b : Nat} (hb : b < w.heap.size) (hg : b ≠ g) :
  (sortWorldK enc k w g 0 n dk os).heap[b]? = w.heap[b]? := by
 unfold sortWorldK Go.Sort.grow Go.Sort.putRowK Go.Sort.putRow Go.Sort.mapBlock Go.Sort.ahead
 simp only
 rw [Array.getElem?_append_left (by simpa using hb), Array.getElem?_modify, if_neg (Ne.symm hg)]
theorem GR.calls (hC : GR P k F ok ci) {b g cap len : Nat} {t : TypeId} {els : Nat → Nat → AV} {c : Array Value} (hM : Mem E nb bl S ρ w) (hk : ρ b = .arr g 0 cap k len) (hpos : 0 < len)
  (hel : ∀ i j, i < len → j < k → zF w S yi (els i j) (c.getD (i * k + j) undef) ∧ (c.getD (i * k + j) undef).oneCell' = true)
  (hok : ∀ i, i < len → ok (els i) = true) :
  CmpLays P F #[] (encR k c len) k (fun x y => ci (els (if x < len then x else 0)) (els (if y < len then y else 0))) g 0 len w := by
 intro m os dk hs x y
 have hgn : ¬ S g := (hM.own b g (by rw [hk]; rfl)).1
 have hlt : ∀ q, (if q < len then q else 0) < len := fun q => by split <;> omega
 have hin : ∀ q, S q → S q ∧ (sortWorldK (encR k c len) k w g 0 m dk os).heap[q]? = w.heap[q]? := fun q hq =>
  ⟨hq, Tq (hM.sb q hq) fun e => hgn (e ▸ hq)⟩
 have harg : ∀ q, zF (sortWorldK (encR k c len) k w g 0 m dk os) S yi (.agg k (els (if q < len then q else 0))) (.agg (encR k c len q).toArray) := fun q => by
  refine .agg _ (by simp [qg]) fun j hj => ?_
  have h1 := (hel _ j (hlt q) hj).1.mono hin (zf.refl _)
  have e : (encR k c len q).toArray.getD j undef = c.getD ((if q < len then q else 0) * k + j) undef := by
   have h4 := qg k c len q
   rw [Array.getD_eq_getD_getElem?, List.getElem?_toArray, List.getElem?_eq_getElem (by rw [h4]; exact hj), Option.getD_some]
   simp [encR]
  rw [e]
  exact h1
 have hsz : ∀ q, S q → q < (sortWorldK (encR k c len) k w g 0 m dk os).heap.size := fun q hq => by
  have := hM.sb q hq
  unfold sortWorldK Go.Sort.grow Go.Sort.putRowK Go.Sort.putRow Go.Sort.mapBlock Go.Sort.ahead
  simp only [Array.size_append, Array.size_modify]
  omega
 refine ((hC.call _ _ (hok _ (hlt x)) (hok _ (hlt y))).2 _ S [_, _] hsz (fun _ _ h => by cases h) ⟨harg x, harg y, trivial⟩).mono ?_
 rintro e w' ⟨hb, rv, rfl, hr⟩
 obtain rfl := ZW hr
 refine ⟨rfl, w'.drawn - (sortWorldK (encR k c len) k w g 0 m dk os).drawn, w'.heap.extract (sortWorldK (encR k c len) k w g 0 m dk os).heap.size w'.heap.size, ?_⟩
 generalize sortWorldK (encR k c len) k w g 0 m dk os = W at hb
 have hd := hb.drawn
 have hh : w'.heap = W.heap ++ w'.heap.extract W.heap.size w'.heap.size := by
  apply Array.ext_getElem?
  intro i
  by_cases hi : i < W.heap.size
  ·rw [Array.getElem?_append_left hi]; exact hb.block i hi
  ·rw [Array.getElem?_append_right (by omega), Array.getElem?_extract]
   have hsz := hb.size
   by_cases h2 : i < w'.heap.size
   ·rw [if_pos (by omega)]; congr 1; omega
   ·rw [if_neg (by omega), Array.getElem?_eq_none (by omega)]
 cases w' with | mk heap tape drawn os' output =>
 cases W with | mk heap0 tape0 drawn0 os0 output0 =>
 have e1 : os' = os0 := hb.os
 have e2 : tape = tape0 := hb.tape
 have e3 : output = output0 := hb.output
 subst e1; subst e2; subst e3
 simp only [Go.Sort.grow, World.drewN] at hh ⊢
 rw [← hh]
 congr 1
 have hd : drawn0 ≤ drawn := hd
 omega
end
end Go.Sx
