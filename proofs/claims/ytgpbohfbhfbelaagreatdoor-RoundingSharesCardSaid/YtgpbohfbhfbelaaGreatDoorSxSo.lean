/- slices.SortFunc over own slices of structures, by a comparing function without captures. -/
import Derived.Test.YtgpbohfbhfbelaaGreatDoorSxSn
import Derived.Shelf.SlSortCmp.NoneTotal
set_option linter.unusedSimpArgs false
set_option linter.unusedVariables false
namespace Go.Sx
open Go Go.Proofs Go.RowKit Go.Shelf
structure kX (P : Program) (k F : Nat) (ok : (Nat → AV) → Bool) (ci : (Nat → AV) → (Nat → AV) → Int) : Prop where
 pos : 0 < k
 ent : Enters P F
 call : ∀ r s, ok r = true → ok s = true → zv P [] F [.agg k r, .agg k s] (.i (ci r s))
 swo : ∀ (els : Nat → Nat → AV) (f : Nat → Nat), Go.Sort.SWO (ltOf fun x y => ci (els (f x)) (els (f y)))
section
variable {P : Program} {E : Env} {nb : Nat} {bl : Nat → OB} {S : Nat → Prop} {ρ : Nat → Go.Sx.Own} {w : World} {k F : Nat} {ok : (Nat → AV) → Bool} {ci : (Nat → AV) → (Nat → AV) → Int}
theorem Mem.retell (h : Mem E nb bl S ρ w) {k : Nat} {B : OB} (hB : Ta w S ρ B (ρ k)) : Mem E nb (upd bl k B) S ρ w := by
 refine ⟨h.fr, h.sb, h.sup, h.sub, h.glob, h.hi, fun j hj => ?_, h.own, h.dis, h.b0, h.nbz, h.ole⟩
 by_cases e : j = k
 ·subst e; rw [upd_same]; exact hB
 ·rw [zk _ _ e]; exact h.ok j hj
def encR (k : Nat) (c : Array Value) (len i : Nat) : List Value := (List.range k).map fun j => c.getD ((if i < len then i else 0) * k + j) undef
theorem tc (k : Nat) (c : Array Value) (len i : Nat) : (encR k c len i).length = k := by simp [encR]
theorem qX (k : Nat) (c : Array Value) {len i j : Nat} (hi : i < len) (hj : j < k) : (encR k c len i)[j]! = c.getD (i * k + j) undef := by
 simp [encR, hi, hj]
theorem Ip {k i j L : Nat} (hi : i < L) (hj : j < k) : i * k + j < L * k := by
 have : (i + 1) * k ≤ L * k := Nat.mul_le_mul_right k hi
 rw [Nat.succ_mul] at this
 omega
theorem La {k i j : Nat} (hj : j < k) : (i * k + j) / k = i := by
 rw [Nat.mul_comm, Nat.mul_add_div (by omega), Nat.div_eq_of_lt hj, Nat.add_zero]
theorem Kl {k i j : Nat} (hj : j < k) : (i * k + j) % k = j := by
 rw [Nat.mul_comm, Nat.mul_add_mod, Nat.mod_eq_of_lt hj]
theorem Uc {enc : Nat → List Value} {w : World} {g n : Nat} {dk : Array Nat} {os : Array Obj} {b : Nat} (hb : b < w.heap.size) (hg : b ≠ g) :
  (sortWorldK enc k w g 0 n dk os).heap[b]? = w.heap[b]? := by
 unfold sortWorldK Go.Sort.grow Go.Sort.putRowK Go.Sort.putRow Go.Sort.mapBlock Go.Sort.ahead
 simp only
 rw [Array.getElem?_append_left (by simpa using hb), Array.getElem?_modify, if_neg (Ne.symm hg)]
theorem pX (hk : 0 < k) {c : Array Value} {len : Nat} {t : Nat} (ht : t < len * k) : (Go.Sort.flatK (encR k c len) k (Array.range len))[t]! = c.getD t undef := by
 rw [Go.Sort.get_flatK _ _ _ _ (by simpa using ht)]
 have h1 : t / k < len := (Nat.div_lt_iff_lt_mul hk).2 ht
 have : (Array.range len)[t / k]! = t / k := by simp [h1]
 rw [this, qX k c h1 (Nat.mod_lt _ hk), Nat.mul_comm, Nat.div_add_mod]
theorem pj (hk : 0 < k) {w : World} {g len : Nat} {c : Array Value} {t : TypeId} (hg : w.heap[g]? = some (.cells c t (0, 0))) (hs : len * k ≤ c.size) :
  Go.Sort.HoldsK (encR k c len) k w g 0 (Array.range len) := by
 intro j hj
 have hj' : j < len * k := by simpa using hj
 have hjc : j < c.size := by omega
 rw [pX hk hj', Nat.zero_add]
 constructor
 ·simp [World.cell?, hg, hjc, Array.getD_eq_getD_getElem?]
 ·simp [World.frozen?, hg]
theorem kX.calls (hC : kX P k F ok ci) {b g cap len : Nat} {t : TypeId} {els : Nat → Nat → AV} {c : Array Value} (hM : Mem E nb bl S ρ w) (hk : ρ b = .arr g 0 cap k len) (hpos : 0 < len)
  (hel : ∀ i j, i < len → j < k → zE w S yN (els i j) (c.getD (i * k + j) undef) ∧ (c.getD (i * k + j) undef).oneCell' = true)
  (hok : ∀ i, i < len → ok (els i) = true) :
  CmpLays P F #[] (encR k c len) k (fun x y => ci (els (if x < len then x else 0)) (els (if y < len then y else 0))) g 0 len w := by
 intro m os dk hs x y
 have hgn : ¬ S g := (hM.own b g (by rw [hk]; rfl)).1
 have hlt : ∀ q, (if q < len then q else 0) < len := fun q => by split <;> omega
 have hin : ∀ q, S q → S q ∧ (sortWorldK (encR k c len) k w g 0 m dk os).heap[q]? = w.heap[q]? := fun q hq =>
  ⟨hq, Uc (hM.sb q hq) fun e => hgn (e ▸ hq)⟩
 have harg : ∀ q, zE (sortWorldK (encR k c len) k w g 0 m dk os) S yN (.agg k (els (if q < len then q else 0))) (.agg (encR k c len q).toArray) := fun q => by
  refine .agg _ (by simp [tc]) fun j hj => ?_
  have h1 := (hel _ j (hlt q) hj).1.mono hin (zG.refl _)
  have e : (encR k c len q).toArray.getD j undef = c.getD ((if q < len then q else 0) * k + j) undef := by
   have h4 := tc k c len q
   rw [Array.getD_eq_getD_getElem?, List.getElem?_toArray, List.getElem?_eq_getElem (by rw [h4]; exact hj), Option.getD_some]
   simp [encR]
  rw [e]
  exact h1
 have hsz : ∀ q, S q → q < (sortWorldK (encR k c len) k w g 0 m dk os).heap.size := fun q hq => by
  have := hM.sb q hq
  unfold sortWorldK Go.Sort.grow Go.Sort.putRowK Go.Sort.putRow Go.Sort.mapBlock Go.Sort.ahead
  simp only [Array.size_append, Array.size_modify]
  omega
 refine ((hC.call _ _ (hok _ (hlt x)) (hok _ (hlt y))).2 _ S [_, _] hsz (fun _ _ h => by cases h) ⟨harg x, harg y, trivial⟩).mono ?_
 rintro e w' ⟨hb, rv, rfl, hr⟩
 obtain rfl := ZS hr
 refine ⟨rfl, w'.drawn - (sortWorldK (encR k c len) k w g 0 m dk os).drawn, w'.heap.extract (sortWorldK (encR k c len) k w g 0 m dk os).heap.size w'.heap.size, ?_⟩
 generalize sortWorldK (encR k c len) k w g 0 m dk os = W at hb
 have hd := hb.drawn
 have hh : w'.heap = W.heap ++ w'.heap.extract W.heap.size w'.heap.size := by
  apply Array.ext_getElem?
  intro i
  by_cases hi : i < W.heap.size
  ·rw [Array.getElem?_append_left hi]; exact hb.block i hi
  ·rw [Array.getElem?_append_right (by omega), Array.getElem?_extract]
   have hsz := hb.size
   by_cases h2 : i < w'.heap.size
   ·rw [if_pos (by omega)]; congr 1; omega
   ·rw [if_neg (by omega), Array.getElem?_eq_none (by omega)]
 cases w' with | mk heap tape drawn os' output =>
 cases W with | mk heap0 tape0 drawn0 os0 output0 =>
 have e1 : os' = os0 := hb.os
 have e2 : tape = tape0 := hb.tape
 have e3 : output = output0 := hb.output
 subst e1; subst e2; subst e3
 simp only [Go.Sort.grow, World.drewN] at hh ⊢
 rw [← hh]
 congr 1
 have hd : drawn0 ≤ drawn := hd
 omega
theorem Q6 {len : Nat} {d : Array Nat} (h : Go.Sort.PermIn 0 len (Array.range len) d) : d.size = len ∧ d.toList.Perm (List.range len) := by
 obtain ⟨h1, _, h3⟩ := h
 simp only [Array.size_range] at h1
 refine ⟨h1, ?_⟩
 have e1 : d.extract 0 len = d := by rw [← h1]; simp
 have e2 : (Array.range len).extract 0 len = Array.range len := by simp
 rw [e1, e2] at h3
 simpa using h3
set_option maxHeartbeats 1000000 in
def Re (P : Program) (f : Nat) : Prop := ∀ (p : Option Addr) (cap : Nat) (fv : Value) (w : World), Calls P f #[.slice p 0 cap, fv] w fun e w' => e = .returned (.tuple #[]) ∧ w' = w
def Rc (P : Program) (f k : Nat) : Prop := ∀ (enc : Nat → List Value), (∀ x, (enc x).length = k) → (∀ x, ∀ v ∈ enc x, v.oneCell' = true) → ∀ (cf : Nat → Nat → Int), Go.Sort.SWO (ltOf cf) → ∀ (g : Nat) (cb : Array Value) (blk off cap : Nat) (d : Array Nat) (w : World),
 (∀ args w, (callFunc g args).run P w = .ok (.enter g args) w) → CmpLays P g cb enc k cf blk off d.size w → Go.Sort.HoldsK enc k w blk off d → blk < w.heap.size → d.size < 4611686018427387904 →
 Calls P f #[.slice (some ⟨blk, off, none⟩) d.size cap, .func (.func g) #[] cb] w fun e w' => e = .returned (.tuple #[]) ∧ ∃ d' n os, Go.Sort.PermIn 0 d.size d d' ∧ Go.Sort.SortedIn (ltOf cf) 0 d.size d' ∧ w' = sortWorldK enc k w blk off n d' os
theorem Ny {f : Nat} (hE : Enters P f) (hN : Re P f) (hS : Rc P f k) (hC : kX P k F ok ci) (G : List (Nat × Obj)) : UW P G f (rA k F ok ci) := by
 refine ⟨hE, ?_, ?_⟩
 ·intro nb bl xs K K' hk h
  unfold rA at h ⊢
  split at h
  ·split at h
   ·rw [zY] at h ⊢
    exact ⟨fun hc => ⟨(h.1 hc).1, fun p hp => hk _ _ _ ((h.1 hc).2 p hp)⟩, fun hc => (h.2 hc).elim⟩
   ·exact h
  ·exact h
 ·intro E nb bl S ρ w xs vs K _ hM hx h
  unfold rA at h
  split at h
  ·rename_i b len F' first cap
   split at h
   ·rename_i t sz L els hB
    rw [zY] at h
    cases hc : Nat.beq L len && Nat.beq sz k && Nat.blt b nb && Nat.beq F' F with
    | false => exact (h.2 hc).elim
    | true =>
    replace h := h.1 hc
    simp only [Bool.and_eq_true] at hc
    obtain rfl := Nat.eq_of_beq_eq_true hc.1.1.1
    obtain rfl := Nat.eq_of_beq_eq_true hc.1.1.2
    obtain rfl := Nat.eq_of_beq_eq_true hc.2
    have hlt : b < nb := Nat.le_of_ble_eq_true hc.1.2
    obtain ⟨⟨hsz, hok⟩, hk'⟩ := h
    match vs, hx with
    | [v, f], ⟨hv, hf, _⟩ =>
    have ef : f = .func (.func F') #[] #[] := by
     cases hf with
     | fn vs us hn hm _ _ =>
      rw [Array.eq_empty_of_size_eq_zero hn, Array.eq_empty_of_size_eq_zero hm]
    subst ef
    have hbk := hM.at b
    have hnone : ∀ (p : Option Addr) (cp : Nat), L = 0 → v = .slice p 0 cp → Calls P (f) #[v, .func (.func F') #[] #[]] w fun e w' => ∃ nb' bl' S' ρ' rr rv, e = .returned rv ∧ K nb' bl' rr ∧ Mem E nb' bl' S' ρ' w' ∧ (∀ b, S b → S' b ∧ w'.heap[b]? = w.heap[b]?) ∧ zG ρ ρ' ∧ zE w' S' ρ' rr rv := by
     rintro p cp rfl rfl
     have hcon := hN p cp (.func (.func F') #[] #[]) w
     refine (show Calls P (f) _ _ _ from hcon).mono ?_
     rintro e w' ⟨rfl, rfl⟩
     refine ⟨_, _, S, ρ, _, _, rfl, hk' [] ⟨List.Perm.refl _, List.Pairwise.nil⟩, Mem.retell hM ?_, fun b hb => ⟨hb, rfl⟩, zG.refl _, .tup #[] rfl fun i hi => absurd hi (Nat.not_lt_zero _)⟩
     have hbk := hM.ok b hlt
     rw [hB] at hbk
     cases ho : ρ b with
     | arr g base cap' sz' len' =>
      rw [ho] at hbk
      obtain ⟨e1, e2, h1, h2, c, h3, h4, h5⟩ := hbk
      exact ⟨e1, e2, h1, h2, c, h3, h4, fun i j hi => absurd hi (Nat.not_lt_zero _)⟩
     | nila sz' => rw [ho] at hbk; exact hbk
     | none => rw [ho] at hbk; exact hbk.elim
     | dead => rw [ho] at hbk; exact hbk.elim
     | box => rw [ho] at hbk; exact hbk.elim
     | lrec => rw [ho] at hbk; exact hbk.elim
    cases hv with
    | dns hd hsh => exact (hM.arr (by rw [hB]; rfl) hd).elim
    | ns0 g base cap sz' L' A hk0 hl hcap h0 => exact hnone _ _ rfl rfl
    | nsn sz' o hk0 => exact hnone _ _ rfl rfl
    | ns g base cap' sz' L' hk0 hl hcap =>
     have hbk := hbk.resolve_left (by rw [hk0]; simp)
     rw [hB, hk0] at hbk
     obtain ⟨e1, e2, h1, h2, c, h3, h4, h5⟩ := hbk
     subst e1; subst e2
     obtain rfl := hM.b0 _ _ _ _ _ _ hk0
     by_cases hz : L' = 0
     ·exact hnone _ _ hz (by rw [hz])
     have hpos : 0 < L' := by omega
     simp only [Nat.zero_add, Nat.zero_mul, Nat.sub_zero] at h4 h5 hnone ⊢
     have hcs : L' * sz' ≤ c.size := by rw [← h4]; exact Nat.mul_le_mul_right _ hcap
     have hcon := hS (encR sz' c L') (tc sz' c L') (fun x v hv => by
       simp only [encR, List.mem_map, List.mem_range] at hv
       obtain ⟨j, hj, rfl⟩ := hv
       exact (h5 _ j (by split <;> omega) hj).2) _ (hC.swo els fun q => if q < L' then q else 0) F' #[] g 0 cap' (Array.range L') w
      hC.ent (by rw [Array.size_range]; exact hC.calls (t := t) hM hk0 hpos h5 hok) (pj hC.pos h3 hcs) (hM.blk_lt (by rw [hk0]; rfl)) (by simpa using hsz)
     simp only [Array.size_range] at hcon
     refine (show Calls P (f) _ _ _ from hcon).mono ?_
     rintro e w' ⟨rfl, d', n, os, hp, hs, rfl⟩
     obtain ⟨p1, p2⟩ := Q6 hp
     have hin : ∀ i, i < L' → d'[i]! < L' := fun i hi => by
      have hm : d'[i]! ∈ d'.toList := by
       rw [getElem!_pos d' i (by omega)]; simp
      exact List.mem_range.1 (p2.mem_iff.1 hm)
     have hgd : ∀ i, i < L' → d'.toList.getD i 0 = d'[i]! := fun i hi => by
      rw [getElem!_pos d' i (by omega)]
      simp [List.getD_eq_getElem?_getD, p1, hi]
     have hS1 : ∀ q, S q → S q ∧ (Go.Sort.putRowK (encR sz' c L') sz' (Go.Sort.ahead w n) g 0 d').heap[q]? = w.heap[q]? := fun q hq => by
      refine ⟨hq, ?_⟩
      have hne : q ≠ g := fun e => (hM.own b g (by rw [hk0]; rfl)).1 (e ▸ hq)
      unfold Go.Sort.putRowK Go.Sort.putRow Go.Sort.mapBlock Go.Sort.ahead
      simp only [Array.getElem?_modify]
      rw [if_neg (Ne.symm hne)]
     obtain ⟨m1, m2⟩ := hM.write (k := b) (g := g) (w' := Go.Sort.putRowK (encR sz' c L') sz' (Go.Sort.ahead w n) g 0 d') (B := .arr t sz' L' fun i j => els (d'.toList.getD i 0) j) hlt (by rw [hk0]; rfl)
      (fun q hq => by
       unfold Go.Sort.putRowK Go.Sort.putRow Go.Sort.mapBlock Go.Sort.ahead
       simp only [Array.getElem?_modify]
       rw [if_neg (Ne.symm hq)])
      (by simp [Go.Sort.putRowK, Go.Sort.putRow, Go.Sort.mapBlock, Go.Sort.ahead]) rfl rfl rfl (Nat.le_add_right _ _) (by
       rw [hk0]
       refine ⟨rfl, rfl, h1, h2, Go.Sort.putCells id 0 (Go.Sort.flatK (encR sz' c L') sz' d') c, ?_, ?_, fun i j hi hj => ?_⟩
       ·unfold Go.Sort.putRowK Go.Sort.putRow Go.Sort.mapBlock Go.Sort.ahead
        simp only [Array.getElem?_modify]
        rw [if_pos trivial, h3]
        rfl
       ·simp only [Nat.zero_add, Go.Sort.putCells, Array.size_mapIdx]
        exact h4
       ·have hij : i * sz' + j < L' * sz' := Ip hi hj
        have e : (Go.Sort.putCells id 0 (Go.Sort.flatK (encR sz' c L') sz' d') c).getD ((0 + i) * sz' + j) undef = c.getD (d'[i]! * sz' + j) undef := by
         rw [Nat.zero_add, Array.getD_eq_getD_getElem?]
         simp only [Go.Sort.putCells, Array.getElem?_mapIdx, Go.Sort.size_flatK, p1]
         rw [Array.getElem?_eq_getElem (by omega : i * sz' + j < c.size)]
         simp only [Option.map_some, Option.getD_some]
         rw [if_pos ⟨Nat.zero_le _, by omega⟩, Nat.sub_zero, Go.Sort.get_flatK _ _ _ _ (by rw [p1]; exact hij), La hj, Kl hj, qX sz' c (hin i hi) hj]
         rfl
        rw [e, ← hgd i hi]
        have := h5 _ j (hgd i hi ▸ hin i hi) hj
        exact ⟨this.1.mono hS1 (zG.refl _), this.2⟩)
     obtain ⟨g1, g2⟩ := m1.grow (w' := sortWorldK (encR sz' c L') sz' w g 0 n d' os) ⟨⟨rfl, rfl, rfl, by simp [sortWorldK, Go.Sort.grow], fun q hq => by
      unfold sortWorldK Go.Sort.grow
      simp only
      rw [Array.getElem?_append_left hq]⟩, Nat.le_refl _⟩
     refine ⟨_, _, _, ρ, _, _, rfl, hk' d'.toList ⟨p2, ?_⟩, g1, fun q hq => ⟨(g2 q hq).1, (g2 q hq).2.trans (m2 q hq).2⟩, zG.refl _, .tup #[] rfl fun i hi => absurd hi (Nat.not_lt_zero _)⟩
     rw [List.pairwise_iff_getElem]
     intro i j hi hj hij
     simp only [Array.length_toList] at hi hj
     have := hs i j (Nat.zero_le _) hij (by omega)
     simp only [ltOf, decide_eq_false_iff_not] at this
     rw [if_pos (hin j (by omega)), if_pos (hin i (by omega)), getElem!_pos d' i (by omega), getElem!_pos d' j (by omega)] at this
     simpa using this
   ·exact h.elim
  ·exact h.elim
end
end Go.Sx
