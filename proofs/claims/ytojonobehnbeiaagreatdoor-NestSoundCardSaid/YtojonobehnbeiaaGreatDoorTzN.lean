/- slices.SortFunc over own slices of pieces, by cutlist.order. -/
import Derived.Test.YtojonobehnbeiaaGreatDoorTzE
import Derived.Test.YtojonobehnbeiaaGreatDoorTzS
import Derived.Shelf.SlSortCmp.NoneTotal
namespace Go.Tz
open Go Go.Sx Go.Proofs Go.RowKit Go.Shelf
theorem cmpI_lt {a b : Int} : cmpI a b < 0 ↔ a < b := by unfold cmpI; split <;> (try split) <;> omega
theorem cmpI_eq {a b : Int} : cmpI a b = 0 ↔ a = b := by unfold cmpI; split <;> (try split) <;> omega
theorem cmpI_gt {a b : Int} : 0 < cmpI a b ↔ b < a := by unfold cmpI; split <;> (try split) <;> omega
structure Key where
  w : Int
  d : Int
  l : Int
  m : Int
def Key.lt (a b : Key) : Bool := decide (a.w < b.w ∨ a.w = b.w ∧ (a.d < b.d ∨ a.d = b.d ∧ (b.l < a.l ∨ b.l = a.l ∧ a.m < b.m)))
def CutD.key (c : CutD) : Key := ⟨c.w, c.d, c.l, AV.int (c.e 0 0)⟩
theorem or4_lt {a b c d : Int} : or4 a b c d < 0 ↔ a < 0 ∨ a = 0 ∧ (b < 0 ∨ b = 0 ∧ (c < 0 ∨ c = 0 ∧ d < 0)) := by
  unfold or4; split <;> (try split) <;> (try split) <;> omega
theorem order_lt (a b : CutD) : decide (orderI a b < 0) = Key.lt a.key b.key := by
  unfold Key.lt orderI CutD.key
  simp only [or4_lt, cmpI_lt, cmpI_eq]
theorem Key.irrefl (a : Key) : Key.lt a a = false := by unfold Key.lt; simp
theorem Key.trans (a b c : Key) (h1 : Key.lt a b = true) (h2 : Key.lt b c = true) : Key.lt a c = true := by
  unfold Key.lt at *
  simp only [decide_eq_true_eq] at *
  omega
theorem Key.ntrans (a b c : Key) (h1 : Key.lt a b = false) (h2 : Key.lt b c = false) : Key.lt a c = false := by
  unfold Key.lt at *
  simp only [decide_eq_false_iff_not] at *
  omega
def cutAt (els : Nat → Nat → AV) (i : Nat) : CutD := (cutV (.agg 4 (els i))).getD ⟨0, 0, 0, true, 0, fun _ _ => .junk⟩
def cutOk (els : Nat → Nat → AV) (i : Nat) : Bool :=
  match cutV (.agg 4 (els i)) with
  | some c => Nat.blt 0 c.m && isI64 (c.e 0 0)
  | none => false
def keyAt (els : Nat → Nat → AV) (i : Nat) : Key := (cutAt els i).key
theorem order_els {els : Nat → Nat → AV} {x y : Nat} (hx : cutOk els x = true) (hy : cutOk els y = true) :
    PureCall Tryz.prog [] 38 [.agg 4 (els x), .agg 4 (els y)] (.i (orderI (cutAt els x) (cutAt els y))) := by
  unfold cutOk at hx hy
  unfold cutAt
  split at hx
  · rename_i a ha
    split at hy
    · rename_i b hb
      rw [ha, hb, Option.getD_some, Option.getD_some]
      simp only [Bool.and_eq_true] at hx hy
      obtain ⟨n, hn⟩ : ∃ n, a.e 0 0 = .i n := ⟨_, isI64_eq hx.2⟩
      obtain ⟨m, hm⟩ : ∃ m, b.e 0 0 = .i m := ⟨_, isI64_eq hy.2⟩
      refine order_T [.agg 4 (els x), .agg 4 (els y)] [.b (Nat.blt 0 a.m), .b (Nat.blt 0 b.m)] _ ?_ ?_
      · simp only [order_t, ha, hb, hn, hm]
      · intro p hp
        simp only [List.mem_cons, List.not_mem_nil, or_false] at hp
        rcases hp with rfl | rfl
        · exact hx.1
        · exact hy.1
    · cases hy
  · cases hx
def sortO (nb : Nat) (bl : Nat → OB) (xs : List AV) (k : Nat → (Nat → OB) → AV → Prop) : Prop :=
  match xs with
  | [.ns b 0 len, .fn (.func 38) 0 _ 0 _] =>
    match bl b with
    | .arr t sz L els =>
      bsplit (Nat.beq L len && Nat.beq sz 4 && Nat.blt b nb)
        ((len < 4611686018427387904 ∧ ∀ i, i < len → cutOk els i = true) ∧
          ∀ p : List Nat, (p.Perm (List.range len) ∧ p.Pairwise fun i j => Key.lt (keyAt els j) (keyAt els i) = false) →
            k nb (upd bl b (.arr t 4 len fun i j => els (p.getD i 0) j)) (.tup 0 fun _ => .junk)) False
    | _ => Fail b
  | _ => Fail xs
section
variable {E : Env} {nb : Nat} {bl : Nat → OB} {S : Nat → Prop} {ρ : Nat → Go.Sx.Own} {w : World}
theorem Mem.retell (h : Mem E nb bl S ρ w) {k : Nat} {B : OB} (hB : BOK w S ρ B (ρ k)) : Mem E nb (upd bl k B) S ρ w := by
  refine ⟨h.fr, h.sb, h.sup, h.sub, h.glob, h.hi, fun j hj => ?_, h.own, h.dis, h.b0, h.nbz, h.ole⟩
  by_cases e : j = k
  · subst e; rw [upd_same]; exact hB
  · rw [upd_other _ _ e]; exact h.ok j hj
end
def encR (c : Array Value) (len i : Nat) : List Value := (List.range 4).map fun j => c.getD ((if i < len then i else 0) * 4 + j) undef
theorem encR_len (c : Array Value) (len i : Nat) : (encR c len i).length = 4 := by simp [encR]
theorem encR_get (c : Array Value) {len i j : Nat} (hi : i < len) (hj : j < 4) : (encR c len i)[j]! = c.getD (i * 4 + j) undef := by
  simp [encR, hi, hj]
theorem encR_in (c : Array Value) {len : Nat} (hl : 0 < len) (i : Nat) : encR c len i = encR c len (if i < len then i else 0) := by
  unfold encR
  split
  · rename_i h; simp [h]
  · simp [hl]
theorem heap_sortWorld {enc : Nat → List Value} {w : World} {g n : Nat} {dk : Array Nat} {os : Array Obj} {b : Nat} (hb : b < w.heap.size) (hg : b ≠ g) :
    (sortWorldK enc 4 w g 0 n dk os).heap[b]? = w.heap[b]? := by
  unfold sortWorldK Go.Sort.grow Go.Sort.putRowK Go.Sort.putRow Go.Sort.mapBlock Go.Sort.ahead
  simp only
  rw [Array.getElem?_append_left (by simpa using hb), Array.getElem?_modify, if_neg (Ne.symm hg)]
theorem flat_range {c : Array Value} {len : Nat} {t : Nat} (ht : t < len * 4) : (Go.Sort.flatK (encR c len) 4 (Array.range len))[t]! = c.getD t undef := by
  rw [Go.Sort.get_flatK _ _ _ _ (by simpa using ht)]
  have h1 : t / 4 < len := by omega
  have : (Array.range len)[t / 4]! = t / 4 := by simp [h1]
  rw [this, encR_get c h1 (Nat.mod_lt _ (by omega))]
  congr 1
  omega
theorem holds_rows {w : World} {g len : Nat} {c : Array Value} {t : TypeId} (hg : w.heap[g]? = some (.cells c t (0, 0))) (hs : len * 4 ≤ c.size) :
    Go.Sort.HoldsK (encR c len) 4 w g 0 (Array.range len) := by
  intro j hj
  have hj' : j < len * 4 := by simpa using hj
  have hjc : j < c.size := by omega
  rw [flat_range hj', Nat.zero_add]
  constructor
  · simp [World.cell?, hg, hjc, Array.getD_eq_getD_getElem?]
  · simp [World.frozen?, hg]
theorem order_calls {E : Env} {nb : Nat} {bl : Nat → OB} {S : Nat → Prop} {ρ : Nat → Go.Sx.Own} {w : World} {b g cap len : Nat} {t : TypeId} {els : Nat → Nat → AV} {c : Array Value} (hM : Mem E nb bl S ρ w) (hk : ρ b = .arr g 0 cap 4 len) (hl : 0 < len)
    (hel : ∀ i j, i < len → j < 4 → Rel w S rho0 (els i j) (c.getD (i * 4 + j) undef) ∧ (c.getD (i * 4 + j) undef).oneCell' = true)
    (hok : ∀ i, i < len → cutOk els i = true) :
    CmpLays Tryz.prog 38 #[] (encR c len) 4 (fun x y => orderI (cutAt els (if x < len then x else 0)) (cutAt els (if y < len then y else 0))) g 0 len w := by
  intro m os dk hs x y
  have hgn : ¬ S g := (hM.own b g (by rw [hk]; rfl)).1
  have hlt : ∀ q, (if q < len then q else 0) < len := fun q => by split <;> omega
  have hin : ∀ q, S q → S q ∧ (sortWorldK (encR c len) 4 w g 0 m dk os).heap[q]? = w.heap[q]? := fun q hq =>
    ⟨hq, heap_sortWorld (hM.sb q hq) fun e => hgn (e ▸ hq)⟩
  have harg : ∀ q, Rel (sortWorldK (encR c len) 4 w g 0 m dk os) S rho0 (.agg 4 (els (if q < len then q else 0))) (.agg (encR c len q).toArray) := fun q => by
    refine .agg _ (by simp [encR_len]) fun j hj => ?_
    have h1 := (hel _ j (hlt q) hj).1.mono hin (OwnLe.refl _)
    have e : (encR c len q).toArray.getD j undef = c.getD ((if q < len then q else 0) * 4 + j) undef := by
      have h4 := encR_len c len q
      rw [Array.getD_eq_getD_getElem?, List.getElem?_toArray, List.getElem?_eq_getElem (by rw [h4]; exact hj), Option.getD_some]
      simp [encR]
    rw [e]
    exact h1
  have hsz : ∀ q, S q → q < (sortWorldK (encR c len) 4 w g 0 m dk os).heap.size := fun q hq => by
    have := hM.sb q hq
    unfold sortWorldK Go.Sort.grow Go.Sort.putRowK Go.Sort.putRow Go.Sort.mapBlock Go.Sort.ahead
    simp only [Array.size_append, Array.size_modify]
    omega
  refine ((order_els (hok _ (hlt x)) (hok _ (hlt y))).2 _ S [_, _] hsz (fun _ _ h => by cases h) ⟨harg x, harg y, trivial⟩).mono ?_
  rintro e w' ⟨hb, rv, rfl, hr⟩
  obtain rfl := rel_v hr
  refine ⟨rfl, w'.drawn - (sortWorldK (encR c len) 4 w g 0 m dk os).drawn, w'.heap.extract (sortWorldK (encR c len) 4 w g 0 m dk os).heap.size w'.heap.size, ?_⟩
  generalize sortWorldK (encR c len) 4 w g 0 m dk os = W at hb
  have hd := hb.drawn
  have hh : w'.heap = W.heap ++ w'.heap.extract W.heap.size w'.heap.size := by
    apply Array.ext_getElem?
    intro i
    by_cases hi : i < W.heap.size
    · rw [Array.getElem?_append_left hi]; exact hb.block i hi
    · rw [Array.getElem?_append_right (by omega), Array.getElem?_extract]
      have hsz := hb.size
      by_cases h2 : i < w'.heap.size
      · rw [if_pos (by omega)]; congr 1; omega
      · rw [if_neg (by omega), Array.getElem?_eq_none (by omega)]
  cases w' with | mk heap tape drawn os' output =>
  cases W with | mk heap0 tape0 drawn0 os0 output0 =>
  have e1 : os' = os0 := hb.os
  have e2 : tape = tape0 := hb.tape
  have e3 : output = output0 := hb.output
  subst e1; subst e2; subst e3
  simp only [Go.Sort.grow, World.drewN] at hh ⊢
  rw [← hh]
  congr 1
  simp only at hd ⊢
  omega
theorem swo_cut (els : Nat → Nat → AV) (f : Nat → Nat) : Go.Sort.SWO (ltOf fun x y => orderI (cutAt els (f x)) (cutAt els (f y))) := by
  have e : ∀ x y, ltOf (fun x y => orderI (cutAt els (f x)) (cutAt els (f y))) x y = Key.lt (keyAt els (f x)) (keyAt els (f y)) := fun x y => order_lt _ _
  exact ⟨fun x => by rw [e]; exact Key.irrefl _, fun x y z h1 h2 => by rw [e] at *; exact Key.trans _ _ _ h1 h2, fun x y z h1 h2 => by rw [e] at *; exact Key.ntrans _ _ _ h1 h2⟩
theorem perm_range {len : Nat} {d : Array Nat} (h : Go.Sort.PermIn 0 len (Array.range len) d) : d.size = len ∧ d.toList.Perm (List.range len) := by
  obtain ⟨h1, _, h3⟩ := h
  simp only [Array.size_range] at h1
  refine ⟨h1, ?_⟩
  have e1 : d.extract 0 len = d := by rw [← h1]; simp
  have e2 : (Array.range len).extract 0 len = Array.range len := by simp
  rw [e1, e2] at h3
  simpa using h3
set_option maxHeartbeats 1000000 in
theorem sort_own (G : List (Nat × Obj)) : OwnT Tryz.prog G 37 sortO := by
  refine ⟨enters_of Tryz.func37 (by kernel_rfl) rfl, ?_, ?_⟩
  · intro nb bl xs k k' hk h
    unfold sortO at h ⊢
    split at h
    · split at h
      · rw [bsplit_iff] at h ⊢
        exact ⟨fun hc => ⟨(h.1 hc).1, fun p hp => hk _ _ _ ((h.1 hc).2 p hp)⟩, fun hc => (h.2 hc).elim⟩
      · exact h
    · exact h
  · intro E nb bl S ρ w xs vs k _ hM hx h
    unfold sortO at h
    split at h
    · rename_i b len first cap
      split at h
      · rename_i t sz L els hB
        rw [bsplit_iff] at h
        cases hc : Nat.beq L len && Nat.beq sz 4 && Nat.blt b nb with
        | false => exact (h.2 hc).elim
        | true =>
        replace h := h.1 hc
        simp only [Bool.and_eq_true] at hc
        obtain rfl := Nat.eq_of_beq_eq_true hc.1.1
        obtain rfl := Nat.eq_of_beq_eq_true hc.1.2
        have hlt : b < nb := Nat.le_of_ble_eq_true hc.2
        obtain ⟨⟨hsz, hok⟩, hk'⟩ := h
        match vs, hx with
        | [v, f], ⟨hv, hf, _⟩ =>
        have ef : f = .func (.func 38) #[] #[] := by
          cases hf with
          | fn vs us hn hm _ _ =>
            rw [Array.eq_empty_of_size_eq_zero hn, Array.eq_empty_of_size_eq_zero hm]
        subst ef
        have hbk := hM.at b
        have hnone : ∀ (p : Option Addr) (cp : Nat), L = 0 → v = .slice p 0 cp → Calls Tryz.prog 37 #[v, .func (.func 38) #[] #[]] w fun e w' => ∃ nb' bl' S' ρ' r rv, e = .returned rv ∧ k nb' bl' r ∧ Mem E nb' bl' S' ρ' w' ∧ (∀ b, S b → S' b ∧ w'.heap[b]? = w.heap[b]?) ∧ OwnLe ρ ρ' ∧ Rel w' S' ρ' r rv := by
          rintro p cp rfl rfl
          have hcon := AnyF.slices_SortFunc_none Tryz.sortCut p cp (.func (.func 38) #[] #[]) w
          refine (show Calls Tryz.prog 37 _ _ _ from hcon).mono ?_
          rintro e w' ⟨rfl, rfl⟩
          refine ⟨_, _, S, ρ, _, _, rfl, hk' [] ⟨List.Perm.refl _, List.Pairwise.nil⟩, Mem.retell hM ?_, fun b hb => ⟨hb, rfl⟩, OwnLe.refl _, .tup #[] rfl fun i hi => absurd hi (Nat.not_lt_zero _)⟩
          have hbk := hM.ok b hlt
          rw [hB] at hbk
          cases ho : ρ b with
          | arr g base cap' sz' len' =>
            rw [ho] at hbk
            obtain ⟨e1, e2, h1, h2, c, h3, h4, h5⟩ := hbk
            exact ⟨e1, e2, h1, h2, c, h3, h4, fun i j hi => absurd hi (Nat.not_lt_zero _)⟩
          | nila sz' => rw [ho] at hbk; exact hbk
          | none => rw [ho] at hbk; exact hbk.elim
          | dead => rw [ho] at hbk; exact hbk.elim
          | box => rw [ho] at hbk; exact hbk.elim
          | lrec => rw [ho] at hbk; exact hbk.elim
          | rows => rw [ho] at hbk; exact hbk.elim
          | app => rw [ho] at hbk; exact hbk.elim
        cases hv with
        | nsr g cap sz2 L2 sub hk0 hl hcap =>
          have hbk := hbk.resolve_left (by rw [hk0]; simp)
          rw [hB, hk0] at hbk
          exact hbk.elim
        | nsv q o cap hk0 =>
          have hbk := hbk.resolve_left (by rw [hk0]; simp)
          rw [hB, hk0] at hbk
          exact hbk.elim
        | dns hd hsh => exact (hM.arr (by rw [hB]; rfl) hd).elim
        | ns0 g base cap sz' L' A hk0 hl hcap h0 => exact hnone _ _ rfl rfl
        | nsn sz' o hk0 => exact hnone _ _ rfl rfl
        | ns g base cap' sz' L' hk0 hl hcap =>
          have hbk := hbk.resolve_left (by rw [hk0]; simp)
          rw [hB, hk0] at hbk
          obtain ⟨e1, e2, h1, h2, c, h3, h4, h5⟩ := hbk
          subst e1; subst e2
          obtain rfl := hM.b0 _ _ _ _ _ _ hk0
          by_cases hz : L' = 0
          · exact hnone _ _ hz (by rw [hz])
          have hpos : 0 < L' := by omega
          simp only [Nat.zero_add, Nat.zero_mul, Nat.sub_zero] at h4 h5 hnone ⊢
          have hcs : L' * 4 ≤ c.size := by rw [← h4]; exact Nat.mul_le_mul_right _ hcap
          have hcon := AnyQ.slices_SortFunc Tryz.sortCut 4 Tryz.isAgg69 Tryz.sizeOf69 (encR c L') (encR_len c L') (fun x v hv => by
              simp only [encR, List.mem_map, List.mem_range] at hv
              obtain ⟨j, hj, rfl⟩ := hv
              exact (h5 _ j (by split <;> omega) hj).2) _ (swo_cut els fun q => if q < L' then q else 0) 38 #[] g 0 cap' (Array.range L') w
            (enters_of Tryz.func38 (by kernel_rfl) rfl) (by rw [Array.size_range]; exact order_calls (t := t) hM hk0 hpos h5 hok) (holds_rows h3 hcs) (hM.blk_lt (by rw [hk0]; rfl)) (by simpa using hsz)
          simp only [Array.size_range] at hcon
          refine (show Calls Tryz.prog 37 _ _ _ from hcon).mono ?_
          rintro e w' ⟨rfl, d', n, os, hp, hs, rfl⟩
          obtain ⟨p1, p2⟩ := perm_range hp
          have hin : ∀ i, i < L' → d'[i]! < L' := fun i hi => by
            have hm : d'[i]! ∈ d'.toList := by
              rw [getElem!_pos d' i (by omega)]; simp
            exact List.mem_range.1 (p2.mem_iff.1 hm)
          have hgd : ∀ i, i < L' → d'.toList.getD i 0 = d'[i]! := fun i hi => by
            rw [getElem!_pos d' i (by omega)]
            simp [List.getD_eq_getElem?_getD, p1, hi]
          have hS1 : ∀ q, S q → S q ∧ (Go.Sort.putRowK (encR c L') 4 (Go.Sort.ahead w n) g 0 d').heap[q]? = w.heap[q]? := fun q hq => by
            refine ⟨hq, ?_⟩
            have hne : q ≠ g := fun e => (hM.own b g (by rw [hk0]; rfl)).1 (e ▸ hq)
            unfold Go.Sort.putRowK Go.Sort.putRow Go.Sort.mapBlock Go.Sort.ahead
            simp only [Array.getElem?_modify]
            rw [if_neg (Ne.symm hne)]
          obtain ⟨m1, m2⟩ := hM.write (k := b) (g := g) (w' := Go.Sort.putRowK (encR c L') 4 (Go.Sort.ahead w n) g 0 d') (B := .arr t 4 L' fun i j => els (d'.toList.getD i 0) j) hlt (by rw [hk0]; rfl)
            (fun q hq => by
              unfold Go.Sort.putRowK Go.Sort.putRow Go.Sort.mapBlock Go.Sort.ahead
              simp only [Array.getElem?_modify]
              rw [if_neg (Ne.symm hq)])
            (by simp [Go.Sort.putRowK, Go.Sort.putRow, Go.Sort.mapBlock, Go.Sort.ahead]) rfl rfl rfl (Nat.le_add_right _ _) (by
              rw [hk0]
              refine ⟨rfl, rfl, h1, h2, Go.Sort.putCells id 0 (Go.Sort.flatK (encR c L') 4 d') c, ?_, ?_, fun i j hi hj => ?_⟩
              · unfold Go.Sort.putRowK Go.Sort.putRow Go.Sort.mapBlock Go.Sort.ahead
                simp only [Array.getElem?_modify]
                rw [if_pos trivial, h3]
                rfl
              · simp only [Nat.zero_add, Go.Sort.putCells, Array.size_mapIdx]
                exact h4
              · have hij : i * 4 + j < L' * 4 := by omega
                have e : (Go.Sort.putCells id 0 (Go.Sort.flatK (encR c L') 4 d') c).getD ((0 + i) * 4 + j) undef = c.getD (d'[i]! * 4 + j) undef := by
                  rw [Nat.zero_add, Array.getD_eq_getD_getElem?]
                  simp only [Go.Sort.putCells, Array.getElem?_mapIdx, Go.Sort.size_flatK, p1]
                  rw [Array.getElem?_eq_getElem (by omega : i * 4 + j < c.size)]
                  simp only [Option.map_some, Option.getD_some]
                  rw [if_pos ⟨Nat.zero_le _, by omega⟩, Nat.sub_zero, Go.Sort.get_flatK _ _ _ _ (by omega), show (i * 4 + j) / 4 = i by omega, show (i * 4 + j) % 4 = j by omega, encR_get c (hin i hi) hj]
                  rfl
                rw [e, ← hgd i hi]
                have := h5 _ j (hgd i hi ▸ hin i hi) hj
                exact ⟨this.1.mono hS1 (OwnLe.refl _), this.2⟩)
          obtain ⟨g1, g2⟩ := m1.grow (w' := sortWorldK (encR c L') 4 w g 0 n d' os) ⟨⟨rfl, rfl, rfl, by simp [sortWorldK, Go.Sort.grow], fun q hq => by
            unfold sortWorldK Go.Sort.grow
            simp only
            rw [Array.getElem?_append_left hq]⟩, Nat.le_refl _⟩
          refine ⟨_, _, _, ρ, _, _, rfl, hk' d'.toList ⟨p2, ?_⟩, g1, fun q hq => ⟨(g2 q hq).1, (g2 q hq).2.trans (m2 q hq).2⟩, OwnLe.refl _, .tup #[] rfl fun i hi => absurd hi (Nat.not_lt_zero _)⟩
          rw [List.pairwise_iff_getElem]
          intro i j hi hj hij
          simp only [Array.length_toList] at hi hj
          have := hs i j (Nat.zero_le _) hij (by omega)
          rw [show ∀ x y, ltOf (fun x y => orderI (cutAt els (if x < L' then x else 0)) (cutAt els (if y < L' then y else 0))) x y = Key.lt (keyAt els (if x < L' then x else 0)) (keyAt els (if y < L' then y else 0)) from fun x y => order_lt _ _] at this
          rw [if_pos (hin j (by omega)), if_pos (hin i (by omega)), getElem!_pos d' i (by omega), getElem!_pos d' j (by omega)] at this
          simpa using this
      · exact h.elim
    · exact h.elim
end Go.Tz
