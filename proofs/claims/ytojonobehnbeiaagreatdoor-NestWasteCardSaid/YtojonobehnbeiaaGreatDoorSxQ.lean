/- One symbolic state taken for another: fewer blocks, other numbers, weaker values. -/
import Derived.Test.YtojonobehnbeiaaGreatDoorSxP
namespace Go.Sx
universe u
open Go Go.RowKit
def vEq : Value → Value → Prop
  | .int k a, .int k' b => k = k' ∧ a = b
  | .bool a, .bool b => a = b
  | x, y => x = y
theorem vEq_eq {x y : Value} (h : vEq x y) : x = y := by
  unfold vEq at h
  split at h
  · rw [h.1, h.2]
  · rw [h]
  · exact h
def allB (p : Nat → Prop) : Nat → Prop
  | 0 => True
  | 1 => p 0
  | n + 1 => allB p n ∧ p n
theorem allB_at {p : Nat → Prop} {n : Nat} (h : allB p n) : ∀ i, i < n → p i := by
  induction n with
  | zero => intro i hi; omega
  | succ n ih =>
    intro i hi
    cases n with
    | zero =>
      have : i = 0 := by omega
      rw [this]; exact h
    | succ n =>
      by_cases e : i = n + 1
      · rw [e]; exact h.2
      · exact ih h.1 i (by omega)
def avM : AV → AV → Prop
  | .v a, y =>
    match y with
    | .junk => True
    | .v b => vEq a b
    | .xl _ _ len _ => a = .slice none 0 0 ∧ len = 0
    | _ => False
  | .str a, y =>
    match y with
    | .junk => True
    | .str b => a = b
    | _ => False
  | .xl f sz len els, y =>
    match y with
    | .junk => True
    | .xl f' sz' len' els' => (f' = true → f = true) ∧ sz' = sz ∧ len' = len ∧ ∀ i j, i < len → j < sz → avM (els i j) (els' i j)
    | _ => False
  | .xq n cells off, y =>
    match y with
    | .junk => True
    | .xq n' cells' off' => n' = n ∧ off' = off ∧ allB (fun i => avM (cells i) (cells' i)) n
    | _ => False
  | .np k o, y =>
    match y with
    | .junk => True
    | .np k' o' => k' = k ∧ o' = o
    | _ => False
  | .ns k o l, y =>
    match y with
    | .junk => True
    | .ns k' o' l' => k' = k ∧ o' = o ∧ l' = l
    | _ => False
  | .ap k i j, y =>
    match y with
    | .junk => True
    | .ap k' i' j' => k' = k ∧ i' = i ∧ j' = j
    | _ => False
  | .agg n cs, y =>
    match y with
    | .junk => True
    | .agg n' cs' => n' = n ∧ allB (fun i => avM (cs i) (cs' i)) n
    | _ => False
  | .tup n cs, y =>
    match y with
    | .junk => True
    | .tup n' cs' => n' = n ∧ allB (fun i => avM (cs i) (cs' i)) n
    | _ => False
  | .fn f nf a nc b, y =>
    match y with
    | .junk => True
    | .fn f' nf' a' nc' b' => f' = f ∧ nf' = nf ∧ nc' = nc ∧ allB (fun i => avM (a i) (a' i)) nf ∧ allB (fun i => avM (b i) (b' i)) nc
    | _ => False
  | .gd g x, y =>
    match y with
    | .junk => True
    | .gd g' x' => g' = g ∧ avM x x'
    | y => g = true ∧ avM x y
  | .yl k, y =>
    match y with
    | .junk => True
    | .yl k' => k' = k
    | _ => False
  | .nb p z, y =>
    match y with
    | .junk => True
    | .nb p' z' => p' = p ∧ (z = true → z' = true)
    | _ => False
  | .junk, y =>
    match y with
    | .junk => True
    | _ => False
section
variable {w : World} {S : Nat → Prop}
theorem avM_sound {x y : AV} {v : Value} {ρ : Nat → Own} (hx : Rel w S ρ x v) (h : avM x y) : Rel w S ρ y v := by
  induction hx generalizing y with
  | v x =>
    unfold avM at h
    split at h
    · exact .junk _
    · rw [← vEq_eq h]; exact .v _
    · obtain ⟨rfl, rfl⟩ := h
      exact .xl none 0 (fun _ _ => undef) (Nat.le_refl _) (Nat.zero_le _) (fun _ => rfl) (fun i j hi _ => absurd hi (Nat.not_lt_zero _)) fun i j hi _ => absurd hi (Nat.not_lt_zero _)
    · exact h.elim
  | str l =>
    unfold avM at h
    split at h
    · exact .junk _
    · rw [← h]; exact .str _
    · exact h.elim
  | xl o cap cvs hle hm hf hc hr ih =>
    unfold avM at h
    split at h
    · exact .junk _
    · obtain ⟨h1, rfl, rfl, h4⟩ := h
      exact .xl o cap cvs hle hm (fun e => hf (h1 e)) hc fun i j hi hj => ih i j hi hj (h4 i j hi hj)
    · exact h.elim
  | xq A cvs hc hr ih =>
    unfold avM at h
    split at h
    · exact .junk _
    · obtain ⟨rfl, rfl, h4⟩ := h
      exact .xq A cvs hc fun i hi => ih i hi (allB_at h4 i hi)
    · exact h.elim
  | np g h0 =>
    unfold avM at h
    split at h
    · exact .junk _
    · obtain ⟨rfl, rfl⟩ := h; exact .np g h0
    · exact h.elim
  | ns g base cap sz L h0 hl hc =>
    unfold avM at h
    split at h
    · exact .junk _
    · obtain ⟨rfl, rfl, rfl⟩ := h; exact .ns g base cap sz L h0 hl hc
    · exact h.elim
  | ns0 g base cap sz L A h0 hl hc hz =>
    unfold avM at h
    split at h
    · exact .junk _
    · obtain ⟨rfl, rfl, rfl⟩ := h; exact .ns0 g base cap sz L A h0 hl hc hz
    · exact h.elim
  | nsn sz o h0 =>
    unfold avM at h
    split at h
    · exact .junk _
    · obtain ⟨rfl, rfl, rfl⟩ := h; exact .nsn sz o h0
    · exact h.elim
  | ap g base cap sz L h0 hi hc =>
    unfold avM at h
    split at h
    · exact .junk _
    · obtain ⟨rfl, rfl, rfl⟩ := h; exact .ap g base cap sz L h0 hi hc
    · exact h.elim
  | nsr g cap sz L sub h0 hl hc =>
    unfold avM at h
    split at h
    · exact .junk _
    · obtain ⟨rfl, rfl, rfl⟩ := h; exact .nsr g cap sz L sub h0 hl hc
    · exact h.elim
  | nsv q o cap h0 =>
    unfold avM at h
    split at h
    · exact .junk _
    · obtain ⟨rfl, rfl, rfl⟩ := h; exact .nsv q o cap h0
    · exact h.elim
  | apr g cap sz L sub h0 hi hc =>
    unfold avM at h
    split at h
    · exact .junk _
    · obtain ⟨rfl, rfl, rfl⟩ := h; exact .apr g cap sz L sub h0 hi hc
    · exact h.elim
  | yl g r h0 =>
    unfold avM at h
    split at h
    · exact .junk _
    · rw [h]; exact .yl g r h0
    · exact h.elim
  | dyl h0 hx =>
    unfold avM at h
    split at h
    · exact .junk _
    · rw [h]; exact .dyl h0 hx
    · exact h.elim
  | dnp h0 hx =>
    unfold avM at h
    split at h
    · exact .junk _
    · obtain ⟨rfl, rfl⟩ := h; exact .dnp h0 hx
    · exact h.elim
  | dns h0 hx =>
    unfold avM at h
    split at h
    · exact .junk _
    · obtain ⟨rfl, rfl, rfl⟩ := h; exact .dns h0 hx
    · exact h.elim
  | dap h0 hx =>
    unfold avM at h
    split at h
    · exact .junk _
    · obtain ⟨rfl, rfl, rfl⟩ := h; exact .dap h0 hx
    · exact h.elim
  | agg vs hn hr ih =>
    unfold avM at h
    split at h
    · exact .junk _
    · obtain ⟨rfl, h2⟩ := h; exact .agg vs hn fun i hi => ih i hi (allB_at h2 i hi)
    · exact h.elim
  | tup vs hn hr ih =>
    unfold avM at h
    split at h
    · exact .junk _
    · obtain ⟨rfl, h2⟩ := h; exact .tup vs hn fun i hi => ih i hi (allB_at h2 i hi)
    · exact h.elim
  | fn vs us hn hm hr hs ih1 ih2 =>
    unfold avM at h
    split at h
    · exact .junk _
    · obtain ⟨rfl, rfl, rfl, h4, h5⟩ := h
      exact .fn vs us hn hm (fun i hi => ih1 i hi (allB_at h4 i hi)) fun i hi => ih2 i hi (allB_at h5 i hi)
    · exact h.elim
  | gd v h1 h2 ih =>
    unfold avM at h
    split at h
    · exact .junk _
    · obtain ⟨rfl, h4⟩ := h; exact .gd v (fun hg => ih hg h4) h2
    · exact ih h.1 h.2
  | nb t h0 =>
    unfold avM at h
    split at h
    · exact .junk _
    · obtain ⟨rfl, h2⟩ := h; exact .nb t fun e => h2 (h0 e)
    · exact h.elim
  | junk x =>
    unfold avM at h
    split at h
    · exact .junk _
    · exact h.elim
theorem avM_refl : ∀ x : AV, avM x x
  | .v a => by
    show vEq a a
    cases a with
    | int => exact ⟨rfl, rfl⟩
    | bool => exact (rfl : _ = _)
    | _ => exact (rfl : _ = _)
  | .str a => rfl
  | .xl f sz len els => ⟨fun h => h, rfl, rfl, fun i j _ _ => avM_refl _⟩
  | .xq n cells off => ⟨rfl, rfl, by
    have h : ∀ i, avM (cells i) (cells i) := fun i => avM_refl _
    induction n with
    | zero => trivial
    | succ n ih => cases n with
      | zero => exact h 0
      | succ n => exact ⟨ih, h _⟩⟩
  | .np k o => ⟨rfl, rfl⟩
  | .ns k o l => ⟨rfl, rfl, rfl⟩
  | .ap k i j => ⟨rfl, rfl, rfl⟩
  | .agg n cs => ⟨rfl, by
    have h : ∀ i, avM (cs i) (cs i) := fun i => avM_refl _
    induction n with
    | zero => trivial
    | succ n ih => cases n with
      | zero => exact h 0
      | succ n => exact ⟨ih, h _⟩⟩
  | .tup n cs => ⟨rfl, by
    have h : ∀ i, avM (cs i) (cs i) := fun i => avM_refl _
    induction n with
    | zero => trivial
    | succ n ih => cases n with
      | zero => exact h 0
      | succ n => exact ⟨ih, h _⟩⟩
  | .fn f nf a nc b => ⟨rfl, rfl, rfl, by
    have h : ∀ i, avM (a i) (a i) := fun i => avM_refl _
    induction nf with
    | zero => trivial
    | succ n ih => cases n with
      | zero => exact h 0
      | succ n => exact ⟨ih, h _⟩, by
    have h : ∀ i, avM (b i) (b i) := fun i => avM_refl _
    induction nc with
    | zero => trivial
    | succ n ih => cases n with
      | zero => exact h 0
      | succ n => exact ⟨ih, h _⟩⟩
  | .gd g x => ⟨rfl, avM_refl x⟩
  | .yl k => (rfl : k = k)
  | .nb p z => ⟨rfl, fun h => h⟩
  | .junk => trivial
theorem avM_of_eq {x y : AV} (h : x = y) : avM x y := h ▸ avM_refl x
end
def invK : List (Option Nat) → Nat → Nat → Option Nat
  | [], _, _ => none
  | o :: os, i, k =>
    match o with
    | some k' => bif Nat.beq k' k then some i else invK os (i + 1) k
    | none => invK os (i + 1) k
def ren (inv : Nat → Option Nat) : AV → AV
  | .np k o =>
    match inv k with
    | some i => .np i o
    | none => .junk
  | .ns k o l =>
    match inv k with
    | some i => .ns i o l
    | none => .junk
  | .ap k i j =>
    match inv k with
    | some k' => .ap k' i j
    | none => .junk
  | .agg n cs => .agg n fun i => ren inv (cs i)
  | .tup n cs => .tup n fun i => ren inv (cs i)
  | .fn f nf a nc b => .fn f nf (fun i => ren inv (a i)) nc fun i => ren inv (b i)
  | .gd g x => .gd g (ren inv x)
  | .yl k =>
    match inv k with
    | some i => .yl i
    | none => .junk
  | x => x
theorem ren_rel {w : World} {S : Nat → Prop} {ρ ρ' : Nat → Own} {inv : Nat → Option Nat} {x : AV} {v : Value} (hi : ∀ k i, inv k = some i → ρ' i = ρ k ∨ ρ' i = .dead) (h : Rel w S ρ x v) :
    Rel w S ρ' (ren inv x) v := by
  induction h with
  | v x => exact .v x
  | str l => exact .str l
  | xl o cap cvs hle hm hf hc hr ih => exact .xl o cap cvs hle hm hf hc hr
  | xq A cvs hc hr ih => exact .xq A cvs hc hr
  | np g h =>
    simp only [ren]
    split
    · rename_i i e
      rcases hi _ _ e with e' | e'
      · exact .np g (e'.trans h)
      · exact .dnp e' ⟨_, rfl⟩
    · exact .junk _
  | ns g base cap sz L h hl hc =>
    simp only [ren]
    split
    · rename_i i e
      rcases hi _ _ e with e' | e'
      · exact .ns g base cap sz L (e'.trans h) hl hc
      · exact .dns e' ⟨_, _, rfl⟩
    · exact .junk _
  | ns0 g base cap sz L A h hl hc h0 =>
    simp only [ren]
    split
    · rename_i i e
      rcases hi _ _ e with e' | e'
      · exact .ns0 g base cap sz L A (e'.trans h) hl hc h0
      · exact .dns e' ⟨_, _, rfl⟩
    · exact .junk _
  | nsn sz o h =>
    simp only [ren]
    split
    · rename_i i e
      rcases hi _ _ e with e' | e'
      · exact .nsn sz o (e'.trans h)
      · exact .dns e' ⟨_, _, rfl⟩
    · exact .junk _
  | ap g base cap sz L h hl hc =>
    simp only [ren]
    split
    · rename_i i e
      rcases hi _ _ e with e' | e'
      · exact .ap g base cap sz L (e'.trans h) hl hc
      · exact .dap e' ⟨_, rfl⟩
    · exact .junk _
  | nsr g cap sz L sub h hl hc =>
    simp only [ren]
    split
    · rename_i i e
      rcases hi _ _ e with e' | e'
      · exact .nsr g cap sz L sub (e'.trans h) hl hc
      · exact .dns e' ⟨_, _, rfl⟩
    · exact .junk _
  | nsv q o cap h =>
    simp only [ren]
    split
    · rename_i i e
      rcases hi _ _ e with e' | e'
      · exact .nsv q o cap (e'.trans h)
      · exact .dns e' ⟨_, _, rfl⟩
    · exact .junk _
  | apr g cap sz L sub h hl hc =>
    simp only [ren]
    split
    · rename_i i e
      rcases hi _ _ e with e' | e'
      · exact .apr g cap sz L sub (e'.trans h) hl hc
      · exact .dap e' ⟨_, rfl⟩
    · exact .junk _
  | yl g r h =>
    simp only [ren]
    split
    · rename_i i e
      rcases hi _ _ e with e' | e'
      · exact .yl g r (e'.trans h)
      · exact .dyl e' ⟨_, rfl⟩
    · exact .junk _
  | dyl h hx =>
    simp only [ren]
    split
    · rename_i i e
      rcases hi _ _ e with e' | e'
      · exact .dyl (e'.trans h) hx
      · exact .dyl e' hx
    · exact .junk _
  | dnp h hx =>
    simp only [ren]
    split
    · rename_i i e
      rcases hi _ _ e with e' | e'
      · exact .dnp (e'.trans h) hx
      · exact .dnp e' hx
    · exact .junk _
  | dns h hx =>
    simp only [ren]
    split
    · rename_i i e
      rcases hi _ _ e with e' | e'
      · exact .dns (e'.trans h) hx
      · exact .dns e' hx
    · exact .junk _
  | dap h hx =>
    simp only [ren]
    split
    · rename_i i e
      rcases hi _ _ e with e' | e'
      · exact .dap (e'.trans h) hx
      · exact .dap e' hx
    · exact .junk _
  | agg vs hn hr ih => exact .agg vs hn fun i h => ih i h hi
  | tup vs hn hr ih => exact .tup vs hn fun i h => ih i h hi
  | fn vs us hn hm hr hs ih1 ih2 => exact .fn vs us hn hm (fun i h => ih1 i h hi) fun i h => ih2 i h hi
  | gd v h h' ih => exact .gd v (fun h => ih h hi) h'
  | nb t h => exact .nb t h
  | junk x => exact .junk x
def tmM (ks : List (Option Nat)) (x y : AV) : Prop :=
  match x, y with
  | .v (.slice none 0 0), .ns i o l => ks[i]? = some none ∧ o = 0 ∧ l = 0
  | .xl f _ len _, .ns i o l => ks[i]? = some none ∧ o = 0 ∧ l = 0 ∧ f = true ∧ len = 0
  | x, y => avM (ren (invK ks 0) x) y
def rowM : AV → AV → Prop
  | .xl false s n el, y =>
    match y with
    | .xl false s' n' el' => s' = s ∧ n' = n ∧ ∀ i j, i < n → j < s → avM (el i j) (el' i j)
    | _ => False
  | _, _ => False
theorem RowOK.told {w : World} {S : Nat → Prop} {te : TypeId} {ssz : Nat} {x y : AV} {v : Value} {o : Option Nat} (h : RowOK w S te ssz x v o) (hm : rowM x y) : RowOK w S te ssz y v o := by
  unfold rowM at hm
  split at hm
  · split at hm
    · rename_i s n el s' n' el'
      obtain ⟨rfl, rfl, h3⟩ := hm
      cases o with
      | none =>
        obtain ⟨n2, el2, q1, q2⟩ := h
        cases q1
        refine ⟨_, _, rfl, avM_sound q2 ?_⟩
        unfold avM
        exact ⟨fun _ => rfl, rfl, rfl, h3⟩
      | some g =>
        obtain ⟨n2, el2, cap, c, q1, q2, q3, q4, q5, q6, q7⟩ := h
        cases q1
        exact ⟨_, _, cap, c, rfl, q2, q3, q4, q5, q6, fun i j hi hj => ⟨avM_sound (q7 i j hi hj).1 (h3 i j hi hj), (q7 i j hi hj).2⟩⟩
    · exact hm.elim
  · exact hm.elim
def outM (ks : List (Option Nat)) : Option (Nat × AV) → Option (Nat × AV) → Prop
  | none, none => True
  | some (i, y), some (i', y') => i' = i ∧ tmM ks y y'
  | _, _ => False
def obM (ks : List (Option Nat)) : OB → OB → Prop
  | _, .dead => True
  | .box t n cells, .box t' n' cells' => t' = t ∧ n' = n ∧ allB (fun i => tmM ks (cells i) (cells' i)) n
  | .arr t sz len els, .arr t' sz' len' els' => t' = t ∧ sz' = sz ∧ len' = len ∧ ∀ i j, i < len → j < sz → avM (els i j) (els' i j)
  | .lrec st pend, .lrec st' pend' => st' = st ∧ pend' = pend
  | .rows t sz len col te ssz els out, .rows t' sz' len' col' te' ssz' els' out' => ((t' = t ∧ sz' = sz ∧ len' = len) ∧ col' = col ∧ te' = te ∧ ssz' = ssz) ∧ outM ks out out' ∧ (∀ i, i < len → rowM (els i col) (els' i col)) ∧
      ∀ i j, i < len → j < sz → j ≠ col → avM (els i j) (els' i j)
  | .app te ssz len els, .app te' ssz' len' els' => te' = te ∧ ssz' = ssz ∧ len' = len ∧ ∀ i j, i < len → j < ssz → avM (els i j) (els' i j)
  | _, _ => False
def nilM : OB → Prop
  | .dead => True
  | .arr _ _ len _ => len = 0
  | .rows _ _ len _ _ _ _ out => len = 0 ∧ out = none
  | _ => False
def isDead : OB → Bool
  | .dead => true
  | _ => false
def distinct : List (Option Nat) → Bool
  | [] => true
  | some k :: ks => !ks.contains (some k) && distinct ks
  | none :: ks => distinct ks
def inB (nb : Nat) : List (Option Nat) → Bool
  | [] => true
  | some k :: ks => Nat.blt k nb && inB nb ks
  | none :: ks => inB nb ks
def lk (vars : List (Nat × AV)) (t : Nat) : AV :=
  match vars with
  | [] => .junk
  | (t', x) :: vs => bif Nat.beq t' t then x else lk vs t
def lkB (blks : List (Nat × OB)) (d : Nat → OB) (t : Nat) : OB :=
  match blks with
  | [] => d t
  | (t', x) :: vs => bif Nat.beq t' t then x else lkB vs d t
def guess1 (σ : Sig) (i : Nat) : List (Nat × AV) → Option Nat
  | [] => some i
  | (t, x) :: vs =>
    match x.top with
    | some k => bif Nat.beq k i then (σ.ev (.tmp t)).strip.top else guess1 σ i vs
    | none => guess1 σ i vs
def guess0 (σ : Sig) (i : Nat) : List (Nat × AV) → Option Nat
  | [] => none
  | (t, x) :: vs =>
    match x.top with
    | some k => bif Nat.beq k i then (σ.ev (.tmp t)).strip.top else guess0 σ i vs
    | none => guess0 σ i vs
def guessBox (σ : Sig) (vars : List (Nat × AV)) (bl : Nat → OB) (i : Nat) : Nat → Option Nat
  | 0 => none
  | t + 1 =>
    match bl t, σ.bl ((guess1 σ t vars).getD t) with
    | .box _ n cs, .box _ _ cs' =>
      match (List.range n).findSome? (fun j => match (cs j).top with | some k => bif Nat.beq k i then (cs' j).strip.top else none | none => none) with
      | some k => some k
      | none => guessBox σ vars bl i t
    | _, _ => guessBox σ vars bl i t
def aliveO (σ : Sig) : Option Nat → Option Nat
  | some k => bif Nat.blt k σ.nb && !isDead (σ.bl k) then some k else none
  | none => none
def guess (σ : Sig) (vars : List (Nat × AV)) (bl : Nat → OB) (nb : Nat) : List (Option Nat) :=
  (List.range nb).map fun i => bif isDead (bl i) then none else
    match aliveO σ (guess0 σ i vars) with
    | some k => some k
    | none =>
      match aliveO σ (guessBox σ vars bl i nb) with
      | some k => some k
      | none => aliveO σ (guess1 σ i vars)
def allL {α : Type} (p : α → Prop) : List α → Prop
  | [] => True
  | [x] => p x
  | x :: xs => p x ∧ allL p xs
theorem allL_mem {α : Type} {p : α → Prop} {l : List α} (h : allL p l) : ∀ x ∈ l, p x := by
  induction l with
  | nil => intro x hx; cases hx
  | cons y ys ih =>
    cases ys with
    | nil => intro x hx; rw [List.mem_singleton.1 hx]; exact h
    | cons z zs =>
      intro x hx
      rcases List.mem_cons.1 hx with e | e
      · rw [e]; exact h.1
      · exact ih h.2 x e
def headSig (n nb : Nat) (vars : List (Nat × AV)) (bl : Nat → OB) : Sig := { n := n, tm := lk vars, nb := nb, bl := bl }
def keepB (nb0 : Nat) (ks : List (Option Nat)) (bl : Nat → OB) : Bool :=
  (List.range nb0).all fun i => isDead (bl i) || match ks[i]? with
    | some (some k) => Nat.beq k i
    | _ => false
def forceL {α : Sort u} : List (Option Nat) → (List (Option Nat) → α) → α
  | [], k => k []
  | none :: l, k => forceL l fun l' => k (none :: l')
  | some n :: l, k => forceN n fun m => forceL l fun l' => k (some m :: l')
theorem forceL_eq {α : Sort u} : ∀ (l : List (Option Nat)) (k : List (Option Nat) → α), forceL l k = k l
  | [], _ => rfl
  | none :: l, k => forceL_eq l _
  | some n :: l, k => by
    unfold forceL
    rw [forceN_eq, forceL_eq]
def matchK (ks : List (Option Nat)) (n nb0 : Nat) (σ : Sig) (vars : List (Nat × AV)) (bl : Nat → OB) (nb : Nat) (more : Prop) : Prop :=
  match (Nat.beq σ.n n && (Nat.ble nb0 nb && keepB nb0 ks bl)) && (distinct ks && inB σ.nb ks) with
  | true => (more ∧ allL (fun p : Nat × AV => tmM ks (σ.ev (.tmp p.1)) p.2) vars) ∧
      allB (fun i => match ks[i]? with
        | some (some k) => obM ks (σ.bl k) (bl i)
        | _ => nilM (bl i)) nb
  | false => False
def matchV (n nb0 : Nat) (σ : Sig) (vars : List (Nat × AV)) (bl : Nat → OB) (nb : Nat) (more : Prop) : Prop :=
  forceL (guess σ vars bl nb) fun ks => matchK ks n nb0 σ vars bl nb more
section
variable {E : Env} {w : World} {S : Nat → Prop} {ρ : Nat → Own}
theorem invK_spec {ks : List (Option Nat)} {i0 k i : Nat} (h : invK ks i0 k = some i) : i0 ≤ i ∧ ks[i - i0]? = some (some k) := by
  induction ks generalizing i0 with
  | nil => cases h
  | cons o os ih =>
    simp only [invK] at h
    have step : invK os (i0 + 1) k = some i → i0 ≤ i ∧ (o :: os)[i - i0]? = some (some k) := fun h => by
      obtain ⟨h1, h2⟩ := ih h
      refine ⟨by omega, ?_⟩
      rw [show i - i0 = (i - (i0 + 1)) + 1 by omega, List.getElem?_cons_succ]
      exact h2
    split at h
    · rename_i k'
      cases hb : Nat.beq k' k with
      | true =>
        rw [hb] at h
        cases h
        refine ⟨Nat.le_refl _, ?_⟩
        rw [Nat.eq_of_beq_eq_true hb]
        simp
      | false => rw [hb] at h; exact step h
    · exact step h
theorem distinct_spec {ks : List (Option Nat)} (h : distinct ks = true) : ∀ (i j k : Nat), ks[i]? = some (some k) → ks[j]? = some (some k) → i = j := by
  induction ks with
  | nil => intro i j k hi; simp at hi
  | cons o os ih =>
    intro i j k hi hj
    have hos : distinct os = true := by cases o with
      | none => exact h
      | some k => simp only [distinct, Bool.and_eq_true] at h; exact h.2
    have hne : o = some k → ∀ m, os[m]? ≠ some (some k) := fun e m hm => by
      subst e
      simp only [distinct, Bool.and_eq_true, Bool.not_eq_true', List.contains_eq_mem, decide_eq_false_iff_not] at h
      exact h.1 (List.mem_of_getElem? hm)
    cases i with
    | zero => cases j with
      | zero => rfl
      | succ j => simp at hi hj; exact (hne hi j hj).elim
    | succ i => cases j with
      | zero => simp at hi hj; exact (hne hj i hi).elim
      | succ j => simp at hi hj; rw [ih hos i j k hi hj]
theorem inB_spec {ks : List (Option Nat)} {nb : Nat} (h : inB nb ks = true) : ∀ k, some k ∈ ks → k < nb := by
  induction ks with
  | nil => intro k hk; cases hk
  | cons o os ih =>
    intro k hk
    cases o with
    | none =>
      rcases List.mem_cons.1 hk with e | e
      · cases e
      · exact ih h k e
    | some k' =>
      simp only [inB, Bool.and_eq_true] at h
      rcases List.mem_cons.1 hk with e | e
      · cases e; exact Nat.le_of_ble_eq_true h.1
      · exact ih h.2 k e
def rho' (ks : List (Option Nat)) (bl : Nat → OB) (ρ : Nat → Own) (nb i : Nat) : Own :=
  if i < nb then
    match bl i, ks[i]? with
    | .dead, _ => .dead
    | _, some (some k) => ρ k
    | .arr _ sz _ _, _ => .nila sz
    | .rows _ sz _ _ _ _ _ _, _ => .nila sz
    | _, _ => .dead
  else .none
theorem guess_length (σ : Sig) (vars : List (Nat × AV)) (bl : Nat → OB) (nb : Nat) : (guess σ vars bl nb).length = nb := by simp [guess]
theorem tmM_rel {ρ' : Nat → Own} {ks : List (Option Nat)} {x y : AV} {v : Value} (hi : ∀ k i, invK ks 0 k = some i → ρ' i = ρ k ∨ ρ' i = .dead)
    (hn : ∀ i, ks[i]? = some none → ∃ sz, ρ' i = .nila sz ∨ ρ' i = .dead) (hx : Rel w S ρ x v) (h : tmM ks x y) : Rel w S ρ' y v := by
  unfold tmM at h
  split at h
  · rename_i i o l
    obtain ⟨h1, rfl, rfl⟩ := h
    cases hx
    obtain ⟨sz, e | e⟩ := hn i h1
    · exact .nsn sz none e
    · exact .dns e ⟨_, _, rfl⟩
  · rename_i f sz' len els i o l
    obtain ⟨h1, rfl, rfl, rfl, rfl⟩ := h
    cases hx with
    | xl o cap cvs hle hm hf hc hr =>
      obtain rfl : cap = 0 := hf rfl
      obtain ⟨sz, e | e⟩ := hn i h1
      · exact .nsn sz o e
      · exact .dns e ⟨_, _, rfl⟩
  · exact avM_sound (ren_rel hi hx) h
end
end Go.Sx
