/- Memory: new blocks, stores, giving up; calls of functions that change nothing that was there. -/
import Derived.Test.YtojonobehnbeiaaGreatDoorSxF
import Derived.Great.FillDense
namespace Go.Sx
open Go Go.RowKit
section
variable {P : Program} {E : Env} {nb : Nat} {bl : Nat → OB} {S : Nat → Prop} {ρ : Nat → Own} {w : World}
theorem RowOK.blk_lt {te : TypeId} {ssz : Nat} {x : AV} {v : Value} {g : Nat} (h : RowOK w S te ssz x v (some g)) : g < w.heap.size := by
  obtain ⟨_, _, _, c, _, _, h3, _⟩ := h
  exact (Array.getElem?_eq_some_iff.1 h3).1
theorem ColOK.blk_lt {te : TypeId} {ssz : Nat} {x : AV} {v : Value} {g i : Nat} {out : Option (Nat × AV)} (h : ColOK w S ρ te ssz x out i v (some g)) : g < w.heap.size := by
  cases out with
  | none => exact RowOK.blk_lt h
  | some p =>
    by_cases e : i = p.1
    · have := (h.1 e).1; cases this
    · exact (h.2 e).blk_lt
theorem BOK.blk_lt {B : OB} {o : Own} {g : Nat} (h : BOK w S ρ B o) (hg : o.has g) : g < w.heap.size := by
  cases B <;> cases o <;> simp only [Own.has] at hg <;> first | (exact hg.elim; done) | exact h.elim | skip
  case rows.rows =>
    obtain ⟨_, e2, _, _, _, h4, _, _, c, h7, _, h9⟩ := h
    rcases hg with rfl | ⟨i, hi⟩
    · exact (Array.getElem?_eq_some_iff.1 h7).1
    · have hlt := Nat.lt_of_not_le fun hle => by rw [h4 i hle] at hi; cases hi
      have := (h9 i hlt).2.1
      rw [hi] at this
      exact this.blk_lt
  case app.app => subst hg; exact RowOK.blk_lt h
  all_goals
    subst hg
    first
      | (obtain ⟨c, h1, _⟩ := h; exact (Array.getElem?_eq_some_iff.1 h1).1)
      | (obtain ⟨_, _, _, _, c, h1, _⟩ := h; exact (Array.getElem?_eq_some_iff.1 h1).1)
      | exact (Array.getElem?_eq_some_iff.1 h).1
theorem Mem.blk_lt (h : Mem E nb bl S ρ w) {k g : Nat} (hg : (ρ k).has g) : g < w.heap.size := by
  rcases h.at k with e | e
  · rw [e] at hg; exact hg.elim
  · exact e.blk_lt hg
theorem alloc_heap_old (w : World) (o : Obj) {b : Nat} (h : b < w.heap.size) : (w.alloc o).heap[b]? = w.heap[b]? := heap_alloc_old w o h
theorem Mem.adopts (h : Mem E nb bl S ρ w) {w' : World} {Y : Nat → Prop} {B : OB} {o : Own} (ho : ∀ g', o.has g' → Y g')
    (hw : ∀ b, b < w.heap.size → ¬ Y b → w'.heap[b]? = w.heap[b]?) (hsz : w.heap.size ≤ w'.heap.size) (e1 : w'.os = w.os) (e2 : w'.tape = w.tape) (e3 : w'.output = w.output) (e5 : w.drawn ≤ w'.drawn)
    (hg1 : ∀ g, Y g → ¬ S g) (hg2 : ∀ g, Y g → ∀ k, ¬ (ρ k).has g) (hg3 : ∀ g, Y g → E.w0.heap.size ≤ g ∨ E.X g) (hb0 : ∀ g base cap sz L, o = .arr g base cap sz L → base = 0)
    (hB : BOK w' S (upd ρ nb o) B o) :
    Mem E (nb + 1) (upd bl nb B) S (upd ρ nb o) w' ∧ OwnLe ρ (upd ρ nb o) ∧ ∀ b, S b → S b ∧ w'.heap[b]? = w.heap[b]? := by
  have hle : OwnLe ρ (upd ρ nb o) := fun k => by
    by_cases e : k = nb
    · subst e; exact .inr (.inr (h.hi k (Nat.le_refl _)))
    · rw [upd_other _ _ e]; exact .inl (Own.like_refl _)
  have hS : ∀ b, S b → S b ∧ w'.heap[b]? = w.heap[b]? := fun b hb => ⟨hb, hw b (h.sb b hb) fun e => hg1 b e hb⟩
  refine ⟨⟨?_, ?_, h.sup, h.sub, ?_, ?_, ?_, ?_, ?_, ?_, Nat.le_succ_of_le h.nbz, fun k hk => (by rw [upd_other _ _ (Nat.ne_of_lt (Nat.lt_of_lt_of_le hk h.nbz))]; exact h.ole k hk)⟩, hle, hS⟩
  · refine h.fr.trans (fun k hk hx => hw k (Nat.lt_of_lt_of_le hk h.fr.size) fun e => ?_) e1 e2 e3 hsz e5
    rcases hg3 _ e with e | e
    · omega
    · exact hx e
  · intro b hb; exact Nat.lt_of_lt_of_le (h.sb b hb) hsz
  · intro b o' hbo
    obtain ⟨h1, h2⟩ := h.glob b o' hbo
    exact ⟨h1, (hS b h1).2.trans h2⟩
  · intro k hk
    rw [upd_other _ _ (by omega)]
    exact h.hi k (by omega)
  · intro k hk
    by_cases e : k = nb
    · subst e; rw [upd_same, upd_same]; exact hB
    · rw [upd_other _ _ e, upd_other _ _ e]
      exact (h.ok k (by omega)).mono hS hle fun g' hg' => hw g' (h.blk_lt hg') fun e' => hg2 g' e' k hg'
  · intro k g' hg'
    by_cases e : k = nb
    · subst e
      rw [upd_same] at hg'
      exact ⟨hg1 _ (ho g' hg'), hg3 _ (ho g' hg')⟩
    · rw [upd_other _ _ e] at hg'
      exact h.own k g' hg'
  · intro k k' g' hg hg'
    by_cases e : k = nb <;> by_cases e' : k' = nb
    · rw [e, e']
    · subst e
      rw [upd_same] at hg
      rw [upd_other _ _ e'] at hg'
      exact absurd hg' (hg2 _ (ho g' hg) k')
    · subst e'
      rw [upd_same] at hg'
      rw [upd_other _ _ e] at hg
      exact absurd hg (hg2 _ (ho g' hg') k)
    · rw [upd_other _ _ e] at hg
      rw [upd_other _ _ e'] at hg'
      exact h.dis k k' g' hg hg'
  · intro k g' base cap sz L hk
    by_cases e : k = nb
    · subst e; rw [upd_same] at hk; exact hb0 _ _ _ _ _ hk
    · rw [upd_other _ _ e] at hk; exact h.b0 _ _ _ _ _ _ hk
theorem Mem.adopt (h : Mem E nb bl S ρ w) {w' : World} {g : Nat} {B : OB} {o : Own} (ho : ∀ g', o.has g' → g' = g)
    (hw : ∀ b, b < w.heap.size → b ≠ g → w'.heap[b]? = w.heap[b]?) (hsz : w.heap.size ≤ w'.heap.size) (e1 : w'.os = w.os) (e2 : w'.tape = w.tape) (e3 : w'.output = w.output) (e5 : w.drawn ≤ w'.drawn)
    (hg1 : ¬ S g) (hg2 : ∀ k, ¬ (ρ k).has g) (hg3 : E.w0.heap.size ≤ g ∨ E.X g) (hb0 : ∀ g base cap sz L, o = .arr g base cap sz L → base = 0)
    (hB : BOK w' S (upd ρ nb o) B o) :
    Mem E (nb + 1) (upd bl nb B) S (upd ρ nb o) w' ∧ OwnLe ρ (upd ρ nb o) ∧ ∀ b, S b → S b ∧ w'.heap[b]? = w.heap[b]? :=
  h.adopts (Y := fun b => b = g) ho hw hsz e1 e2 e3 e5 (fun _ e => e ▸ hg1) (fun _ e => e ▸ hg2) (fun _ e => e ▸ hg3) hb0 hB
theorem Mem.allocOwn (h : Mem E nb bl S ρ w) {c : Array Value} {t : TypeId} {B : OB} {o : Own} (ho : ∀ g', o.has g' → g' = w.heap.size)
    (hb0 : ∀ g base cap sz L, o = .arr g base cap sz L → base = 0)
    (hB : BOK (w.alloc (.cells c t)) S (upd ρ nb o) B o) :
    Mem E (nb + 1) (upd bl nb B) S (upd ρ nb o) (w.alloc (.cells c t)) ∧ OwnLe ρ (upd ρ nb o) ∧ ∀ b, S b → S b ∧ (w.alloc (.cells c t)).heap[b]? = w.heap[b]? :=
  h.adopt ho (fun b hb _ => alloc_heap_old w _ hb) (by simp) rfl rfl rfl (Nat.le_refl _) (fun hs => Nat.lt_irrefl _ (h.sb _ hs)) (fun k hk => Nat.lt_irrefl _ (h.blk_lt hk)) (.inl h.fr.size) hb0 hB
theorem Mem.grow (h : Mem E nb bl S ρ w) {w' : World} (hb : Blw w w') :
    Mem E nb bl (fun b => S b ∨ (w.heap.size ≤ b ∧ b < w'.heap.size)) ρ w' ∧
      ∀ b, S b → (S b ∨ (w.heap.size ≤ b ∧ b < w'.heap.size)) ∧ w'.heap[b]? = w.heap[b]? := by
  have hS : ∀ b, S b → (S b ∨ (w.heap.size ≤ b ∧ b < w'.heap.size)) ∧ w'.heap[b]? = w.heap[b]? := fun b hb' => ⟨.inl hb', hb.block b (h.sb b hb')⟩
  refine ⟨⟨?_, ?_, fun b hs => .inl (h.sup b hs), ?_, ?_, h.hi, ?_, ?_, h.dis, h.b0, h.nbz, h.ole⟩, hS⟩
  · exact h.fr.trans (fun k hk _ => hb.block k (Nat.lt_of_lt_of_le hk h.fr.size)) hb.os hb.tape hb.output hb.size hb.drawn
  · rintro b (hs | hs)
    · exact Nat.lt_of_lt_of_le (h.sb b hs) hb.size
    · exact hs.2
  · rintro b (hs | hs)
    · exact h.sub b hs
    · exact .inr (.inr (Nat.le_trans h.fr.size hs.1))
  · intro b o hbo
    obtain ⟨h1, h2⟩ := h.glob b o hbo
    exact ⟨.inl h1, (hS b h1).2.trans h2⟩
  · intro k hk
    exact (h.ok k hk).mono hS (OwnLe.refl _) fun g hg => hb.block g (h.blk_lt hg)
  · intro k g hg
    obtain ⟨h1, h2⟩ := h.own k g hg
    refine ⟨fun hs => ?_, h2⟩
    rcases hs with hs | hs
    · exact h1 hs
    · exact absurd (h.blk_lt hg) (by omega)
theorem Mem.growX (h : Mem E nb bl S ρ w) {w' : World} (hb : Blw w w') (g : Nat) :
    Mem E nb bl (fun b => S b ∨ (w.heap.size ≤ b ∧ b < w'.heap.size ∧ b ≠ g)) ρ w' ∧
      ∀ b, S b → (S b ∨ (w.heap.size ≤ b ∧ b < w'.heap.size ∧ b ≠ g)) ∧ w'.heap[b]? = w.heap[b]? := by
  have hS : ∀ b, S b → (S b ∨ (w.heap.size ≤ b ∧ b < w'.heap.size ∧ b ≠ g)) ∧ w'.heap[b]? = w.heap[b]? := fun b hb' => ⟨.inl hb', hb.block b (h.sb b hb')⟩
  refine ⟨⟨?_, ?_, fun b hs => .inl (h.sup b hs), ?_, ?_, h.hi, ?_, ?_, h.dis, h.b0, h.nbz, h.ole⟩, hS⟩
  · exact h.fr.trans (fun k hk _ => hb.block k (Nat.lt_of_lt_of_le hk h.fr.size)) hb.os hb.tape hb.output hb.size hb.drawn
  · rintro b (hs | hs)
    · exact Nat.lt_of_lt_of_le (h.sb b hs) hb.size
    · exact hs.2.1
  · rintro b (hs | hs)
    · exact h.sub b hs
    · exact .inr (.inr (Nat.le_trans h.fr.size hs.1))
  · intro b o hbo
    obtain ⟨h1, h2⟩ := h.glob b o hbo
    exact ⟨.inl h1, (hS b h1).2.trans h2⟩
  · intro k hk
    exact (h.ok k hk).mono hS (OwnLe.refl _) fun g hg => hb.block g (h.blk_lt hg)
  · intro k g hg
    obtain ⟨h1, h2⟩ := h.own k g hg
    refine ⟨fun hs => ?_, h2⟩
    rcases hs with hs | hs
    · exact h1 hs
    · exact absurd (h.blk_lt hg) (by omega)
theorem Mem.write (h : Mem E nb bl S ρ w) {w' : World} {k g : Nat} {B : OB} (hk : k < nb) (hg : (ρ k).has g) (hw : ∀ b, b ≠ g → w'.heap[b]? = w.heap[b]?) (hsz : w'.heap.size = w.heap.size)
    (e1 : w'.os = w.os) (e2 : w'.tape = w.tape) (e3 : w'.output = w.output) (e5 : w.drawn ≤ w'.drawn) (hB : BOK w' S ρ B (ρ k)) :
    Mem E nb (upd bl k B) S ρ w' ∧ ∀ b, S b → S b ∧ w'.heap[b]? = w.heap[b]? := by
  obtain ⟨hn, ho⟩ := h.own k g hg
  have hS : ∀ b, S b → S b ∧ w'.heap[b]? = w.heap[b]? := fun b hb => ⟨hb, hw b fun e => hn (e ▸ hb)⟩
  refine ⟨⟨?_, ?_, h.sup, h.sub, ?_, h.hi, ?_, h.own, h.dis, h.b0, h.nbz, h.ole⟩, hS⟩
  · refine h.fr.trans (fun b hb hx => hw b fun e => ?_) e1 e2 e3 (by omega) e5
    subst e
    rcases ho with ho | ho
    · omega
    · exact hx ho
  · intro b hb; rw [hsz]; exact h.sb b hb
  · intro b o hbo
    obtain ⟨h1, h2⟩ := h.glob b o hbo
    exact ⟨h1, (hS b h1).2.trans h2⟩
  · intro k' hk'
    by_cases e : k' = k
    · subst e; rw [upd_same]; exact hB
    · rw [upd_other _ _ e]
      exact (h.ok k' hk').mono hS (OwnLe.refl _) fun g' hg' => hw g' fun e' => e (h.dis k' k g (e' ▸ hg') hg)
theorem Mem.kill (h : Mem E nb bl S ρ w) (k : Nat) (hk : k < nb) (keep : Bool) :
    Mem E nb (upd bl k .dead) (fun b => S b ∨ (keep = true ∧ (ρ k).has b)) (upd ρ k .dead) w ∧ OwnLe ρ (upd ρ k .dead) ∧
      ∀ b, S b → (S b ∨ (keep = true ∧ (ρ k).has b)) ∧ w.heap[b]? = w.heap[b]? := by
  have hle : OwnLe ρ (upd ρ k .dead) := fun j => by
    by_cases e : j = k
    · subst e; rw [upd_same]; exact .inr (.inl rfl)
    · rw [upd_other _ _ e]; exact .inl (Own.like_refl _)
  have hS : ∀ b, S b → (S b ∨ (keep = true ∧ (ρ k).has b)) ∧ w.heap[b]? = w.heap[b]? := fun b hb => ⟨.inl hb, rfl⟩
  refine ⟨⟨h.fr, ?_, fun b hb => .inl (h.sup b hb), ?_, fun b o hbo => ⟨.inl (h.glob b o hbo).1, (h.glob b o hbo).2⟩, ?_, ?_, ?_, ?_, ?_, h.nbz, fun j hj => ?_⟩, hle, hS⟩
  · rintro b (hb | ⟨_, hb⟩)
    · exact h.sb b hb
    · exact h.blk_lt hb
  · rintro b (hb | ⟨_, hb⟩)
    · exact h.sub b hb
    · rcases (h.own k b hb).2 with e | e
      · exact .inr (.inr e)
      · exact .inr (.inl e)
  · intro j hj
    rw [upd_other _ _ (by omega)]
    exact h.hi j hj
  · intro j hj
    by_cases e : j = k
    · subst e; rw [upd_same, upd_same]; trivial
    · rw [upd_other _ _ e, upd_other _ _ e]
      exact (h.ok j hj).mono hS hle fun _ _ => rfl
  · intro j g hg
    by_cases e : j = k
    · subst e; rw [upd_same] at hg; exact hg.elim
    · rw [upd_other _ _ e] at hg
      obtain ⟨h1, h2⟩ := h.own j g hg
      refine ⟨fun hs => ?_, h2⟩
      rcases hs with hs | ⟨_, hs⟩
      · exact h1 hs
      · exact e (h.dis j k g hg hs)
  · intro j j' g hg hg'
    by_cases e : j = k
    · subst e; rw [upd_same] at hg; exact hg.elim
    · by_cases e' : j' = k
      · subst e'; rw [upd_same] at hg'; exact hg'.elim
      · rw [upd_other _ _ e] at hg
        rw [upd_other _ _ e'] at hg'
        exact h.dis j j' g hg hg'
  · intro j g base cap sz L hj
    by_cases e : j = k
    · subst e; rw [upd_same] at hj; cases hj
    · rw [upd_other _ _ e] at hj; exact h.b0 _ _ _ _ _ _ hj
  · by_cases e : j = k
    · subst e; rw [upd_same]; exact .inr rfl
    · rw [upd_other _ _ e]; exact h.ole j hj
end
def PureCall (P : Program) (G : List (Nat × Obj)) (f : FuncId) (args : List AV) (r : AV) : Prop :=
  (∀ args w, (callFunc f args).run P w = .ok (.enter f args) w) ∧
  ∀ (w : World) (S : Nat → Prop) (vals : List Value), (∀ b, S b → b < w.heap.size) → (∀ b o, (b, o) ∈ G → S b ∧ w.heap[b]? = some o) →
    RelL w S rho0 args vals →
    Calls P f vals.toArray w fun e w' => Blw w w' ∧ ∃ rv, e = .returned rv ∧
      Rel w' (fun b => S b ∨ (w.heap.size ≤ b ∧ b < w'.heap.size)) rho0 r rv
def FreshV (S : Nat → Prop) (w w' : World) (t : TypeId) (sz len : Nat) (els : Nat → Nat → AV) (v : Value) : Prop :=
  (len = 0 ∧ ∃ o, v = .slice o 0 0) ∨
  ∃ g cap c, v = .slice (some ⟨g, 0, none⟩) len cap ∧ w.heap.size ≤ g ∧ w'.heap[g]? = some (.cells c t (0, 0)) ∧ len ≤ cap ∧ cap ≤ maxLen ∧ cap * sz = c.size ∧
    ∀ i j, i < len → j < sz → Rel w' (fun b => S b ∨ (w.heap.size ≤ b ∧ b < w'.heap.size ∧ b ≠ g)) rho0 (els i j) (c.getD (i * sz + j) undef) ∧ (c.getD (i * sz + j) undef).oneCell' = true
def FreshCall (P : Program) (G : List (Nat × Obj)) (f : FuncId) (args : List AV) (t : TypeId) (sz len : Nat) (els : Nat → Nat → AV) : Prop :=
  (∀ args w, (callFunc f args).run P w = .ok (.enter f args) w) ∧
  ∀ (w : World) (S : Nat → Prop) (vals : List Value), (∀ b, S b → b < w.heap.size) → (∀ b o, (b, o) ∈ G → S b ∧ w.heap[b]? = some o) →
    RelL w S rho0 args vals → Calls P f vals.toArray w fun e w' => Blw w w' ∧ ∃ rv, e = .returned rv ∧ FreshV S w w' t sz len els rv
def anyN (f : Nat → Bool) : Nat → Bool
  | 0 => false
  | n + 1 => anyN f n || f n
def AV.hasOwn : AV → Bool
  | .np _ _ | .ns _ _ _ | .ap _ _ _ | .yl _ => true
  | .agg n cs => anyN (fun i => (cs i).hasOwn) n
  | .tup n cs => anyN (fun i => (cs i).hasOwn) n
  | .fn _ nf f nc c => anyN (fun i => (f i).hasOwn) nf || anyN (fun i => (c i).hasOwn) nc
  | .gd _ x => x.hasOwn
  | _ => false
theorem anyN_false {f : Nat → Bool} {n : Nat} (h : anyN f n = false) : ∀ i, i < n → f i = false := by
  induction n with
  | zero => intro i hi; omega
  | succ n ih =>
    simp only [anyN, Bool.or_eq_false_iff] at h
    intro i hi
    by_cases e : i = n
    · subst e; exact h.2
    · exact ih h.1 i (by omega)
theorem Rel.free {w : World} {S : Nat → Prop} {ρ ρ' : Nat → Own} {av : AV} {v : Value} (h : Rel w S ρ av v) (hc : av.hasOwn = false) : Rel w S ρ' av v := by
  induction h generalizing ρ' with
  | v x => exact .v x
  | str l => exact .str l
  | xl o cap cvs hle hm hf hcc hr ih => exact .xl o cap cvs hle hm hf hcc hr
  | xq A cvs hcc hr ih => exact .xq A cvs hcc hr
  | agg vs hn hr ih => exact .agg vs hn fun i hi => ih i hi (anyN_false hc i hi)
  | tup vs hn hr ih => exact .tup vs hn fun i hi => ih i hi (anyN_false hc i hi)
  | fn vs us hn hm hr hs ih1 ih2 =>
    simp only [AV.hasOwn, Bool.or_eq_false_iff] at hc
    exact .fn vs us hn hm (fun i hi => ih1 i hi (anyN_false hc.1 i hi)) (fun i hi => ih2 i hi (anyN_false hc.2 i hi))
  | gd v h h' ih => exact .gd v (fun hg => ih hg hc) h'
  | nb t h => exact .nb t h
  | junk x => exact .junk x
  | _ => cases hc
def AV.scalar : AV → Bool
  | .v _ | .str _ | .nb _ _ => true
  | .tup n cs => !anyN (fun i => !(cs i).scalar) n
  | .agg n cs => !anyN (fun i => !(cs i).scalar) n
  | _ => false
theorem Rel.scal {w w' : World} {S S' : Nat → Prop} {ρ ρ' : Nat → Own} {av : AV} {v : Value} (h : Rel w S ρ av v) (hc : av.scalar = true) : Rel w' S' ρ' av v := by
  induction h with
  | v x => exact .v x
  | str l => exact .str l
  | agg vs hn hr ih =>
    simp only [AV.scalar, Bool.not_eq_true'] at hc
    exact .agg vs hn fun i hi => ih i hi (by simpa using anyN_false hc i hi)
  | nb t h => exact .nb t h
  | tup vs hn hr ih =>
    simp only [AV.scalar, Bool.not_eq_true'] at hc
    exact .tup vs hn fun i hi => ih i hi (by simpa using anyN_false hc i hi)
  | _ => cases hc
def lendCell (bl : Nat → OB) : AV → AV
  | .ns k off len =>
    match bl k with
    | .arr _ sz _ els => .xl false sz len fun i j => els (off + i) j
    | .rows _ sz _ _ _ _ els none => .xl false sz len fun i j => els (off + i) j
    | .app _ sz _ els => bif Nat.beq off 0 then .xl false sz len els else .junk
    | _ => .junk
  | .np _ _ => .junk
  | .ap k i j =>
    match bl k with
    | .arr _ sz _ els => .xq sz (els i) j
    | _ => .junk
  | .agg _ _ | .tup _ _ | .fn _ _ _ _ _ | .gd _ _ | .yl _ => .junk
  | x => x
def lend (bl : Nat → OB) : AV → AV
  | .ns k off len =>
    match bl k with
    | .arr _ sz _ els => .xl false sz len fun i j => els (off + i) j
    | .rows _ sz _ _ _ _ els none => .xl false sz len fun i j => els (off + i) j
    | .app _ sz _ els => bif Nat.beq off 0 then .xl false sz len els else .junk
    | _ => .junk
  | .np k off =>
    match bl k with
    | .box _ n cells => .xq n (fun i => lendCell bl (cells i)) off
    | _ => .junk
  | .ap k i j =>
    match bl k with
    | .arr _ sz _ els => .xq sz (els i) j
    | _ => .junk
  | .agg n cs => .agg n fun i => lend bl (cs i)
  | .tup n cs => .tup n fun i => lend bl (cs i)
  | .fn f nf a nc c => .fn f nf (fun i => lend bl (a i)) nc (fun i => lend bl (c i))
  | .gd g x => .gd g (lend bl x)
  | .yl _ => .junk
  | x => x
end Go.Sx
