/- Memory: new blocks, stores, giving up; calls of functions that change nothing that was there. -/
import Derived.Test.YtgpbohfbhfbelaaGreatDoorSxF
import Derived.Great.FillDense
set_option linter.unusedSimpArgs false
set_option linter.unusedVariables false
namespace Go.Sx
open Go Go.RowKit
section
variable {P : Program} {E : Env} {nb : Nat} {bl : Nat → OB} {S : Nat → Prop} {ρ : Nat → Own} {w : World}
theorem TF.blk_lt {B : OB} {o : Own} {g : Nat} (h : TF w S ρ B o) (hg : o.has g) : g < w.heap.size := by
 cases B <;> cases o <;> simp only [Own.has] at hg <;> first | (exact hg.elim; done) | exact h.elim | skip
 all_goals
  subst hg
  first
   | (obtain ⟨c, h1, _⟩ := h; exact (Array.getElem?_eq_some_iff.1 h1).1)
   | (obtain ⟨_, _, _, _, c, h1, _⟩ := h; exact (Array.getElem?_eq_some_iff.1 h1).1)
   | (obtain ⟨_, h1, _⟩ := h; exact (Array.getElem?_eq_some_iff.1 h1).1)
   | exact (Array.getElem?_eq_some_iff.1 h).1
theorem Mem.blk_lt (h : Mem E nb bl S ρ w) {k g : Nat} (hg : (ρ k).has g) : g < w.heap.size := by
 rcases h.at k with e | e
 ·rw [e] at hg; exact hg.elim
 ·exact e.blk_lt hg
theorem yy (w : World) (o : Obj) {b : Nat} (h : b < w.heap.size) : (w.alloc o).heap[b]? = w.heap[b]? := heap_alloc_old w o h
theorem Mem.adopts (h : Mem E nb bl S ρ w) {w' : World} {Y : Nat → Prop} {B : OB} {o : Own} (ho : ∀ g', o.has g' → Y g')
  (hw : ∀ b, b < w.heap.size → ¬ Y b → w'.heap[b]? = w.heap[b]?) (hsz : w.heap.size ≤ w'.heap.size) (e1 : w'.os = w.os) (e2 : w'.tape = w.tape) (e3 : w'.output = w.output) (e5 : dn w ≤ dn w')
  (hg1 : ∀ g, Y g → ¬ S g) (hg2 : ∀ g, Y g → ∀ k, ¬ (ρ k).has g) (hg3 : ∀ g, Y g → E.w0.heap.size ≤ g ∨ E.X g) (hb0 : ∀ g base cap sz L, o = .arr g base cap sz L → base = 0)
  (hB : TF w' S (upd ρ nb o) B o) :
  Mem E (nb + 1) (upd bl nb B) S (upd ρ nb o) w' ∧ zf ρ (upd ρ nb o) ∧ ∀ b, S b → S b ∧ w'.heap[b]? = w.heap[b]? := by
 have hle : zf ρ (upd ρ nb o) := fun k => by
  by_cases e : k = nb
  ·subst e; exact .inr (.inr (h.hi k (Nat.le_refl _)))
  ·rw [zM _ _ e]; exact .inl (rfl)
 have hS : ∀ b, S b → S b ∧ w'.heap[b]? = w.heap[b]? := fun b hb => ⟨hb, hw b (h.sb b hb) fun e => hg1 b e hb⟩
 refine ⟨⟨?_, ?_, h.sup, h.sub, ?_, ?_, ?_, ?_, ?_, ?_, Nat.le_succ_of_le h.nbz, fun k hk => (by rw [zM _ _ (Nat.ne_of_lt (Nat.lt_of_lt_of_le hk h.nbz))]; exact h.ole k hk)⟩, hle, hS⟩
 ·refine h.fr.trans (fun k hk hx => hw k (Nat.lt_of_lt_of_le hk h.fr.size) fun e => ?_) e1 e2 e3 hsz e5
  grind
 ·intro b hb; exact Nat.lt_of_lt_of_le (h.sb b hb) hsz
 ·intro b o' hbo
  obtain ⟨h1, h2⟩ := h.glob b o' hbo
  simp_all
 ·intro k hk
  rw [zM _ _ (by omega)]
  exact h.hi k (by omega)
 ·intro k hk
  by_cases e : k = nb
  ·subst e; rw [upd_same, upd_same]; exact hB
  ·rw [zM _ _ e, zM _ _ e]
   exact (h.ok k (by omega)).mono hS hle fun g' hg' => hw g' (h.blk_lt hg') fun e' => hg2 g' e' k hg'
 ·intro k g' hg'
  by_cases e : k = nb
  ·subst e
   rw [upd_same] at hg'
   simp_all
  ·rw [zM _ _ e] at hg'
   exact h.own k g' hg'
 ·intro k k' g' hg hg'
  by_cases e : k = nb <;> by_cases e' : k' = nb
  ·rw [e, e']
  ·subst e
   rw [upd_same] at hg
   rw [zM _ _ e'] at hg'
   simp_all
  ·subst e'
   rw [upd_same] at hg'
   rw [zM _ _ e] at hg
   simp_all
  ·rw [zM _ _ e] at hg
   rw [zM _ _ e'] at hg'
   exact h.dis k k' g' hg hg'
 ·intro k g' base cap sz L hk
  by_cases e : k = nb
  ·subst e; rw [upd_same] at hk; exact hb0 _ _ _ _ _ hk
  ·rw [zM _ _ e] at hk; exact h.b0 _ _ _ _ _ _ hk
theorem Mem.adopt (h : Mem E nb bl S ρ w) {w' : World} {g : Nat} {B : OB} {o : Own} (ho : ∀ g', o.has g' → g' = g)
  (hw : ∀ b, b < w.heap.size → b ≠ g → w'.heap[b]? = w.heap[b]?) (hsz : w.heap.size ≤ w'.heap.size) (e1 : w'.os = w.os) (e2 : w'.tape = w.tape) (e3 : w'.output = w.output) (e5 : dn w ≤ dn w')
  (hg1 : ¬ S g) (hg2 : ∀ k, ¬ (ρ k).has g) (hg3 : E.w0.heap.size ≤ g ∨ E.X g) (hb0 : ∀ g base cap sz L, o = .arr g base cap sz L → base = 0)
  (hB : TF w' S (upd ρ nb o) B o) :
  Mem E (nb + 1) (upd bl nb B) S (upd ρ nb o) w' ∧ zf ρ (upd ρ nb o) ∧ ∀ b, S b → S b ∧ w'.heap[b]? = w.heap[b]? :=
 h.adopts (Y := fun b => b = g) ho hw hsz e1 e2 e3 e5 (fun _ e => e ▸ hg1) (fun _ e => e ▸ hg2) (fun _ e => e ▸ hg3) hb0 hB
theorem Mem.allocOwn (h : Mem E nb bl S ρ w) {c : Array Value} {t : TypeId} {B : OB} {o : Own} (ho : ∀ g', o.has g' → g' = w.heap.size)
  (hb0 : ∀ g base cap sz L, o = .arr g base cap sz L → base = 0)
  (hB : TF (w.alloc (.cells c t)) S (upd ρ nb o) B o) :
  Mem E (nb + 1) (upd bl nb B) S (upd ρ nb o) (w.alloc (.cells c t)) ∧ zf ρ (upd ρ nb o) ∧ ∀ b, S b → S b ∧ (w.alloc (.cells c t)).heap[b]? = w.heap[b]? :=
 h.adopt ho (fun b hb _ => yy w _ hb) (by simp) rfl rfl rfl (Nat.le_refl _) (fun hs => Nat.lt_irrefl _ (h.sb _ hs)) (fun k hk => Nat.lt_irrefl _ (h.blk_lt hk)) (.inl h.fr.size) hb0 hB
theorem Mem.grow (h : Mem E nb bl S ρ w) {w' : World} (hb : IC w w') :
  Mem E nb bl (fun b => S b ∨ (w.heap.size ≤ b ∧ b < w'.heap.size)) ρ w' ∧
   ∀ b, S b → (S b ∨ (w.heap.size ≤ b ∧ b < w'.heap.size)) ∧ w'.heap[b]? = w.heap[b]? := by
 have hS : ∀ b, S b → (S b ∨ (w.heap.size ≤ b ∧ b < w'.heap.size)) ∧ w'.heap[b]? = w.heap[b]? := fun b hb' => ⟨.inl hb', hb.block b (h.sb b hb')⟩
 refine ⟨⟨?_, ?_, fun b hs => .inl (h.sup b hs), ?_, ?_, h.hi, ?_, ?_, h.dis, h.b0, h.nbz, h.ole⟩, hS⟩
 ·exact h.fr.trans (fun k hk _ => hb.block k (Nat.lt_of_lt_of_le hk h.fr.size)) hb.os hb.tape hb.output hb.size hb.drawn
 ·rintro b (hs | hs)
  ·exact Nat.lt_of_lt_of_le (h.sb b hs) hb.size
  ·exact hs.2
 ·rintro b (hs | hs)
  ·exact h.sub b hs
  ·exact .inr (.inr (Nat.le_trans h.fr.size hs.1))
 ·intro b o hbo
  obtain ⟨h1, h2⟩ := h.glob b o hbo
  simp_all
 ·intro k hk
  exact (h.ok k hk).mono hS (zf.refl _) fun g hg => hb.block g (h.blk_lt hg)
 ·intro k g hg
  obtain ⟨h1, h2⟩ := h.own k g hg
  refine ⟨fun hs => ?_, h2⟩
  rcases hs with hs | hs
  ·exact h1 hs
  ·exact absurd (h.blk_lt hg) (by omega)
theorem Mem.growX (h : Mem E nb bl S ρ w) {w' : World} (hb : IC w w') (g : Nat) :
  Mem E nb bl (fun b => S b ∨ (w.heap.size ≤ b ∧ b < w'.heap.size ∧ b ≠ g)) ρ w' ∧
   ∀ b, S b → (S b ∨ (w.heap.size ≤ b ∧ b < w'.heap.size ∧ b ≠ g)) ∧ w'.heap[b]? = w.heap[b]? := by
 have hS : ∀ b, S b → (S b ∨ (w.heap.size ≤ b ∧ b < w'.heap.size ∧ b ≠ g)) ∧ w'.heap[b]? = w.heap[b]? := fun b hb' => ⟨.inl hb', hb.block b (h.sb b hb')⟩
 refine ⟨⟨?_, ?_, fun b hs => .inl (h.sup b hs), ?_, ?_, h.hi, ?_, ?_, h.dis, h.b0, h.nbz, h.ole⟩, hS⟩
 ·exact h.fr.trans (fun k hk _ => hb.block k (Nat.lt_of_lt_of_le hk h.fr.size)) hb.os hb.tape hb.output hb.size hb.drawn
 ·rintro b (hs | hs)
  ·exact Nat.lt_of_lt_of_le (h.sb b hs) hb.size
  omega
 ·rintro b (hs | hs)
  ·exact h.sub b hs
  ·exact .inr (.inr (Nat.le_trans h.fr.size hs.1))
 ·intro b o hbo
  obtain ⟨h1, h2⟩ := h.glob b o hbo
  simp_all
 ·intro k hk
  exact (h.ok k hk).mono hS (zf.refl _) fun g hg => hb.block g (h.blk_lt hg)
 ·intro k g hg
  obtain ⟨h1, h2⟩ := h.own k g hg
  refine ⟨fun hs => ?_, h2⟩
  rcases hs with hs | hs
  ·exact h1 hs
  ·exact absurd (h.blk_lt hg) (by omega)
theorem Mem.write (h : Mem E nb bl S ρ w) {w' : World} {k g : Nat} {B : OB} (hk : k < nb) (hg : (ρ k).has g) (hw : ∀ b, b ≠ g → w'.heap[b]? = w.heap[b]?) (hsz : w'.heap.size = w.heap.size)
  (e1 : w'.os = w.os) (e2 : w'.tape = w.tape) (e3 : w'.output = w.output) (e5 : dn w ≤ dn w') (hB : TF w' S ρ B (ρ k)) :
  Mem E nb (upd bl k B) S ρ w' ∧ ∀ b, S b → S b ∧ w'.heap[b]? = w.heap[b]? := by
 obtain ⟨hn, ho⟩ := h.own k g hg
 have hS : ∀ b, S b → S b ∧ w'.heap[b]? = w.heap[b]? := fun b hb => ⟨hb, hw b fun e => hn (e ▸ hb)⟩
 refine ⟨⟨?_, ?_, h.sup, h.sub, ?_, h.hi, ?_, h.own, h.dis, h.b0, h.nbz, h.ole⟩, hS⟩
 ·refine h.fr.trans (fun b hb hx => hw b fun e => ?_) e1 e2 e3 (by omega) e5
  grind
 ·intro b hb; rw [hsz]; exact h.sb b hb
 ·intro b o hbo
  obtain ⟨h1, h2⟩ := h.glob b o hbo
  simp_all
 ·intro k' hk'
  by_cases e : k' = k
  ·subst e; rw [upd_same]; exact hB
  ·rw [zM _ _ e]
   exact (h.ok k' hk').mono hS (zf.refl _) fun g' hg' => hw g' fun e' => e (h.dis k' k g (e' ▸ hg') hg)
theorem Mem.kill (h : Mem E nb bl S ρ w) (k : Nat) (hk : k < nb) (keep : Bool) :
  Mem E nb (upd bl k .dead) (fun b => S b ∨ (keep = true ∧ (ρ k).has b)) (upd ρ k .dead) w ∧ zf ρ (upd ρ k .dead) ∧
   ∀ b, S b → (S b ∨ (keep = true ∧ (ρ k).has b)) ∧ w.heap[b]? = w.heap[b]? := by
 have hle : zf ρ (upd ρ k .dead) := fun j => by
  by_cases e : j = k
  ·subst e; rw [upd_same]; exact .inr (.inl rfl)
  ·rw [zM _ _ e]; exact .inl (rfl)
 have hS : ∀ b, S b → (S b ∨ (keep = true ∧ (ρ k).has b)) ∧ w.heap[b]? = w.heap[b]? := fun b hb => ⟨.inl hb, rfl⟩
 refine ⟨⟨h.fr, ?_, fun b hb => .inl (h.sup b hb), ?_, fun b o hbo => ⟨.inl (h.glob b o hbo).1, (h.glob b o hbo).2⟩, ?_, ?_, ?_, ?_, ?_, h.nbz, fun j hj => ?_⟩, hle, hS⟩
 ·rintro b (hb | ⟨_, hb⟩)
  ·exact h.sb b hb
  ·exact h.blk_lt hb
 ·rintro b (hb | ⟨_, hb⟩)
  ·exact h.sub b hb
  ·rcases (h.own k b hb).2 with e | e
   all_goals simp_all
 ·intro j hj
  rw [zM _ _ (by omega)]
  exact h.hi j hj
 ·intro j hj
  by_cases e : j = k
  ·subst e; rw [upd_same, upd_same]; trivial
  ·rw [zM _ _ e, zM _ _ e]
   exact (h.ok j hj).mono hS hle fun _ _ => rfl
 ·intro j g hg
  by_cases e : j = k
  ·subst e; rw [upd_same] at hg; exact hg.elim
  ·rw [zM _ _ e] at hg
   obtain ⟨h1, h2⟩ := h.own j g hg
   refine ⟨fun hs => ?_, h2⟩
   rcases hs with hs | ⟨_, hs⟩
   ·exact h1 hs
   ·exact e (h.dis j k g hg hs)
 ·intro j j' g hg hg'
  by_cases e : j = k
  ·subst e; rw [upd_same] at hg; exact hg.elim
  ·by_cases e' : j' = k
   ·subst e'; rw [upd_same] at hg'; exact hg'.elim
   ·rw [zM _ _ e] at hg
    rw [zM _ _ e'] at hg'
    exact h.dis j j' g hg hg'
 ·intro j g base cap sz L hj
  by_cases e : j = k
  ·subst e; rw [upd_same] at hj; cases hj
  ·rw [zM _ _ e] at hj; exact h.b0 _ _ _ _ _ _ hj
 ·by_cases e : j = k
  ·subst e; rw [upd_same]; exact .inr rfl
  ·rw [zM _ _ e]; exact h.ole j hj
end
def zT (P : Program) (G : List (Nat × Obj)) (f : FuncId) (args : List AV) (r : AV) : Prop :=
 (∀ args w, (callFunc f args).run P w = .ok (.enter f args) w) ∧
 ∀ (w : World) (S : Nat → Prop) (vals : List Value), (∀ b, S b → b < w.heap.size) → (∀ b o, (b, o) ∈ G → S b ∧ w.heap[b]? = some o) →
  ZI w S yi args vals →
  Calls P f vals.toArray w fun e w' => IC w w' ∧ ∃ rv, e = .returned rv ∧
   zF w' (fun b => S b ∨ (w.heap.size ≤ b ∧ b < w'.heap.size)) yi r rv
def l9 (S : Nat → Prop) (w w' : World) (t : TypeId) (sz len : Nat) (els : Nat → Nat → AV) (v : Value) : Prop :=
 (len = 0 ∧ ∃ o, v = .slice o 0 0) ∨
 ∃ g cap c, v = .slice (some ⟨g, 0, none⟩) len cap ∧ w.heap.size ≤ g ∧ w'.heap[g]? = some (.cells c t (0, 0)) ∧ len ≤ cap ∧ cap ≤ maxLen ∧ cap * sz = c.size ∧
  ∀ i j, i < len → j < sz → zF w' (fun b => S b ∨ (w.heap.size ≤ b ∧ b < w'.heap.size ∧ b ≠ g)) yi (els i j) (c.getD (i * sz + j) undef) ∧ (c.getD (i * sz + j) undef).oneCell' = true
def yX (P : Program) (G : List (Nat × Obj)) (f : FuncId) (args : List AV) (t : TypeId) (sz len : Nat) (els : Nat → Nat → AV) : Prop :=
 (∀ args w, (callFunc f args).run P w = .ok (.enter f args) w) ∧
 ∀ (w : World) (S : Nat → Prop) (vals : List Value), (∀ b, S b → b < w.heap.size) → (∀ b o, (b, o) ∈ G → S b ∧ w.heap[b]? = some o) →
  ZI w S yi args vals → Calls P f vals.toArray w fun e w' => IC w w' ∧ ∃ rv, e = .returned rv ∧ l9 S w w' t sz len els rv
def Tg (f : Nat → Bool) : Nat → Bool
 | 0 => false
 | n + 1 => Tg f n || f n
def AV.hasOwn : AV → Bool
 | .np _ _ | .ns _ _ _ | .ap _ _ _ | .yl _ | .ps _ _ | .mp _ => true
 | .agg n cs => Tg (fun i => (cs i).hasOwn) n
 | .tup n cs => Tg (fun i => (cs i).hasOwn) n
 | .fn _ nf f nc c => Tg (fun i => (f i).hasOwn) nf || Tg (fun i => (c i).hasOwn) nc
 | .gd _ x => x.hasOwn
 | _ => false
theorem Y4 {f : Nat → Bool} {n : Nat} (h : Tg f n = false) : ∀ i, i < n → f i = false := by
 induction n with
 | zero => omega
 | succ n ih =>
  simp only [Tg, Bool.or_eq_false_iff] at h
  grind
theorem zF.free {w : World} {S : Nat → Prop} {ρ ρ' : Nat → Own} {av : AV} {v : Value} (h : zF w S ρ av v) (hc : av.hasOwn = false) : zF w S ρ' av v := by
 induction h generalizing ρ' with
 | v x => exact .v x
 | str l => exact .str l
 | xl o cap cvs hle hm hf hcc hr ih => exact .xl o cap cvs hle hm hf hcc hr
 | xq A cvs hcc hr ih => exact .xq A cvs hcc hr
 | agg vs hn hr ih => exact .agg vs hn fun i hi => ih i hi (Y4 hc i hi)
 | tup vs hn hr ih => exact .tup vs hn fun i hi => ih i hi (Y4 hc i hi)
 | fn vs us hn hm hr hs ih1 ih2 =>
  simp only [AV.hasOwn, Bool.or_eq_false_iff] at hc
  exact .fn vs us hn hm (fun i hi => ih1 i hi (Y4 hc.1 i hi)) (fun i hi => ih2 i hi (Y4 hc.2 i hi))
 | gd v h h' ih => exact .gd v (fun hg => ih hg hc) h'
 | nb t h => exact .nb t h
 | er x h1 h2 => exact .er x h1 h2
 | junk x => exact .junk x
 | _ => cases hc
def AV.scalar : AV → Bool
 | .v _ | .str _ | .nb _ _ | .er _ => true
 | .tup n cs => !Tg (fun i => !(cs i).scalar) n
 | .agg n cs => !Tg (fun i => !(cs i).scalar) n
 | _ => false
theorem zF.scal {w w' : World} {S S' : Nat → Prop} {ρ ρ' : Nat → Own} {av : AV} {v : Value} (h : zF w S ρ av v) (hc : av.scalar = true) : zF w' S' ρ' av v := by
 induction h with
 | v x => exact .v x
 | str l => exact .str l
 | agg vs hn hr ih =>
  simp only [AV.scalar, Bool.not_eq_true'] at hc
  exact .agg vs hn fun i hi => ih i hi (by simpa using Y4 hc i hi)
 | nb t h => exact .nb t h
 | er x h1 h2 => exact .er x h1 h2
 | tup vs hn hr ih =>
  simp only [AV.scalar, Bool.not_eq_true'] at hc
  exact .tup vs hn fun i hi => ih i hi (by simpa using Y4 hc i hi)
 | _ => cases hc
def AV.fnC : AV → AV
 | .fn f 0 _ 0 _ => .fn f 0 (fun _ => .junk) 0 (fun _ => .junk)
 | _ => .junk
theorem uH {w : World} {S S' : Nat → Prop} {ρ ρ' : Nat → Own} {x : AV} {v : Value} (hx : zF w S ρ x v) : zF w S' ρ' x.fnC v := by
 unfold AV.fnC
 split
 ·cases hx with
  | fn vs us hn hm _ _ => exact .fn vs us hn hm (fun i hi => absurd hi (Nat.not_lt_zero i)) (fun i hi => absurd hi (Nat.not_lt_zero i))
 ·exact .junk _
def sN (bl : Nat → OB) : AV → AV
 | .ns k off len =>
  match bl k with
  | .arr _ sz _ els => .xl false sz len fun i j => els (off + i) j
  | _ => .junk
 | .np _ _ => .junk
 | .ap k i j =>
  match bl k with
  | .arr _ sz _ els => .xq sz (els i) j
  | _ => .junk
 | .fn f nf a nc c => AV.fnC (.fn f nf a nc c)
 | .agg _ _ | .tup _ _ | .gd _ _ | .yl _ | .ps _ _ | .mp _ => .junk
 | x => x
def Rz (bl : Nat → OB) : AV → AV
 | .np k off =>
  match bl k with
  | .box _ n cells => .xq n (fun i => sN bl (cells i)) off
  | _ => .junk
 | x => sN bl x
def tf (bl : Nat → OB) : AV → AV
 | .fn f nf a nc c => bif Nat.beq nf 0 && Nat.blt 0 nc then .fn f 0 (fun _ => .junk) nc (fun i => Rz bl (c i)) else AV.fnC (.fn f nf a nc c)
 | x => sN bl x
def lend (bl : Nat → OB) : AV → AV
 | .ns k off len =>
  match bl k with
  | .arr _ sz _ els => .xl false sz len fun i j => els (off + i) j
  | _ => .junk
 | .np k off =>
  match bl k with
  | .box _ n cells => .xq n (fun i => tf bl (cells i)) off
  | _ => .junk
 | .ap k i j =>
  match bl k with
  | .arr _ sz _ els => .xq sz (els i) j
  | _ => .junk
 | .agg n cs => .agg n fun i => lend bl (cs i)
 | .tup n cs => .tup n fun i => lend bl (cs i)
 | .fn f nf a nc c => .fn f nf (fun i => lend bl (a i)) nc (fun i => lend bl (c i))
 | .gd g x => .gd g (lend bl x)
 | .yl _ | .ps _ _ | .mp _ => .junk
 | x => x
end Go.Sx

namespace Go.Sx
open Go Go.RowKit
section
variable {P : Program} {E : Env} {nb : Nat} {bl : Nat → OB} {S : Nat → Prop} {ρ : Nat → Own} {w : World}
theorem N6 {S' : Nat → Prop} {ρ' : Nat → Own} {k off len : Nat} {t : TypeId} {sz L : Nat} {els : Nat → Nat → AV} {v : Value} (hM : Mem E nb bl S ρ w) (hB : bl k = .arr t sz L els)
  (hx : zF w S ρ (.ns k off len) v) (hS : ∀ b, S b → S' b) (hg : ∀ g, (ρ k).has g → S' g) :
  zF w S' ρ' (.xl false sz len fun i j => els (off + i) j) v := by
 have hbk := hM.at k
 cases hx with
 | ns g base cap sz' L' hk hl hcap =>
  have hbk := hbk.resolve_left (by rw [hk]; simp)
  rw [hB, hk] at hbk
  obtain ⟨e1, e2, h1, h2, c, h3, h4, h5⟩ := hbk
  subst e1; subst e2
  refine .xl _ _ (fun i j => c.getD ((base + (off + i)) * sz' + j) undef) (by omega) (by omega) (by simp) (fun i j hi hj => ⟨_, rfl, hg g (by rw [hk]; rfl), ?_, (h5 (off + i) j (by omega) hj).2⟩) (fun i j hi hj => ?_)
  ·have hb : (base + (off + i)) * sz' + sz' ≤ (base + cap) * sz' := by
    rw [← Nat.succ_mul]; exact Nat.mul_le_mul_right _ (by omega)
   rw [add_lit, show (base + off) * sz' + (i * sz' + j) = (base + (off + i)) * sz' + j by rw [← Nat.add_assoc, ← Nat.add_mul, Nat.add_assoc]]
   exact yk h3 (by omega)
  ·exact (h5 (off + i) j (by omega) hj).1.mono (fun b hb => ⟨hS b hb, rfl⟩) (zf.refl _)
 | ns0 g base cap sz' L' A hk hl hcap h0 =>
  exact .xl _ _ (fun _ _ => undef) (Nat.le_refl _) (Nat.zero_le _) (by simp) (fun i j hi => absurd hi (Nat.not_lt_zero _)) (fun i j hi => absurd hi (Nat.not_lt_zero _))
 | nsn sz' o' hk =>
  exact .xl _ _ (fun _ _ => undef) (Nat.le_refl _) (Nat.zero_le _) (by simp) (fun i j hi => absurd hi (Nat.not_lt_zero _)) (fun i j hi => absurd hi (Nat.not_lt_zero _))
 | dns hd hsh => exact (hM.arr (by rw [hB]; rfl) hd).elim
theorem MJ {S' : Nat → Prop} {ρ' : Nat → Own} {k i j : Nat} {t : TypeId} {sz L : Nat} {els : Nat → Nat → AV} {v : Value} (hM : Mem E nb bl S ρ w) (hB : bl k = .arr t sz L els)
  (hx : zF w S ρ (.ap k i j) v) (hS : ∀ b, S b → S' b) (hg : ∀ g, (ρ k).has g → S' g) : zF w S' ρ' (.xq sz (els i) j) v := by
 have hbk := hM.at k
 cases hx with
 | ap g base cap sz' L' hk hi hcap =>
  have hbk := hbk.resolve_left (by rw [hk]; simp)
  rw [hB, hk] at hbk
  obtain ⟨e1, e2, h1, h2, c, h3, h4, h5⟩ := hbk
  subst e1; subst e2
  rw [← add_lit]
  refine .xq _ (fun m => c.getD ((base + i) * sz' + m) undef) (fun m hm => ⟨hg g (by rw [hk]; rfl), ?_, (h5 i m hi hm).2⟩) (fun m hm => (h5 i m hi hm).1.mono (fun b hb => ⟨hS b hb, rfl⟩) (zf.refl _))
  have hb : (base + i) * sz' + sz' ≤ (base + cap) * sz' := by
   rw [← Nat.succ_mul]; exact Nat.mul_le_mul_right _ (by omega)
  rw [add_lit]
  exact yk h3 (by omega)
 | dap hd hsh => exact (hM.arr (by rw [hB]; rfl) hd).elim
theorem l5 {S' : Nat → Prop} {ρ' : Nat → Own} {k off : Nat} {t : TypeId} {n : Nat} {cells cells' : Nat → AV} {v : Value} (hM : Mem E nb bl S ρ w) (hB : bl k = .box t n cells)
  (hx : zF w S ρ (.np k off) v) (hg : ∀ g, (ρ k).has g → S' g)
  (hc : ∀ i u, i < n → zF w S ρ (cells i) u → zF w S' yi (cells' i) u) : zF w S' ρ' (.xq n cells' off) v := by
 have hbk := hM.at k
 cases hx with
 | np g hk =>
  have hbk := hbk.resolve_left (by rw [hk]; simp)
  rw [hB, hk] at hbk
  obtain ⟨c, h1, h2, h3⟩ := hbk
  have : (⟨g, off, none⟩ : Addr) = (⟨g, 0, none⟩ : Addr).add off := by rw [add_lit, Nat.zero_add]
  rw [this]
  refine .xq _ (fun i => c.getD i undef) (fun i hi => ⟨hg g (by rw [hk]; rfl), ?_, (h3 i hi).2⟩) (fun i hi => hc i _ hi (h3 i hi).1)
  rw [add_lit, Nat.zero_add]
  exact yk h1 (by omega)
 | dnp hd hsh => exact (hM.box (by rw [hB]; rfl) hd).elim
def NJ (S : Nat → Prop) (ρ : Nat → Own) : Nat → Prop := fun b => S b ∨ ∃ k, (ρ k).has b
theorem WK {x : AV} {v : Value} (hM : Mem E nb bl S ρ w) (hx : zF w S ρ x v) : zF w (NJ S ρ) yi (sN bl x) v := by
 cases x with
 | ns k off len =>
  simp only [sN]
  split
  ·rename_i t sz L els hB
   exact N6 hM hB hx (fun b hb => .inl hb) (fun g hg => .inr ⟨k, hg⟩)
  ·exact .junk _
 | ap k i j =>
  simp only [sN]
  split
  ·rename_i t sz L els hB
   exact MJ hM hB hx (fun b hb => .inl hb) (fun g hg => .inr ⟨k, hg⟩)
  ·exact .junk _
 | v x => obtain rfl := ZW hx; exact .v _
 | str l => obtain rfl := Z4 hx; exact .str _
 | xl => exact (hx.closed trivial).mono (fun b hb => ⟨.inl hb, rfl⟩) (zf.refl _)
 | xq => exact (hx.closed trivial).mono (fun b hb => ⟨.inl hb, rfl⟩) (zf.refl _)
 | nb p z => exact (hx.closed trivial).mono (fun b hb => ⟨.inl hb, rfl⟩) (zf.refl _)
 | er z => exact (hx.closed trivial).mono (fun b hb => ⟨.inl hb, rfl⟩) (zf.refl _)
 | fn f nf a nc c => exact uH hx
 | _ => exact .junk _
theorem TB {x : AV} {v : Value} (hM : Mem E nb bl S ρ w) (hx : zF w S ρ x v) : zF w (NJ S ρ) yi (Rz bl x) v := by
 unfold Rz
 split
 ·rename_i k off
  split
  ·rename_i t n cells hB
   exact l5 hM hB hx (fun g hg => .inr ⟨k, hg⟩) (fun i u _ hu => WK hM hu)
  ·exact .junk _
 ·exact WK hM hx
theorem tJ {x : AV} {v : Value} (hM : Mem E nb bl S ρ w) (hx : zF w S ρ x v) : zF w (NJ S ρ) yi (tf bl x) v := by
 unfold tf
 split
 ·rename_i f nf a nc c
  cases hc : Nat.beq nf 0 && Nat.blt 0 nc with
  | false => exact uH hx
  | true =>
   rw [Bool.and_eq_true] at hc
   obtain rfl := Nat.eq_of_beq_eq_true hc.1
   cases hx with
   | fn vs us hn hm hr hs => exact .fn vs us hn hm (fun i hi => absurd hi (Nat.not_lt_zero i)) (fun i hi => TB hM (hs i hi))
 ·exact WK hM hx
theorem P1 {x : AV} {v : Value} (hM : Mem E nb bl S ρ w) (hx : zF w S ρ x v) : zF w (NJ S ρ) yi (lend bl x) v := by
 induction x generalizing v with
 | ns k off len =>
  simp only [lend]
  split
  ·rename_i t sz L els hB
   exact N6 hM hB hx (fun b hb => .inl hb) (fun g hg => .inr ⟨k, hg⟩)
  ·exact .junk _
 | ap k i j =>
  simp only [lend]
  split
  ·rename_i t sz L els hB
   exact MJ hM hB hx (fun b hb => .inl hb) (fun g hg => .inr ⟨k, hg⟩)
  ·exact .junk _
 | np k off =>
  simp only [lend]
  split
  ·rename_i t n cells hB
   exact l5 hM hB hx (fun g hg => .inr ⟨k, hg⟩) (fun i u _ hu => tJ hM hu)
  ·exact .junk _
 | v x => obtain rfl := ZW hx; exact .v _
 | str l => obtain rfl := Z4 hx; exact .str _
 | xl => exact (hx.closed trivial).mono (fun b hb => ⟨.inl hb, rfl⟩) (zf.refl _)
 | xq => exact (hx.closed trivial).mono (fun b hb => ⟨.inl hb, rfl⟩) (zf.refl _)
 | agg n cs ih => cases hx with | agg vs hn hr => exact .agg vs hn fun i hi => by first | (rw [Ue hi]; exact ih i (hr i hi)) | exact ih i (hr i hi)
 | tup n cs ih => cases hx with | tup vs hn hr => exact .tup vs hn fun i hi => ih i (hr i hi)
 | fn f nf a nc c ih1 ih2 => cases hx with | fn vs us hn hm hr hs => exact .fn vs us hn hm (fun i hi => ih1 i (hr i hi)) (fun i hi => ih2 i (hs i hi))
 | gd g x ih => cases hx with | gd v h h' => exact .gd v (fun hg => ih (h hg)) h'
 | yl k => exact .junk _
 | nb p z => exact (hx.closed trivial).mono (fun b hb => ⟨.inl hb, rfl⟩) (zf.refl _)
 | er z => exact (hx.closed trivial).mono (fun b hb => ⟨.inl hb, rfl⟩) (zf.refl _)
 | ps k len => exact .junk _
 | mp k => exact .junk _
 | junk => exact .junk _
theorem ZI.lend {xs : List AV} {vs : List Value} (hM : Mem E nb bl S ρ w) (h : ZI w S ρ xs vs) : ZI w (NJ S ρ) yi (xs.map (lend bl)) vs := by
 induction xs generalizing vs with
 | nil => cases vs <;> exact h
 | cons x xs ih => cases vs with
  | nil => exact h.elim
  | cons v vs => exact ⟨P1 hM h.1, ih h.2⟩
theorem ZI.free {xs : List AV} {vs : List Value} (h : ZI w S ρ xs vs) (hf : ∀ x ∈ xs, x.hasOwn = false) : ZI w S yi xs vs := by
 induction xs generalizing vs with
 | nil => cases vs <;> exact h
 | cons x xs ih => cases vs with
  | nil => exact h.elim
  | cons v vs => exact ⟨h.1.free (hf x (List.mem_cons_self ..)), ih h.2 fun y hy => hf y (List.mem_cons_of_mem _ hy)⟩
def After (E : Env) (nb : Nat) (bl : Nat → OB) (S : Nat → Prop) (ρ : Nat → Own) (w : World) (r : AV) (e : Ending) (w' : World) : Prop :=
 ∃ rv S', e = .returned rv ∧ Mem E nb bl S' ρ w' ∧ (∀ b, S b → S' b ∧ w'.heap[b]? = w.heap[b]?) ∧ zF w' S' ρ r rv
theorem uM {f : FuncId} {xs : List AV} {vs : List Value} {r : AV} (hM : Mem E nb bl S ρ w) (hx : ZI w S ρ xs vs) (hf : ∀ x ∈ xs, x.hasOwn = false)
  (h : zT P E.G.objs f xs r) : Calls P f vs.toArray w (After E nb bl S ρ w r) := by
 refine (h.2 w S vs hM.sb hM.glob (hx.free hf)).mono ?_
 rintro e w' ⟨hb, rv, rfl, hr⟩
 obtain ⟨h1, h2⟩ := hM.grow hb
 exact ⟨rv, _, rfl, h1, h2, hr.mono (fun b hb => ⟨hb, rfl⟩) (zf.zero _)⟩
theorem pB {f : FuncId} {xs : List AV} {vs : List Value} {t : TypeId} {sz len : Nat} {els : Nat → Nat → AV} (hM : Mem E nb bl S ρ w) (hx : ZI w S ρ xs vs) (hf : ∀ x ∈ xs, x.hasOwn = false)
  (h : yX P E.G.objs f xs t sz len els) : Calls P f vs.toArray w fun e w' => ∃ v S' o, e = .returned v ∧ Mem E (nb + 1) (upd bl nb (.arr t sz len els)) S' (upd ρ nb o) w' ∧ zf ρ (upd ρ nb o) ∧
   (∀ b, S b → S' b ∧ w'.heap[b]? = w.heap[b]?) ∧ zF w' S' (upd ρ nb o) (.ns nb 0 len) v := by
 refine (h.2 w S vs hM.sb hM.glob (hx.free hf)).mono ?_
 rintro e w' ⟨hb, rv, rfl, hr⟩
 rcases hr with ⟨h0, o, rfl⟩ | ⟨g, cap, c, rfl, hg, hh, hc, hcm, hcs, hel⟩
 ·obtain ⟨h1, h2⟩ := hM.grow hb
  obtain ⟨g1, g2, g3⟩ := h1.adopt (w' := w') (g := w'.heap.size) (o := .nila sz) (B := .arr t sz len els)
   (fun g' hg' => by cases hg') (fun _ _ _ => rfl) (Nat.le_refl _) rfl rfl rfl (Nat.le_refl _) (fun hs => Nat.lt_irrefl _ (h1.sb _ hs)) (fun k hk => Nat.lt_irrefl _ (h1.blk_lt hk)) (.inl h1.fr.size) (fun _ _ _ _ _ hh => by cases hh) ⟨rfl, h0⟩
  refine ⟨_, _, _, rfl, g1, g2, h2, ?_⟩
  rw [h0]
  exact .nsn sz o (upd_same _ _ _)
 ·obtain ⟨h1, h2⟩ := hM.growX hb g
  have hlt : g < w'.heap.size := (Array.getElem?_eq_some_iff.1 hh).1
  obtain ⟨g1, g2, g3⟩ := h1.adopt (w' := w') (g := g) (o := .arr g 0 cap sz len) (B := .arr t sz len els)
   (fun g' hg' => by cases hg'; rfl) (fun _ _ _ => rfl) (Nat.le_refl _) rfl rfl rfl (Nat.le_refl _)
   (fun hs => by
    grind)
   (fun k hk => absurd (hM.blk_lt hk) (by omega)) (.inl (Nat.le_trans hM.fr.size hg)) (fun _ _ _ _ _ hh => by cases hh; rfl)
   ⟨rfl, rfl, hc, hcm, c, hh, by rw [Nat.zero_add]; exact hcs, fun i j hi hj => by rw [Nat.zero_add]; exact hel i j hi hj⟩
  refine ⟨_, _, _, rfl, g1, g2, h2, ?_⟩
  have := zF.ns (w := w') (S := fun b => S b ∨ (w.heap.size ≤ b ∧ b < w'.heap.size ∧ b ≠ g)) (ρ := upd ρ nb (.arr g 0 cap sz len)) (k := nb) (off := 0) (len := len) g 0 cap sz len (upd_same _ _ _) (by omega) hc
  simp_all
theorem sX {f : FuncId} {xs : List AV} {vs : List Value} {r : AV} (hM : Mem E nb bl S ρ w) (hx : ZI w S ρ xs vs)
  (h : zT P E.G.objs f (xs.map (lend bl)) r) (hr : r.scalar = true) : Calls P f vs.toArray w (After E nb bl S ρ w r) := by
 refine (h.2 w (NJ S ρ) vs ?_ (fun b o hb => ⟨.inl (hM.glob b o hb).1, (hM.glob b o hb).2⟩) (hx.lend hM)).mono ?_
 ·rintro b (hb | ⟨k, hk⟩)
  ·exact hM.sb b hb
  ·exact hM.blk_lt hk
 rintro e w' ⟨hb, rv, rfl, hrel⟩
 obtain ⟨h1, h2⟩ := hM.grow hb
 exact ⟨rv, _, rfl, h1, h2, hrel.scal hr⟩
end
def AV.clean : AV → AV
 | .v x => .v x
 | .str l => .str l
 | .xl f sz len els => .xl f sz len els
 | .xq n c off => .xq n c off
 | .fn f nf a nc c => AV.fnC (.fn f nf a nc c)
 | _ => .junk
def AV.frz (bl : Nat → OB) (k : Nat) : AV → AV
 | .ns k' off len => bif Nat.beq k' k then (match bl k with | .arr _ sz _ els => .xl false sz len (fun i j => els (off + i) j) | _ => .junk) else .ns k' off len
 | .np k' off => bif Nat.beq k' k then (match bl k with | .box _ n cells => .xq n (fun i => (cells i).clean) off | _ => .junk) else .np k' off
 | .ap k' i j => bif Nat.beq k' k then (match bl k with | .arr _ sz _ els => .xq sz (els i) j | _ => .junk) else .ap k' i j
 | .agg n cs => .agg n (On n fun i => (cs i).frz bl k)
 | .tup n cs => .tup n fun i => (cs i).frz bl k
 | .fn f nf a nc c => .fn f nf (fun i => (a i).frz bl k) nc (fun i => (c i).frz bl k)
 | .gd g x => .gd g (x.frz bl k)
 | .ps k' len => bif Nat.beq k' k then .junk else .ps k' len
 | x => x
def OB.frz (bl : Nat → OB) (k : Nat) : OB → OB
 | .box t n cells => .box t n fun i => (cells i).frz bl k
 | .mp ks f => .mp ks fun a b => (f a b).frz bl k
 | B => B
def zo.frz (σ : zo) (k : Nat) : zo :=
 { σ with tm := fun t => (σ.tm t).frz σ.bl k, bl := fun j => bif Nat.beq j k then .dead else (σ.bl j).frz σ.bl k }
section
variable {P : Program} {E : Env} {nb : Nat} {bl : Nat → OB} {S : Nat → Prop} {ρ : Nat → Own} {w : World}
theorem QV {x : AV} {v : Value} {ρ' : Nat → Own} (hx : zF w S ρ x v) : zF w S ρ' x.clean v := by
 cases x with
 | v x => obtain rfl := ZW hx; exact .v _
 | str l => obtain rfl := Z4 hx; exact .str _
 | xl => exact hx.closed trivial
 | xq => exact hx.closed trivial
 | fn f nf a nc c => exact uH hx
 | _ => exact .junk _
theorem Xz (a b : Nat) : (Nat.beq a b = true ∧ a = b) ∨ (Nat.beq a b = false ∧ a ≠ b) := by
 cases h : Nat.beq a b with
 | true => simp_all
 | false => exact .inr ⟨rfl, Nat.ne_of_beq_eq_false h⟩
theorem rL {k : Nat} {S' : Nat → Prop} {x : AV} {v : Value} (hM : Mem E nb bl S ρ w) (hS : ∀ b, S b → S' b) (hg : ∀ g, (ρ k).has g → S' g) (hx : zF w S ρ x v) :
  zF w S' (upd ρ k .dead) (x.frz bl k) v := by
 have hle : zf ρ (upd ρ k .dead) := fun j => by
  by_cases e : j = k
  ·subst e; rw [upd_same]; exact .inr (.inl rfl)
  ·rw [zM _ _ e]; exact .inl (rfl)
 have hS2 : ∀ b, S b → S' b ∧ w.heap[b]? = w.heap[b]? := fun b hb => ⟨hS b hb, rfl⟩
 induction x generalizing v with
 | ns k' off len =>
  rcases Xz k' k with ⟨hb, e⟩ | ⟨hb, e⟩
  ·subst e
   simp only [AV.frz, hb, cond_true]
   split
   ·rename_i t sz L els hB
    exact N6 hM hB hx hS hg
   ·exact .junk _
  ·simp only [AV.frz, hb, cond_false]
   exact hx.mono hS2 hle
 | np k' off =>
  rcases Xz k' k with ⟨hb, e⟩ | ⟨hb, e⟩
  ·subst e
   simp only [AV.frz, hb, cond_true]
   split
   ·rename_i t n cells hB
    exact l5 hM hB hx hg (fun i u _ hu => (QV (ρ' := yi) hu).mono hS2 (zf.refl _))
   ·exact .junk _
  ·simp only [AV.frz, hb, cond_false]
   exact hx.mono hS2 hle
 | ap k' i j =>
  rcases Xz k' k with ⟨hb, e⟩ | ⟨hb, e⟩
  ·subst e
   simp only [AV.frz, hb, cond_true]
   split
   ·rename_i t sz L els hB
    exact MJ hM hB hx hS hg
   ·exact .junk _
  ·simp only [AV.frz, hb, cond_false]
   exact hx.mono hS2 hle
 | agg n cs ih => cases hx with | agg vs hn hr => exact .agg vs hn fun i hi => by first | (rw [Ue hi]; exact ih i (hr i hi)) | exact ih i (hr i hi)
 | tup n cs ih => cases hx with | tup vs hn hr => exact .tup vs hn fun i hi => ih i (hr i hi)
 | fn f nf a nc c ih1 ih2 => cases hx with | fn vs us hn hm hr hs => exact .fn vs us hn hm (fun i hi => ih1 i (hr i hi)) (fun i hi => ih2 i (hs i hi))
 | gd g x ih => cases hx with | gd v h h' => exact .gd v (fun hg => ih (h hg)) h'
 | ps k' len =>
  rcases Xz k' k with ⟨hb, e⟩ | ⟨hb, e⟩
  ·simp only [AV.frz, hb, cond_true]; exact .junk _
  ·simp only [AV.frz, hb, cond_false]; exact hx.mono hS2 hle
 | _ => exact hx.mono hS2 hle
theorem ki {k : Nat} (hM : Mem E nb bl S ρ w) (hk : k < nb) :
  ∃ S' : Nat → Prop, Mem E nb (fun j => bif Nat.beq j k then .dead else (bl j).frz bl k) S' (upd ρ k .dead) w ∧ (∀ b, S b → S' b) ∧
   ∀ x v, zF w S ρ x v → zF w S' (upd ρ k .dead) (x.frz bl k) v := by
 obtain ⟨S', h1, hS, hg⟩ : ∃ S' : Nat → Prop, Mem E nb (upd bl k .dead) S' (upd ρ k .dead) w ∧ (∀ b, S b → S' b) ∧ (∀ g, (ρ k).has g → S' g) :=
  ⟨_, (hM.kill k hk true).1, fun b hb => .inl hb, fun g h => .inr ⟨rfl, h⟩⟩
 refine ⟨_, ⟨h1.fr, h1.sb, h1.sup, h1.sub, h1.glob, h1.hi, ?_, h1.own, h1.dis, h1.b0, h1.nbz, h1.ole⟩, hS, fun x v hx => rL hM hS hg hx⟩
 intro j hj
 have h2 := h1.ok j hj
 rcases Xz j k with ⟨hb, e⟩ | ⟨hb, e⟩
 ·subst e
  simp only [hb, cond_true]
  rw [upd_same] at h2
  exact h2
 ·simp only [hb, cond_false]
  rw [zM _ _ e] at h2
  cases hB : bl j with
  | box t n cells =>
   rw [hB] at h2
   have h0 := hM.ok j hj
   rw [hB] at h0
   rw [zM _ _ e] at h2 ⊢
   cases ho : ρ j <;> rw [ho] at h2 h0 <;> first | exact h2.elim | skip
   rename_i g
   obtain ⟨c, e1, e2, e3⟩ := h0
   exact ⟨c, e1, e2, fun i hi => ⟨rL hM hS hg (e3 i hi).1, (e3 i hi).2⟩⟩
  | mp ks f =>
   rw [hB] at h2
   have h0 := hM.ok j hj
   rw [hB] at h0
   rw [zM _ _ e] at h2 ⊢
   cases ho : ρ j <;> rw [ho] at h2 h0 <;> first | exact h2.elim | skip
   obtain ⟨es, e1, e2, e3⟩ := h0
   exact ⟨es, e1, e2, fun a b => rL hM hS hg (e3 a b)⟩
  | _ => rw [hB] at h2; exact h2
theorem nZ {σ : zo} {a : Act} {k : Nat} (hM : Mem E σ.nb σ.bl S ρ w) (hF : Yq w S ρ σ.n σ.tm a) (hk : k < σ.nb) :
  ∃ S', Mem E (σ.frz k).nb (σ.frz k).bl S' (upd ρ k .dead) w ∧ Yq w S' (upd ρ k .dead) (σ.frz k).n (σ.frz k).tm a ∧ (∀ b, S b → S' b) ∧
   ∀ x v, zF w S ρ x v → zF w S' (upd ρ k .dead) (x.frz σ.bl k) v := by
 obtain ⟨S', h1, h2, h3⟩ := ki hM hk
 exact ⟨S', h1, ⟨hF.1, fun t ht => h3 _ _ (hF.2 t ht)⟩, h2, h3⟩
end
end Go.Sx
