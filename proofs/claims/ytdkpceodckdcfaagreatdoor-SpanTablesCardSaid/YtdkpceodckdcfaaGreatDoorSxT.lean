/- The contract of a function that changes nothing that was there, from the verification condition of its body. -/
import Derived.Test.YtdkpceodckdcfaaGreatDoorSxW
import Derived.RangeFuncRecord
import Derived.Laws.Sem
set_option linter.unusedSimpArgs false
set_option linter.unusedVariables false
namespace Go.Sx
open Go Go.RowKit
def YG (tmps : Array Value) : ResultVar → Sem Value
 | .tmp t => pure (tmps.getD t undef)
 | .cell a t => do loadVar t (← asAddr (tmps.getD a undef))
def Sd (vs : List Value) : Value :=
 match vs with
 | [v] => v
 | vs => .tuple vs.toArray
theorem Us {α β : Type} {f : α → Sem β} {g : α → β} {P : Program} {w : World} : ∀ (l : List α), (∀ x ∈ l, (f x).run P w = .ok (g x) w) → (l.mapM f).run P w = .ok (l.map g) w
 | [], _ => by simp
 | x :: xs, h => by
  rw [List.mapM_cons]
  simp only [Sem.run_bind, h x List.mem_cons_self, Result.andThen_ok, Us xs fun y hy => h y (List.mem_cons_of_mem _ hy), Sem.run_pure, List.map_cons]
theorem yf {fn : Func} {tmps : Array Value} {P : Program} {w : World} {g : ResultVar → Value} (h : ∀ x ∈ fn.results.toList, (YG tmps x).run P w = .ok (g x) w) :
  (results fn tmps).run P w = .ok (Sd (fn.results.toList.map g)) w := by
 have h1 : (fn.results.mapM (YG tmps)).run P w = .ok (fn.results.toList.map g).toArray w := by
  rw [Array.mapM_eq_mapM_toList]
  simp only [map_eq_pure_bind, Sem.run_bind, Us _ h, Result.andThen_ok, Sem.run_pure]
 have h2 : (results fn tmps) = (do let vs ← fn.results.mapM (YG tmps); pure (if h : vs.size = 1 then vs[0] else .tuple vs)) := rfl
 rw [h2, Sem.run_bind, h1]
 simp only [Result.andThen_ok, Sem.run_pure]
 congr 1
 generalize fn.results.toList.map g = l
 match l with
 | [] => rfl
 | [v] => rfl
 | v :: u :: l => rfl
structure Shut (ds : List Deferred) (w w' : World) : Prop where
 os : w'.os = w.os
 tape : w'.tape = w.tape
 output : w'.output = w.output
 size : w'.heap.size = w.heap.size
 drawn : w'.drawn = w.drawn
 block : ∀ b, ({ target := .collected b, args := #[] } : Deferred) ∉ ds → w'.heap[b]? = w.heap[b]?
theorem y5 {F : Fence} {n : Nat} {P : Program} {fn : Func} {tmps : Array Value} {R : Ending → World → Prop} {B : Nat} : ∀ (ds : List Deferred) (w : World) (S : Nat → Prop), xS B w S ds →
  (∀ w', Shut ds w w' → ∃ v, (results fn tmps).run P w' = .ok v w' ∧ R (.returned v) w') → LeavesInM F n P fn tmps R ds .returning w
 | [], w, _, _, h => h w ⟨rfl, rfl, rfl, rfl, rfl, fun _ _ => rfl⟩
 | d :: ds, w, S, hD, h => by
  obtain ⟨D, rfl, hS, hB, hh⟩ := hD.2 d List.mem_cons_self
  have hpw := List.pairwise_cons.1 hD.1
  have hlt : D < w.heap.size := (Array.getElem?_eq_some_iff.1 hh).1
  refine ⟨(fun h => by cases h), .inl ⟨D, w.putObj D (.deferred none), rfl, run_takeDeferred hh, ?_⟩⟩
  have hother : ∀ b, b ≠ D → (w.putObj D (.deferred none)).heap[b]? = w.heap[b]? := fun b hb => by
   simp [World.putObj, Ne.symm hb]
  refine y5 (B := B) ds _ S ⟨hpw.2, fun d hd => ?_⟩ fun w' hs => h w' ⟨hs.os.trans rfl, hs.tape.trans rfl, hs.output.trans rfl, hs.size.trans (by simp [World.putObj]), hs.drawn.trans rfl, fun b hb => ?_⟩
  ·obtain ⟨D', rfl, h1, h2, h3⟩ := hD.2 d (List.mem_cons_of_mem _ hd)
   have hne : D' ≠ D := fun e => hpw.1 _ hd (by rw [e])
   exact ⟨D', rfl, h1, h2, (hother D' hne).trans h3⟩
  ·have h1 : b ≠ D := fun e => hb (by rw [e]; exact List.mem_cons_self)
   exact (hs.block b fun hm => hb (List.mem_cons_of_mem _ hm)).trans (hother b h1)
section
variable {P : Program} {E : Env} {w : World} {S : Nat → Prop} {ρ : Nat → Own}
theorem Xu {a : Addr} {v : Value} {q : Option (List Deferred)} (h : w.cell? a = some v) : w.heap[a.block]? ≠ some (.deferred q) := fun e => by
 simp [World.cell?, e] at h
theorem zr.mono' {w' : World} {S' : Nat → Prop} {x : AV} {v : Value} (h : zr w S ρ x v)
  (hS : ∀ b, S b → (∀ q, w.heap[b]? ≠ some (.deferred q)) → S' b ∧ w'.heap[b]? = w.heap[b]?) : zr w' S' ρ x v := by
 induction h with
 | v x => exact .v x
 | str l => exact .str l
 | xl o cap cvs hle hm hf hc hr ih =>
  refine .xl o cap cvs hle hm hf (fun i j hi hj => ?_) ih
  obtain ⟨A, e, hs, hcell, ho⟩ := hc i j hi hj
  have h1 := hS _ hs fun q => by have := Xu (q := q) hcell; rwa [ZW] at this
  exact ⟨A, e, h1.1, (xa (w := w) (w' := w') (by rw [ZW]; exact h1.2)).trans hcell, ho⟩
 | xq A cvs hc hr ih =>
  refine .xq A cvs (fun i hi => ?_) ih
  obtain ⟨hs, hcell, ho⟩ := hc i hi
  have h1 := hS _ hs fun q => by have := Xu (q := q) hcell; rwa [ZW] at this
  exact ⟨h1.1, (xa (w := w) (w' := w') (by rw [ZW]; exact h1.2)).trans hcell, ho⟩
 | np g h => exact .np g h
 | ns g base cap sz L h hl hc => exact .ns g base cap sz L h hl hc
 | ns0 g base cap sz L A h hl hc h0 => exact .ns0 g base cap sz L A h hl hc h0
 | nsn sz o h => exact .nsn sz o h
 | ap g base cap sz L h hi hc => exact .ap g base cap sz L h hi hc
 | nsr g cap sz L sub h hl hc => exact .nsr g cap sz L sub h hl hc
 | nsv q o cap h => exact .nsv q o cap h
 | apr g cap sz L sub h hi hc => exact .apr g cap sz L sub h hi hc
 | yl g r h => exact .yl g r h
 | dyl h hx => exact .dyl h hx
 | dnp h hx => exact .dnp h hx
 | dns h hx => exact .dns h hx
 | dap h hx => exact .dap h hx
 | agg vs hn hr ih => exact .agg vs hn ih
 | tup vs hn hr ih => exact .tup vs hn ih
 | fn vs us hn hm hr hs ih1 ih2 => exact .fn vs us hn hm ih1 ih2
 | gd v h h' ih => exact .gd v ih h'
 | nb t h => exact .nb t h
 | er x h1 h2 => exact .er x h1 h2
 | ps g cap h hc => exact .ps g cap h hc
 | dps h hx => exact .dps h hx
 | junk x => exact .junk x
theorem zA.mono' {w' : World} {S' : Nat → Prop} {te : TypeId} {ssz : Nat} {x : AV} {v : Value} {o : Option Nat} (h : zA w S te ssz x v o)
  (hS : ∀ b, S b → (∀ q, w.heap[b]? ≠ some (.deferred q)) → S' b ∧ w'.heap[b]? = w.heap[b]?) (hb : ∀ g, o = some g → (∀ q, w.heap[g]? ≠ some (.deferred q)) → w'.heap[g]? = w.heap[g]?) : zA w' S' te ssz x v o := by
 cases o with
 | none =>
  obtain ⟨n, el, h1, h2⟩ := h
  exact ⟨n, el, h1, h2.mono' hS⟩
 | some g =>
  obtain ⟨n, el, cap, c, h1, h2, h3, h4, h5, h6, h7⟩ := h
  exact ⟨n, el, cap, c, h1, h2, (hb g rfl fun q e => by rw [h3] at e; cases e).trans h3, h4, h5, h6, fun i j hi hj => ⟨(h7 i j hi hj).1.mono' hS, (h7 i j hi hj).2⟩⟩
theorem Wv.mono' {w' : World} {S' : Nat → Prop} {B : OB} {o : Own} (h : Wv w S ρ B o)
  (hS : ∀ b, S b → (∀ q, w.heap[b]? ≠ some (.deferred q)) → S' b ∧ w'.heap[b]? = w.heap[b]?) (hb : ∀ g, o.has g → (∀ q, w.heap[g]? ≠ some (.deferred q)) → w'.heap[g]? = w.heap[g]?) : Wv w' S' ρ B o := by
 cases B with
 | dead => cases o <;> first | exact h | trivial
 | box t n cells =>
  cases o with
  | box g =>
   obtain ⟨c, h1, h2, h3⟩ := h
   exact ⟨c, (hb g rfl fun q e => by rw [h1] at e; cases e).trans h1, h2, fun i hi => ⟨(h3 i hi).1.mono' hS, (h3 i hi).2⟩⟩
  | _ => exact h.elim
 | arr t sz len els =>
  cases o with
  | arr g base cap sz' len' =>
   obtain ⟨e1, e2, h1, h2, c, h3, h4, h5⟩ := h
   exact ⟨e1, e2, h1, h2, c, (hb g rfl fun q e => by rw [h3] at e; cases e).trans h3, h4, fun i j hi hj => ⟨(h5 i j hi hj).1.mono' hS, (h5 i j hi hj).2⟩⟩
  | nila sz' => exact h
  | _ => exact h.elim
 | lrec st pend =>
  cases o with
  | lrec g r => exact (hb g rfl fun q e => by rw [show w.heap[g]? = _ from h] at e; cases e).trans h
  | _ => exact h.elim
 | app te ssz len els =>
  cases o with
  | app q v => exact zA.mono' (o := q) h hS fun g e => hb g e
  | _ => exact h.elim
 | rows t sz len col te ssz els out =>
  cases o with
  | rows g cap sz' len' sub =>
   obtain ⟨e1, e2, h1, h2, h3, h4, h5, h6, c, h7, h8, h9⟩ := h
   refine ⟨e1, e2, h1, h2, h3, h4, h5, h6, c, (hb g (.inl rfl) fun q e => by rw [h7] at e; cases e).trans h7, h8, fun i hi => ⟨(h9 i hi).1, ?_, fun j hj hne => ⟨((h9 i hi).2.2 j hj hne).1.mono' hS, ((h9 i hi).2.2 j hj hne).2⟩⟩⟩
   have := (h9 i hi).2.1
   cases out with
   | none => exact zA.mono' this hS fun b e => hb b (.inr ⟨i, e⟩)
   | some p => exact ⟨fun e => ⟨(this.1 e).1, (this.1 e).2.mono' hS⟩, fun e => (this.2 e).mono' hS fun b e' => hb b (.inr ⟨i, e'⟩)⟩
  | nila sz' => exact h
  | _ => exact h.elim
theorem WG {nb : Nat} {bl : Nat → OB} {ds : List Deferred} {w' : World} (hM : zI E nb bl S ρ w) (hD : xS E.w0.heap.size w S ds) (hs : Shut ds w w') :
  ∃ S', zI { E with G := { E.G with objs := [] }, S0 := fun b => E.S0 b ∧ b < E.w0.heap.size } nb bl S' ρ w' ∧ (∀ b, S b → b < E.w0.heap.size → S' b ∧ w'.heap[b]? = w.heap[b]?) ∧
   ∀ b, S b → (∀ q, w.heap[b]? ≠ some (.deferred q)) → S' b ∧ w'.heap[b]? = w.heap[b]? := by
 have hmark : ∀ b, ({ target := .collected b, args := #[] } : Deferred) ∈ ds → S b ∧ E.w0.heap.size ≤ b ∧ w.heap[b]? = some (.deferred (some [])) := fun b hb => by
  obtain ⟨D, e, h1, h2, h3⟩ := hD.2 _ hb
  have : b = D := by simpa using congrArg (fun d : Deferred => match d.target with | .collected b => b | _ => 0) e
  subst this
  exact ⟨h1, h2, h3⟩
 have hS : ∀ b, S b → (∀ q, w.heap[b]? ≠ some (.deferred q)) → (S b ∧ ({ target := .collected b, args := #[] } : Deferred) ∉ ds) ∧ w'.heap[b]? = w.heap[b]? := fun b hb hq => by
  have hno : ({ target := .collected b, args := #[] } : Deferred) ∉ ds := fun h => hq _ (hmark b h).2.2
  exact ⟨⟨hb, hno⟩, hs.block b hno⟩
 have hown : ∀ k g, (ρ k).has g → (∀ q, w.heap[g]? ≠ some (.deferred q)) → w'.heap[g]? = w.heap[g]? := fun k g _ hq => hs.block g fun h => hq _ (hmark g h).2.2
 refine ⟨fun b => S b ∧ ({ target := .collected b, args := #[] } : Deferred) ∉ ds, ⟨⟨hs.os.trans hM.fr.os, hs.tape.trans hM.fr.tape, hs.output.trans hM.fr.output, by rw [hs.size]; exact hM.fr.size, fun b hb hx => ?_, by rw [pH hs.drawn]; exact hM.fr.drawn⟩,
  fun b hb => by rw [hs.size]; exact hM.sb b hb.1, fun b hb => ⟨hM.sup b hb.1, fun h => ?_⟩, fun b hb => ?_, fun b o h => (by cases h), hM.hi, fun k hk => ?_, fun k g e => ⟨fun h => (hM.own k g e).1 h.1, (hM.own k g e).2⟩, hM.dis, hM.b0, hM.nbz, hM.ole⟩, fun b hb hlt => ⟨⟨hb, fun h => absurd (hmark b h).2.1 (Nat.not_le.2 hlt)⟩, hs.block b fun h => absurd (hmark b h).2.1 (Nat.not_le.2 hlt)⟩, hS⟩
 ·exact (hs.block b fun h => absurd (hmark b h).2.1 (Nat.not_le.2 hb)).trans (hM.fr.block b hb hx)
 ·exact absurd (hmark b h).2.1 (Nat.not_le.2 hb.2)
 ·rcases hM.sub b hb.1 with h | h | h
  ·by_cases hlt : b < E.w0.heap.size
   ·exact .inl ⟨h, hlt⟩
   ·exact .inr (.inr (Nat.not_lt.1 hlt))
  ·exact .inr (.inl h)
  ·exact .inr (.inr h)
 ·exact (hM.ok k hk).mono' hS fun g e hq => hown k g e hq
def uF (P : Program) (σ : zw) : ResultVar → Option AV
 | .tmp t =>
  match σ.ev (.tmp t) with
  | .gd _ _ => none
  | x => some x
 | .cell a t =>
  match shapeOf P t with
  | some sh => yQ σ.bl sh (σ.ev (.tmp a))
  | none => none
def uX (P : Program) (σ : zw) : List ResultVar → Option (List AV)
 | [] => some []
 | x :: xs =>
  match uF P σ x, uX P σ xs with
  | some y, some ys => some (y :: ys)
  | _, _ => none
def X8 : List AV → AV
 | [x] => x
 | xs => .tup xs.length (zU xs)
def ri (p : Nat → Prop) : Nat → Prop
 | 0 => True
 | n + 1 => ri p n ∧ p n
theorem S7 {p : Nat → Prop} : ∀ {n : Nat}, ri p n ↔ X3 p n
 | 0 => Iff.rfl
 | 1 => by simp only [ri, X3, true_and]
 | n + 2 => by
  show (ri p (n + 1) ∧ p (n + 1)) ↔ (X3 p (n + 1) ∧ p (n + 1))
  rw [S7]
def Pn : AV → AV → Prop
 | .tup n cs, .tup n' cs' => n' = n ∧ ri (fun i => zc (cs i) (cs' i)) n
 | x, y => zc x y
theorem qC {x y : AV} : Pn x y ↔ zc x y := by
 unfold Pn
 split
 ·simp only [zc, S7]
 ·rfl
def sN (P : Program) (rs : List ResultVar) (r : AV) (σ : zw) : Prop :=
 match uX P σ rs with
 | some xs =>
  match yq σ xs with
  | some (_, xs') =>
   match xs'.any AV.hasOwn with
   | true => False
   | false => Pn (X8 xs') r
  | none => False
 | none => False
theorem UO {σ : zw} {a : Act} {x : ResultVar} {y : AV} (hM : zI E σ.nb σ.bl S ρ w) (hF : yU w S ρ σ.n σ.tm a) (h : uF P σ x = some y) :
  ∃ v, (YG a.tmps x).run P w = .ok v w ∧ zr w S ρ y v := by
 unfold uF at h
 split at h
 ·rename_i t
  split at h
  ·cases h
  ·cases h
   exact ⟨a.tmps.getD t undef, rfl, hF.ev (.tmp t)⟩
 ·rename_i b t
  split at h
  ·rename_i sh hs
   obtain ⟨ad, e, hh⟩ := WA hM (hF.ev (.tmp b)) h
   have e' : a.tmps.getD b undef = .pointer (some ad) := e
   have hrun : ∀ u, (loadVar t ad).run P w = .ok u w → (YG a.tmps (.cell b t)).run P w = .ok u w := fun u hu => by
    simp only [YG, e', asAddr, Sem.run_bind, Sem.run_pure, Result.andThen_ok, hu]
   cases sh with
   | none =>
    obtain ⟨u, h1, h2, _⟩ := hh
    exact ⟨u, hrun _ (yY hs h1), h2⟩
   | some m =>
    obtain ⟨f, cs, rfl, h1⟩ := hh
    exact ⟨_, hrun _ (ya f hs fun j hj => (h1 j hj).1), .agg _ (by simp) fun i hi => by rw [XU _ _ _ hi]; exact (h1 i hi).2⟩
  ·cases h
theorem xz {σ : zw} {a : Act} (hM : zI E σ.nb σ.bl S ρ w) (hF : yU w S ρ σ.n σ.tm a) : ∀ (xs : List ResultVar) (ys : List AV), uX P σ xs = some ys →
  ∃ g : ResultVar → Value, (∀ x ∈ xs, (YG a.tmps x).run P w = .ok (g x) w) ∧ ze w S ρ ys (xs.map g) := by
 intro xs ys h
 have hall : ∀ x ∈ xs, ∃ y v, uF P σ x = some y ∧ (YG a.tmps x).run P w = .ok v w ∧ zr w S ρ y v := by
  induction xs generalizing ys with
  | nil => intro x hx; cases hx
  | cons x xs ih =>
   simp only [uX] at h
   split at h
   ·rename_i y ys' h1 h2
    intro z hz
    rcases List.mem_cons.1 hz with e | e
    ·obtain ⟨v, h3, h4⟩ := UO hM hF h1
     exact ⟨y, v, by rw [e]; exact h1, by rw [e]; exact h3, h4⟩
    ·exact ih _ h2 z e
   ·cases h
 let g : ResultVar → Value := fun x => match (YG a.tmps x).run P w with | .ok v _ => v | _ => undef
 have hg : ∀ x ∈ xs, (YG a.tmps x).run P w = .ok (g x) w ∧ ∀ y, uF P σ x = some y → zr w S ρ y (g x) := fun x hx => by
  obtain ⟨y, v, h1, h2, h3⟩ := hall x hx
  have e : g x = v := by simp only [g, h2]
  rw [e]
  refine ⟨h2, fun y' h' => ?_⟩
  rw [h1] at h'
  cases h'
  exact h3
 refine ⟨g, fun x hx => (hg x hx).1, ?_⟩
 clear hall
 induction xs generalizing ys with
 | nil => cases h; trivial
 | cons x xs ih =>
  simp only [uX] at h
  split at h
  ·rename_i y ys' h1 h2
   cases h
   exact ⟨(hg x List.mem_cons_self).2 y h1, ih _ h2 fun z hz => hg z (List.mem_cons_of_mem _ hz)⟩
  ·cases h
theorem XD {xs : List AV} {vs : List Value} (h : ze w S ρ xs vs) : zr w S ρ (X8 xs) (Sd vs) := by
 match xs, vs, h with
 | [], [], _ => exact .tup #[] rfl fun i hi => absurd hi (Nat.not_lt_zero _)
 | [x], [v], h => exact h.1
 | x :: y :: xs, v :: u :: vs, h =>
  have := h.get
  exact .tup (v :: u :: vs).toArray (by simpa using this.1.symm) this.2
end
end Go.Sx
