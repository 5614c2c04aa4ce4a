/- The contract of a function that changes nothing that was there, from the verification condition of its body. -/
import Derived.Test.YtgpbohfbhfbelaaGreatDoorSxW
import Derived.RangeFuncRecord
import Derived.Laws.Sem
set_option linter.unusedSimpArgs false
set_option linter.unusedVariables false
namespace Go.Sx
open Go Go.RowKit
def XE (tmps : Array Value) : ResultVar → Sem Value
 | .tmp t => pure (tmps.getD t undef)
 | .cell a t => do loadVar t (← asAddr (tmps.getD a undef))
def mz (vs : List Value) : Value :=
 match vs with
 | [v] => v
 | vs => .tuple vs.toArray
theorem qI {α β : Type} {f : α → Sem β} {g : α → β} {P : Program} {w : World} : ∀ (l : List α), (∀ x ∈ l, (f x).run P w = .ok (g x) w) → (l.mapM f).run P w = .ok (l.map g) w
 | [], _ => by simp
 | x :: xs, h => by
  rw [List.mapM_cons]
  simp only [Sem.run_bind, h x List.mem_cons_self, Result.andThen_ok, qI xs fun y hy => h y (List.mem_cons_of_mem _ hy), Sem.run_pure, List.map_cons]
theorem xK {fn : Func} {tmps : Array Value} {P : Program} {w : World} {g : ResultVar → Value} (h : ∀ x ∈ fn.results.toList, (XE tmps x).run P w = .ok (g x) w) :
  (results fn tmps).run P w = .ok (mz (fn.results.toList.map g)) w := by
 have h1 : (fn.results.mapM (XE tmps)).run P w = .ok (fn.results.toList.map g).toArray w := by
  rw [Array.mapM_eq_mapM_toList]
  simp only [map_eq_pure_bind, Sem.run_bind, qI _ h, Result.andThen_ok, Sem.run_pure]
 have h2 : (results fn tmps) = (do let vs ← fn.results.mapM (XE tmps); pure (if h : vs.size = 1 then vs[0] else .tuple vs)) := rfl
 rw [h2, Sem.run_bind, h1]
 simp only [Result.andThen_ok, Sem.run_pure]
 congr 1
 generalize fn.results.toList.map g = l
 match l with
 | [] => rfl
 | [v] => rfl
 | v :: u :: l => rfl
structure Shut (ds : List Deferred) (w w' : World) : Prop where
 os : w'.os = w.os
 tape : w'.tape = w.tape
 output : w'.output = w.output
 size : w'.heap.size = w.heap.size
 drawn : w'.drawn = w.drawn
 block : ∀ b, ({ target := .collected b, args := #[] } : Deferred) ∉ ds → w'.heap[b]? = w.heap[b]?
theorem xA {F : Fence} {n : Nat} {P : Program} {fn : Func} {tmps : Array Value} {R : Ending → World → Prop} {B : Nat} : ∀ (ds : List Deferred) (w : World) (S : Nat → Prop), wi B w S ds →
  (∀ w', Shut ds w w' → ∃ v, (results fn tmps).run P w' = .ok v w' ∧ R (.returned v) w') → LeavesInM F n P fn tmps R ds .returning w
 | [], w, _, _, h => h w ⟨rfl, rfl, rfl, rfl, rfl, fun _ _ => rfl⟩
 | d :: ds, w, S, hD, h => by
  obtain ⟨D, rfl, hS, hB, hh⟩ := hD.2 d List.mem_cons_self
  have hpw := List.pairwise_cons.1 hD.1
  have hlt : D < w.heap.size := (Array.getElem?_eq_some_iff.1 hh).1
  refine ⟨(fun h => by cases h), .inl ⟨D, w.putObj D (.deferred none), rfl, run_takeDeferred hh, ?_⟩⟩
  have hother : ∀ b, b ≠ D → (w.putObj D (.deferred none)).heap[b]? = w.heap[b]? := fun b hb => by
   simp [World.putObj, Ne.symm hb]
  refine xA (B := B) ds _ S ⟨hpw.2, fun d hd => ?_⟩ fun w' hs => h w' ⟨hs.os.trans rfl, hs.tape.trans rfl, hs.output.trans rfl, hs.size.trans (by simp [World.putObj]), hs.drawn.trans rfl, fun b hb => ?_⟩
  ·obtain ⟨D', rfl, h1, h2, h3⟩ := hD.2 d (List.mem_cons_of_mem _ hd)
   grind
  ·have h1 : b ≠ D := fun e => hb (by rw [e]; exact List.mem_cons_self)
   exact (hs.block b fun hm => hb (List.mem_cons_of_mem _ hm)).trans (hother b h1)
section
variable {P : Program} {E : Env} {w : World} {S : Nat → Prop} {ρ : Nat → Own}
theorem vM {a : Addr} {v : Value} {q : Option (List Deferred)} (h : w.cell? a = some v) : w.heap[a.block]? ≠ some (.deferred q) := fun e => by
 simp [World.cell?, e] at h
theorem zF.mono' {w' : World} {S' : Nat → Prop} {x : AV} {v : Value} (h : zF w S ρ x v)
  (hS : ∀ b, S b → (∀ q, w.heap[b]? ≠ some (.deferred q)) → S' b ∧ w'.heap[b]? = w.heap[b]?) : zF w' S' ρ x v := by
 induction h with
 | v x => exact .v x
 | str l => exact .str l
 | xl o cap cvs hle hm hf hc hr ih =>
  refine .xl o cap cvs hle hm hf (fun i j hi hj => ?_) ih
  obtain ⟨A, e, hs, hcell, ho⟩ := hc i j hi hj
  have h1 := hS _ hs fun q => by have := vM (q := q) hcell; rwa [yS] at this
  exact ⟨A, e, h1.1, (W9 (w := w) (w' := w') (by rw [yS]; exact h1.2)).trans hcell, ho⟩
 | xq A cvs hc hr ih =>
  refine .xq A cvs (fun i hi => ?_) ih
  obtain ⟨hs, hcell, ho⟩ := hc i hi
  have h1 := hS _ hs fun q => by have := vM (q := q) hcell; rwa [yS] at this
  exact ⟨h1.1, (W9 (w := w) (w' := w') (by rw [yS]; exact h1.2)).trans hcell, ho⟩
 | np g h => exact .np g h
 | ns g base cap sz L h hl hc => exact .ns g base cap sz L h hl hc
 | ns0 g base cap sz L A h hl hc h0 => exact .ns0 g base cap sz L A h hl hc h0
 | nsn sz o h => exact .nsn sz o h
 | ap g base cap sz L h hi hc => exact .ap g base cap sz L h hi hc
 | yl g r h => exact .yl g r h
 | dyl h hx => exact .dyl h hx
 | dnp h hx => exact .dnp h hx
 | dns h hx => exact .dns h hx
 | dap h hx => exact .dap h hx
 | agg vs hn hr ih => exact .agg vs hn ih
 | tup vs hn hr ih => exact .tup vs hn ih
 | fn vs us hn hm hr hs ih1 ih2 => exact .fn vs us hn hm ih1 ih2
 | gd v h h' ih => exact .gd v ih h'
 | nb t h => exact .nb t h
 | er x h1 h2 => exact .er x h1 h2
 | ps g cap h hc => exact .ps g cap h hc
 | dps h hx => exact .dps h hx
 | mp g h => exact .mp g h
 | dmp h hx => exact .dmp h hx
 | junk x => exact .junk x
theorem TF.mono' {w' : World} {S' : Nat → Prop} {B : OB} {o : Own} (h : TF w S ρ B o)
  (hS : ∀ b, S b → (∀ q, w.heap[b]? ≠ some (.deferred q)) → S' b ∧ w'.heap[b]? = w.heap[b]?) (hb : ∀ g, o.has g → (∀ q, w.heap[g]? ≠ some (.deferred q)) → w'.heap[g]? = w.heap[g]?) : TF w' S' ρ B o := by
 cases B with
 | dead => cases o <;> first | exact h | trivial
 | box t n cells =>
  cases o with
  | box g =>
   obtain ⟨c, h1, h2, h3⟩ := h
   exact ⟨c, (hb g rfl fun q e => by rw [h1] at e; cases e).trans h1, h2, fun i hi => ⟨(h3 i hi).1.mono' hS, (h3 i hi).2⟩⟩
  | _ => exact h.elim
 | arr t sz len els =>
  cases o with
  | arr g base cap sz' len' =>
   obtain ⟨e1, e2, h1, h2, c, h3, h4, h5⟩ := h
   exact ⟨e1, e2, h1, h2, c, (hb g rfl fun q e => by rw [h3] at e; cases e).trans h3, h4, fun i j hi hj => ⟨(h5 i j hi hj).1.mono' hS, (h5 i j hi hj).2⟩⟩
  | nila sz' => exact h
  | _ => exact h.elim
 | mp ks f =>
  cases o with
  | mp g =>
   obtain ⟨es, h1, h2, h3⟩ := h
   exact ⟨es, (hb g rfl fun q e => by rw [h1] at e; cases e).trans h1, h2, fun a b => (h3 a b).mono' hS⟩
  | _ => exact h.elim
 | lrec st pend =>
  cases o with
  | lrec g r => exact (hb g rfl fun q e => by rw [show w.heap[g]? = _ from h] at e; cases e).trans h
  | _ => exact h.elim
theorem UA {nb : Nat} {bl : Nat → OB} {ds : List Deferred} {w' : World} (hM : Mem E nb bl S ρ w) (hD : wi E.w0.heap.size w S ds) (hs : Shut ds w w') :
  ∃ S', Mem { E with G := { E.G with objs := [] }, S0 := fun b => E.S0 b ∧ b < E.w0.heap.size } nb bl S' ρ w' ∧ (∀ b, S b → b < E.w0.heap.size → S' b ∧ w'.heap[b]? = w.heap[b]?) ∧
   ∀ b, S b → (∀ q, w.heap[b]? ≠ some (.deferred q)) → S' b ∧ w'.heap[b]? = w.heap[b]? := by
 have hmark : ∀ b, ({ target := .collected b, args := #[] } : Deferred) ∈ ds → S b ∧ E.w0.heap.size ≤ b ∧ w.heap[b]? = some (.deferred (some [])) := fun b hb => by
  obtain ⟨D, e, h1, h2, h3⟩ := hD.2 _ hb
  simp_all
 have hS : ∀ b, S b → (∀ q, w.heap[b]? ≠ some (.deferred q)) → (S b ∧ ({ target := .collected b, args := #[] } : Deferred) ∉ ds) ∧ w'.heap[b]? = w.heap[b]? := fun b hb hq => by
  have hno : ({ target := .collected b, args := #[] } : Deferred) ∉ ds := fun h => hq _ (hmark b h).2.2
  exact ⟨⟨hb, hno⟩, hs.block b hno⟩
 have hown : ∀ k g, (ρ k).has g → (∀ q, w.heap[g]? ≠ some (.deferred q)) → w'.heap[g]? = w.heap[g]? := fun k g _ hq => hs.block g fun h => hq _ (hmark g h).2.2
 refine ⟨fun b => S b ∧ ({ target := .collected b, args := #[] } : Deferred) ∉ ds, ⟨⟨hs.os.trans hM.fr.os, hs.tape.trans hM.fr.tape, hs.output.trans hM.fr.output, by rw [hs.size]; exact hM.fr.size, fun b hb hx => ?_, by rw [fT hs.drawn]; exact hM.fr.drawn⟩,
  fun b hb => by rw [hs.size]; exact hM.sb b hb.1, fun b hb => ⟨hM.sup b hb.1, fun h => ?_⟩, fun b hb => ?_, fun b o h => (by cases h), hM.hi, fun k hk => ?_, fun k g e => ⟨fun h => (hM.own k g e).1 h.1, (hM.own k g e).2⟩, hM.dis, hM.b0, hM.nbz, hM.ole⟩, fun b hb hlt => ⟨⟨hb, fun h => absurd (hmark b h).2.1 (Nat.not_le.2 hlt)⟩, hs.block b fun h => absurd (hmark b h).2.1 (Nat.not_le.2 hlt)⟩, hS⟩
 ·exact (hs.block b fun h => absurd (hmark b h).2.1 (Nat.not_le.2 hb)).trans (hM.fr.block b hb hx)
 ·grind
 ·rcases hM.sub b hb.1 with h | h | h
  all_goals grind
 ·exact (hM.ok k hk).mono' hS fun g e hq => hown k g e hq
def Qx (P : Program) (σ : zo) : ResultVar → Option AV
 | .tmp t =>
  match σ.ev (.tmp t) with
  | .gd _ _ => none
  | x => some x
 | .cell a t =>
  match shapeOf P t with
  | some sh => xx σ.bl sh (σ.ev (.tmp a))
  | none => none
def SB (P : Program) (σ : zo) : List ResultVar → Option (List AV)
 | [] => some []
 | x :: xs =>
  match Qx P σ x, SB P σ xs with
  | some y, some ys => some (y :: ys)
  | _, _ => none
def uW : List AV → AV
 | [x] => x
 | xs => .tup xs.length (zt xs)
def mc (p : Nat → Prop) : Nat → Prop
 | 0 => True
 | n + 1 => mc p n ∧ p n
theorem mL {p : Nat → Prop} : ∀ {n : Nat}, mc p n ↔ vD p n
 | 0 => Iff.rfl
 | 1 => by simp only [mc, vD, true_and]
 | n + 2 => by
  show (mc p (n + 1) ∧ p (n + 1)) ↔ (vD p (n + 1) ∧ p (n + 1))
  rw [mL]
def Fp : AV → AV → Prop
 | .tup n cs, .tup n' cs' => n' = n ∧ mc (fun i => zB (cs i) (cs' i)) n
 | x, y => zB x y
theorem Jf {x y : AV} : Fp x y ↔ zB x y := by
 unfold Fp
 split
 ·simp only [zB, mL]
 ·rfl
def nS (P : Program) (rs : List ResultVar) (r : AV) (σ : zo) : Prop :=
 match SB P σ rs with
 | some xs =>
  match YE σ xs with
  | some (_, xs') =>
   match xs'.any AV.hasOwn with
   | true => False
   | false => Fp (uW xs') r
  | none => False
 | none => False
theorem RA {σ : zo} {a : Act} {x : ResultVar} {y : AV} (hM : Mem E σ.nb σ.bl S ρ w) (hF : Yq w S ρ σ.n σ.tm a) (h : Qx P σ x = some y) :
  ∃ v, (XE a.tmps x).run P w = .ok v w ∧ zF w S ρ y v := by
 unfold Qx at h
 split at h
 ·rename_i t
  split at h
  ·cases h
  ·cases h
   exact ⟨a.tmps.getD t undef, rfl, hF.ev (.tmp t)⟩
 ·rename_i b t
  split at h
  ·rename_i sh hs
   obtain ⟨ad, e, hh⟩ := U3 hM (hF.ev (.tmp b)) h
   have e' : a.tmps.getD b undef = .pointer (some ad) := e
   have hrun : ∀ u, (loadVar t ad).run P w = .ok u w → (XE a.tmps (.cell b t)).run P w = .ok u w := fun u hu => by
    simp only [XE, e', asAddr, Sem.run_bind, Sem.run_pure, Result.andThen_ok, hu]
   cases sh with
   | none =>
    obtain ⟨u, h1, h2, _⟩ := hh
    exact ⟨u, hrun _ (wB hs h1), h2⟩
   | some m =>
    obtain ⟨f, cs, rfl, h1⟩ := hh
    exact ⟨_, hrun _ (YN f hs fun j hj => (h1 j hj).1), .agg _ (by simp) fun i hi => by rw [wL _ _ _ hi]; exact (h1 i hi).2⟩
  ·cases h
theorem wn {σ : zo} {a : Act} (hM : Mem E σ.nb σ.bl S ρ w) (hF : Yq w S ρ σ.n σ.tm a) : ∀ (xs : List ResultVar) (ys : List AV), SB P σ xs = some ys →
  ∃ g : ResultVar → Value, (∀ x ∈ xs, (XE a.tmps x).run P w = .ok (g x) w) ∧ ZI w S ρ ys (xs.map g) := by
 intro xs ys h
 have hall : ∀ x ∈ xs, ∃ y v, Qx P σ x = some y ∧ (XE a.tmps x).run P w = .ok v w ∧ zF w S ρ y v := by
  induction xs generalizing ys with
  | nil => simp
  | cons x xs ih =>
   simp only [SB] at h
   split at h
   ·rename_i y ys' h1 h2
    intro z hz
    rcases List.mem_cons.1 hz with e | e
    ·obtain ⟨v, h3, h4⟩ := RA hM hF h1
     simp_all
    simp_all
   ·cases h
 let g : ResultVar → Value := fun x => match (XE a.tmps x).run P w with | .ok v _ => v | _ => undef
 have hg : ∀ x ∈ xs, (XE a.tmps x).run P w = .ok (g x) w ∧ ∀ y, Qx P σ x = some y → zF w S ρ y (g x) := fun x hx => by
  grind
 refine ⟨g, fun x hx => (hg x hx).1, ?_⟩
 clear hall
 induction xs generalizing ys with
 | nil => cases h; trivial
 | cons x xs ih =>
  simp only [SB] at h
  split at h
  ·rename_i y ys' h1 h2
   cases h
   exact ⟨(hg x List.mem_cons_self).2 y h1, ih _ h2 fun z hz => hg z (List.mem_cons_of_mem _ hz)⟩
  ·cases h
theorem Vo {xs : List AV} {vs : List Value} (h : ZI w S ρ xs vs) : zF w S ρ (uW xs) (mz vs) := by
 match xs, vs, h with
 | [], [], _ => exact .tup #[] rfl fun i hi => absurd hi (Nat.not_lt_zero _)
 | [x], [v], h => exact h.1
 | x :: y :: xs, v :: u :: vs, h =>
  have := h.get
  exact .tup (v :: u :: vs).toArray (by simpa using this.1.symm) this.2
end
end Go.Sx
