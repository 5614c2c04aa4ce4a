/- Contracts from verification conditions. -/
import Derived.Test.YtdkpceodckdcfaaGreatDoorSxX
import Derived.Shelf.Abstract
set_option linter.unusedSimpArgs false
set_option linter.unusedVariables false
namespace Go.Sx
open Go Go.RowKit
def entry (n : Nat) (args : List AV) : ze := { n := n, tm := zT args, nb := 0, bl := fun _ => .dead }
abbrev fN : Type := FuncId → Option (Nat → (Nat → OB) → List AV → (Nat → (Nat → OB) → AV → Prop) → Prop)
abbrev H8 : Type := FuncId → List AV → Option (List zN × AV)
abbrev J2 : Type := FuncId → List AV → Option (List zN × TypeId × Nat × Nat × (Nat → Nat → AV))
structure Tb where
 objs : List (Nat × Obj)
 own : fN
 pu : H8
 fre : J2
 conc : Bool
def Tb.cx (T : Tb) (nb0 : Nat) : Cx := { objs := T.objs, nb0 := nb0, own := T.own, pu := T.pu, fre := T.fre, conc := T.conc }
structure zY (P : Program) (T : Tb) : Prop where
 own : ∀ f t, T.own f = some t → Sl P T.objs f t
 pu : ∀ f xs ps r, T.pu f xs = some (ps, r) → (∀ p ∈ ps, p.holds) → zS P T.objs f xs r
 fre : ∀ f xs ps t sz len els, T.fre f xs = some (ps, t, sz, len, els) → (∀ p ∈ ps, p.holds) → yk P T.objs f xs t sz len els
theorem zY.cx {P : Program} {T : Tb} (h : zY P T) (nb0 : Nat) : Zq P (T.cx nb0) := ⟨h.own, h.pu, h.fre, fun p t e => by cases e⟩
def AV.bnd : AV → Prop
 | .xl _ sz len els => len ≤ 9223372036854775807 ∧ ∀ i j, i < len → j < sz → (els i j).bnd
 | .agg n cs => vR (fun i => (cs i).bnd) n
 | _ => True
def zB : List AV → Prop
 | [] => True
 | [x] => x.bnd
 | x :: xs => x.bnd ∧ zB xs
theorem Us {p : Nat → Prop} {n : Nat} (h : ∀ i, i < n → p i) : vR p n := by
 induction n with
 | zero => trivial
 | succ n ih =>
  cases n with
  | zero => exact h 0 (by omega)
  | succ n => exact ⟨ih fun i hi => h i (by omega), h _ (by omega)⟩
theorem Zz.bnd {w : World} {S : Nat → Prop} {ρ : Nat → Own} {x : AV} {v : Value} (h : Zz w S ρ x v) : x.bnd := by
 induction h with
 | xl o cap cvs hle hm hf hc hr ih => exact ⟨by simp only [maxLen] at hm; omega, ih⟩
 | agg vs hn hr ih => exact Us ih
 | _ => trivial
theorem ZB.bnd {w : World} {S : Nat → Prop} {ρ : Nat → Own} : ∀ {xs : List AV} {vs : List Value}, ZB w S ρ xs vs → zB xs
 | [], [], _ => trivial
 | [x], [v], h => h.1.bnd
 | x :: y :: xs, v :: u :: vs, h => ⟨h.1.bnd, ZB.bnd h.2⟩
 | [], _ :: _, h => h.elim
 | _ :: _, [], h => h.elim
 | [_], _ :: _ :: _, h => h.2.elim
 | _ :: _ :: _, [_], h => h.2.elim
@[irreducible] def SK (P : Program) (T : Tb) (f : FuncId) (an : yW) (args : List AV) (r : AV) : Prop :=
 match P.funcs[f]? with
 | some fn =>
  match fn.body with
  | some c =>
   match Nat.ble args.length fn.ntmps && !(fn.name == "runtime.NumGoroutine") with
   | true => zB args → iM P 6 c an (T.cx 0) (entry fn.ntmps args) (On P fn.results.toList r) (fun _ _ => False) (On P fn.results.toList r)
   | false => False
  | none => False
 | none => False
section
variable {P : Program} {T : Tb}
theorem qZ {w : World} {S : Nat → Prop} {n : Nat} {args : List AV} {vals : List Value} (hS : ∀ b, S b → b < w.heap.size) (hG : ∀ b o, (b, o) ∈ T.objs → S b ∧ w.heap[b]? = some o)
  (hr : ZB w S yL args vals) (hn : args.length ≤ n) :
  St { w0 := w, X := fun _ => False, S0 := S, G := T.cx 0, r0 := yL } (entry n args) { tmps := vals.toArray ++ Array.replicate (n - vals.toArray.size) undef, defers := [] } w := by
 obtain ⟨hl, hget⟩ := hr.get
 refine ⟨S, yL, ⟨Fr.refl _ _, hS, fun _ h => h, fun _ h => .inl h, hG, fun _ _ => rfl, fun k hk => absurd hk (Nat.not_lt_zero _), fun k g e => (by cases e), fun k k' g e => (by cases e), fun k g base cap sz L e => (by cases e), Nat.zero_le _, fun k hk => absurd hk (Nat.not_lt_zero _)⟩,
  ⟨?_, fun t _ => ?_⟩, ⟨List.Pairwise.nil, fun d hd => (by cases hd)⟩⟩
 ·simp only [Array.size_append, List.size_toArray, Array.size_replicate]
  show vals.length + (n - vals.length) = n
  omega
 ·show Zz w S yL (zT args t) _
  by_cases ht : t < args.length
  ·have := hget t ht
   rw [Array.getD_eq_getD_getElem?, Array.getElem?_append_left (by simpa [hl] using ht), ← Array.getD_eq_getD_getElem?]
   exact this
  ·have : zT args t = .junk := by simp [zT, List.getElem?_eq_none (Nat.not_lt.1 ht)]
   rw [this]
   exact .junk _
theorem sD {fn : Func} {w0 : World} {S : Nat → Prop} {σ : ze} {a : Act} {w : World} {r : AV} {n : Nat} (h : On P fn.results.toList r σ) (hst : St { w0 := w0, X := fun _ => False, S0 := S, G := T.cx 0, r0 := yL } σ a w) :
  LeavesInM (FW none) n P fn a.tmps (fun e w' => iu w0 w' ∧ ∃ rv, e = .returned rv ∧ Zz w' (fun b => S b ∨ (w0.heap.size ≤ b ∧ b < w'.heap.size)) yL r rv) a.defers .returning w := by
 obtain ⟨S1, ρ1, hM, hF, hD⟩ := hst
 refine x7 a.defers w S1 hD fun w' hs => ?_
 obtain ⟨S2, hM2, hsub, hkeep⟩ := tZ hM hD hs
 have hF2 : Y5 w' S2 ρ1 σ.n σ.tm { tmps := a.tmps, defers := [] } := ⟨hF.1, fun t ht => (hF.2 t ht).mono' hkeep⟩
 unfold On at h
 split at h
 ·rename_i xs hxs
  split at h
  ·rename_i σ' xs' hc
   split at h
   ·exact h.elim
   ·rename_i hno
    obtain ⟨g, hrun, hrel⟩ := wM hM2 hF2 _ _ hxs
    obtain ⟨S3, ρ3, hM3, _, _, hrel3⟩ := XO hc hM2 hF2 ⟨List.Pairwise.nil, fun d hd => (by cases hd)⟩ hrel
    refine ⟨_, xj hrun, ⟨⟨hM3.fr.os, hM3.fr.tape, hM3.fr.output, hM3.fr.size, fun k hk => hM3.fr.block k hk fun hx => hx.elim⟩, hM3.fr.drawn⟩, _, rfl, ?_⟩
    refine (wY (vA (hrel3.free (XZ hno))) (Jy.1 h)).mono (fun b hb => ⟨?_, rfl⟩) (z7.refl _)
    rcases hM3.sub b hb with h1 | h1 | h1
    ·simp_all
    ·exact h1.elim
    ·exact .inr ⟨h1, hM3.sb b hb⟩
  simp_all
 simp_all
theorem zV {f : FuncId} {an : yW} {args : List AV} {r : AV} (hm : P.follows .mixedOrders = true) (hT : zY P T) (h : SK P T f an args r) : zS P T.objs f args r := by
 unfold SK at h
 split at h
 ·rename_i fn hf
  split at h
  ·rename_i c hb
   split at h
   ·rename_i hc
    simp only [Bool.and_eq_true, Bool.not_eq_true'] at hc
    refine ⟨Go.Proofs.enters_of hf hc.2 hb, fun w S vals hS hG hr => ?_⟩
    refine X8.1 (callsIn_of_wp_marks (F := FW none) (n := 0) hf hb trivial ?_)
    exact WI hm 6 c an { w0 := w, X := fun _ => False, S0 := S, G := T.cx 0, r0 := yL } _ _ _ _ _ _ _ none 0 (hT.cx 0) ⟨fun b hb => ⟨hS b hb, fun h => h⟩, fun _ _ => rfl, fun p T h => (by cases h)⟩ rfl (h hr.bnd) (qZ hS hG hr (Nat.le_of_ble_eq_true hc.1)) (fun σ a w hk hst => sD hk hst) (fun i σ a w hk _ => hk.elim) fun σ a w hk hst => sD hk hst
   simp_all
  simp_all
 simp_all
def wn (objs : List (Nat × Obj)) : Tb := ⟨objs, fun _ => none, fun _ _ => none, fun _ _ => none, false⟩
theorem zr {objs : List (Nat × Obj)} : zY P (wn objs) := ⟨fun f T h => (by cases h), fun f xs ps r h => (by cases h), fun f xs ps t sz len els h => (by cases h)⟩
def Tb.plus (T : Tb) (f : FuncId) (t : List AV → Option (List zN × AV)) : Tb := { T with pu := fun g xs => bif Nat.beq g f then t xs else T.pu g xs }
def zQ (P : Program) (objs : List (Nat × Obj)) (f : FuncId) (t : List AV → Option (List zN × AV)) : Prop := ∀ xs ps r, t xs = some (ps, r) → (∀ p ∈ ps, p.holds) → zS P objs f xs r
theorem zY.plus (h : zY P T) {f : FuncId} {t : List AV → Option (List zN × AV)} (ht : zQ P T.objs f t) : zY P (T.plus f t) := by
 refine ⟨h.own, fun g xs ps r e hp => ?_, h.fre⟩
 simp only [Tb.plus] at e
 cases hb : Nat.beq g f with
 | true =>
  rw [hb] at e
  obtain rfl := Nat.eq_of_beq_eq_true hb
  exact ht _ _ _ e hp
 | false => rw [hb] at e; exact h.pu _ _ _ _ e hp
def Tb.plusF (T : Tb) (f : FuncId) (t : List AV → Option (List zN × TypeId × Nat × Nat × (Nat → Nat → AV))) : Tb := { T with fre := fun g xs => bif Nat.beq g f then t xs else T.fre g xs }
def TX (P : Program) (objs : List (Nat × Obj)) (f : FuncId) (t : List AV → Option (List zN × TypeId × Nat × Nat × (Nat → Nat → AV))) : Prop :=
 ∀ xs ps ty sz len els, t xs = some (ps, ty, sz, len, els) → (∀ p ∈ ps, p.holds) → yk P objs f xs ty sz len els
theorem zY.plusF (h : zY P T) {f : FuncId} {t : List AV → Option (List zN × TypeId × Nat × Nat × (Nat → Nat → AV))} (ht : TX P T.objs f t) : zY P (T.plusF f t) := by
 refine ⟨h.own, h.pu, fun g xs ps ty sz len els e hp => ?_⟩
 simp only [Tb.plusF] at e
 cases hb : Nat.beq g f with
 | true =>
  rw [hb] at e
  obtain rfl := Nat.eq_of_beq_eq_true hb
  exact ht _ _ _ _ _ _ e hp
 | false => rw [hb] at e; exact h.fre _ _ _ _ _ _ _ e hp
def jj (P : Program) (rs : List ResultVar) (t : TypeId) (sz len : Nat) (els : Nat → Nat → AV) (σ : ze) : Prop :=
 match SV P σ rs with
 | some [.ns k 0 n] =>
  match σ.bl k with
  | .arr t' sz' L els' => t' = t ∧ sz' = sz ∧ n = len ∧ ∀ i j, i < len → j < sz → zc (els' i j) (els i j)
  | _ => False
 | some [.v (.slice none 0 0)] => len = 0
 | some [.xl _ _ n _] => n = 0 ∧ len = 0 ∧ False
 | _ => False
@[irreducible] def ry (P : Program) (T : Tb) (f : FuncId) (an : yW) (args : List AV) (t : TypeId) (sz len : Nat) (els : Nat → Nat → AV) : Prop :=
 match P.funcs[f]? with
 | some fn =>
  match fn.body with
  | some c =>
   match Nat.ble args.length fn.ntmps && !(fn.name == "runtime.NumGoroutine") with
   | true => zB args → iM P 6 c an (T.cx 0) (entry fn.ntmps args) (jj P fn.results.toList t sz len els) (fun _ _ => False) (jj P fn.results.toList t sz len els)
   | false => False
  | none => False
 | none => False
theorem Tg {fn : Func} {w0 : World} {S : Nat → Prop} {σ : ze} {a : Act} {w : World} {t : TypeId} {sz len : Nat} {els : Nat → Nat → AV} {n : Nat} (h : jj P fn.results.toList t sz len els σ) (hst : St { w0 := w0, X := fun _ => False, S0 := S, G := T.cx 0, r0 := yL } σ a w) :
  LeavesInM (FW none) n P fn a.tmps (fun e w' => iu w0 w' ∧ ∃ rv, e = .returned rv ∧ NE S w0 w' t sz len els rv) a.defers .returning w := by
 obtain ⟨S1, ρ1, hM, hF, hD⟩ := hst
 refine x7 a.defers w S1 hD fun w' hs => ?_
 obtain ⟨S2, hM2, hsub, hkeep⟩ := tZ hM hD hs
 have hF2 : Y5 w' S2 ρ1 σ.n σ.tm { tmps := a.tmps, defers := [] } := ⟨hF.1, fun t ht => (hF.2 t ht).mono' hkeep⟩
 have hbelow : iu w0 w' := ⟨⟨hM2.fr.os, hM2.fr.tape, hM2.fr.output, hM2.fr.size, fun k hk => hM2.fr.block k hk fun hx => hx.elim⟩, hM2.fr.drawn⟩
 unfold jj at h
 split at h
 ·rename_i k n' hxs
  obtain ⟨g, hrun, hrel⟩ := wM hM2 hF2 _ _ hxs
  cases hb : σ.bl k with
  | arr t' sz' L els' =>
   rw [hb] at h
   obtain ⟨rfl, rfl, rfl, h4⟩ := h
   have hr := vA hrel
   have hbk := hM2.at k
   refine ⟨_, xj hrun, hbelow, _, rfl, ?_⟩
   obtain ⟨pv, hpv⟩ : ∃ pv, N0 (fn.results.toList.map g) = pv := ⟨_, rfl⟩
   rw [hpv] at hr ⊢
   cases hr with
   | ns g' base cap sz2 L' hk hl hc =>
    have hbk := hbk.resolve_left (by rw [hk]; simp)
    have hb0 := hM2.b0 _ _ _ _ _ _ hk
    subst hb0
    rw [hb, hk] at hbk
    obtain ⟨e1, e2, h1, h2, c, h3, h5, h6⟩ := hbk
    subst e1; subst e2
    obtain ⟨hno, hnew⟩ := hM2.own k g' (by rw [hk]; rfl)
    refine .inr ⟨g', cap, c, by simp, ?_, h3, by omega, h2, by simpa using h5, fun i j hi hj => ?_⟩
    ·simp_all
    ·have := h6 i j (by omega) hj
     rw [Nat.zero_add] at this
     refine ⟨wY (this.1.mono (fun b hb => ⟨?_, rfl⟩) (z7.refl _)) (h4 i j hi hj), this.2⟩
     rcases hM2.sub b hb with q | q | q
     ·simp_all
     ·exact q.elim
     ·exact .inr ⟨q, hM2.sb b hb, fun e => hno (e ▸ hb)⟩
   | ns0 g' base cap sz2 L' A hk hl hc h0 => exact .inl ⟨rfl, _, rfl⟩
   | nsn sz2 o hk => exact .inl ⟨rfl, _, rfl⟩
   | dns hd hsh =>
    have hbk := hbk.resolve_left (by rw [hd]; simp)
    rw [hb, hd] at hbk
    exact hbk.elim
  | _ => rw [hb] at h; exact h.elim
 ·rename_i hxs
  obtain ⟨g, hrun, hrel⟩ := wM hM2 hF2 _ _ hxs
  have hr := vA hrel
  refine ⟨_, xj hrun, hbelow, _, rfl, .inl ⟨h, none, ?_⟩⟩
  exact Zg hr
 all_goals simp_all
theorem qq {f : FuncId} {an : yW} {args : List AV} {t : TypeId} {sz len : Nat} {els : Nat → Nat → AV} (hm : P.follows .mixedOrders = true) (hT : zY P T) (h : ry P T f an args t sz len els) : yk P T.objs f args t sz len els := by
 unfold ry at h
 split at h
 ·rename_i fn hf
  split at h
  ·rename_i c hb
   split at h
   ·rename_i hc
    simp only [Bool.and_eq_true, Bool.not_eq_true'] at hc
    refine ⟨Go.Proofs.enters_of hf hc.2 hb, fun w S vals hS hG hr => ?_⟩
    refine X8.1 (callsIn_of_wp_marks (F := FW none) (n := 0) hf hb trivial ?_)
    exact WI hm 6 c an { w0 := w, X := fun _ => False, S0 := S, G := T.cx 0, r0 := yL } _ _ _ _ _ _ _ none 0 (hT.cx 0) ⟨fun b hb => ⟨hS b hb, fun h => h⟩, fun _ _ => rfl, fun p T h => (by cases h)⟩ rfl (h hr.bnd) (qZ hS hG hr (Nat.le_of_ble_eq_true hc.1)) (fun σ a w hk hst => Tg hk hst) (fun i σ a w hk _ => hk.elim) fun σ a w hk hst => Tg hk hst
   simp_all
  simp_all
 simp_all
end
end Go.Sx

namespace Go.Sx
open Go Go.RowKit
section
variable {P : Program} {G : Cx}
def pq (P : Program) (rs : List ResultVar) (k : Nat → (Nat → OB) → AV → Prop) (σ : ze) : Prop :=
 match SV P σ rs with
 | some xs => k σ.nb σ.bl (V8 xs)
 | none => False
def O6 (P : Program) (T : Tb) (f : FuncId) (an : yW) (nb : Nat) (bl : Nat → OB) (xs : List AV) (k : Nat → (Nat → OB) → AV → Prop) : Prop :=
 match P.funcs[f]? with
 | some fn =>
  match fn.body with
  | some c =>
   match Nat.ble xs.length fn.ntmps && !(fn.name == "runtime.NumGoroutine") with
   | true => iM P 6 c an (T.cx nb) { n := fn.ntmps, tm := zT xs, nb := nb, bl := bl } (pq P fn.results.toList k) (fun _ _ => False) (pq P fn.results.toList k)
   | false => False
  | none => False
 | none => False
theorem su {rs : List ResultVar} {k k' : Nat → (Nat → OB) → AV → Prop} (h : ∀ nb bl x, k nb bl x → k' nb bl x) (σ : ze) (hv : pq P rs k σ) : pq P rs k' σ := by
 unfold pq at hv ⊢
 grind
end
section
variable {P : Program} {T : Tb}
theorem nG (hT : zY P T) {f : FuncId} {an : yW} {nb : Nat} {bl : Nat → OB} {xs : List AV} {k k' : Nat → (Nat → OB) → AV → Prop}
  (h : ∀ nb bl x, k nb bl x → k' nb bl x) (hv : O6 P T f an nb bl xs k) : O6 P T f an nb bl xs k' := by
 unfold O6 at hv ⊢
 split at hv
 ·split at hv
  ·split at hv
   ·exact VZ 6 _ _ _ _ _ _ _ _ _ _ (hT.cx nb) (su h) (fun _ _ h => h) (su h) hv
   omega
  omega
 omega
theorem Uo {E : Env} {nb : Nat} {bl : Nat → OB} {S : Nat → Prop} {ρ : Nat → Own} {w : World} {k : Nat → (Nat → OB) → AV → Prop} {fn : Func} {σ : ze} {a : Act} {w1 : World} {n : Nat} (hM : Mem E nb bl S ρ w)
  (h : pq P fn.results.toList k σ) (hst : St (oK w S ρ (T.cx nb)) σ a w1) :
  LeavesInM (FW none) n P fn a.tmps (KS E S ρ w k) a.defers .returning w1 := by
 refine tM hM rfl hst fun w2 S2 ρ2 m1 m2 m3 _ m5 => ?_
 unfold pq at h
 split at h
 ·rename_i xs hxs
  obtain ⟨g, hrun, hrel⟩ := wM m1 m5 _ _ hxs
  exact ⟨_, xj hrun, _, _, S2, ρ2, _, _, rfl, h, m1, m2, m3, vA hrel⟩
 simp_all
theorem nB (hm : P.follows .mixedOrders = true) (hT : zY P T) {f : FuncId} {an : yW} {fn : Func} {c : Code} (hf : P.funcs[f]? = some fn) (hb : fn.body = some c)
  (hn : (fn.name == "runtime.NumGoroutine") = false) : Sl P T.objs f (O6 P T f an) := by
 refine ⟨Go.Proofs.enters_of hf hn hb, fun nb bl xs k k' h hv => nG hT h hv, fun E nb bl S ρ w xs vs k hEG hM hx hv => ?_⟩
 unfold O6 at hv
 rw [hf] at hv
 simp only [hb] at hv
 split at hv
 ·rename_i hc
  simp only [Bool.and_eq_true] at hc
  have hlen : xs.length ≤ fn.ntmps := Nat.le_of_ble_eq_true hc.1
  obtain ⟨hl, hget⟩ := hx.get
  refine X8.1 (callsIn_of_wp_marks (F := FW none) (n := 0) hf hb trivial ?_)
  exact WI hm 6 c an (oK w S ρ (T.cx nb)) _ _ _ _ _ _ _ none 0 (hT.cx nb) ⟨hM.inner_base, hM.hi, fun p T h => (by cases h)⟩ rfl hv
   ⟨S, ρ, hM.inner hEG.symm rfl, PW hx hlen, ⟨List.Pairwise.nil, fun d hd => (by cases hd)⟩⟩ (fun σ a w1 hk hst => Uo hM hk hst)
   (fun i σ a w hk _ => hk.elim) fun σ a w1 hk hst => Uo hM hk hst
 simp_all
def tF (P : Program) (T : Tb) (f : FuncId) (an : yW) : Option (Nat → (Nat → OB) → List AV → (Nat → (Nat → OB) → AV → Prop) → Prop) :=
 match P.funcs[f]? with
 | some fn =>
  match fn.body with
  | some _ => (match fn.name == "runtime.NumGoroutine" with | true => none | false => some (O6 P T f an))
  | none => none
 | none => none
theorem wg (hm : P.follows .mixedOrders = true) (hT : zY P T) {f : FuncId} {an : yW} {t : Nat → (Nat → OB) → List AV → (Nat → (Nat → OB) → AV → Prop) → Prop} (h : tF P T f an = some t) : Sl P T.objs f t := by
 unfold tF at h
 split at h
 ·rename_i fn hf
  split at h
  ·rename_i c hb
   split at h
   ·cases h
   ·rename_i hn
    cases h
    exact nB hm hT hf hb hn
  ·cases h
 ·cases h
def Gf : List (FuncId × yW) → FuncId → Option yW
 | [], _ => none
 | (g, a) :: l, f => bif Nat.beq g f then some a else Gf l f
def Tb.body (P : Program) (T : Tb) (l : List (FuncId × yW)) : Tb := { T with own := fun f => match Gf l f with | some an => tF P T f an | none => T.own f }
theorem zY.body (hm : P.follows .mixedOrders = true) (hT : zY P T) (l : List (FuncId × yW)) : zY P (T.body P l) := by
 refine ⟨fun f t h => ?_, hT.pu, hT.fre⟩
 simp only [Tb.body] at h
 split at h
 ·exact wg hm hT h
 ·exact hT.own _ _ h
def Tb.deep (P : Program) (T : Tb) : Nat → Tb
 | 0 => { T with conc := true }
 | n + 1 => { T with own := fun f => tF P (Tb.deep P T n) f .auto, conc := true }
theorem OI (P : Program) (T : Tb) : ∀ n, (T.deep P n).objs = T.objs
 | 0 => rfl
 | _ + 1 => rfl
theorem zY.deep (hm : P.follows .mixedOrders = true) (hT : zY P T) : ∀ n, zY P (T.deep P n)
 | 0 => ⟨hT.own, hT.pu, hT.fre⟩
 | n + 1 => ⟨fun f t h => by
   have := wg hm (zY.deep hm hT n) h
   rw [OI] at this
   exact this, hT.pu, hT.fre⟩
end
end Go.Sx

namespace Go.Sx
open Go Go.RowKit
theorem ZK {p : Prop} [DB p] {A : Prop} : zZ (DB.db p) A False ↔ p ∧ A := by
 rw [zu]
 constructor
 ·rintro ⟨h1, h2⟩
  have : DB.db p = true := by cases h : DB.db p with
   | true => rfl
   | false => exact (h2 h).elim
  exact ⟨DB.iff.1 this, h1 this⟩
 ·rintro ⟨hp, ha⟩
  exact ⟨fun _ => ha, fun h => by rw [DB.iff.2 hp] at h; cases h⟩
theorem j6 {a b : Int} {A B : Prop} : zZ (zn a b) A B ↔ (a < b → A) ∧ (b ≤ a → B) := by
 rw [zu, PY, decide_eq_true_eq, decide_eq_false_iff_not, Int.not_lt]
theorem gH {a b : Int} {A B : Prop} : zZ (leB a b) A B ↔ (a ≤ b → A) ∧ (b < a → B) := by
 rw [zu, rh, decide_eq_true_eq, decide_eq_false_iff_not, Int.not_le]
theorem jC {a b : Int} {A B : Prop} : zZ (a != b) A B ↔ (a ≠ b → A) ∧ (a = b → B) := by
 rw [zu, bne_iff_ne, bne_eq_false_iff_eq]
theorem Hn {a b : Int} {A B : Prop} : zZ (a == b) A B ↔ (a = b → A) ∧ (a ≠ b → B) := by
 rw [zu, beq_iff_eq, beq_eq_false_iff_ne]
theorem jW {x y : Bool} {A : Prop} : zZ (!x || y) A False ↔ (x = true → y = true) ∧ A := by cases x <;> cases y <;> simp [zZ]
theorem IP (a b : Bool) : (bif a then true else b) = (a || b) := by cases a <;> rfl
theorem ko (a b : Bool) : (bif a then b else false) = (a && b) := by cases a <;> rfl
theorem ZT {x : Bool} {p : Prop} [DB p] {A : Prop} : zZ (!x || DB.db p) A False ↔ (x = true → p) ∧ A := by
 rw [jW, DB.iff]
theorem Mw {x : Bool} {A : Prop} : zZ (!x || x) A False ↔ A := by cases x <;> simp [zZ]
theorem TH (x : Bool) : zU true x = x := rfl
theorem tH (x : Bool) : zU false x = !x := rfl
theorem NW {x y : Bool} {A : Prop} : zZ (!x || y) A False ↔ (x = true → y = true) ∧ A := by cases x <;> cases y <;> simp [zZ]
end Go.Sx

namespace Go.Sx
open Go Go.RowKit
def M4 : List AV → List AV → Prop
 | [], [] => True
 | x :: xs, y :: ys => zc x y ∧ M4 xs ys
 | _, _ => False
theorem UL {w : World} {S : Nat → Prop} {ρ : Nat → Own} : ∀ {xs ys : List AV} {vs : List Value}, M4 xs ys → ZB w S ρ xs vs → ZB w S ρ ys vs
 | [], [], [], _, _ => trivial
 | _ :: _, _ :: _, _ :: _, h, hr => ⟨wY hr.1 h.1, UL h.2 hr.2⟩
 | [], [], _ :: _, _, hr => hr.elim
 | _ :: _, _ :: _, [], _, hr => hr.elim
 | [], _ :: _, _, h, _ => h.elim
 | _ :: _, [], _, h, _ => h.elim
theorem weaken {P : Program} {G : List (Nat × Obj)} {f : FuncId} {xs ys : List AV} {r : AV} (h : M4 xs ys) (hp : zS P G f ys r) : zS P G f xs r :=
 ⟨hp.1, fun w S vals hS hG hr => hp.2 w S vals hS hG (UL h hr)⟩
theorem kB {P : Program} {G : List (Nat × Obj)} {f : FuncId} {xs ys : List AV} {t : TypeId} {sz len : Nat} {els : Nat → Nat → AV} (h : M4 xs ys) (hp : yk P G f ys t sz len els) : yk P G f xs t sz len els :=
 ⟨hp.1, fun w S vals hS hG hr => hp.2 w S vals hS hG (UL h hr)⟩
def AV.int : AV → Int
 | .v (.int _ n) => n
 | _ => 0
def AV.bool : AV → Bool
 | .v (.bool t) => t
 | _ => false
def AV.bytes : AV → List UInt8
 | .str l => l
 | _ => []
def yz : AV → Bool
 | .v (.int .i64 _) => true
 | _ => false
def isBool : AV → Bool
 | .v (.bool _) => true
 | _ => false
def ZO : AV → Bool
 | .str _ => true
 | _ => false
theorem Za {x : AV} (h : yz x = true) : x = .i (AV.int x) := by
 unfold yz at h
 split at h
 ·rfl
 ·cases h
theorem s8 {x : AV} (h : isBool x = true) : x = .b (AV.bool x) := by
 unfold isBool at h
 split at h
 ·rfl
 ·cases h
theorem ya {x : AV} (h : ZO x = true) : x = .str (AV.bytes x) := by
 unfold ZO at h
 split at h
 ·rfl
 ·cases h
class zp (α : Type) where
 n : Nat
 dflt : α
 enc : α → Nat → AV
 dec : (Nat → AV) → α
 ok : (Nat → AV) → Bool
 sound : ∀ cs, ok cs = true → ∀ j, j < n → zc (cs j) (enc (dec cs) j)
def Zp {α : Type} [zp α] (l : List α) : AV := .xl false (zp.n α) l.length fun i j => zp.enc (l.getD i zp.dflt) j
def xy {α : Type} [zp α] : AV → List α
 | .xl _ _ len els => (List.range len).map fun i => zp.dec (els i)
 | _ => []
def za (α : Type) [zp α] : AV → Bool
 | .xl _ sz len els => Nat.beq sz (zp.n α) && uc (fun i => zp.ok (α := α) (els i)) len
 | .v (.slice none 0 0) => true
 | _ => false
theorem zi {α : Type} [zp α] {x : AV} (h : za α x = true) : zc x (Zp (xy (α := α) x)) := by
 unfold za at h
 split at h
 ·rename_i f sz len els
  rw [Bool.and_eq_true] at h
  obtain rfl := Nat.eq_of_beq_eq_true h.1
  unfold Zp
  refine ⟨(fun h => by cases h), rfl, by simp [xy], fun i j hi hj => ?_⟩
  have : ((xy (α := α) (.xl f (zp.n α) len els)).getD i zp.dflt) = zp.dec (els i) := by
   simp [xy, List.getD_eq_getElem?_getD, hi]
  show zc (els i j) (zp.enc ((xy (α := α) (.xl f (zp.n α) len els)).getD i zp.dflt) j)
  rw [this]
  exact zp.sound _ (XW h.2 i hi) j hj
 ·exact ⟨rfl, rfl⟩
 ·cases h
instance : zp Int := ⟨1, 0, fun a _ => .i a, fun cs => AV.int (cs 0), fun cs => yz (cs 0), fun cs h j hj => by
 obtain rfl : j = 0 := by omega
 exact zf (Za h)⟩
instance : zp Bool := ⟨1, false, fun a _ => .b a, fun cs => AV.bool (cs 0), fun cs => isBool (cs 0), fun cs h j hj => by
 obtain rfl : j = 0 := by omega
 exact zf (s8 h)⟩
instance : zp (List UInt8) := ⟨1, [], fun a _ => .str a, fun cs => AV.bytes (cs 0), fun cs => ZO (cs 0), fun cs h j hj => by
 obtain rfl : j = 0 := by omega
 exact zf (ya h)⟩
def yx {α : Type} [zp α] (a : α) : AV := .agg (zp.n α) (zp.enc a)
def ZR {α : Type} [zp α] : AV → α
 | .agg _ cs => zp.dec cs
 | _ => zp.dflt
def ZH (α : Type) [zp α] : AV → Bool
 | .agg n cs => Nat.beq n (zp.n α) && zp.ok (α := α) cs
 | _ => false
theorem zH {α : Type} [zp α] {x : AV} (h : ZH α x = true) : zc x (yx (ZR (α := α) x)) := by
 unfold ZH at h
 split at h
 ·rename_i n cs
  rw [Bool.and_eq_true] at h
  obtain rfl := Nat.eq_of_beq_eq_true h.1
  exact ⟨rfl, Us fun i hi => zp.sound _ h.2 i hi⟩
 ·cases h
structure Wk (xs ys : List AV) : Prop where
 h : M4 xs ys
theorem Wk.refl : ∀ (xs : List AV), Wk xs xs
 | [] => ⟨trivial⟩
 | x :: xs => ⟨zX x, (Wk.refl xs).h⟩
abbrev xf (α : Type) : Option α := none
def Yx : AV → Nat
 | .ns q _ _ => q
 | _ => 0
def wH {α : Type} (n : Nat) (f : Nat → α) : List α := (List.range n).map f
theorem R7 {α : Type} (l : List α) (d : α) : wH l.length (fun i => l.getD i d) = l := by
 apply List.ext_getElem
 ·simp [wH]
 ·intro i h1 h2
  simp [wH, List.getD_eq_getElem?_getD, h2]
def Rq (ys : List AV) (r : AV) : List AV → Option (List zN × AV) := fun xs => some ([.p (Wk xs ys)], r)
theorem tz {P : Program} {G : List (Nat × Obj)} {f : FuncId} {ys : List AV} {r : AV} (h : zS P G f ys r) : zQ P G f (Rq ys r) := by
 intro xs ps r' h' hp
 cases h'
 exact weaken (hp _ List.mem_cons_self : Wk xs ys).h h
end Go.Sx

namespace Go.Sx
open Go Go.RowKit
def AV.ren (r : Nat → Nat) : AV → AV
 | .np k off => .np (r k) off
 | .ns k off len => .ns (r k) off len
 | .ap k i j => .ap (r k) i j
 | .yl k => .yl (r k)
 | .ps k len => .ps (r k) len
 | .agg n cs => .agg n fun i => (cs i).ren r
 | .tup n cs => .tup n fun i => (cs i).ren r
 | .fn f nf a nc c => .fn f nf (fun i => (a i).ren r) nc fun i => (c i).ren r
 | .gd g x => .gd g (x.ren r)
 | x => x
def OB.ren (r : Nat → Nat) : OB → OB
 | .box t n cells => .box t n fun i => (cells i).ren r
 | x => x
section
variable {P : Program} {E : Env} {nb : Nat} {bl : Nat → OB} {S : Nat → Prop} {ρ : Nat → Own} {w : World}
theorem Zz.ren {ρ2 : Nat → Own} {r : Nat → Nat} {x : AV} {v : Value} (h : Zz w S ρ x v) (hr : ∀ k, ρ2 (r k) = ρ k ∨ ρ k = .none) : Zz w S ρ2 (x.ren r) v := by
 have get : ∀ {k o}, ρ k = o → o ≠ .none → ρ2 (r k) = o := fun {k o} e hne => by
  grind
 induction h with
 | v x => exact .v x
 | str l => exact .str l
 | xl o cap cvs hle hm hf hc hr' ih => exact .xl o cap cvs hle hm hf hc hr'
 | xq A cvs hc hr' ih => exact .xq A cvs hc hr'
 | np g h => exact .np g (get h (by simp))
 | ns g base cap sz L h hl hc => exact .ns g base cap sz L (get h (by simp)) hl hc
 | ns0 g base cap sz L A h hl hc h0 => exact .ns0 g base cap sz L A (get h (by simp)) hl hc h0
 | nsn sz o h => exact .nsn sz o (get h (by simp))
 | ap g base cap sz L h hi hc => exact .ap g base cap sz L (get h (by simp)) hi hc
 | yl g r' h => exact .yl g r' (get h (by simp))
 | dyl h hx => exact .dyl (get h (by simp)) hx
 | dnp h hx => exact .dnp (get h (by simp)) hx
 | dns h hx => exact .dns (get h (by simp)) hx
 | dap h hx => exact .dap (get h (by simp)) hx
 | agg vs hn _ ih => exact .agg vs hn fun i hi => ih i hi hr get
 | tup vs hn _ ih => exact .tup vs hn fun i hi => ih i hi hr get
 | fn vs us hn hm _ _ ih1 ih2 => exact .fn vs us hn hm (fun i hi => ih1 i hi hr get) fun i hi => ih2 i hi hr get
 | gd v h h' ih => exact .gd v (fun hg => ih hg hr get) h'
 | nb t h => exact .nb t h
 | er x h1 h2 => exact .er x h1 h2
 | ps g cap h hc => exact .ps g cap (get h (by simp)) hc
 | dps h hx => exact .dps (get h (by simp)) hx
 | junk x => exact .junk x
theorem sd.ren {ρ2 : Nat → Own} {r : Nat → Nat} {B : OB} {o : Own} (h : sd w S ρ B o) (hr : ∀ k, ρ2 (r k) = ρ k ∨ ρ k = .none) : sd w S ρ2 (B.ren r) o := by
 cases B with
 | box t n cells =>
  cases o with
  | box g =>
   obtain ⟨c, h1, h2, h3⟩ := h
   exact ⟨c, h1, h2, fun i hi => ⟨(h3 i hi).1.ren hr, (h3 i hi).2⟩⟩
  | _ => exact h.elim
 | dead => cases o <;> exact h
 | arr t sz len els => cases o <;> exact h
 | lrec st pe => cases o <;> exact h
def pick (ρ : Nat → Own) (idx : List Nat) : Nat → Own := fun i =>
 match idx[i]? with
 | some j => ρ j
 | none => .none
theorem sV {idx : List Nat} {i j : Nat} (h : idx[i]? = some j) : pick ρ idx i = ρ j := by unfold pick; rw [h]
theorem OY {idx : List Nat} {i : Nat} (h : idx.length ≤ i) : pick ρ idx i = .none := by unfold pick; rw [List.getElem?_eq_none h]
theorem T5 {idx : List Nat} (hnd : idx.Nodup) {i j : Nat} (h : idx[i]? = some j) : idx.idxOf? j = some i := by
 obtain ⟨h1, h2⟩ := List.getElem?_eq_some_iff.1 h
 refine List.idxOf?_eq_some_iff.2 ⟨h1, h2, fun i' hi' e => ?_⟩
 have := List.pairwise_iff_getElem.1 hnd i' i (by omega) h1 hi'
 omega
theorem Mem.pick (hM : Mem E nb bl S ρ w) {idx : List Nat} (hnd : idx.Nodup) (hlt : ∀ j ∈ idx, j < nb) {G : Cx} (hG : G.objs = E.G.objs) (hnb : G.nb0 = idx.length) {bi : Nat → OB}
  (hok : ∀ i, i < idx.length → sd w S (pick ρ idx) (bi i) (pick ρ idx i)) : Mem (oK w S (pick ρ idx) G) idx.length bi S (pick ρ idx) w := by
 have blk : ∀ {i g}, (Sx.pick ρ idx i).has g → ∃ j, idx[i]? = some j ∧ (ρ j).has g := fun {i g} e => by
  cases h : idx[i]? with
  | none => rw [Sx.pick, h] at e; exact e.elim
  | some j => rw [sV h] at e; exact ⟨j, rfl, e⟩
 refine ⟨Fr.refl _ _, hM.sb, fun _ h => h, fun _ h => .inl h, fun b o hbo => hM.glob b o (by rw [← hG]; exact hbo), fun k hk => OY hk, hok, fun j g e => ?_, fun i i' g e e' => ?_, fun k g base cap sz L e => ?_, Nat.le_of_eq hnb, fun _ _ => .inl (rfl)⟩
 ·obtain ⟨j', h1, h2⟩ := blk e
  exact ⟨(hM.own j' g h2).1, .inr ⟨j, e⟩⟩
 ·obtain ⟨j, h1, h2⟩ := blk e
  obtain ⟨j', h1', h2'⟩ := blk e'
  obtain rfl := hM.dis j j' g h2 h2'
  have a := T5 hnd h1
  have b := T5 hnd h1'
  simp_all
 ·cases h : idx[k]? with
  | none => rw [Sx.pick, h] at e; cases e
  | some j => rw [sV h] at e; exact hM.b0 _ _ _ _ _ _ e
end
end Go.Sx

namespace Go.Sx
open Go Go.RowKit
section
variable {P : Program} {E : Env} {nb : Nat} {bl : Nat → OB} {S : Nat → Prop} {ρ : Nat → Own} {w : World}
end
end Go.Sx
