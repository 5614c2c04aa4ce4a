/- Contracts from verification conditions. -/
import Derived.Test.YthbpnknhfokadaaGreatDoorSxX
import Derived.Shelf.Abstract
set_option linter.unusedSimpArgs false
set_option linter.unusedVariables false
namespace Go.Sx
open Go Go.RowKit
def entry (n : Nat) (args : List AV) : zi := { n := n, tm := zw args, nb := 0, bl := fun _ => .dead }
abbrev GY : Type := FuncId → Option (Nat → (Nat → OB) → List AV → (Nat → (Nat → OB) → AV → Prop) → Prop)
abbrev Ii : Type := FuncId → List AV → Option (List zk × AV)
abbrev K9 : Type := FuncId → List AV → Option (List zk × TypeId × Nat × Nat × (Nat → Nat → AV))
structure Tb where
 objs : List (Nat × Obj)
 own : GY
 pu : Ii
 fre : K9
 conc : Bool
def Tb.cx (T : Tb) (nb0 : Nat) : Cx := { objs := T.objs, nb0 := nb0, own := T.own, pu := T.pu, fre := T.fre, conc := T.conc }
structure zz (P : Program) (T : Tb) : Prop where
 own : ∀ f t, T.own f = some t → tO P T.objs f t
 pu : ∀ f xs ps r, T.pu f xs = some (ps, r) → (∀ p ∈ ps, p.holds) → zU P T.objs f xs r
 fre : ∀ f xs ps t sz len els, T.fre f xs = some (ps, t, sz, len, els) → (∀ p ∈ ps, p.holds) → yo P T.objs f xs t sz len els
theorem zz.cx {P : Program} {T : Tb} (h : zz P T) (nb0 : Nat) : ZY P (T.cx nb0) := ⟨h.own, h.pu, h.fre, fun p t e => by cases e⟩
def AV.bnd : AV → Prop
 | .xl _ sz len els => len ≤ 9223372036854775807 ∧ ∀ i j, i < len → j < sz → (els i j).bnd
 | .agg n cs => vy (fun i => (cs i).bnd) n
 | _ => True
def Zv : List AV → Prop
 | [] => True
 | [x] => x.bnd
 | x :: xs => x.bnd ∧ Zv xs
theorem pZ {p : Nat → Prop} {n : Nat} (h : ∀ i, i < n → p i) : vy p n := by
 induction n with
 | zero => trivial
 | succ n ih =>
  cases n with
  | zero => exact h 0 (by omega)
  | succ n => exact ⟨ih fun i hi => h i (by omega), h _ (by omega)⟩
theorem zE.bnd {w : World} {S : Nat → Prop} {ρ : Nat → Own} {x : AV} {v : Value} (h : zE w S ρ x v) : x.bnd := by
 induction h with
 | xl o cap cvs hle hm hf hc hr ih => exact ⟨by simp only [maxLen] at hm; omega, ih⟩
 | agg vs hn hr ih => exact pZ ih
 | _ => trivial
theorem Zg.bnd {w : World} {S : Nat → Prop} {ρ : Nat → Own} : ∀ {xs : List AV} {vs : List Value}, Zg w S ρ xs vs → Zv xs
 | [], [], _ => trivial
 | [x], [v], h => h.1.bnd
 | x :: y :: xs, v :: u :: vs, h => ⟨h.1.bnd, Zg.bnd h.2⟩
 | [], _ :: _, h => h.elim
 | _ :: _, [], h => h.elim
 | [_], _ :: _ :: _, h => h.2.elim
 | _ :: _ :: _, [_], h => h.2.elim
@[irreducible] def vK (P : Program) (T : Tb) (f : FuncId) (an : yq) (args : List AV) (r : AV) : Prop :=
 match P.funcs[f]? with
 | some fn =>
  match fn.body with
  | some c =>
   match Nat.ble args.length fn.ntmps && !(fn.name == "runtime.NumGoroutine") with
   | true => Zv args → JL P 6 c an (T.cx 0) (entry fn.ntmps args) (PD P fn.results.toList r) (fun _ _ => False) (PD P fn.results.toList r)
   | false => False
  | none => False
 | none => False
section
variable {P : Program} {T : Tb}
theorem Ru {w : World} {S : Nat → Prop} {n : Nat} {args : List AV} {vals : List Value} (hS : ∀ b, S b → b < w.heap.size) (hG : ∀ b o, (b, o) ∈ T.objs → S b ∧ w.heap[b]? = some o)
  (hr : Zg w S YX args vals) (hn : args.length ≤ n) :
  St { w0 := w, X := fun _ => False, S0 := S, G := T.cx 0, r0 := YX } (entry n args) { tmps := vals.toArray ++ Array.replicate (n - vals.toArray.size) undef, defers := [] } w := by
 obtain ⟨hl, hget⟩ := hr.get
 refine ⟨S, YX, ⟨Fr.refl _ _, hS, fun _ h => h, fun _ h => .inl h, hG, fun _ _ => rfl, fun k hk => absurd hk (Nat.not_lt_zero _), fun k g e => (by cases e), fun k k' g e => (by cases e), fun k g base cap sz L e => (by cases e), Nat.zero_le _, fun k hk => absurd hk (Nat.not_lt_zero _)⟩,
  ⟨?_, fun t _ => ?_⟩, ⟨List.Pairwise.nil, fun d hd => (by cases hd)⟩⟩
 ·simp only [Array.size_append, List.size_toArray, Array.size_replicate]
  show vals.length + (n - vals.length) = n
  omega
 ·show zE w S YX (zw args t) _
  by_cases ht : t < args.length
  ·have := hget t ht
   rw [Array.getD_eq_getD_getElem?, Array.getElem?_append_left (by simpa [hl] using ht), ← Array.getD_eq_getD_getElem?]
   exact this
  ·have : zw args t = .junk := by simp [zw, List.getElem?_eq_none (Nat.not_lt.1 ht)]
   rw [this]
   exact .junk _
theorem Tq {fn : Func} {w0 : World} {S : Nat → Prop} {σ : zi} {a : Act} {w : World} {r : AV} {n : Nat} (h : PD P fn.results.toList r σ) (hst : St { w0 := w0, X := fun _ => False, S0 := S, G := T.cx 0, r0 := YX } σ a w) :
  LeavesInM (FW none) n P fn a.tmps (fun e w' => Js w0 w' ∧ ∃ rv, e = .returned rv ∧ zE w' (fun b => S b ∨ (w0.heap.size ≤ b ∧ b < w'.heap.size)) YX r rv) a.defers .returning w := by
 obtain ⟨S1, ρ1, hM, hF, hD⟩ := hst
 refine x4 a.defers w S1 hD fun w' hs => ?_
 obtain ⟨S2, hM2, hsub, hkeep⟩ := UV hM hD hs
 have hF2 : Yb w' S2 ρ1 σ.n σ.tm { tmps := a.tmps, defers := [] } := ⟨hF.1, fun t ht => (hF.2 t ht).mono' hkeep⟩
 unfold PD at h
 split at h
 ·rename_i xs hxs
  split at h
  ·rename_i σ' xs' hc
   split at h
   ·exact h.elim
   ·rename_i hno
    obtain ⟨g, hrun, hrel⟩ := wt hM2 hF2 _ _ hxs
    obtain ⟨S3, ρ3, hM3, _, _, hrel3⟩ := XS hc hM2 hF2 ⟨List.Pairwise.nil, fun d hd => (by cases hd)⟩ hrel
    refine ⟨_, xj hrun, ⟨⟨hM3.fr.os, hM3.fr.tape, hM3.fr.output, hM3.fr.size, fun k hk => hM3.fr.block k hk fun hx => hx.elim⟩, hM3.fr.drawn⟩, _, rfl, ?_⟩
    refine (XA (vR (hrel3.free (Xy hno))) (Ke.1 h)).mono (fun b hb => ⟨?_, rfl⟩) (zf.refl _)
    rcases hM3.sub b hb with h1 | h1 | h1
    ·simp_all
    ·exact h1.elim
    ·exact .inr ⟨h1, hM3.sb b hb⟩
  simp_all
 simp_all
theorem zW {f : FuncId} {an : yq} {args : List AV} {r : AV} (hm : P.follows .mixedOrders = true) (hT : zz P T) (h : vK P T f an args r) : zU P T.objs f args r := by
 unfold vK at h
 split at h
 ·rename_i fn hf
  split at h
  ·rename_i c hb
   split at h
   ·rename_i hc
    simp only [Bool.and_eq_true, Bool.not_eq_true'] at hc
    refine ⟨Go.Proofs.enters_of hf hc.2 hb, fun w S vals hS hG hr => ?_⟩
    refine Xd.1 (callsIn_of_wp_marks (F := FW none) (n := 0) hf hb trivial ?_)
    exact WI hm 6 c an { w0 := w, X := fun _ => False, S0 := S, G := T.cx 0, r0 := YX } _ _ _ _ _ _ _ none 0 (hT.cx 0) ⟨fun b hb => ⟨hS b hb, fun h => h⟩, fun _ _ => rfl, fun p T h => (by cases h)⟩ rfl (h hr.bnd) (Ru hS hG hr (Nat.le_of_ble_eq_true hc.1)) (fun σ a w hk hst => Tq hk hst) (fun i σ a w hk _ => hk.elim) fun σ a w hk hst => Tq hk hst
   simp_all
  simp_all
 simp_all
def WA (objs : List (Nat × Obj)) : Tb := ⟨objs, fun _ => none, fun _ _ => none, fun _ _ => none, false⟩
theorem zo {objs : List (Nat × Obj)} : zz P (WA objs) := ⟨fun f T h => (by cases h), fun f xs ps r h => (by cases h), fun f xs ps t sz len els h => (by cases h)⟩
def Tb.plus (T : Tb) (f : FuncId) (t : List AV → Option (List zk × AV)) : Tb := { T with pu := fun g xs => bif Nat.beq g f then t xs else T.pu g xs }
def zO (P : Program) (objs : List (Nat × Obj)) (f : FuncId) (t : List AV → Option (List zk × AV)) : Prop := ∀ xs ps r, t xs = some (ps, r) → (∀ p ∈ ps, p.holds) → zU P objs f xs r
theorem zz.plus (h : zz P T) {f : FuncId} {t : List AV → Option (List zk × AV)} (ht : zO P T.objs f t) : zz P (T.plus f t) := by
 refine ⟨h.own, fun g xs ps r e hp => ?_, h.fre⟩
 simp only [Tb.plus] at e
 cases hb : Nat.beq g f with
 | true =>
  rw [hb] at e
  obtain rfl := Nat.eq_of_beq_eq_true hb
  exact ht _ _ _ e hp
 | false => rw [hb] at e; exact h.pu _ _ _ _ e hp
def Tb.plusF (T : Tb) (f : FuncId) (t : List AV → Option (List zk × TypeId × Nat × Nat × (Nat → Nat → AV))) : Tb := { T with fre := fun g xs => bif Nat.beq g f then t xs else T.fre g xs }
def UX (P : Program) (objs : List (Nat × Obj)) (f : FuncId) (t : List AV → Option (List zk × TypeId × Nat × Nat × (Nat → Nat → AV))) : Prop :=
 ∀ xs ps ty sz len els, t xs = some (ps, ty, sz, len, els) → (∀ p ∈ ps, p.holds) → yo P objs f xs ty sz len els
theorem zz.plusF (h : zz P T) {f : FuncId} {t : List AV → Option (List zk × TypeId × Nat × Nat × (Nat → Nat → AV))} (ht : UX P T.objs f t) : zz P (T.plusF f t) := by
 refine ⟨h.own, h.pu, fun g xs ps ty sz len els e hp => ?_⟩
 simp only [Tb.plusF] at e
 cases hb : Nat.beq g f with
 | true =>
  rw [hb] at e
  obtain rfl := Nat.eq_of_beq_eq_true hb
  exact ht _ _ _ _ _ _ e hp
 | false => rw [hb] at e; exact h.fre _ _ _ _ _ _ _ e hp
def L6 (P : Program) (rs : List ResultVar) (t : TypeId) (sz len : Nat) (els : Nat → Nat → AV) (σ : zi) : Prop :=
 match sj P σ rs with
 | some [.ns k 0 n] =>
  match σ.bl k with
  | .arr t' sz' L els' => t' = t ∧ sz' = sz ∧ n = len ∧ ∀ i j, i < len → j < sz → zb (els' i j) (els i j)
  | _ => False
 | some [.v (.slice none 0 0)] => len = 0
 | some [.xl _ _ n _] => n = 0 ∧ len = 0 ∧ False
 | _ => False
@[irreducible] def SF (P : Program) (T : Tb) (f : FuncId) (an : yq) (args : List AV) (t : TypeId) (sz len : Nat) (els : Nat → Nat → AV) : Prop :=
 match P.funcs[f]? with
 | some fn =>
  match fn.body with
  | some c =>
   match Nat.ble args.length fn.ntmps && !(fn.name == "runtime.NumGoroutine") with
   | true => Zv args → JL P 6 c an (T.cx 0) (entry fn.ntmps args) (L6 P fn.results.toList t sz len els) (fun _ _ => False) (L6 P fn.results.toList t sz len els)
   | false => False
  | none => False
 | none => False
theorem TB {fn : Func} {w0 : World} {S : Nat → Prop} {σ : zi} {a : Act} {w : World} {t : TypeId} {sz len : Nat} {els : Nat → Nat → AV} {n : Nat} (h : L6 P fn.results.toList t sz len els σ) (hst : St { w0 := w0, X := fun _ => False, S0 := S, G := T.cx 0, r0 := YX } σ a w) :
  LeavesInM (FW none) n P fn a.tmps (fun e w' => Js w0 w' ∧ ∃ rv, e = .returned rv ∧ nE S w0 w' t sz len els rv) a.defers .returning w := by
 obtain ⟨S1, ρ1, hM, hF, hD⟩ := hst
 refine x4 a.defers w S1 hD fun w' hs => ?_
 obtain ⟨S2, hM2, hsub, hkeep⟩ := UV hM hD hs
 have hF2 : Yb w' S2 ρ1 σ.n σ.tm { tmps := a.tmps, defers := [] } := ⟨hF.1, fun t ht => (hF.2 t ht).mono' hkeep⟩
 have hbelow : Js w0 w' := ⟨⟨hM2.fr.os, hM2.fr.tape, hM2.fr.output, hM2.fr.size, fun k hk => hM2.fr.block k hk fun hx => hx.elim⟩, hM2.fr.drawn⟩
 unfold L6 at h
 split at h
 ·rename_i k n' hxs
  obtain ⟨g, hrun, hrel⟩ := wt hM2 hF2 _ _ hxs
  cases hb : σ.bl k with
  | arr t' sz' L els' =>
   rw [hb] at h
   obtain ⟨rfl, rfl, rfl, h4⟩ := h
   have hr := vR hrel
   have hbk := hM2.at k
   refine ⟨_, xj hrun, hbelow, _, rfl, ?_⟩
   obtain ⟨pv, hpv⟩ : ∃ pv, Nr (fn.results.toList.map g) = pv := ⟨_, rfl⟩
   rw [hpv] at hr ⊢
   cases hr with
   | ns g' base cap sz2 L' hk hl hc =>
    have hbk := hbk.resolve_left (by rw [hk]; simp)
    have hb0 := hM2.b0 _ _ _ _ _ _ hk
    subst hb0
    rw [hb, hk] at hbk
    obtain ⟨e1, e2, h1, h2, c, h3, h5, h6⟩ := hbk
    subst e1; subst e2
    obtain ⟨hno, hnew⟩ := hM2.own k g' (by rw [hk]; rfl)
    refine .inr ⟨g', cap, c, by simp, ?_, h3, by omega, h2, by simpa using h5, fun i j hi hj => ?_⟩
    ·simp_all
    ·have := h6 i j (by omega) hj
     rw [Nat.zero_add] at this
     refine ⟨XA (this.1.mono (fun b hb => ⟨?_, rfl⟩) (zf.refl _)) (h4 i j hi hj), this.2⟩
     rcases hM2.sub b hb with q | q | q
     ·simp_all
     ·exact q.elim
     ·exact .inr ⟨q, hM2.sb b hb, fun e => hno (e ▸ hb)⟩
   | ns0 g' base cap sz2 L' A hk hl hc h0 => exact .inl ⟨rfl, _, rfl⟩
   | nsn sz2 o hk => exact .inl ⟨rfl, _, rfl⟩
   | dns hd hsh =>
    have hbk := hbk.resolve_left (by rw [hd]; simp)
    rw [hb, hd] at hbk
    exact hbk.elim
  | _ => rw [hb] at h; exact h.elim
 ·rename_i hxs
  obtain ⟨g, hrun, hrel⟩ := wt hM2 hF2 _ _ hxs
  have hr := vR hrel
  refine ⟨_, xj hrun, hbelow, _, rfl, .inl ⟨h, none, ?_⟩⟩
  exact ZS hr
 all_goals simp_all
theorem S7 {f : FuncId} {an : yq} {args : List AV} {t : TypeId} {sz len : Nat} {els : Nat → Nat → AV} (hm : P.follows .mixedOrders = true) (hT : zz P T) (h : SF P T f an args t sz len els) : yo P T.objs f args t sz len els := by
 unfold SF at h
 split at h
 ·rename_i fn hf
  split at h
  ·rename_i c hb
   split at h
   ·rename_i hc
    simp only [Bool.and_eq_true, Bool.not_eq_true'] at hc
    refine ⟨Go.Proofs.enters_of hf hc.2 hb, fun w S vals hS hG hr => ?_⟩
    refine Xd.1 (callsIn_of_wp_marks (F := FW none) (n := 0) hf hb trivial ?_)
    exact WI hm 6 c an { w0 := w, X := fun _ => False, S0 := S, G := T.cx 0, r0 := YX } _ _ _ _ _ _ _ none 0 (hT.cx 0) ⟨fun b hb => ⟨hS b hb, fun h => h⟩, fun _ _ => rfl, fun p T h => (by cases h)⟩ rfl (h hr.bnd) (Ru hS hG hr (Nat.le_of_ble_eq_true hc.1)) (fun σ a w hk hst => TB hk hst) (fun i σ a w hk _ => hk.elim) fun σ a w hk hst => TB hk hst
   simp_all
  simp_all
 simp_all
end
end Go.Sx

namespace Go.Sx
open Go Go.RowKit
section
variable {P : Program} {G : Cx}
def QT (P : Program) (rs : List ResultVar) (k : Nat → (Nat → OB) → AV → Prop) (σ : zi) : Prop :=
 match sj P σ rs with
 | some xs => k σ.nb σ.bl (VV xs)
 | none => False
def P0 (P : Program) (T : Tb) (f : FuncId) (an : yq) (nb : Nat) (bl : Nat → OB) (xs : List AV) (k : Nat → (Nat → OB) → AV → Prop) : Prop :=
 match P.funcs[f]? with
 | some fn =>
  match fn.body with
  | some c =>
   match Nat.ble xs.length fn.ntmps && !(fn.name == "runtime.NumGoroutine") with
   | true => JL P 6 c an (T.cx nb) { n := fn.ntmps, tm := zw xs, nb := nb, bl := bl } (QT P fn.results.toList k) (fun _ _ => False) (QT P fn.results.toList k)
   | false => False
  | none => False
 | none => False
theorem Tr {rs : List ResultVar} {k k' : Nat → (Nat → OB) → AV → Prop} (h : ∀ nb bl x, k nb bl x → k' nb bl x) (σ : zi) (hv : QT P rs k σ) : QT P rs k' σ := by
 unfold QT at hv ⊢
 grind
end
section
variable {P : Program} {T : Tb}
theorem Ph (hT : zz P T) {f : FuncId} {an : yq} {nb : Nat} {bl : Nat → OB} {xs : List AV} {k k' : Nat → (Nat → OB) → AV → Prop}
  (h : ∀ nb bl x, k nb bl x → k' nb bl x) (hv : P0 P T f an nb bl xs k) : P0 P T f an nb bl xs k' := by
 unfold P0 at hv ⊢
 split at hv
 ·split at hv
  ·split at hv
   ·exact v8 6 _ _ _ _ _ _ _ _ _ _ (hT.cx nb) (Tr h) (fun _ _ h => h) (Tr h) hv
   omega
  omega
 omega
theorem tX {E : Env} {nb : Nat} {bl : Nat → OB} {S : Nat → Prop} {ρ : Nat → Own} {w : World} {k : Nat → (Nat → OB) → AV → Prop} {fn : Func} {σ : zi} {a : Act} {w1 : World} {n : Nat} (hM : Mem E nb bl S ρ w)
  (h : QT P fn.results.toList k σ) (hst : St (ov w S ρ (T.cx nb)) σ a w1) :
  LeavesInM (FW none) n P fn a.tmps (KR E S ρ w k) a.defers .returning w1 := by
 refine Uw hM rfl hst fun w2 S2 ρ2 m1 m2 m3 _ m5 => ?_
 unfold QT at h
 split at h
 ·rename_i xs hxs
  obtain ⟨g, hrun, hrel⟩ := wt m1 m5 _ _ hxs
  exact ⟨_, xj hrun, _, _, S2, ρ2, _, _, rfl, h, m1, m2, m3, vR hrel⟩
 simp_all
theorem oZ (hm : P.follows .mixedOrders = true) (hT : zz P T) {f : FuncId} {an : yq} {fn : Func} {c : Code} (hf : P.funcs[f]? = some fn) (hb : fn.body = some c)
  (hn : (fn.name == "runtime.NumGoroutine") = false) : tO P T.objs f (P0 P T f an) := by
 refine ⟨Go.Proofs.enters_of hf hn hb, fun nb bl xs k k' h hv => Ph hT h hv, fun E nb bl S ρ w xs vs k hEG hM hx hv => ?_⟩
 unfold P0 at hv
 rw [hf] at hv
 simp only [hb] at hv
 split at hv
 ·rename_i hc
  simp only [Bool.and_eq_true] at hc
  have hlen : xs.length ≤ fn.ntmps := Nat.le_of_ble_eq_true hc.1
  obtain ⟨hl, hget⟩ := hx.get
  refine Xd.1 (callsIn_of_wp_marks (F := FW none) (n := 0) hf hb trivial ?_)
  exact WI hm 6 c an (ov w S ρ (T.cx nb)) _ _ _ _ _ _ _ none 0 (hT.cx nb) ⟨hM.inner_base, hM.hi, fun p T h => (by cases h)⟩ rfl hv
   ⟨S, ρ, hM.inner hEG.symm rfl, Q4 hx hlen, ⟨List.Pairwise.nil, fun d hd => (by cases hd)⟩⟩ (fun σ a w1 hk hst => tX hM hk hst)
   (fun i σ a w hk _ => hk.elim) fun σ a w1 hk hst => tX hM hk hst
 simp_all
def Sf (P : Program) (T : Tb) (f : FuncId) (an : yq) : Option (Nat → (Nat → OB) → List AV → (Nat → (Nat → OB) → AV → Prop) → Prop) :=
 match P.funcs[f]? with
 | some fn =>
  match fn.body with
  | some _ => (match fn.name == "runtime.NumGoroutine" with | true => none | false => some (P0 P T f an))
  | none => none
 | none => none
theorem vO (hm : P.follows .mixedOrders = true) (hT : zz P T) {f : FuncId} {an : yq} {t : Nat → (Nat → OB) → List AV → (Nat → (Nat → OB) → AV → Prop) → Prop} (h : Sf P T f an = some t) : tO P T.objs f t := by
 unfold Sf at h
 split at h
 ·rename_i fn hf
  split at h
  ·rename_i c hb
   split at h
   ·cases h
   ·rename_i hn
    cases h
    exact oZ hm hT hf hb hn
  ·cases h
 ·cases h
def H8 : List (FuncId × yq) → FuncId → Option yq
 | [], _ => none
 | (g, a) :: l, f => bif Nat.beq g f then some a else H8 l f
def Tb.body (P : Program) (T : Tb) (l : List (FuncId × yq)) : Tb := { T with own := fun f => match H8 l f with | some an => Sf P T f an | none => T.own f }
theorem zz.body (hm : P.follows .mixedOrders = true) (hT : zz P T) (l : List (FuncId × yq)) : zz P (T.body P l) := by
 refine ⟨fun f t h => ?_, hT.pu, hT.fre⟩
 simp only [Tb.body] at h
 split at h
 ·exact vO hm hT h
 ·exact hT.own _ _ h
def Tb.deep (P : Program) (T : Tb) : Nat → Tb
 | 0 => { T with conc := true }
 | n + 1 => { T with own := fun f => Sf P (Tb.deep P T n) f .auto, conc := true }
theorem PF (P : Program) (T : Tb) : ∀ n, (T.deep P n).objs = T.objs
 | 0 => rfl
 | _ + 1 => rfl
theorem zz.deep (hm : P.follows .mixedOrders = true) (hT : zz P T) : ∀ n, zz P (T.deep P n)
 | 0 => ⟨hT.own, hT.pu, hT.fre⟩
 | n + 1 => ⟨fun f t h => by
   have := vO hm (zz.deep hm hT n) h
   rw [PF] at this
   exact this, hT.pu, hT.fre⟩
end
end Go.Sx

namespace Go.Sx
open Go Go.RowKit
theorem yx {p : Prop} [DB p] {A : Prop} : zZ (DB.db p) A False ↔ p ∧ A := by
 rw [zY]
 constructor
 ·rintro ⟨h1, h2⟩
  have : DB.db p = true := by cases h : DB.db p with
   | true => rfl
   | false => exact (h2 h).elim
  exact ⟨DB.iff.1 this, h1 this⟩
 ·rintro ⟨hp, ha⟩
  exact ⟨fun _ => ha, fun h => by rw [DB.iff.2 hp] at h; cases h⟩
theorem I6 {a b : Int} {A B : Prop} : zZ (zF a b) A B ↔ (a < b → A) ∧ (b ≤ a → B) := by
 rw [zY, OK, decide_eq_true_eq, decide_eq_false_iff_not, Int.not_lt]
theorem I7 {a b : Int} {A B : Prop} : zZ (leB a b) A B ↔ (a ≤ b → A) ∧ (b < a → B) := by
 rw [zY, Mv, decide_eq_true_eq, decide_eq_false_iff_not, Int.not_le]
theorem I9 {a b : Int} {A B : Prop} : zZ (a != b) A B ↔ (a ≠ b → A) ∧ (a = b → B) := by
 rw [zY, bne_iff_ne, bne_eq_false_iff_eq]
theorem HZ {a b : Int} {A B : Prop} : zZ (a == b) A B ↔ (a = b → A) ∧ (a ≠ b → B) := by
 rw [zY, beq_iff_eq, beq_eq_false_iff_ne]
theorem L2 {x y : Bool} {A : Prop} : zZ (!x || y) A False ↔ (x = true → y = true) ∧ A := by cases x <;> cases y <;> simp [zZ]
theorem jB (a b : Bool) : (bif a then true else b) = (a || b) := by cases a <;> rfl
theorem kN (a b : Bool) : (bif a then b else false) = (a && b) := by cases a <;> rfl
theorem ZI {x : Bool} {p : Prop} [DB p] {A : Prop} : zZ (!x || DB.db p) A False ↔ (x = true → p) ∧ A := by
 rw [L2, DB.iff]
theorem jm {x : Bool} {A : Prop} : zZ (!x || x) A False ↔ A := by cases x <;> simp [zZ]
theorem oa (x : Bool) : zr true x = x := rfl
theorem QL (x : Bool) : zr false x = !x := rfl
end Go.Sx

namespace Go.Sx
open Go Go.RowKit
def md : List AV → List AV → Prop
 | [], [] => True
 | x :: xs, y :: ys => zb x y ∧ md xs ys
 | _, _ => False
theorem uI {w : World} {S : Nat → Prop} {ρ : Nat → Own} : ∀ {xs ys : List AV} {vs : List Value}, md xs ys → Zg w S ρ xs vs → Zg w S ρ ys vs
 | [], [], [], _, _ => trivial
 | _ :: _, _ :: _, _ :: _, h, hr => ⟨XA hr.1 h.1, uI h.2 hr.2⟩
 | [], [], _ :: _, _, hr => hr.elim
 | _ :: _, _ :: _, [], _, hr => hr.elim
 | [], _ :: _, _, h, _ => h.elim
 | _ :: _, [], _, h, _ => h.elim
theorem weaken {P : Program} {G : List (Nat × Obj)} {f : FuncId} {xs ys : List AV} {r : AV} (h : md xs ys) (hp : zU P G f ys r) : zU P G f xs r :=
 ⟨hp.1, fun w S vals hS hG hr => hp.2 w S vals hS hG (uI h hr)⟩
theorem lM {P : Program} {G : List (Nat × Obj)} {f : FuncId} {xs ys : List AV} {t : TypeId} {sz len : Nat} {els : Nat → Nat → AV} (h : md xs ys) (hp : yo P G f ys t sz len els) : yo P G f xs t sz len els :=
 ⟨hp.1, fun w S vals hS hG hr => hp.2 w S vals hS hG (uI h hr)⟩
def AV.int : AV → Int
 | .v (.int _ n) => n
 | _ => 0
def AV.bool : AV → Bool
 | .v (.bool t) => t
 | _ => false
def AV.bytes : AV → List UInt8
 | .str l => l
 | _ => []
def YA : AV → Bool
 | .v (.int .i64 _) => true
 | _ => false
def isBool : AV → Bool
 | .v (.bool _) => true
 | _ => false
def ZK : AV → Bool
 | .str _ => true
 | _ => false
theorem UI {x : AV} (h : YA x = true) : x = .i (AV.int x) := by
 unfold YA at h
 split at h
 ·rfl
 ·cases h
theorem Tu {x : AV} (h : isBool x = true) : x = .b (AV.bool x) := by
 unfold isBool at h
 split at h
 ·rfl
 ·cases h
theorem Xs {x : AV} (h : ZK x = true) : x = .str (AV.bytes x) := by
 unfold ZK at h
 split at h
 ·rfl
 ·cases h
class zS (α : Type) where
 n : Nat
 dflt : α
 enc : α → Nat → AV
 dec : (Nat → AV) → α
 ok : (Nat → AV) → Bool
 sound : ∀ cs, ok cs = true → ∀ j, j < n → zb (cs j) (enc (dec cs) j)
def ZD {α : Type} [zS α] (l : List α) : AV := .xl false (zS.n α) l.length fun i j => zS.enc (l.getD i zS.dflt) j
def Ze {α : Type} [zS α] : AV → List α
 | .xl _ _ len els => (List.range len).map fun i => zS.dec (els i)
 | _ => []
def zC (α : Type) [zS α] : AV → Bool
 | .xl _ sz len els => Nat.beq sz (zS.n α) && UN (fun i => zS.ok (α := α) (els i)) len
 | .v (.slice none 0 0) => true
 | _ => false
theorem zg {α : Type} [zS α] {x : AV} (h : zC α x = true) : zb x (ZD (Ze (α := α) x)) := by
 unfold zC at h
 split at h
 ·rename_i f sz len els
  rw [Bool.and_eq_true] at h
  obtain rfl := Nat.eq_of_beq_eq_true h.1
  unfold ZD
  refine ⟨(fun h => by cases h), rfl, by simp [Ze], fun i j hi hj => ?_⟩
  have : ((Ze (α := α) (.xl f (zS.n α) len els)).getD i zS.dflt) = zS.dec (els i) := by
   simp [Ze, List.getD_eq_getElem?_getD, hi]
  show zb (els i j) (zS.enc ((Ze (α := α) (.xl f (zS.n α) len els)).getD i zS.dflt) j)
  rw [this]
  exact zS.sound _ (XD h.2 i hi) j hj
 ·exact ⟨rfl, rfl⟩
 ·cases h
instance : zS Int := ⟨1, 0, fun a _ => .i a, fun cs => AV.int (cs 0), fun cs => YA (cs 0), fun cs h j hj => by
 obtain rfl : j = 0 := by omega
 exact ZT (UI h)⟩
instance : zS Bool := ⟨1, false, fun a _ => .b a, fun cs => AV.bool (cs 0), fun cs => isBool (cs 0), fun cs h j hj => by
 obtain rfl : j = 0 := by omega
 exact ZT (Tu h)⟩
instance : zS (List UInt8) := ⟨1, [], fun a _ => .str a, fun cs => AV.bytes (cs 0), fun cs => ZK (cs 0), fun cs h j hj => by
 obtain rfl : j = 0 := by omega
 exact ZT (Xs h)⟩
def xR {α : Type} [zS α] (a : α) : AV := .agg (zS.n α) (zS.enc a)
def yR {α : Type} [zS α] : AV → α
 | .agg _ cs => zS.dec cs
 | _ => zS.dflt
def yp (α : Type) [zS α] : AV → Bool
 | .agg n cs => Nat.beq n (zS.n α) && zS.ok (α := α) cs
 | _ => false
theorem Zt {α : Type} [zS α] {x : AV} (h : yp α x = true) : zb x (xR (yR (α := α) x)) := by
 unfold yp at h
 split at h
 ·rename_i n cs
  rw [Bool.and_eq_true] at h
  obtain rfl := Nat.eq_of_beq_eq_true h.1
  exact ⟨rfl, pZ fun i hi => zS.sound _ h.2 i hi⟩
 ·cases h
structure Wk (xs ys : List AV) : Prop where
 h : md xs ys
theorem Wk.refl : ∀ (xs : List AV), Wk xs xs
 | [] => ⟨trivial⟩
 | x :: xs => ⟨zT x, (Wk.refl xs).h⟩
abbrev X9 (α : Type) : Option α := none
def Yl : AV → Nat
 | .ns q _ _ => q
 | _ => 0
def Sj {α : Type} (n : Nat) (f : Nat → α) : List α := (List.range n).map f
theorem Ro {α : Type} (l : List α) (d : α) : Sj l.length (fun i => l.getD i d) = l := by
 apply List.ext_getElem
 ·simp [Sj]
 ·intro i h1 h2
  simp [Sj, List.getD_eq_getElem?_getD, h2]
def LQ (ys : List AV) (r : AV) : List AV → Option (List zk × AV) := fun xs => some ([.p (Wk xs ys)], r)
end Go.Sx

namespace Go.Sx
open Go Go.RowKit
def AV.ren (r : Nat → Nat) : AV → AV
 | .np k off => .np (r k) off
 | .ns k off len => .ns (r k) off len
 | .ap k i j => .ap (r k) i j
 | .yl k => .yl (r k)
 | .ps k len => .ps (r k) len
 | .agg n cs => .agg n fun i => (cs i).ren r
 | .tup n cs => .tup n fun i => (cs i).ren r
 | .fn f nf a nc c => .fn f nf (fun i => (a i).ren r) nc fun i => (c i).ren r
 | .gd g x => .gd g (x.ren r)
 | x => x
def OB.ren (r : Nat → Nat) : OB → OB
 | .box t n cells => .box t n fun i => (cells i).ren r
 | x => x
section
variable {P : Program} {E : Env} {nb : Nat} {bl : Nat → OB} {S : Nat → Prop} {ρ : Nat → Own} {w : World}
theorem zE.ren {ρ2 : Nat → Own} {r : Nat → Nat} {x : AV} {v : Value} (h : zE w S ρ x v) (hr : ∀ k, ρ2 (r k) = ρ k ∨ ρ k = .none) : zE w S ρ2 (x.ren r) v := by
 have get : ∀ {k o}, ρ k = o → o ≠ .none → ρ2 (r k) = o := fun {k o} e hne => by
  grind
 induction h with
 | v x => exact .v x
 | str l => exact .str l
 | xl o cap cvs hle hm hf hc hr' ih => exact .xl o cap cvs hle hm hf hc hr'
 | xq A cvs hc hr' ih => exact .xq A cvs hc hr'
 | np g h => exact .np g (get h (by simp))
 | ns g base cap sz L h hl hc => exact .ns g base cap sz L (get h (by simp)) hl hc
 | ns0 g base cap sz L A h hl hc h0 => exact .ns0 g base cap sz L A (get h (by simp)) hl hc h0
 | nsn sz o h => exact .nsn sz o (get h (by simp))
 | ap g base cap sz L h hi hc => exact .ap g base cap sz L (get h (by simp)) hi hc
 | yl g r' h => exact .yl g r' (get h (by simp))
 | dyl h hx => exact .dyl (get h (by simp)) hx
 | dnp h hx => exact .dnp (get h (by simp)) hx
 | dns h hx => exact .dns (get h (by simp)) hx
 | dap h hx => exact .dap (get h (by simp)) hx
 | agg vs hn _ ih => exact .agg vs hn fun i hi => ih i hi hr get
 | tup vs hn _ ih => exact .tup vs hn fun i hi => ih i hi hr get
 | fn vs us hn hm _ _ ih1 ih2 => exact .fn vs us hn hm (fun i hi => ih1 i hi hr get) fun i hi => ih2 i hi hr get
 | gd v h h' ih => exact .gd v (fun hg => ih hg hr get) h'
 | nb t h => exact .nb t h
 | er x h1 h2 => exact .er x h1 h2
 | ps g cap h hc => exact .ps g cap (get h (by simp)) hc
 | dps h hx => exact .dps (get h (by simp)) hx
 | junk x => exact .junk x
theorem TP.ren {ρ2 : Nat → Own} {r : Nat → Nat} {B : OB} {o : Own} (h : TP w S ρ B o) (hr : ∀ k, ρ2 (r k) = ρ k ∨ ρ k = .none) : TP w S ρ2 (B.ren r) o := by
 cases B with
 | box t n cells =>
  cases o with
  | box g =>
   obtain ⟨c, h1, h2, h3⟩ := h
   exact ⟨c, h1, h2, fun i hi => ⟨(h3 i hi).1.ren hr, (h3 i hi).2⟩⟩
  | _ => exact h.elim
 | dead => cases o <;> exact h
 | arr t sz len els => cases o <;> exact h
 | lrec st pe => cases o <;> exact h
def pick (ρ : Nat → Own) (idx : List Nat) : Nat → Own := fun i =>
 match idx[i]? with
 | some j => ρ j
 | none => .none
theorem Ts {idx : List Nat} {i j : Nat} (h : idx[i]? = some j) : pick ρ idx i = ρ j := by unfold pick; rw [h]
theorem P9 {idx : List Nat} {i : Nat} (h : idx.length ≤ i) : pick ρ idx i = .none := by unfold pick; rw [List.getElem?_eq_none h]
theorem TW {idx : List Nat} (hnd : idx.Nodup) {i j : Nat} (h : idx[i]? = some j) : idx.idxOf? j = some i := by
 obtain ⟨h1, h2⟩ := List.getElem?_eq_some_iff.1 h
 refine List.idxOf?_eq_some_iff.2 ⟨h1, h2, fun i' hi' e => ?_⟩
 have := List.pairwise_iff_getElem.1 hnd i' i (by omega) h1 hi'
 omega
theorem Mem.pick (hM : Mem E nb bl S ρ w) {idx : List Nat} (hnd : idx.Nodup) (hlt : ∀ j ∈ idx, j < nb) {G : Cx} (hG : G.objs = E.G.objs) (hnb : G.nb0 = idx.length) {bi : Nat → OB}
  (hok : ∀ i, i < idx.length → TP w S (pick ρ idx) (bi i) (pick ρ idx i)) : Mem (ov w S (pick ρ idx) G) idx.length bi S (pick ρ idx) w := by
 have blk : ∀ {i g}, (Sx.pick ρ idx i).has g → ∃ j, idx[i]? = some j ∧ (ρ j).has g := fun {i g} e => by
  cases h : idx[i]? with
  | none => rw [Sx.pick, h] at e; exact e.elim
  | some j => rw [Ts h] at e; exact ⟨j, rfl, e⟩
 refine ⟨Fr.refl _ _, hM.sb, fun _ h => h, fun _ h => .inl h, fun b o hbo => hM.glob b o (by rw [← hG]; exact hbo), fun k hk => P9 hk, hok, fun j g e => ?_, fun i i' g e e' => ?_, fun k g base cap sz L e => ?_, Nat.le_of_eq hnb, fun _ _ => .inl (rfl)⟩
 ·obtain ⟨j', h1, h2⟩ := blk e
  exact ⟨(hM.own j' g h2).1, .inr ⟨j, e⟩⟩
 ·obtain ⟨j, h1, h2⟩ := blk e
  obtain ⟨j', h1', h2'⟩ := blk e'
  obtain rfl := hM.dis j j' g h2 h2'
  have a := TW hnd h1
  have b := TW hnd h1'
  simp_all
 ·cases h : idx[k]? with
  | none => rw [Sx.pick, h] at e; cases e
  | some j => rw [Ts h] at e; exact hM.b0 _ _ _ _ _ _ e
end
end Go.Sx

namespace Go.Sx
open Go Go.RowKit
section
variable {P : Program} {E : Env} {nb : Nat} {bl : Nat → OB} {S : Nat → Prop} {ρ : Nat → Own} {w : World}
end
end Go.Sx
