/- Contracts from verification conditions. -/
import Derived.Test.YtdkpceodckdcfaaGreatDoorSxX
import Derived.Shelf.Abstract
set_option linter.unusedSimpArgs false
set_option linter.unusedVariables false
namespace Go.Sx
open Go Go.RowKit
def entry (n : Nat) (args : List AV) : zw := { n := n, tm := zU args, nb := 0, bl := fun _ => .dead }
abbrev oZ : Type := FuncId → Option (Nat → (Nat → OB) → List AV → (Nat → (Nat → OB) → AV → Prop) → Prop)
abbrev pg : Type := FuncId → List AV → Option (List zS × AV)
abbrev QQ : Type := FuncId → List AV → Option (List zS × TypeId × Nat × Nat × (Nat → Nat → AV))
structure Tb where
 objs : List (Nat × Obj)
 own : oZ
 pu : pg
 fre : QQ
 conc : Bool
def Tb.cx (T : Tb) (nb0 : Nat) : Cx := { objs := T.objs, nb0 := nb0, own := T.own, pu := T.pu, fre := T.fre, conc := T.conc }
structure zZ (P : Program) (T : Tb) : Prop where
 own : ∀ f t, T.own f = some t → tM P T.objs f t
 pu : ∀ f xs ps r, T.pu f xs = some (ps, r) → (∀ p ∈ ps, p.holds) → zW P T.objs f xs r
 fre : ∀ f xs ps t sz len els, T.fre f xs = some (ps, t, sz, len, els) → (∀ p ∈ ps, p.holds) → ZP P T.objs f xs t sz len els
theorem zZ.cx {P : Program} {T : Tb} (h : zZ P T) (nb0 : Nat) : zO P (T.cx nb0) := ⟨h.own, h.pu, h.fre, fun p t e => by cases e⟩
def AV.bnd : AV → Prop
 | .xl _ sz len els => len ≤ 9223372036854775807 ∧ ∀ i j, i < len → j < sz → (els i j).bnd
 | .agg n cs => X3 (fun i => (cs i).bnd) n
 | _ => True
def Zo : List AV → Prop
 | [] => True
 | [x] => x.bnd
 | x :: xs => x.bnd ∧ Zo xs
theorem WY {p : Nat → Prop} {n : Nat} (h : ∀ i, i < n → p i) : X3 p n := by
 induction n with
 | zero => trivial
 | succ n ih =>
  cases n with
  | zero => exact h 0 (by omega)
  | succ n => exact ⟨ih fun i hi => h i (by omega), h _ (by omega)⟩
theorem zr.bnd {w : World} {S : Nat → Prop} {ρ : Nat → Own} {x : AV} {v : Value} (h : zr w S ρ x v) : x.bnd := by
 induction h with
 | xl o cap cvs hle hm hf hc hr ih => exact ⟨by simp only [maxLen] at hm; omega, ih⟩
 | agg vs hn hr ih => exact WY ih
 | _ => trivial
theorem ze.bnd {w : World} {S : Nat → Prop} {ρ : Nat → Own} : ∀ {xs : List AV} {vs : List Value}, ze w S ρ xs vs → Zo xs
 | [], [], _ => trivial
 | [x], [v], h => h.1.bnd
 | x :: y :: xs, v :: u :: vs, h => ⟨h.1.bnd, ze.bnd h.2⟩
 | [], _ :: _, h => h.elim
 | _ :: _, [], h => h.elim
 | [_], _ :: _ :: _, h => h.2.elim
 | _ :: _ :: _, [_], h => h.2.elim
@[irreducible] def uj (P : Program) (T : Tb) (f : FuncId) (an : Z8) (args : List AV) (r : AV) : Prop :=
 match P.funcs[f]? with
 | some fn =>
  match fn.body with
  | some c =>
   match Nat.ble args.length fn.ntmps && !(fn.name == "runtime.NumGoroutine") with
   | true => Zo args → QL P 6 c an (T.cx 0) (entry fn.ntmps args) (sN P fn.results.toList r) (fun _ _ => False) (sN P fn.results.toList r)
   | false => False
  | none => False
 | none => False
section
variable {P : Program} {T : Tb}
theorem uK {w : World} {S : Nat → Prop} {n : Nat} {args : List AV} {vals : List Value} (hS : ∀ b, S b → b < w.heap.size) (hG : ∀ b o, (b, o) ∈ T.objs → S b ∧ w.heap[b]? = some o)
  (hr : ze w S Zx args vals) (hn : args.length ≤ n) :
  St { w0 := w, X := fun _ => False, S0 := S, G := T.cx 0, r0 := Zx } (entry n args) { tmps := vals.toArray ++ Array.replicate (n - vals.toArray.size) undef, defers := [] } w := by
 obtain ⟨hl, hget⟩ := hr.get
 refine ⟨S, Zx, ⟨Fr.refl _ _, hS, fun _ h => h, fun _ h => .inl h, hG, fun _ _ => rfl, fun k hk => absurd hk (Nat.not_lt_zero _), fun k g e => (by cases e), fun k k' g e => (by cases e), fun k g base cap sz L e => (by cases e), Nat.zero_le _, fun k hk => absurd hk (Nat.not_lt_zero _)⟩,
  ⟨?_, fun t _ => ?_⟩, ⟨List.Pairwise.nil, fun d hd => (by cases hd)⟩⟩
 ·simp only [Array.size_append, List.size_toArray, Array.size_replicate]
  show vals.length + (n - vals.length) = n
  omega
 ·show zr w S Zx (zU args t) _
  by_cases ht : t < args.length
  ·have := hget t ht
   rw [Array.getD_eq_getD_getElem?, Array.getElem?_append_left (by simpa [hl] using ht), ← Array.getD_eq_getD_getElem?]
   exact this
  ·have : zU args t = .junk := by simp [zU, List.getElem?_eq_none (Nat.not_lt.1 ht)]
   rw [this]
   exact .junk _
theorem VL {fn : Func} {w0 : World} {S : Nat → Prop} {σ : zw} {a : Act} {w : World} {r : AV} {n : Nat} (h : sN P fn.results.toList r σ) (hst : St { w0 := w0, X := fun _ => False, S0 := S, G := T.cx 0, r0 := Zx } σ a w) :
  LeavesInM (FW none) n P fn a.tmps (fun e w' => Q6 w0 w' ∧ ∃ rv, e = .returned rv ∧ zr w' (fun b => S b ∨ (w0.heap.size ≤ b ∧ b < w'.heap.size)) Zx r rv) a.defers .returning w := by
 obtain ⟨S1, ρ1, hM, hF, hD⟩ := hst
 refine y5 a.defers w S1 hD fun w' hs => ?_
 obtain ⟨S2, hM2, hsub, hkeep⟩ := WG hM hD hs
 have hF2 : yU w' S2 ρ1 σ.n σ.tm { tmps := a.tmps, defers := [] } := ⟨hF.1, fun t ht => (hF.2 t ht).mono' hkeep⟩
 unfold sN at h
 split at h
 ·rename_i xs hxs
  split at h
  ·rename_i σ' xs' hc
   split at h
   ·exact h.elim
   ·rename_i hno
    obtain ⟨g, hrun, hrel⟩ := xz hM2 hF2 _ _ hxs
    obtain ⟨S3, ρ3, hM3, _, _, hrel3⟩ := YR hc hM2 hF2 ⟨List.Pairwise.nil, fun d hd => (by cases hd)⟩ hrel
    refine ⟨_, yf hrun, ⟨⟨hM3.fr.os, hM3.fr.tape, hM3.fr.output, hM3.fr.size, fun k hk => hM3.fr.block k hk fun hx => hx.elim⟩, hM3.fr.drawn⟩, _, rfl, ?_⟩
    refine (yt (XD (hrel3.free (Yx hno))) (qC.1 h)).mono (fun b hb => ⟨?_, rfl⟩) (zX.refl _)
    rcases hM3.sub b hb with h1 | h1 | h1
    ·exact .inl h1.1
    ·exact h1.elim
    ·exact .inr ⟨h1, hM3.sb b hb⟩
  ·exact h.elim
 ·exact h.elim
theorem zt {f : FuncId} {an : Z8} {args : List AV} {r : AV} (hm : P.follows .mixedOrders = true) (hT : zZ P T) (h : uj P T f an args r) : zW P T.objs f args r := by
 unfold uj at h
 split at h
 ·rename_i fn hf
  split at h
  ·rename_i c hb
   split at h
   ·rename_i hc
    simp only [Bool.and_eq_true, Bool.not_eq_true'] at hc
    refine ⟨Go.Proofs.enters_of hf hc.2 hb, fun w S vals hS hG hr => ?_⟩
    refine Ye.1 (callsIn_of_wp_marks (F := FW none) (n := 0) hf hb trivial ?_)
    exact XZ hm 6 c an { w0 := w, X := fun _ => False, S0 := S, G := T.cx 0, r0 := Zx } _ _ _ _ _ _ _ none 0 (hT.cx 0) ⟨fun b hb => ⟨hS b hb, fun h => h⟩, fun _ _ => rfl, fun p T h => (by cases h)⟩ rfl (h hr.bnd) (uK hS hG hr (Nat.le_of_ble_eq_true hc.1)) (fun σ a w hk hst => VL hk hst) (fun i σ a w hk _ => hk.elim) fun σ a w hk hst => VL hk hst
   ·exact h.elim
  ·exact h.elim
 ·exact h.elim
def SJ (objs : List (Nat × Obj)) : Tb := ⟨objs, fun _ => none, fun _ _ => none, fun _ _ => none, false⟩
theorem zR {objs : List (Nat × Obj)} : zZ P (SJ objs) := ⟨fun f T h => (by cases h), fun f xs ps r h => (by cases h), fun f xs ps t sz len els h => (by cases h)⟩
def Tb.plus (T : Tb) (f : FuncId) (t : List AV → Option (List zS × AV)) : Tb := { T with pu := fun g xs => bif Nat.beq g f then t xs else T.pu g xs }
def zn (P : Program) (objs : List (Nat × Obj)) (f : FuncId) (t : List AV → Option (List zS × AV)) : Prop := ∀ xs ps r, t xs = some (ps, r) → (∀ p ∈ ps, p.holds) → zW P objs f xs r
theorem zZ.plus (h : zZ P T) {f : FuncId} {t : List AV → Option (List zS × AV)} (ht : zn P T.objs f t) : zZ P (T.plus f t) := by
 refine ⟨h.own, fun g xs ps r e hp => ?_, h.fre⟩
 simp only [Tb.plus] at e
 cases hb : Nat.beq g f with
 | true =>
  rw [hb] at e
  obtain rfl := Nat.eq_of_beq_eq_true hb
  exact ht _ _ _ e hp
 | false => rw [hb] at e; exact h.pu _ _ _ _ e hp
def Tb.plusF (T : Tb) (f : FuncId) (t : List AV → Option (List zS × TypeId × Nat × Nat × (Nat → Nat → AV))) : Tb := { T with fre := fun g xs => bif Nat.beq g f then t xs else T.fre g xs }
def Yw (P : Program) (objs : List (Nat × Obj)) (f : FuncId) (t : List AV → Option (List zS × TypeId × Nat × Nat × (Nat → Nat → AV))) : Prop :=
 ∀ xs ps ty sz len els, t xs = some (ps, ty, sz, len, els) → (∀ p ∈ ps, p.holds) → ZP P objs f xs ty sz len els
theorem zZ.plusF (h : zZ P T) {f : FuncId} {t : List AV → Option (List zS × TypeId × Nat × Nat × (Nat → Nat → AV))} (ht : Yw P T.objs f t) : zZ P (T.plusF f t) := by
 refine ⟨h.own, h.pu, fun g xs ps ty sz len els e hp => ?_⟩
 simp only [Tb.plusF] at e
 cases hb : Nat.beq g f with
 | true =>
  rw [hb] at e
  obtain rfl := Nat.eq_of_beq_eq_true hb
  exact ht _ _ _ _ _ _ e hp
 | false => rw [hb] at e; exact h.fre _ _ _ _ _ _ _ e hp
def qs (P : Program) (rs : List ResultVar) (t : TypeId) (sz len : Nat) (els : Nat → Nat → AV) (σ : zw) : Prop :=
 match uX P σ rs with
 | some [.ns k 0 n] =>
  match σ.bl k with
  | .arr t' sz' L els' => t' = t ∧ sz' = sz ∧ n = len ∧ ∀ i j, i < len → j < sz → zc (els' i j) (els i j)
  | _ => False
 | some [.v (.slice none 0 0)] => len = 0
 | some [.xl _ _ n _] => n = 0 ∧ len = 0 ∧ False
 | _ => False
@[irreducible] def Wx (P : Program) (T : Tb) (f : FuncId) (an : Z8) (args : List AV) (t : TypeId) (sz len : Nat) (els : Nat → Nat → AV) : Prop :=
 match P.funcs[f]? with
 | some fn =>
  match fn.body with
  | some c =>
   match Nat.ble args.length fn.ntmps && !(fn.name == "runtime.NumGoroutine") with
   | true => Zo args → QL P 6 c an (T.cx 0) (entry fn.ntmps args) (qs P fn.results.toList t sz len els) (fun _ _ => False) (qs P fn.results.toList t sz len els)
   | false => False
  | none => False
 | none => False
theorem vA {fn : Func} {w0 : World} {S : Nat → Prop} {σ : zw} {a : Act} {w : World} {t : TypeId} {sz len : Nat} {els : Nat → Nat → AV} {n : Nat} (h : qs P fn.results.toList t sz len els σ) (hst : St { w0 := w0, X := fun _ => False, S0 := S, G := T.cx 0, r0 := Zx } σ a w) :
  LeavesInM (FW none) n P fn a.tmps (fun e w' => Q6 w0 w' ∧ ∃ rv, e = .returned rv ∧ rx S w0 w' t sz len els rv) a.defers .returning w := by
 obtain ⟨S1, ρ1, hM, hF, hD⟩ := hst
 refine y5 a.defers w S1 hD fun w' hs => ?_
 obtain ⟨S2, hM2, hsub, hkeep⟩ := WG hM hD hs
 have hF2 : yU w' S2 ρ1 σ.n σ.tm { tmps := a.tmps, defers := [] } := ⟨hF.1, fun t ht => (hF.2 t ht).mono' hkeep⟩
 have hbelow : Q6 w0 w' := ⟨⟨hM2.fr.os, hM2.fr.tape, hM2.fr.output, hM2.fr.size, fun k hk => hM2.fr.block k hk fun hx => hx.elim⟩, hM2.fr.drawn⟩
 unfold qs at h
 split at h
 ·rename_i k n' hxs
  obtain ⟨g, hrun, hrel⟩ := xz hM2 hF2 _ _ hxs
  cases hb : σ.bl k with
  | arr t' sz' L els' =>
   rw [hb] at h
   obtain ⟨rfl, rfl, rfl, h4⟩ := h
   have hr := XD hrel
   have hbk := hM2.at k
   refine ⟨_, yf hrun, hbelow, _, rfl, ?_⟩
   obtain ⟨pv, hpv⟩ : ∃ pv, Sd (fn.results.toList.map g) = pv := ⟨_, rfl⟩
   rw [hpv] at hr ⊢
   cases hr with
   | ns g' base cap sz2 L' hk hl hc =>
    have hbk := hbk.resolve_left (by rw [hk]; simp)
    have hb0 := hM2.b0 _ _ _ _ _ _ hk
    subst hb0
    rw [hb, hk] at hbk
    obtain ⟨e1, e2, h1, h2, c, h3, h5, h6⟩ := hbk
    subst e1; subst e2
    obtain ⟨hno, hnew⟩ := hM2.own k g' (by rw [hk]; rfl)
    refine .inr ⟨g', cap, c, by simp, ?_, h3, by omega, h2, by simpa using h5, fun i j hi hj => ?_⟩
    ·rcases hnew with hnew | hnew
     ·exact hnew
     ·exact hnew.elim
    ·have := h6 i j (by omega) hj
     rw [Nat.zero_add] at this
     refine ⟨yt (this.1.mono (fun b hb => ⟨?_, rfl⟩) (zX.refl _)) (h4 i j hi hj), this.2⟩
     rcases hM2.sub b hb with q | q | q
     ·exact .inl q.1
     ·exact q.elim
     ·exact .inr ⟨q, hM2.sb b hb, fun e => hno (e ▸ hb)⟩
   | ns0 g' base cap sz2 L' A hk hl hc h0 => exact .inl ⟨rfl, _, rfl⟩
   | nsn sz2 o hk => exact .inl ⟨rfl, _, rfl⟩
   | nsr g' cap sz2 L' sub hk hl hc =>
    have hbk := hbk.resolve_left (by rw [hk]; simp)
    rw [hb, hk] at hbk
    exact hbk.elim
   | nsv q o cap hk =>
    have hbk := hbk.resolve_left (by rw [hk]; simp)
    rw [hb, hk] at hbk
    exact hbk.elim
   | dns hd hsh =>
    have hbk := hbk.resolve_left (by rw [hd]; simp)
    rw [hb, hd] at hbk
    exact hbk.elim
  | _ => rw [hb] at h; exact h.elim
 ·rename_i hxs
  obtain ⟨g, hrun, hrel⟩ := xz hM2 hF2 _ _ hxs
  have hr := XD hrel
  refine ⟨_, yf hrun, hbelow, _, rfl, .inl ⟨h, none, ?_⟩⟩
  exact zi hr
 ·exact h.2.2.elim
 ·exact h.elim
theorem wg {f : FuncId} {an : Z8} {args : List AV} {t : TypeId} {sz len : Nat} {els : Nat → Nat → AV} (hm : P.follows .mixedOrders = true) (hT : zZ P T) (h : Wx P T f an args t sz len els) : ZP P T.objs f args t sz len els := by
 unfold Wx at h
 split at h
 ·rename_i fn hf
  split at h
  ·rename_i c hb
   split at h
   ·rename_i hc
    simp only [Bool.and_eq_true, Bool.not_eq_true'] at hc
    refine ⟨Go.Proofs.enters_of hf hc.2 hb, fun w S vals hS hG hr => ?_⟩
    refine Ye.1 (callsIn_of_wp_marks (F := FW none) (n := 0) hf hb trivial ?_)
    exact XZ hm 6 c an { w0 := w, X := fun _ => False, S0 := S, G := T.cx 0, r0 := Zx } _ _ _ _ _ _ _ none 0 (hT.cx 0) ⟨fun b hb => ⟨hS b hb, fun h => h⟩, fun _ _ => rfl, fun p T h => (by cases h)⟩ rfl (h hr.bnd) (uK hS hG hr (Nat.le_of_ble_eq_true hc.1)) (fun σ a w hk hst => vA hk hst) (fun i σ a w hk _ => hk.elim) fun σ a w hk hst => vA hk hst
   ·exact h.elim
  ·exact h.elim
 ·exact h.elim
end
end Go.Sx

namespace Go.Sx
open Go Go.RowKit
section
variable {P : Program} {G : Cx}
def t6 (P : Program) (rs : List ResultVar) (k : Nat → (Nat → OB) → AV → Prop) (σ : zw) : Prop :=
 match uX P σ rs with
 | some xs => k σ.nb σ.bl (X8 xs)
 | none => False
def T6 (P : Program) (T : Tb) (f : FuncId) (an : Z8) (nb : Nat) (bl : Nat → OB) (xs : List AV) (k : Nat → (Nat → OB) → AV → Prop) : Prop :=
 match P.funcs[f]? with
 | some fn =>
  match fn.body with
  | some c =>
   match Nat.ble xs.length fn.ntmps && !(fn.name == "runtime.NumGoroutine") with
   | true => QL P 6 c an (T.cx nb) { n := fn.ntmps, tm := zU xs, nb := nb, bl := bl } (t6 P fn.results.toList k) (fun _ _ => False) (t6 P fn.results.toList k)
   | false => False
  | none => False
 | none => False
theorem Vm {rs : List ResultVar} {k k' : Nat → (Nat → OB) → AV → Prop} (h : ∀ nb bl x, k nb bl x → k' nb bl x) (σ : zw) (hv : t6 P rs k σ) : t6 P rs k' σ := by
 unfold t6 at hv ⊢
 split at hv
 ·exact h _ _ _ hv
 ·exact hv.elim
end
section
variable {P : Program} {T : Tb}
theorem sg (hT : zZ P T) {f : FuncId} {an : Z8} {nb : Nat} {bl : Nat → OB} {xs : List AV} {k k' : Nat → (Nat → OB) → AV → Prop}
  (h : ∀ nb bl x, k nb bl x → k' nb bl x) (hv : T6 P T f an nb bl xs k) : T6 P T f an nb bl xs k' := by
 unfold T6 at hv ⊢
 split at hv
 ·split at hv
  ·split at hv
   ·exact Xc 6 _ _ _ _ _ _ _ _ _ _ (hT.cx nb) (Vm h) (fun _ _ h => h) (Vm h) hv
   ·exact hv.elim
  ·exact hv.elim
 ·exact hv.elim
theorem vm {E : Env} {nb : Nat} {bl : Nat → OB} {S : Nat → Prop} {ρ : Nat → Own} {w : World} {k : Nat → (Nat → OB) → AV → Prop} {fn : Func} {σ : zw} {a : Act} {w1 : World} {n : Nat} (hM : zI E nb bl S ρ w)
  (h : t6 P fn.results.toList k σ) (hst : St (sL w S ρ (T.cx nb)) σ a w1) :
  LeavesInM (FW none) n P fn a.tmps (Rb E S ρ w k) a.defers .returning w1 := by
 refine W5 hM rfl hst fun w2 S2 ρ2 m1 m2 m3 _ m5 => ?_
 unfold t6 at h
 split at h
 ·rename_i xs hxs
  obtain ⟨g, hrun, hrel⟩ := xz m1 m5 _ _ hxs
  exact ⟨_, yf hrun, _, _, S2, ρ2, _, _, rfl, h, m1, m2, m3, XD hrel⟩
 ·exact h.elim
theorem TC (hm : P.follows .mixedOrders = true) (hT : zZ P T) {f : FuncId} {an : Z8} {fn : Func} {c : Code} (hf : P.funcs[f]? = some fn) (hb : fn.body = some c)
  (hn : (fn.name == "runtime.NumGoroutine") = false) : tM P T.objs f (T6 P T f an) := by
 refine ⟨Go.Proofs.enters_of hf hn hb, fun nb bl xs k k' h hv => sg hT h hv, fun E nb bl S ρ w xs vs k hEG hM hx hv => ?_⟩
 unfold T6 at hv
 rw [hf] at hv
 simp only [hb] at hv
 split at hv
 ·rename_i hc
  simp only [Bool.and_eq_true] at hc
  have hlen : xs.length ≤ fn.ntmps := Nat.le_of_ble_eq_true hc.1
  obtain ⟨hl, hget⟩ := hx.get
  refine Ye.1 (callsIn_of_wp_marks (F := FW none) (n := 0) hf hb trivial ?_)
  exact XZ hm 6 c an (sL w S ρ (T.cx nb)) _ _ _ _ _ _ _ none 0 (hT.cx nb) ⟨hM.inner_base, hM.hi, fun p T h => (by cases h)⟩ rfl hv
   ⟨S, ρ, hM.inner hEG.symm rfl, Tu hx hlen, ⟨List.Pairwise.nil, fun d hd => (by cases hd)⟩⟩ (fun σ a w1 hk hst => vm hM hk hst)
   (fun i σ a w hk _ => hk.elim) fun σ a w1 hk hst => vm hM hk hst
 ·exact hv.elim
def un (P : Program) (T : Tb) (f : FuncId) (an : Z8) : Option (Nat → (Nat → OB) → List AV → (Nat → (Nat → OB) → AV → Prop) → Prop) :=
 match P.funcs[f]? with
 | some fn =>
  match fn.body with
  | some _ => (match fn.name == "runtime.NumGoroutine" with | true => none | false => some (T6 P T f an))
  | none => none
 | none => none
theorem XC (hm : P.follows .mixedOrders = true) (hT : zZ P T) {f : FuncId} {an : Z8} {t : Nat → (Nat → OB) → List AV → (Nat → (Nat → OB) → AV → Prop) → Prop} (h : un P T f an = some t) : tM P T.objs f t := by
 unfold un at h
 split at h
 ·rename_i fn hf
  split at h
  ·rename_i c hb
   split at h
   ·cases h
   ·rename_i hn
    cases h
    exact TC hm hT hf hb hn
  ·cases h
 ·cases h
def PD : List (FuncId × Z8) → FuncId → Option Z8
 | [], _ => none
 | (g, a) :: l, f => bif Nat.beq g f then some a else PD l f
def Tb.body (P : Program) (T : Tb) (l : List (FuncId × Z8)) : Tb := { T with own := fun f => match PD l f with | some an => un P T f an | none => T.own f }
theorem zZ.body (hm : P.follows .mixedOrders = true) (hT : zZ P T) (l : List (FuncId × Z8)) : zZ P (T.body P l) := by
 refine ⟨fun f t h => ?_, hT.pu, hT.fre⟩
 simp only [Tb.body] at h
 split at h
 ·exact XC hm hT h
 ·exact hT.own _ _ h
end
end Go.Sx

namespace Go.Sx
open Go Go.RowKit
theorem XG {p : Prop} [DB p] {A : Prop} : zz (DB.db p) A False ↔ p ∧ A := by
 rw [zT]
 constructor
 ·rintro ⟨h1, h2⟩
  have : DB.db p = true := by cases h : DB.db p with
   | true => rfl
   | false => exact (h2 h).elim
  exact ⟨DB.iff.1 this, h1 this⟩
 ·rintro ⟨hp, ha⟩
  exact ⟨fun _ => ha, fun h => by rw [DB.iff.2 hp] at h; cases h⟩
theorem qa {a b : Int} {A B : Prop} : zz (zl a b) A B ↔ (a < b → A) ∧ (b ≤ a → B) := by
 rw [zT, TX, decide_eq_true_eq, decide_eq_false_iff_not, Int.not_lt]
theorem PT {a b : Int} {A B : Prop} : zz (leB a b) A B ↔ (a ≤ b → A) ∧ (b < a → B) := by
 rw [zT, VE, decide_eq_true_eq, decide_eq_false_iff_not, Int.not_le]
theorem qA {a b : Int} {A B : Prop} : zz (a != b) A B ↔ (a ≠ b → A) ∧ (a = b → B) := by
 rw [zT, bne_iff_ne, bne_eq_false_iff_eq]
theorem pb {a b : Int} {A B : Prop} : zz (a == b) A B ↔ (a = b → A) ∧ (a ≠ b → B) := by
 rw [zT, beq_iff_eq, beq_eq_false_iff_ne]
theorem R9 {x y : Bool} {A : Prop} : zz (!x || y) A False ↔ (x = true → y = true) ∧ A := by cases x <;> cases y <;> simp [zz]
theorem Q2 (a b : Bool) : (bif a then true else b) = (a || b) := by cases a <;> rfl
theorem RF (a b : Bool) : (bif a then b else false) = (a && b) := by cases a <;> rfl
theorem xJ {x : Bool} {p : Prop} [DB p] {A : Prop} : zz (!x || DB.db p) A False ↔ (x = true → p) ∧ A := by
 rw [R9, DB.iff]
theorem Sb {x : Bool} {A : Prop} : zz (!x || x) A False ↔ A := by cases x <;> simp [zz]
theorem VM (x : Bool) : zy true x = x := rfl
theorem WS (x : Bool) : zy false x = !x := rfl
theorem rK {x y : Bool} {A : Prop} : zz (!x || y) A False ↔ (x = true → y = true) ∧ A := by cases x <;> cases y <;> simp [zz]
end Go.Sx

namespace Go.Sx
open Go Go.RowKit
def RD : List AV → List AV → Prop
 | [], [] => True
 | x :: xs, y :: ys => zc x y ∧ RD xs ys
 | _, _ => False
theorem Uw {w : World} {S : Nat → Prop} {ρ : Nat → Own} : ∀ {xs ys : List AV} {vs : List Value}, RD xs ys → ze w S ρ xs vs → ze w S ρ ys vs
 | [], [], [], _, _ => trivial
 | _ :: _, _ :: _, _ :: _, h, hr => ⟨yt hr.1 h.1, Uw h.2 hr.2⟩
 | [], [], _ :: _, _, hr => hr.elim
 | _ :: _, _ :: _, [], _, hr => hr.elim
 | [], _ :: _, _, h, _ => h.elim
 | _ :: _, [], _, h, _ => h.elim
theorem weaken {P : Program} {G : List (Nat × Obj)} {f : FuncId} {xs ys : List AV} {r : AV} (h : RD xs ys) (hp : zW P G f ys r) : zW P G f xs r :=
 ⟨hp.1, fun w S vals hS hG hr => hp.2 w S vals hS hG (Uw h hr)⟩
def AV.int : AV → Int
 | .v (.int _ n) => n
 | _ => 0
def AV.bool : AV → Bool
 | .v (.bool t) => t
 | _ => false
def AV.bytes : AV → List UInt8
 | .str l => l
 | _ => []
def ye : AV → Bool
 | .v (.int .i64 _) => true
 | _ => false
def isBool : AV → Bool
 | .v (.bool _) => true
 | _ => false
def Ux : AV → Bool
 | .str _ => true
 | _ => false
theorem Zs {x : AV} (h : ye x = true) : x = .i (AV.int x) := by
 unfold ye at h
 split at h
 ·rfl
 ·cases h
theorem Vn {x : AV} (h : isBool x = true) : x = .b (AV.bool x) := by
 unfold isBool at h
 split at h
 ·rfl
 ·cases h
theorem Ug {x : AV} (h : Ux x = true) : x = .str (AV.bytes x) := by
 unfold Ux at h
 split at h
 ·rfl
 ·cases h
class zv (α : Type) where
 n : Nat
 dflt : α
 enc : α → Nat → AV
 dec : (Nat → AV) → α
 ok : (Nat → AV) → Bool
 sound : ∀ cs, ok cs = true → ∀ j, j < n → zc (cs j) (enc (dec cs) j)
def yI {α : Type} [zv α] (l : List α) : AV := .xl false (zv.n α) l.length fun i j => zv.enc (l.getD i zv.dflt) j
def wF {α : Type} [zv α] : AV → List α
 | .xl _ _ len els => (List.range len).map fun i => zv.dec (els i)
 | _ => []
def ZV (α : Type) [zv α] : AV → Bool
 | .xl _ sz len els => Nat.beq sz (zv.n α) && wc (fun i => zv.ok (α := α) (els i)) len
 | .v (.slice none 0 0) => true
 | _ => false
theorem zH {α : Type} [zv α] {x : AV} (h : ZV α x = true) : zc x (yI (wF (α := α) x)) := by
 unfold ZV at h
 split at h
 ·rename_i f sz len els
  rw [Bool.and_eq_true] at h
  obtain rfl := Nat.eq_of_beq_eq_true h.1
  unfold yI
  refine ⟨(fun h => by cases h), rfl, by simp [wF], fun i j hi hj => ?_⟩
  have : ((wF (α := α) (.xl f (zv.n α) len els)).getD i zv.dflt) = zv.dec (els i) := by
   simp [wF, List.getD_eq_getElem?_getD, hi]
  show zc (els i j) (zv.enc ((wF (α := α) (.xl f (zv.n α) len els)).getD i zv.dflt) j)
  rw [this]
  exact zv.sound _ (Yz h.2 i hi) j hj
 ·exact ⟨rfl, rfl⟩
 ·cases h
instance : zv Int := ⟨1, 0, fun a _ => .i a, fun cs => AV.int (cs 0), fun cs => ye (cs 0), fun cs h j hj => by
 obtain rfl : j = 0 := by omega
 exact zF (Zs h)⟩
instance : zv Bool := ⟨1, false, fun a _ => .b a, fun cs => AV.bool (cs 0), fun cs => isBool (cs 0), fun cs h j hj => by
 obtain rfl : j = 0 := by omega
 exact zF (Vn h)⟩
instance : zv (List UInt8) := ⟨1, [], fun a _ => .str a, fun cs => AV.bytes (cs 0), fun cs => Ux (cs 0), fun cs h j hj => by
 obtain rfl : j = 0 := by omega
 exact zF (Ug h)⟩
def wV {α : Type} [zv α] (a : α) : AV := .agg (zv.n α) (zv.enc a)
def Yo {α : Type} [zv α] : AV → α
 | .agg _ cs => zv.dec cs
 | _ => zv.dflt
def Y2 (α : Type) [zv α] : AV → Bool
 | .agg n cs => Nat.beq n (zv.n α) && zv.ok (α := α) cs
 | _ => false
theorem ZI {α : Type} [zv α] {x : AV} (h : Y2 α x = true) : zc x (wV (Yo (α := α) x)) := by
 unfold Y2 at h
 split at h
 ·rename_i n cs
  rw [Bool.and_eq_true] at h
  obtain rfl := Nat.eq_of_beq_eq_true h.1
  exact ⟨rfl, WY fun i hi => zv.sound _ h.2 i hi⟩
 ·cases h
structure Wk (xs ys : List AV) : Prop where
 h : RD xs ys
theorem Wk.refl : ∀ (xs : List AV), Wk xs xs
 | [] => ⟨trivial⟩
 | x :: xs => ⟨zY x, (Wk.refl xs).h⟩
abbrev WU (α : Type) : Option α := none
def xy {α : Type} (n : Nat) (f : Nat → α) : List α := (List.range n).map f
theorem UU {α : Type} (l : List α) (d : α) : xy l.length (fun i => l.getD i d) = l := by
 apply List.ext_getElem
 ·simp [xy]
 ·intro i h1 h2
  simp [xy, List.getD_eq_getElem?_getD, h2]
def Wz (ys : List AV) (r : AV) : List AV → Option (List zS × AV) := fun xs => some ([.p (Wk xs ys)], r)
theorem Xn {P : Program} {G : List (Nat × Obj)} {f : FuncId} {ys : List AV} {r : AV} (h : zW P G f ys r) : zn P G f (Wz ys r) := by
 intro xs ps r' h' hp
 cases h'
 exact weaken (hp _ List.mem_cons_self : Wk xs ys).h h
end Go.Sx

namespace Go.Sx
open Go Go.RowKit
def AV.ren (r : Nat → Nat) : AV → AV
 | .np k off => .np (r k) off
 | .ns k off len => .ns (r k) off len
 | .ap k i j => .ap (r k) i j
 | .yl k => .yl (r k)
 | .ps k len => .ps (r k) len
 | .agg n cs => .agg n fun i => (cs i).ren r
 | .tup n cs => .tup n fun i => (cs i).ren r
 | .fn f nf a nc c => .fn f nf (fun i => (a i).ren r) nc fun i => (c i).ren r
 | .gd g x => .gd g (x.ren r)
 | x => x
def OB.ren (r : Nat → Nat) : OB → OB
 | .box t n cells => .box t n fun i => (cells i).ren r
 | .rows t sz len col te ssz els out => .rows t sz len col te ssz els (out.map fun p => (p.1, p.2.ren r))
 | x => x
section
variable {P : Program} {E : Env} {nb : Nat} {bl : Nat → OB} {S : Nat → Prop} {ρ : Nat → Own} {w : World}
theorem zr.ren {ρ2 : Nat → Own} {r : Nat → Nat} {x : AV} {v : Value} (h : zr w S ρ x v) (hr : ∀ k, ρ2 (r k) = ρ k ∨ ρ k = .none) : zr w S ρ2 (x.ren r) v := by
 have get : ∀ {k o}, ρ k = o → o ≠ .none → ρ2 (r k) = o := fun {k o} e hne => by
  rcases hr k with h | h
  ·exact h.trans e
  ·exact absurd (e.symm.trans h) hne
 induction h with
 | v x => exact .v x
 | str l => exact .str l
 | xl o cap cvs hle hm hf hc hr' ih => exact .xl o cap cvs hle hm hf hc hr'
 | xq A cvs hc hr' ih => exact .xq A cvs hc hr'
 | np g h => exact .np g (get h (by simp))
 | ns g base cap sz L h hl hc => exact .ns g base cap sz L (get h (by simp)) hl hc
 | ns0 g base cap sz L A h hl hc h0 => exact .ns0 g base cap sz L A (get h (by simp)) hl hc h0
 | nsn sz o h => exact .nsn sz o (get h (by simp))
 | ap g base cap sz L h hi hc => exact .ap g base cap sz L (get h (by simp)) hi hc
 | nsr g cap sz L sub h hl hc => exact .nsr g cap sz L sub (get h (by simp)) hl hc
 | nsv q o cap h => exact .nsv q o cap (get h (by simp))
 | apr g cap sz L sub h hi hc => exact .apr g cap sz L sub (get h (by simp)) hi hc
 | yl g r' h => exact .yl g r' (get h (by simp))
 | dyl h hx => exact .dyl (get h (by simp)) hx
 | dnp h hx => exact .dnp (get h (by simp)) hx
 | dns h hx => exact .dns (get h (by simp)) hx
 | dap h hx => exact .dap (get h (by simp)) hx
 | agg vs hn _ ih => exact .agg vs hn fun i hi => ih i hi hr get
 | tup vs hn _ ih => exact .tup vs hn fun i hi => ih i hi hr get
 | fn vs us hn hm _ _ ih1 ih2 => exact .fn vs us hn hm (fun i hi => ih1 i hi hr get) fun i hi => ih2 i hi hr get
 | gd v h h' ih => exact .gd v (fun hg => ih hg hr get) h'
 | nb t h => exact .nb t h
 | er x h1 h2 => exact .er x h1 h2
 | ps g cap h hc => exact .ps g cap (get h (by simp)) hc
 | dps h hx => exact .dps (get h (by simp)) hx
 | junk x => exact .junk x
theorem Wv.ren {ρ2 : Nat → Own} {r : Nat → Nat} {B : OB} {o : Own} (h : Wv w S ρ B o) (hr : ∀ k, ρ2 (r k) = ρ k ∨ ρ k = .none) : Wv w S ρ2 (B.ren r) o := by
 cases B with
 | box t n cells =>
  cases o with
  | box g =>
   obtain ⟨c, h1, h2, h3⟩ := h
   exact ⟨c, h1, h2, fun i hi => ⟨(h3 i hi).1.ren hr, (h3 i hi).2⟩⟩
  | _ => exact h.elim
 | dead => cases o <;> exact h
 | arr t sz len els => cases o <;> exact h
 | lrec st pe => cases o <;> exact h
 | app te ssz len els => cases o <;> exact h
 | rows t sz len col te ssz els out =>
  cases o with
  | rows g cap sz' len' sub =>
   obtain ⟨e1, e2, h1, h2, h3, h4, h5, h6, c, h7, h8, h9⟩ := h
   refine ⟨e1, e2, h1, h2, h3, h4, h5, h6, c, h7, h8, fun i hi => ⟨(h9 i hi).1, ?_, (h9 i hi).2.2⟩⟩
   have := (h9 i hi).2.1
   cases out with
   | none => exact this
   | some p => exact ⟨fun e => ⟨(this.1 e).1, (this.1 e).2.ren hr⟩, this.2⟩
  | nila sz' =>
   obtain ⟨e1, e2, e3⟩ := h
   subst e3
   exact ⟨e1, e2, rfl⟩
  | _ => exact h.elim
def pick (ρ : Nat → Own) (idx : List Nat) : Nat → Own := fun i =>
 match idx[i]? with
 | some j => ρ j
 | none => .none
theorem vd {idx : List Nat} {i j : Nat} (h : idx[i]? = some j) : pick ρ idx i = ρ j := by unfold pick; rw [h]
theorem sZ {idx : List Nat} {i : Nat} (h : idx.length ≤ i) : pick ρ idx i = .none := by unfold pick; rw [List.getElem?_eq_none h]
theorem v8 {idx : List Nat} (hnd : idx.Nodup) {i j : Nat} (h : idx[i]? = some j) : idx.idxOf? j = some i := by
 obtain ⟨h1, h2⟩ := List.getElem?_eq_some_iff.1 h
 refine List.idxOf?_eq_some_iff.2 ⟨h1, h2, fun i' hi' e => ?_⟩
 have := List.pairwise_iff_getElem.1 hnd i' i (by omega) h1 hi'
 exact this (e.trans h2.symm)
theorem zI.pick (hM : zI E nb bl S ρ w) {idx : List Nat} (hnd : idx.Nodup) (hlt : ∀ j ∈ idx, j < nb) {G : Cx} (hG : G.objs = E.G.objs) (hnb : G.nb0 = idx.length) {bi : Nat → OB}
  (hok : ∀ i, i < idx.length → Wv w S (pick ρ idx) (bi i) (pick ρ idx i)) : zI (sL w S (pick ρ idx) G) idx.length bi S (pick ρ idx) w := by
 have blk : ∀ {i g}, (Sx.pick ρ idx i).has g → ∃ j, idx[i]? = some j ∧ (ρ j).has g := fun {i g} e => by
  cases h : idx[i]? with
  | none => rw [Sx.pick, h] at e; exact e.elim
  | some j => rw [vd h] at e; exact ⟨j, rfl, e⟩
 refine ⟨Fr.refl _ _, hM.sb, fun _ h => h, fun _ h => .inl h, fun b o hbo => hM.glob b o (by rw [← hG]; exact hbo), fun k hk => sZ hk, hok, fun j g e => ?_, fun i i' g e e' => ?_, fun k g base cap sz L e => ?_, Nat.le_of_eq hnb, fun _ _ => .inl (Own.like_refl _)⟩
 ·obtain ⟨j', h1, h2⟩ := blk e
  exact ⟨(hM.own j' g h2).1, .inr ⟨j, e⟩⟩
 ·obtain ⟨j, h1, h2⟩ := blk e
  obtain ⟨j', h1', h2'⟩ := blk e'
  obtain rfl := hM.dis j j' g h2 h2'
  have a := v8 hnd h1
  have b := v8 hnd h1'
  rw [a] at b
  exact Option.some.inj b
 ·cases h : idx[k]? with
  | none => rw [Sx.pick, h] at e; cases e
  | some j => rw [vd h] at e; exact hM.b0 _ _ _ _ _ _ e
end
end Go.Sx

namespace Go.Sx
open Go Go.RowKit
section
variable {P : Program} {E : Env} {nb : Nat} {bl : Nat → OB} {S : Nat → Prop} {ρ : Nat → Own} {w : World}
end
end Go.Sx
