/- Contracts from verification conditions. -/
import Derived.Test.YtgpbohfbhfbelaaGreatDoorSxX
import Derived.Shelf.Abstract
import Derived.Test.YtgpbohfbhfbelaaGreatDoorSxRe
set_option linter.unusedSimpArgs false
set_option linter.unusedVariables false
namespace Go.Sx
open Go Go.RowKit
def entry (n : Nat) (args : List AV) : zo := { n := n, tm := zt args, nb := 0, bl := fun _ => .dead }
abbrev Ei : Type := FuncId → Option (Nat → (Nat → OB) → List AV → (Nat → (Nat → OB) → AV → Prop) → Prop)
abbrev gz : Type := FuncId → List AV → Option (List zn × AV)
abbrev Im : Type := FuncId → List AV → Option (List zn × TypeId × Nat × Nat × (Nat → Nat → AV))
structure Tb where
 objs : List (Nat × Obj)
 own : Ei
 pu : gz
 fre : Im
 conc : Bool
 frm : FuncId → Bool := fun _ => false
def Tb.cx (T : Tb) (nb0 : Nat) : Cx := { objs := T.objs, nb0 := nb0, own := T.own, pu := T.pu, fre := T.fre, conc := T.conc, frm := T.frm }
structure zZ (P : Program) (T : Tb) : Prop where
 own : ∀ f t, T.own f = some t → TY P T.objs f t
 pu : ∀ f xs ps r, T.pu f xs = some (ps, r) → (∀ p ∈ ps, p.holds) → zT P T.objs f xs r
 fre : ∀ f xs ps t sz len els, T.fre f xs = some (ps, t, sz, len, els) → (∀ p ∈ ps, p.holds) → yX P T.objs f xs t sz len els
 frm : ∀ f t, T.frm f = true → T.own f = some t → JI t
theorem zZ.cx {P : Program} {T : Tb} (h : zZ P T) (nb0 : Nat) : zE P (T.cx nb0) := ⟨h.own, h.pu, h.fre, fun p t e => (by cases e), h.frm⟩
def AV.bnd : AV → Prop
 | .xl _ sz len els => len ≤ 9223372036854775807 ∧ ∀ i j, i < len → j < sz → (els i j).bnd
 | .agg n cs => vD (fun i => (cs i).bnd) n
 | _ => True
def ZY : List AV → Prop
 | [] => True
 | [x] => x.bnd
 | x :: xs => x.bnd ∧ ZY xs
theorem UL {p : Nat → Prop} {n : Nat} (h : ∀ i, i < n → p i) : vD p n := by
 induction n with
 | zero => trivial
 | succ n ih =>
  cases n with
  | zero => exact h 0 (by omega)
  | succ n => exact ⟨ih fun i hi => h i (by omega), h _ (by omega)⟩
theorem zF.bnd {w : World} {S : Nat → Prop} {ρ : Nat → Own} {x : AV} {v : Value} (h : zF w S ρ x v) : x.bnd := by
 induction h with
 | xl o cap cvs hle hm hf hc hr ih => exact ⟨by simp only [maxLen] at hm; omega, ih⟩
 | agg vs hn hr ih => exact UL ih
 | _ => trivial
theorem ZI.bnd {w : World} {S : Nat → Prop} {ρ : Nat → Own} : ∀ {xs : List AV} {vs : List Value}, ZI w S ρ xs vs → ZY xs
 | [], [], _ => trivial
 | [x], [v], h => h.1.bnd
 | x :: y :: xs, v :: u :: vs, h => ⟨h.1.bnd, ZI.bnd h.2⟩
 | [], _ :: _, h => h.elim
 | _ :: _, [], h => h.elim
 | [_], _ :: _ :: _, h => h.2.elim
 | _ :: _ :: _, [_], h => h.2.elim
@[irreducible] def T7 (P : Program) (T : Tb) (f : FuncId) (an : Z9) (args : List AV) (r : AV) : Prop :=
 match P.funcs[f]? with
 | some fn =>
  match fn.body with
  | some c =>
   match Nat.ble args.length fn.ntmps && !(fn.name == "runtime.NumGoroutine") with
   | true => ZY args → iA P 6 c an (T.cx 0) (entry fn.ntmps args) (nS P fn.results.toList r) (fun _ _ => False) (nS P fn.results.toList r)
   | false => False
  | none => False
 | none => False
section
variable {P : Program} {T : Tb}
theorem R8 {w : World} {S : Nat → Prop} {n : Nat} {args : List AV} {vals : List Value} (hS : ∀ b, S b → b < w.heap.size) (hG : ∀ b o, (b, o) ∈ T.objs → S b ∧ w.heap[b]? = some o)
  (hr : ZI w S yi args vals) (hn : args.length ≤ n) :
  St { w0 := w, X := fun _ => False, S0 := S, G := T.cx 0, r0 := yi } (entry n args) { tmps := vals.toArray ++ Array.replicate (n - vals.toArray.size) undef, defers := [] } w := by
 obtain ⟨hl, hget⟩ := hr.get
 refine ⟨S, yi, ⟨Fr.refl _ _, hS, fun _ h => h, fun _ h => .inl h, hG, fun _ _ => rfl, fun k hk => absurd hk (Nat.not_lt_zero _), fun k g e => (by cases e), fun k k' g e => (by cases e), fun k g base cap sz L e => (by cases e), Nat.zero_le _, fun k hk => absurd hk (Nat.not_lt_zero _)⟩,
  ⟨?_, fun t _ => ?_⟩, ⟨List.Pairwise.nil, fun d hd => (by cases hd)⟩⟩
 ·simp only [Array.size_append, List.size_toArray, Array.size_replicate]
  show vals.length + (n - vals.length) = n
  omega
 ·show zF w S yi (zt args t) _
  by_cases ht : t < args.length
  ·have := hget t ht
   rw [Array.getD_eq_getD_getElem?, Array.getElem?_append_left (by simpa [hl] using ht), ← Array.getD_eq_getD_getElem?]
   exact this
  ·have : zt args t = .junk := by simp [zt, List.getElem?_eq_none (Nat.not_lt.1 ht)]
   rw [this]
   exact .junk _
theorem so {fn : Func} {w0 : World} {S : Nat → Prop} {σ : zo} {a : Act} {w : World} {r : AV} {n : Nat} (h : nS P fn.results.toList r σ) (hst : St { w0 := w0, X := fun _ => False, S0 := S, G := T.cx 0, r0 := yi } σ a w) :
  LeavesInM (FW none) n P fn a.tmps (fun e w' => IC w0 w' ∧ ∃ rv, e = .returned rv ∧ zF w' (fun b => S b ∨ (w0.heap.size ≤ b ∧ b < w'.heap.size)) yi r rv) a.defers .returning w := by
 obtain ⟨S1, ρ1, hM, hF, hD⟩ := hst
 refine xA a.defers w S1 hD fun w' hs => ?_
 obtain ⟨S2, hM2, hsub, hkeep⟩ := UA hM hD hs
 have hF2 : Yq w' S2 ρ1 σ.n σ.tm { tmps := a.tmps, defers := [] } := ⟨hF.1, fun t ht => (hF.2 t ht).mono' hkeep⟩
 unfold nS at h
 split at h
 ·rename_i xs hxs
  split at h
  ·rename_i σ' xs' hc
   split at h
   ·exact h.elim
   ·rename_i hno
    obtain ⟨g, hrun, hrel⟩ := wn hM2 hF2 _ _ hxs
    obtain ⟨S3, ρ3, hM3, _, _, hrel3⟩ := XP hc hM2 hF2 ⟨List.Pairwise.nil, fun d hd => (by cases hd)⟩ hrel
    refine ⟨_, xK hrun, ⟨⟨hM3.fr.os, hM3.fr.tape, hM3.fr.output, hM3.fr.size, fun k hk => hM3.fr.block k hk fun hx => hx.elim⟩, hM3.fr.drawn⟩, _, rfl, ?_⟩
    refine (wy (Vo (hrel3.free (XW hno))) (Jf.1 h)).mono (fun b hb => ⟨?_, rfl⟩) (zf.refl _)
    rcases hM3.sub b hb with h1 | h1 | h1
    ·simp_all
    ·exact h1.elim
    ·exact .inr ⟨h1, hM3.sb b hb⟩
  simp_all
 simp_all
theorem zU {f : FuncId} {an : Z9} {args : List AV} {r : AV} (hm : P.follows .mixedOrders = true) (hT : zZ P T) (h : T7 P T f an args r) : zT P T.objs f args r := by
 unfold T7 at h
 split at h
 ·rename_i fn hf
  split at h
  ·rename_i c hb
   split at h
   ·rename_i hc
    simp only [Bool.and_eq_true, Bool.not_eq_true'] at hc
    refine ⟨Go.Proofs.enters_of hf hc.2 hb, fun w S vals hS hG hr => ?_⟩
    refine X5.1 (callsIn_of_wp_marks (F := FW none) (n := 0) hf hb trivial ?_)
    exact Wc hm 6 c an { w0 := w, X := fun _ => False, S0 := S, G := T.cx 0, r0 := yi } _ _ _ _ _ _ _ none 0 (hT.cx 0) ⟨fun b hb => ⟨hS b hb, fun h => h⟩, fun _ _ => rfl, fun p T h => (by cases h)⟩ rfl (h hr.bnd) (R8 hS hG hr (Nat.le_of_ble_eq_true hc.1)) (fun σ a w hk hst => so hk hst) (fun i σ a w hk _ => hk.elim) fun σ a w hk hst => so hk hst
   simp_all
  simp_all
 simp_all
def Vw (objs : List (Nat × Obj)) : Tb := ⟨objs, fun _ => none, fun _ _ => none, fun _ _ => none, false, fun _ => false⟩
theorem zq {objs : List (Nat × Obj)} : zZ P (Vw objs) := ⟨fun f T h => (by cases h), fun f xs ps r h => (by cases h), fun f xs ps t sz len els h => (by cases h), fun f t h => (by cases h)⟩
def Tb.plus (T : Tb) (f : FuncId) (t : List AV → Option (List zn × AV)) : Tb := { T with pu := fun g xs => bif Nat.beq g f then t xs else T.pu g xs }
def zQ (P : Program) (objs : List (Nat × Obj)) (f : FuncId) (t : List AV → Option (List zn × AV)) : Prop := ∀ xs ps r, t xs = some (ps, r) → (∀ p ∈ ps, p.holds) → zT P objs f xs r
theorem zZ.plus (h : zZ P T) {f : FuncId} {t : List AV → Option (List zn × AV)} (ht : zQ P T.objs f t) : zZ P (T.plus f t) := by
 refine ⟨h.own, fun g xs ps r e hp => ?_, h.fre, h.frm⟩
 simp only [Tb.plus] at e
 cases hb : Nat.beq g f with
 | true =>
  rw [hb] at e
  obtain rfl := Nat.eq_of_beq_eq_true hb
  exact ht _ _ _ e hp
 | false => rw [hb] at e; exact h.pu _ _ _ _ e hp
def Tb.plusF (T : Tb) (f : FuncId) (t : List AV → Option (List zn × TypeId × Nat × Nat × (Nat → Nat → AV))) : Tb := { T with fre := fun g xs => bif Nat.beq g f then t xs else T.fre g xs }
def TG (P : Program) (objs : List (Nat × Obj)) (f : FuncId) (t : List AV → Option (List zn × TypeId × Nat × Nat × (Nat → Nat → AV))) : Prop :=
 ∀ xs ps ty sz len els, t xs = some (ps, ty, sz, len, els) → (∀ p ∈ ps, p.holds) → yX P objs f xs ty sz len els
theorem zZ.plusF (h : zZ P T) {f : FuncId} {t : List AV → Option (List zn × TypeId × Nat × Nat × (Nat → Nat → AV))} (ht : TG P T.objs f t) : zZ P (T.plusF f t) := by
 refine ⟨h.own, h.pu, fun g xs ps ty sz len els e hp => ?_, h.frm⟩
 simp only [Tb.plusF] at e
 cases hb : Nat.beq g f with
 | true =>
  rw [hb] at e
  obtain rfl := Nat.eq_of_beq_eq_true hb
  exact ht _ _ _ _ _ _ e hp
 | false => rw [hb] at e; exact h.fre _ _ _ _ _ _ _ e hp
def kp (P : Program) (rs : List ResultVar) (t : TypeId) (sz len : Nat) (els : Nat → Nat → AV) (σ : zo) : Prop :=
 match SB P σ rs with
 | some [.ns k 0 n] =>
  match σ.bl k with
  | .arr t' sz' L els' => t' = t ∧ sz' = sz ∧ n = len ∧ ∀ i j, i < len → j < sz → zB (els' i j) (els i j)
  | _ => False
 | some [.v (.slice none 0 0)] => len = 0
 | some [.xl _ _ n _] => n = 0 ∧ len = 0 ∧ False
 | _ => False
@[irreducible] def RO (P : Program) (T : Tb) (f : FuncId) (an : Z9) (args : List AV) (t : TypeId) (sz len : Nat) (els : Nat → Nat → AV) : Prop :=
 match P.funcs[f]? with
 | some fn =>
  match fn.body with
  | some c =>
   match Nat.ble args.length fn.ntmps && !(fn.name == "runtime.NumGoroutine") with
   | true => ZY args → iA P 6 c an (T.cx 0) (entry fn.ntmps args) (kp P fn.results.toList t sz len els) (fun _ _ => False) (kp P fn.results.toList t sz len els)
   | false => False
  | none => False
 | none => False
theorem Sw {fn : Func} {w0 : World} {S : Nat → Prop} {σ : zo} {a : Act} {w : World} {t : TypeId} {sz len : Nat} {els : Nat → Nat → AV} {n : Nat} (h : kp P fn.results.toList t sz len els σ) (hst : St { w0 := w0, X := fun _ => False, S0 := S, G := T.cx 0, r0 := yi } σ a w) :
  LeavesInM (FW none) n P fn a.tmps (fun e w' => IC w0 w' ∧ ∃ rv, e = .returned rv ∧ l9 S w0 w' t sz len els rv) a.defers .returning w := by
 obtain ⟨S1, ρ1, hM, hF, hD⟩ := hst
 refine xA a.defers w S1 hD fun w' hs => ?_
 obtain ⟨S2, hM2, hsub, hkeep⟩ := UA hM hD hs
 have hF2 : Yq w' S2 ρ1 σ.n σ.tm { tmps := a.tmps, defers := [] } := ⟨hF.1, fun t ht => (hF.2 t ht).mono' hkeep⟩
 have hbelow : IC w0 w' := ⟨⟨hM2.fr.os, hM2.fr.tape, hM2.fr.output, hM2.fr.size, fun k hk => hM2.fr.block k hk fun hx => hx.elim⟩, hM2.fr.drawn⟩
 unfold kp at h
 split at h
 ·rename_i k n' hxs
  obtain ⟨g, hrun, hrel⟩ := wn hM2 hF2 _ _ hxs
  cases hb : σ.bl k with
  | arr t' sz' L els' =>
   rw [hb] at h
   obtain ⟨rfl, rfl, rfl, h4⟩ := h
   have hr := Vo hrel
   have hbk := hM2.at k
   refine ⟨_, xK hrun, hbelow, _, rfl, ?_⟩
   obtain ⟨pv, hpv⟩ : ∃ pv, mz (fn.results.toList.map g) = pv := ⟨_, rfl⟩
   rw [hpv] at hr ⊢
   cases hr with
   | ns g' base cap sz2 L' hk hl hc =>
    have hbk := hbk.resolve_left (by rw [hk]; simp)
    have hb0 := hM2.b0 _ _ _ _ _ _ hk
    subst hb0
    rw [hb, hk] at hbk
    obtain ⟨e1, e2, h1, h2, c, h3, h5, h6⟩ := hbk
    subst e1; subst e2
    obtain ⟨hno, hnew⟩ := hM2.own k g' (by rw [hk]; rfl)
    refine .inr ⟨g', cap, c, by simp, ?_, h3, by omega, h2, by simpa using h5, fun i j hi hj => ?_⟩
    ·simp_all
    ·have := h6 i j (by omega) hj
     rw [Nat.zero_add] at this
     refine ⟨wy (this.1.mono (fun b hb => ⟨?_, rfl⟩) (zf.refl _)) (h4 i j hi hj), this.2⟩
     rcases hM2.sub b hb with q | q | q
     ·simp_all
     ·exact q.elim
     ·exact .inr ⟨q, hM2.sb b hb, fun e => hno (e ▸ hb)⟩
   | ns0 g' base cap sz2 L' A hk hl hc h0 => exact .inl ⟨rfl, _, rfl⟩
   | nsn sz2 o hk => exact .inl ⟨rfl, _, rfl⟩
   | dns hd hsh =>
    have hbk := hbk.resolve_left (by rw [hd]; simp)
    rw [hb, hd] at hbk
    exact hbk.elim
  | _ => rw [hb] at h; exact h.elim
 ·rename_i hxs
  obtain ⟨g, hrun, hrel⟩ := wn hM2 hF2 _ _ hxs
  have hr := Vo hrel
  refine ⟨_, xK hrun, hbelow, _, rfl, .inl ⟨h, none, ?_⟩⟩
  exact ZW hr
 all_goals simp_all
theorem qv {f : FuncId} {an : Z9} {args : List AV} {t : TypeId} {sz len : Nat} {els : Nat → Nat → AV} (hm : P.follows .mixedOrders = true) (hT : zZ P T) (h : RO P T f an args t sz len els) : yX P T.objs f args t sz len els := by
 unfold RO at h
 split at h
 ·rename_i fn hf
  split at h
  ·rename_i c hb
   split at h
   ·rename_i hc
    simp only [Bool.and_eq_true, Bool.not_eq_true'] at hc
    refine ⟨Go.Proofs.enters_of hf hc.2 hb, fun w S vals hS hG hr => ?_⟩
    refine X5.1 (callsIn_of_wp_marks (F := FW none) (n := 0) hf hb trivial ?_)
    exact Wc hm 6 c an { w0 := w, X := fun _ => False, S0 := S, G := T.cx 0, r0 := yi } _ _ _ _ _ _ _ none 0 (hT.cx 0) ⟨fun b hb => ⟨hS b hb, fun h => h⟩, fun _ _ => rfl, fun p T h => (by cases h)⟩ rfl (h hr.bnd) (R8 hS hG hr (Nat.le_of_ble_eq_true hc.1)) (fun σ a w hk hst => Sw hk hst) (fun i σ a w hk _ => hk.elim) fun σ a w hk hst => Sw hk hst
   simp_all
  simp_all
 simp_all
end
end Go.Sx

namespace Go.Sx
open Go Go.RowKit
section
variable {P : Program} {G : Cx}
def pC (P : Program) (rs : List ResultVar) (k : Nat → (Nat → OB) → AV → Prop) (σ : zo) : Prop :=
 match SB P σ rs with
 | some xs => k σ.nb σ.bl (uW xs)
 | none => False
def NO (P : Program) (T : Tb) (f : FuncId) (an : Z9) (nb : Nat) (bl : Nat → OB) (xs : List AV) (k : Nat → (Nat → OB) → AV → Prop) : Prop :=
 match P.funcs[f]? with
 | some fn =>
  match fn.body with
  | some c =>
   match Nat.ble xs.length fn.ntmps && !(fn.name == "runtime.NumGoroutine") with
   | true => iA P 6 c an (T.cx nb) { n := fn.ntmps, tm := zt xs, nb := nb, bl := bl } (pC P fn.results.toList k) (fun _ _ => False) (pC P fn.results.toList k)
   | false => False
  | none => False
 | none => False
theorem sB {rs : List ResultVar} {k k' : Nat → (Nat → OB) → AV → Prop} (h : ∀ nb bl x, k nb bl x → k' nb bl x) (σ : zo) (hv : pC P rs k σ) : pC P rs k' σ := by
 unfold pC at hv ⊢
 grind
end
section
variable {P : Program} {T : Tb}
theorem O3 (hT : zZ P T) {f : FuncId} {an : Z9} {nb : Nat} {bl : Nat → OB} {xs : List AV} {k k' : Nat → (Nat → OB) → AV → Prop}
  (h : ∀ nb bl x, k nb bl x → k' nb bl x) (hv : NO P T f an nb bl xs k) : NO P T f an nb bl xs k' := by
 unfold NO at hv ⊢
 split at hv
 ·split at hv
  ·split at hv
   ·exact VH 6 _ _ _ _ _ _ _ _ _ _ (hT.cx nb) (sB h) (fun _ _ h => h) (sB h) hv
   omega
  omega
 omega
theorem tP {E : Env} {nb : Nat} {bl : Nat → OB} {S : Nat → Prop} {ρ : Nat → Own} {w : World} {k : Nat → (Nat → OB) → AV → Prop} {fn : Func} {σ : zo} {a : Act} {w1 : World} {n : Nat} (hM : Mem E nb bl S ρ w)
  (h : pC P fn.results.toList k σ) (hst : St (oY w S ρ (T.cx nb)) σ a w1) :
  LeavesInM (FW none) n P fn a.tmps (K4 E S ρ w k) a.defers .returning w1 := by
 refine UC hM rfl hst fun w2 S2 ρ2 m1 m2 m3 _ m5 => ?_
 unfold pC at h
 split at h
 ·rename_i xs hxs
  obtain ⟨g, hrun, hrel⟩ := wn m1 m5 _ _ hxs
  exact ⟨_, xK hrun, _, _, S2, ρ2, _, _, rfl, h, m1, m2, m3, Vo hrel⟩
 simp_all
theorem nC (hm : P.follows .mixedOrders = true) (hT : zZ P T) {f : FuncId} {an : Z9} {fn : Func} {c : Code} (hf : P.funcs[f]? = some fn) (hb : fn.body = some c)
  (hn : (fn.name == "runtime.NumGoroutine") = false) : TY P T.objs f (NO P T f an) := by
 refine ⟨Go.Proofs.enters_of hf hn hb, fun nb bl xs k k' h hv => O3 hT h hv, fun E nb bl S ρ w xs vs k hEG hM hx hv => ?_⟩
 unfold NO at hv
 rw [hf] at hv
 simp only [hb] at hv
 split at hv
 ·rename_i hc
  simp only [Bool.and_eq_true] at hc
  have hlen : xs.length ≤ fn.ntmps := Nat.le_of_ble_eq_true hc.1
  obtain ⟨hl, hget⟩ := hx.get
  refine X5.1 (callsIn_of_wp_marks (F := FW none) (n := 0) hf hb trivial ?_)
  exact Wc hm 6 c an (oY w S ρ (T.cx nb)) _ _ _ _ _ _ _ none 0 (hT.cx nb) ⟨hM.inner_base, hM.hi, fun p T h => (by cases h)⟩ rfl hv
   ⟨S, ρ, hM.inner hEG.symm rfl, Ox hx hlen, ⟨List.Pairwise.nil, fun d hd => (by cases hd)⟩⟩ (fun σ a w1 hk hst => tP hM hk hst)
   (fun i σ a w hk _ => hk.elim) fun σ a w1 hk hst => tP hM hk hst
 simp_all
def tt (P : Program) (T : Tb) (f : FuncId) (an : Z9) : Option (Nat → (Nat → OB) → List AV → (Nat → (Nat → OB) → AV → Prop) → Prop) :=
 match P.funcs[f]? with
 | some fn =>
  match fn.body with
  | some _ => (match fn.name == "runtime.NumGoroutine" with | true => none | false => some (NO P T f an))
  | none => none
 | none => none
theorem wF (hm : P.follows .mixedOrders = true) (hT : zZ P T) {f : FuncId} {an : Z9} {t : Nat → (Nat → OB) → List AV → (Nat → (Nat → OB) → AV → Prop) → Prop} (h : tt P T f an = some t) : TY P T.objs f t := by
 unfold tt at h
 split at h
 ·rename_i fn hf
  split at h
  ·rename_i c hb
   split at h
   ·cases h
   ·rename_i hn
    cases h
    exact nC hm hT hf hb hn
  ·cases h
 ·cases h
def EN : List (FuncId × Z9) → FuncId → Option Z9
 | [], _ => none
 | (g, a) :: l, f => bif Nat.beq g f then some a else EN l f
def Tb.body (P : Program) (T : Tb) (l : List (FuncId × Z9)) : Tb := { T with own := fun f => match EN l f with | some an => tt P T f an | none => T.own f, frm := fun _ => false }
theorem zZ.body (hm : P.follows .mixedOrders = true) (hT : zZ P T) (l : List (FuncId × Z9)) : zZ P (T.body P l) := by
 refine ⟨fun f t h => ?_, hT.pu, hT.fre, fun f t h => (by cases h)⟩
 simp only [Tb.body] at h
 split at h
 ·exact wF hm hT h
 ·exact hT.own _ _ h
def Tb.deep (P : Program) (T : Tb) : Nat → Tb
 | 0 => { T with conc := true }
 | n + 1 => { T with own := fun f => tt P (Tb.deep P T n) f .auto, conc := true, frm := fun _ => false }
theorem Nz (P : Program) (T : Tb) : ∀ n, (T.deep P n).objs = T.objs
 | 0 => rfl
 | _ + 1 => rfl
theorem zZ.deep (hm : P.follows .mixedOrders = true) (hT : zZ P T) : ∀ n, zZ P (T.deep P n)
 | 0 => ⟨hT.own, hT.pu, hT.fre, hT.frm⟩
 | n + 1 => ⟨fun f t h => by
   have := wF hm (zZ.deep hm hT n) h
   rw [Nz] at this
   exact this, hT.pu, hT.fre, fun f t h => (by cases h)⟩
end
end Go.Sx

namespace Go.Sx
open Go Go.RowKit
theorem ZE {p : Prop} [DB p] {A : Prop} : zY (DB.db p) A False ↔ p ∧ A := by
 rw [zv]
 constructor
 ·rintro ⟨h1, h2⟩
  have : DB.db p = true := by cases h : DB.db p with
   | true => rfl
   | false => exact (h2 h).elim
  exact ⟨DB.iff.1 this, h1 this⟩
 ·rintro ⟨hp, ha⟩
  exact ⟨fun _ => ha, fun h => by rw [DB.iff.2 hp] at h; cases h⟩
theorem gK {a b : Int} {A B : Prop} : zY (zH a b) A B ↔ (a < b → A) ∧ (b ≤ a → B) := by
 rw [zv, Lh, decide_eq_true_eq, decide_eq_false_iff_not, Int.not_lt]
theorem GA {a b : Int} {A B : Prop} : zY (leB a b) A B ↔ (a ≤ b → A) ∧ (b < a → B) := by
 rw [zv, lE, decide_eq_true_eq, decide_eq_false_iff_not, Int.not_le]
theorem fZ {a b : Int} {A B : Prop} : zY (a != b) A B ↔ (a ≠ b → A) ∧ (a = b → B) := by
 rw [zv, bne_iff_ne, bne_eq_false_iff_eq]
theorem H7 {a b : Int} {A B : Prop} : zY (a == b) A B ↔ (a = b → A) ∧ (a ≠ b → B) := by
 rw [zv, beq_iff_eq, beq_eq_false_iff_ne]
theorem KL {x y : Bool} {A : Prop} : zY (!x || y) A False ↔ (x = true → y = true) ∧ A := by cases x <;> cases y <;> simp [zY]
theorem I3 (a b : Bool) : (bif a then true else b) = (a || b) := by cases a <;> rfl
theorem jf (a b : Bool) : (bif a then b else false) = (a && b) := by cases a <;> rfl
theorem ZR {x : Bool} {p : Prop} [DB p] {A : Prop} : zY (!x || DB.db p) A False ↔ (x = true → p) ∧ A := by
 rw [KL, DB.iff]
theorem Ic {x : Bool} {A : Prop} : zY (!x || x) A False ↔ A := by cases x <;> simp [zY]
theorem Nq (x : Bool) : zS true x = x := rfl
theorem P7 (x : Bool) : zS false x = !x := rfl
end Go.Sx

namespace Go.Sx
open Go Go.RowKit
def nu : List AV → List AV → Prop
 | [], [] => True
 | x :: xs, y :: ys => zB x y ∧ nu xs ys
 | _, _ => False
theorem UD {w : World} {S : Nat → Prop} {ρ : Nat → Own} : ∀ {xs ys : List AV} {vs : List Value}, nu xs ys → ZI w S ρ xs vs → ZI w S ρ ys vs
 | [], [], [], _, _ => trivial
 | _ :: _, _ :: _, _ :: _, h, hr => ⟨wy hr.1 h.1, UD h.2 hr.2⟩
 | [], [], _ :: _, _, hr => hr.elim
 | _ :: _, _ :: _, [], _, hr => hr.elim
 | [], _ :: _, _, h, _ => h.elim
 | _ :: _, [], _, h, _ => h.elim
theorem weaken {P : Program} {G : List (Nat × Obj)} {f : FuncId} {xs ys : List AV} {r : AV} (h : nu xs ys) (hp : zT P G f ys r) : zT P G f xs r :=
 ⟨hp.1, fun w S vals hS hG hr => hp.2 w S vals hS hG (UD h hr)⟩
theorem jJ {P : Program} {G : List (Nat × Obj)} {f : FuncId} {xs ys : List AV} {t : TypeId} {sz len : Nat} {els : Nat → Nat → AV} (h : nu xs ys) (hp : yX P G f ys t sz len els) : yX P G f xs t sz len els :=
 ⟨hp.1, fun w S vals hS hG hr => hp.2 w S vals hS hG (UD h hr)⟩
def AV.int : AV → Int
 | .v (.int _ n) => n
 | _ => 0
def AV.bool : AV → Bool
 | .v (.bool t) => t
 | _ => false
def AV.bytes : AV → List UInt8
 | .str l => l
 | _ => []
def Yz : AV → Bool
 | .v (.int .i64 _) => true
 | _ => false
def isBool : AV → Bool
 | .v (.bool _) => true
 | _ => false
def ZV : AV → Bool
 | .str _ => true
 | _ => false
theorem TU {x : AV} (h : Yz x = true) : x = .i (AV.int x) := by
 unfold Yz at h
 split at h
 ·rfl
 ·cases h
theorem sn {x : AV} (h : isBool x = true) : x = .b (AV.bool x) := by
 unfold isBool at h
 split at h
 ·rfl
 ·cases h
theorem Wn {x : AV} (h : ZV x = true) : x = .str (AV.bytes x) := by
 unfold ZV at h
 split at h
 ·rfl
 ·cases h
class zi (α : Type) where
 n : Nat
 dflt : α
 enc : α → Nat → AV
 dec : (Nat → AV) → α
 ok : (Nat → AV) → Bool
 sound : ∀ cs, ok cs = true → ∀ j, j < n → zB (cs j) (enc (dec cs) j)
def ZF {α : Type} [zi α] (l : List α) : AV := .xl false (zi.n α) l.length fun i j => zi.enc (l.getD i zi.dflt) j
def So {α : Type} [zi α] : AV → List α
 | .xl _ _ len els => (List.range len).map fun i => zi.dec (els i)
 | _ => []
def Zy (α : Type) [zi α] : AV → Bool
 | .xl _ sz len els => Nat.beq sz (zi.n α) && xm (fun i => zi.ok (α := α) (els i)) len
 | .v (.slice none 0 0) => true
 | _ => false
theorem za {α : Type} [zi α] {x : AV} (h : Zy α x = true) : zB x (ZF (So (α := α) x)) := by
 unfold Zy at h
 split at h
 ·rename_i f sz len els
  rw [Bool.and_eq_true] at h
  obtain rfl := Nat.eq_of_beq_eq_true h.1
  unfold ZF
  refine ⟨(fun h => by cases h), rfl, by simp [So], fun i j hi hj => ?_⟩
  have : ((So (α := α) (.xl f (zi.n α) len els)).getD i zi.dflt) = zi.dec (els i) := by
   simp [So, List.getD_eq_getElem?_getD, hi]
  show zB (els i j) (zi.enc ((So (α := α) (.xl f (zi.n α) len els)).getD i zi.dflt) j)
  rw [this]
  exact zi.sound _ (ZK h.2 i hi) j hj
 ·exact ⟨rfl, rfl⟩
 ·cases h
instance : zi Int := ⟨1, 0, fun a _ => .i a, fun cs => AV.int (cs 0), fun cs => Yz (cs 0), fun cs h j hj => by
 obtain rfl : j = 0 := by omega
 exact ZA (TU h)⟩
instance : zi Bool := ⟨1, false, fun a _ => .b a, fun cs => AV.bool (cs 0), fun cs => isBool (cs 0), fun cs h j hj => by
 obtain rfl : j = 0 := by omega
 exact ZA (sn h)⟩
instance : zi (List UInt8) := ⟨1, [], fun a _ => .str a, fun cs => AV.bytes (cs 0), fun cs => ZV (cs 0), fun cs h j hj => by
 obtain rfl : j = 0 := by omega
 exact ZA (Wn h)⟩
def yw {α : Type} [zi α] (a : α) : AV := .agg (zi.n α) (zi.enc a)
def Zi {α : Type} [zi α] : AV → α
 | .agg _ cs => zi.dec cs
 | _ => zi.dflt
def yZ (α : Type) [zi α] : AV → Bool
 | .agg n cs => Nat.beq n (zi.n α) && zi.ok (α := α) cs
 | _ => false
theorem zc {α : Type} [zi α] {x : AV} (h : yZ α x = true) : zB x (yw (Zi (α := α) x)) := by
 unfold yZ at h
 split at h
 ·rename_i n cs
  rw [Bool.and_eq_true] at h
  obtain rfl := Nat.eq_of_beq_eq_true h.1
  exact ⟨rfl, UL fun i hi => zi.sound _ h.2 i hi⟩
 ·cases h
structure Wk (xs ys : List AV) : Prop where
 h : nu xs ys
theorem Wk.refl : ∀ (xs : List AV), Wk xs xs
 | [] => ⟨trivial⟩
 | x :: xs => ⟨zr x, (Wk.refl xs).h⟩
abbrev wP (α : Type) : Option α := none
def yd : AV → Nat
 | .ns q _ _ => q
 | _ => 0
def rH {α : Type} (n : Nat) (f : Nat → α) : List α := (List.range n).map f
theorem QW {α : Type} (l : List α) (d : α) : rH l.length (fun i => l.getD i d) = l := by
 apply List.ext_getElem
 ·simp [rH]
 ·intro i h1 h2
  simp [rH, List.getD_eq_getElem?_getD, h2]
def gR (ys : List AV) (r : AV) : List AV → Option (List zn × AV) := fun xs => some ([.p (Wk xs ys)], r)
end Go.Sx

namespace Go.Sx
open Go Go.RowKit
section
variable {P : Program} {E : Env} {nb : Nat} {bl : Nat → OB} {S : Nat → Prop} {ρ : Nat → Own} {w : World}
def pick (ρ : Nat → Own) (idx : List Nat) : Nat → Own := fun i =>
 match idx[i]? with
 | some j => ρ j
 | none => .none
def wQ (idx : List Nat) (nb : Nat) : Nat → Nat := fun i =>
 match idx[i]? with
 | some j => j
 | none => nb + (i - idx.length)
def unpick (ρ : Nat → Own) (idx : List Nat) (nb : Nat) (ρ' : Nat → Own) : Nat → Own := fun j =>
 if j < nb then (match idx.idxOf? j with | some i => ρ' i | none => ρ j) else ρ' (idx.length + (j - nb))
def wo (bl : Nat → OB) (idx : List Nat) (nb : Nat) (bl' : Nat → OB) : Nat → OB := fun j =>
 if j < nb then (match idx.idxOf? j with | some i => (bl' i).ren (wQ idx nb) | none => bl j) else (bl' (idx.length + (j - nb))).ren (wQ idx nb)
theorem WA {idx : List Nat} {i j : Nat} (h : idx[i]? = some j) : pick ρ idx i = ρ j := by unfold pick; rw [h]
theorem nO {idx : List Nat} {i : Nat} (h : idx.length ≤ i) : pick ρ idx i = .none := by unfold pick; rw [List.getElem?_eq_none h]
theorem vC {idx : List Nat} {i j : Nat} (h : idx.idxOf? j = some i) : idx[i]? = some j := by
 obtain ⟨h1, h2, _⟩ := List.idxOf?_eq_some_iff.1 h
 simp_all
theorem ue {idx : List Nat} (hnd : idx.Nodup) {i j : Nat} (h : idx[i]? = some j) : idx.idxOf? j = some i := by
 obtain ⟨h1, h2⟩ := List.getElem?_eq_some_iff.1 h
 refine List.idxOf?_eq_some_iff.2 ⟨h1, h2, fun i' hi' e => ?_⟩
 have := List.pairwise_iff_getElem.1 hnd i' i (by omega) h1 hi'
 omega
theorem Mem.pick (hM : Mem E nb bl S ρ w) {idx : List Nat} (hnd : idx.Nodup) (hlt : ∀ j ∈ idx, j < nb) {G : Cx} (hG : G.objs = E.G.objs) (hnb : G.nb0 = idx.length) {bi : Nat → OB}
  (hok : ∀ i, i < idx.length → TF w S (pick ρ idx) (bi i) (pick ρ idx i)) : Mem (oY w S (pick ρ idx) G) idx.length bi S (pick ρ idx) w := by
 have blk : ∀ {i g}, (Sx.pick ρ idx i).has g → ∃ j, idx[i]? = some j ∧ (ρ j).has g := fun {i g} e => by
  cases h : idx[i]? with
  | none => rw [Sx.pick, h] at e; exact e.elim
  | some j => rw [WA h] at e; exact ⟨j, rfl, e⟩
 refine ⟨Fr.refl _ _, hM.sb, fun _ h => h, fun _ h => .inl h, fun b o hbo => hM.glob b o (by rw [← hG]; exact hbo), fun k hk => nO hk, hok, fun j g e => ?_, fun i i' g e e' => ?_, fun k g base cap sz L e => ?_, Nat.le_of_eq hnb, fun _ _ => .inl (rfl)⟩
 ·obtain ⟨j', h1, h2⟩ := blk e
  exact ⟨(hM.own j' g h2).1, .inr ⟨j, e⟩⟩
 ·obtain ⟨j, h1, h2⟩ := blk e
  obtain ⟨j', h1', h2'⟩ := blk e'
  obtain rfl := hM.dis j j' g h2 h2'
  have a := ue hnd h1
  have b := ue hnd h1'
  simp_all
 ·cases h : idx[k]? with
  | none => rw [Sx.pick, h] at e; cases e
  | some j => rw [WA h] at e; exact hM.b0 _ _ _ _ _ _ e
theorem Mem.unpick (hM : Mem E nb bl S ρ w) {idx : List Nat} (hnd : idx.Nodup) (hlt : ∀ j ∈ idx, j < nb) {G : Cx} (hnb : G.nb0 = idx.length) {nb' : Nat} {bl' : Nat → OB} {S' : Nat → Prop} {ρ' : Nat → Own} {w' : World}
  (h : Mem (oY w S (Sx.pick ρ idx) G) nb' bl' S' ρ' w') :
  Mem E (nb + (nb' - idx.length)) (wo bl idx nb bl') S' (Sx.unpick ρ idx nb ρ') w' ∧ (∀ b, S b → S' b ∧ w'.heap[b]? = w.heap[b]?) ∧ zf ρ (Sx.unpick ρ idx nb ρ') ∧
   ∀ k, Sx.unpick ρ idx nb ρ' (wQ idx nb k) = ρ' k ∨ ρ' k = .none := by
 have hnb' : idx.length ≤ nb' := by have := h.nbz; change G.nb0 ≤ nb' at this; omega
 have hX : ∀ {g}, (∃ k, (Sx.pick ρ idx k).has g) → ∃ j, j ∈ idx ∧ (ρ j).has g := fun {g} ⟨i, e⟩ => by
  cases hi : idx[i]? with
  | none => rw [Sx.pick, hi] at e; exact e.elim
  | some j => rw [WA hi] at e; exact ⟨j, List.mem_of_getElem? hi, e⟩
 have hsame : ∀ b, S b → S' b ∧ w'.heap[b]? = w.heap[b]? := fun b hb => ⟨h.sup b hb, h.fr.block b (hM.sb b hb) fun hx => by
  obtain ⟨j, _, e⟩ := hX hx
  exact (hM.own j b e).1 hb⟩
 have in_ : ∀ {j i}, idx.idxOf? j = some i → j < nb → Sx.unpick ρ idx nb ρ' j = ρ' i := fun {j i} e hj => by
  unfold Sx.unpick; rw [if_pos hj, e]
 have out_ : ∀ {j}, idx.idxOf? j = none → j < nb → Sx.unpick ρ idx nb ρ' j = ρ j := fun {j} e hj => by
  unfold Sx.unpick; rw [if_pos hj, e]
 have new_ : ∀ {j}, nb ≤ j → Sx.unpick ρ idx nb ρ' j = ρ' (idx.length + (j - nb)) := fun {j} hj => by
  unfold Sx.unpick; rw [if_neg (Nat.not_lt.2 hj)]
 have hole : ∀ i j, idx[i]? = some j → ρ j = ρ' i ∨ ρ' i = .dead := fun i j e => by
  have hi : i < idx.length := (List.getElem?_eq_some_iff.1 e).1
  rcases h.ole i (show i < G.nb0 by omega) with e' | e'
  ·change Sx.pick ρ idx i = _ at e'
   rw [WA e] at e'
   exact .inl e'
  simp_all
 have hren : ∀ k, Sx.unpick ρ idx nb ρ' (wQ idx nb k) = ρ' k ∨ ρ' k = .none := fun k => by
  cases hk : idx[k]? with
  | some j =>
   have : wQ idx nb k = j := by unfold wQ; rw [hk]
   rw [this]
   exact .inl (in_ (ue hnd hk) (hlt j (List.mem_of_getElem? hk)))
  | none =>
   have hge : idx.length ≤ k := List.getElem?_eq_none_iff.1 hk
   have : wQ idx nb k = nb + (k - idx.length) := by unfold wQ; rw [hk]
   simp_all
 have hle : zf ρ (Sx.unpick ρ idx nb ρ') := fun j => by
  by_cases hj : j < nb
  ·cases e : idx.idxOf? j with
   | some i =>
    rw [in_ e hj]
    rcases hole i j (vC e) with e' | e'
    all_goals simp_all
   | none => simp_all
  ·exact .inr (.inr (hM.hi j (Nat.not_lt.1 hj)))
 -- the blocks that the callee was not given
 have keep : ∀ {j g}, idx.idxOf? j = none → (ρ j).has g → ¬ S' g ∧ w'.heap[g]? = w.heap[g]? ∧ ∀ i, ¬ (ρ' i).has g := fun {j g} e hg => by
  have hg' := hM.blk_lt hg
  have hx : ¬ ∃ k, (Sx.pick ρ idx k).has g := fun hx => by
   obtain ⟨j', h1, h2⟩ := hX hx
   obtain rfl := hM.dis j j' g hg h2
   simp_all
  refine ⟨fun hs => ?_, h.fr.block g hg' hx, fun i hi => ?_⟩
  ·rcases h.sub g hs with h1 | h1 | h1
   ·exact (hM.own j g hg).1 h1
   ·exact hx h1
   ·exact absurd hg' (Nat.not_lt.2 h1)
  ·rcases (h.own i g hi).2 with h1 | h1
   ·exact absurd hg' (Nat.not_lt.2 h1)
   ·exact hx h1
 -- what each block is
 have what : ∀ j, j < nb + (nb' - idx.length) → (∃ i, i < nb' ∧ Sx.unpick ρ idx nb ρ' j = ρ' i ∧ wo bl idx nb bl' j = (bl' i).ren (wQ idx nb) ∧ (∀ j', Sx.unpick ρ idx nb ρ' j' = ρ' i → True) ∧ wQ idx nb i = j) ∨
   (j < nb ∧ idx.idxOf? j = none ∧ Sx.unpick ρ idx nb ρ' j = ρ j ∧ wo bl idx nb bl' j = bl j) := fun j hj => by
  by_cases hlt' : j < nb
  ·cases e : idx.idxOf? j with
   | some i =>
    have hi := vC e
    have hil : i < idx.length := (List.getElem?_eq_some_iff.1 hi).1
    exact .inl ⟨i, by omega, in_ e hlt', by unfold wo; rw [if_pos hlt', e], fun _ _ => trivial, by unfold wQ; rw [hi]⟩
   | none => exact .inr ⟨hlt', rfl, out_ e hlt', by unfold wo; rw [if_pos hlt', e]⟩
  ·refine .inl ⟨idx.length + (j - nb), by omega, new_ (by omega), by unfold wo; rw [if_neg hlt'], fun _ _ => trivial, ?_⟩
   unfold wQ
   simp_all
 have hhi : ∀ j, nb + (nb' - idx.length) ≤ j → Sx.unpick ρ idx nb ρ' j = .none := fun j hj => by
  rw [new_ (by omega)]
  exact h.hi _ (by omega)
 refine ⟨⟨?_, h.sb, fun b hb => (hsame b (hM.sup b hb)).1, fun b hb => ?_, fun b o hbo => ?_, hhi, fun j hj => ?_, fun j g e => ?_, fun j j' g e e' => ?_, fun j g base cap sz L e => ?_, Nat.le_trans hM.nbz (Nat.le_add_right _ _), fun j hj => ?_⟩, hsame, hle, hren⟩
 ·refine hM.fr.trans (fun j hj hx => h.fr.block j (Nat.lt_of_lt_of_le hj hM.fr.size) fun hx' => ?_) h.fr.os h.fr.tape h.fr.output h.fr.size h.fr.drawn
  obtain ⟨k, _, hk⟩ := hX hx'
  rcases (hM.own k j hk).2 with h1 | h1
  all_goals grind
 ·rcases h.sub b hb with h1 | h1 | h1
  ·exact hM.sub b h1
  ·obtain ⟨k, _, hk⟩ := hX h1
   exact (hM.own k b hk).2.elim (fun h => .inr (.inr h)) fun h => .inr (.inl h)
  ·exact .inr (.inr (Nat.le_trans hM.fr.size h1))
 ·obtain ⟨h1, h2⟩ := hM.glob b o hbo
  simp_all
 ·rcases what j hj with ⟨i, hi, e1, e2, _, _⟩ | ⟨hj', e0, e1, e2⟩
  ·rw [e1, e2]
   exact (h.ok i hi).ren hren
  ·rw [e1, e2]
   exact (hM.ok j hj').mono hsame hle fun g hg => (keep e0 hg).2.1
 ·by_cases hj : j < nb + (nb' - idx.length)
  ·rcases what j hj with ⟨i, hi, e1, _, _, _⟩ | ⟨hj', e0, e1, _⟩
   ·rw [e1] at e
    obtain ⟨h1, h2⟩ := h.own i g e
    refine ⟨h1, ?_⟩
    rcases h2 with h2 | h2
    ·exact .inl (Nat.le_trans hM.fr.size h2)
    ·obtain ⟨k, _, hk⟩ := hX h2
     exact (hM.own k g hk).2
   ·rw [e1] at e
    exact ⟨(keep e0 e).1, (hM.own j g e).2⟩
  ·rw [hhi j (Nat.not_lt.1 hj)] at e; exact e.elim
 ·have lt : ∀ {j}, (Sx.unpick ρ idx nb ρ' j).has g → j < nb + (nb' - idx.length) := fun {j} e => by
   by_cases hj : j < nb + (nb' - idx.length)
   ·exact hj
   ·rw [hhi j (Nat.not_lt.1 hj)] at e; exact e.elim
  rcases what j (lt e) with ⟨i, hi, e1, _, _, r1⟩ | ⟨hj, e0, e1, _⟩ <;> rcases what j' (lt e') with ⟨i', hi', e1', _, _, r1'⟩ | ⟨hj', e0', e1', _⟩
  ·rw [e1] at e
   rw [e1'] at e'
   rw [← r1, ← r1', h.dis i i' g e e']
  ·grind
  ·grind
  ·rw [e1] at e
   rw [e1'] at e'
   exact hM.dis j j' g e e'
 ·by_cases hj : j < nb + (nb' - idx.length)
  ·rcases what j hj with ⟨i, hi, e1, _, _, _⟩ | ⟨hj', e0, e1, _⟩
   ·rw [e1] at e; exact h.b0 _ _ _ _ _ _ e
   ·rw [e1] at e; exact hM.b0 _ _ _ _ _ _ e
  simp_all
 ·have hjn : j < nb := Nat.lt_of_lt_of_le hj hM.nbz
  rcases hle j with e | e | e
  ·exact (hM.ole j hj).elim (fun q => .inl (q.trans e)) fun q => .inr (e ▸ q)
  ·exact .inr e
  ·rcases hM.ole j hj with e' | e'
   ·cases ex : idx.idxOf? j with
    | some i =>
     rw [in_ ex hjn]
     rcases hole i j (vC ex) with q | q
     all_goals simp_all
    | none => simp_all
   simp_all
theorem TY.frame {objs : List (Nat × Obj)} {f : FuncId} {T : Nat → (Nat → OB) → List AV → (Nat → (Nat → OB) → AV → Prop) → Prop} (hT : TY P objs f T) (hEG : E.G.objs = objs) (hM : Mem E nb bl S ρ w)
  {idx : List Nat} (hnd : idx.Nodup) (hlt : ∀ j ∈ idx, j < nb) {bi : Nat → OB} (hok : ∀ i, i < idx.length → TF w S (pick ρ idx) (bi i) (pick ρ idx i))
  {xs : List AV} {vs : List Value} {k : Nat → (Nat → OB) → AV → Prop} (hx : ZI w S (pick ρ idx) xs vs) (h : T idx.length bi xs k) :
  Calls P f vs.toArray w fun e w' => ∃ nb' bl' S' ρ' x rv, e = .returned rv ∧ k nb' bl' x ∧ idx.length ≤ nb' ∧ Mem E (nb + (nb' - idx.length)) (wo bl idx nb bl') S' ρ' w' ∧ (∀ b, S b → S' b ∧ w'.heap[b]? = w.heap[b]?) ∧ zf ρ ρ' ∧
   zF w' S' ρ' (x.ren (wQ idx nb)) rv := by
 refine (hT.sound (oY w S (pick ρ idx) { E.G with nb0 := idx.length }) idx.length bi S (pick ρ idx) w xs vs k hEG (hM.pick (G := { E.G with nb0 := idx.length }) hnd hlt rfl rfl hok) hx h).mono ?_
 rintro e w' ⟨nb', bl', S', ρ', x, rv, he, hk, hM', hS, _, hr⟩
 obtain ⟨a, b, c, d⟩ := hM.unpick hnd hlt rfl hM'
 exact ⟨nb', bl', S', _, x, rv, he, hk, hM'.nbz, a, b, c, hr.ren d⟩
end
end Go.Sx

namespace Go.Sx
open Go Go.RowKit
section
variable {P : Program} {E : Env} {nb : Nat} {bl : Nat → OB} {S : Nat → Prop} {ρ : Nat → Own} {w : World}
end
end Go.Sx
