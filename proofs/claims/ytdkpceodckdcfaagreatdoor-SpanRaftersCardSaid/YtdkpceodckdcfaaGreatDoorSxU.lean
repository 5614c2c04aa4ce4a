/- Contracts from verification conditions. -/
import Derived.Test.YtdkpceodckdcfaaGreatDoorSxX
import Derived.Shelf.Abstract
set_option linter.unusedSimpArgs false
set_option linter.unusedVariables false
namespace Go.Sx
open Go Go.RowKit
def entry (n : Nat) (args : List AV) : Sig := { n := n, tm := listFn args, nb := 0, bl := fun _ => .dead }
abbrev Tab : Type := FuncId → Option (Nat → (Nat → OB) → List AV → (Nat → (Nat → OB) → AV → Prop) → Prop)
abbrev PuTab : Type := FuncId → List AV → Option (List Cond × AV)
abbrev FreTab : Type := FuncId → List AV → Option (List Cond × TypeId × Nat × Nat × (Nat → Nat → AV))
structure Tb where
 objs : List (Nat × Obj)
 own : Tab
 pu : PuTab
 fre : FreTab
 conc : Bool
def Tb.cx (T : Tb) (nb0 : Nat) : Cx := { objs := T.objs, nb0 := nb0, own := T.own, pu := T.pu, fre := T.fre, conc := T.conc }
structure TbSound (P : Program) (T : Tb) : Prop where
 own : ∀ f t, T.own f = some t → OwnT P T.objs f t
 pu : ∀ f xs ps r, T.pu f xs = some (ps, r) → (∀ p ∈ ps, p.holds) → PureCall P T.objs f xs r
 fre : ∀ f xs ps t sz len els, T.fre f xs = some (ps, t, sz, len, els) → (∀ p ∈ ps, p.holds) → FreshCall P T.objs f xs t sz len els
theorem TbSound.cx {P : Program} {T : Tb} (h : TbSound P T) (nb0 : Nat) : OwnSound P (T.cx nb0) := ⟨h.own, h.pu, h.fre, fun p t e => by cases e⟩
def AV.bnd : AV → Prop
 | .xl _ sz len els => len ≤ 9223372036854775807 ∧ ∀ i j, i < len → j < sz → (els i j).bnd
 | .agg n cs => allB (fun i => (cs i).bnd) n
 | _ => True
def bndL : List AV → Prop
 | [] => True
 | [x] => x.bnd
 | x :: xs => x.bnd ∧ bndL xs
theorem allB_of {p : Nat → Prop} {n : Nat} (h : ∀ i, i < n → p i) : allB p n := by
 induction n with
 | zero => trivial
 | succ n ih =>
  cases n with
  | zero => exact h 0 (by omega)
  | succ n => exact ⟨ih fun i hi => h i (by omega), h _ (by omega)⟩
theorem Rel.bnd {w : World} {S : Nat → Prop} {ρ : Nat → Own} {x : AV} {v : Value} (h : Rel w S ρ x v) : x.bnd := by
 induction h with
 | xl o cap cvs hle hm hf hc hr ih => exact ⟨by simp only [maxLen] at hm; omega, ih⟩
 | agg vs hn hr ih => exact allB_of ih
 | _ => trivial
theorem RelL.bnd {w : World} {S : Nat → Prop} {ρ : Nat → Own} : ∀ {xs : List AV} {vs : List Value}, RelL w S ρ xs vs → bndL xs
 | [], [], _ => trivial
 | [x], [v], h => h.1.bnd
 | x :: y :: xs, v :: u :: vs, h => ⟨h.1.bnd, RelL.bnd h.2⟩
 | [], _ :: _, h => h.elim
 | _ :: _, [], h => h.elim
 | [_], _ :: _ :: _, h => h.2.elim
 | _ :: _ :: _, [_], h => h.2.elim
@[irreducible] def vcFn (P : Program) (T : Tb) (f : FuncId) (an : Ann) (args : List AV) (r : AV) : Prop :=
 match P.funcs[f]? with
 | some fn =>
  match fn.body with
  | some c =>
   match Nat.ble args.length fn.ntmps && !(fn.name == "runtime.NumGoroutine") with
   | true => bndL args → vcN P 6 c an (T.cx 0) (entry fn.ntmps args) (retV P fn.results.toList r) (fun _ _ => False) (retV P fn.results.toList r)
   | false => False
  | none => False
 | none => False
section
variable {P : Program} {T : Tb}
theorem entry_st {w : World} {S : Nat → Prop} {n : Nat} {args : List AV} {vals : List Value} (hS : ∀ b, S b → b < w.heap.size) (hG : ∀ b o, (b, o) ∈ T.objs → S b ∧ w.heap[b]? = some o)
  (hr : RelL w S rho0 args vals) (hn : args.length ≤ n) :
  St { w0 := w, X := fun _ => False, S0 := S, G := T.cx 0, r0 := rho0 } (entry n args) { tmps := vals.toArray ++ Array.replicate (n - vals.toArray.size) undef, defers := [] } w := by
 obtain ⟨hl, hget⟩ := hr.get
 refine ⟨S, rho0, ⟨Fr.refl _ _, hS, fun _ h => h, fun _ h => .inl h, hG, fun _ _ => rfl, fun k hk => absurd hk (Nat.not_lt_zero _), fun k g e => (by cases e), fun k k' g e => (by cases e), fun k g base cap sz L e => (by cases e), Nat.zero_le _, fun k hk => absurd hk (Nat.not_lt_zero _)⟩,
  ⟨?_, fun t _ => ?_⟩, ⟨List.Pairwise.nil, fun d hd => (by cases hd)⟩⟩
 ·simp only [Array.size_append, List.size_toArray, Array.size_replicate]
  show vals.length + (n - vals.length) = n
  omega
 ·show Rel w S rho0 (listFn args t) _
  by_cases ht : t < args.length
  ·have := hget t ht
   rw [Array.getD_eq_getD_getElem?, Array.getElem?_append_left (by simpa [hl] using ht), ← Array.getD_eq_getD_getElem?]
   exact this
  ·have : listFn args t = .junk := by simp [listFn, List.getElem?_eq_none (Nat.not_lt.1 ht)]
   rw [this]
   exact .junk _
theorem ret_sound {fn : Func} {w0 : World} {S : Nat → Prop} {σ : Sig} {a : Act} {w : World} {r : AV} {n : Nat} (h : retV P fn.results.toList r σ) (hst : St { w0 := w0, X := fun _ => False, S0 := S, G := T.cx 0, r0 := rho0 } σ a w) :
  LeavesInM (FW none) n P fn a.tmps (fun e w' => Blw w0 w' ∧ ∃ rv, e = .returned rv ∧ Rel w' (fun b => S b ∨ (w0.heap.size ≤ b ∧ b < w'.heap.size)) rho0 r rv) a.defers .returning w := by
 obtain ⟨S1, ρ1, hM, hF, hD⟩ := hst
 refine leaves_marks a.defers w S1 hD fun w' hs => ?_
 obtain ⟨S2, hM2, hsub, hkeep⟩ := shut_mem hM hD hs
 have hF2 : FrR w' S2 ρ1 σ.n σ.tm { tmps := a.tmps, defers := [] } := ⟨hF.1, fun t ht => (hF.2 t ht).mono' hkeep⟩
 unfold retV at h
 split at h
 ·rename_i xs hxs
  split at h
  ·rename_i σ' xs' hc
   split at h
   ·exact h.elim
   ·rename_i hno
    obtain ⟨g, hrun, hrel⟩ := resL_sound hM2 hF2 _ _ hxs
    obtain ⟨S3, ρ3, hM3, _, _, hrel3⟩ := closeAll_sound hc hM2 hF2 ⟨List.Pairwise.nil, fun d hd => (by cases hd)⟩ hrel
    refine ⟨_, run_results hrun, ⟨⟨hM3.fr.os, hM3.fr.tape, hM3.fr.output, hM3.fr.size, fun k hk => hM3.fr.block k hk fun hx => hx.elim⟩, hM3.fr.drawn⟩, _, rfl, ?_⟩
    refine (avM_sound (pack_rel (hrel3.free (any_false hno))) (avR_M.1 h)).mono (fun b hb => ⟨?_, rfl⟩) (OwnLe.refl _)
    rcases hM3.sub b hb with h1 | h1 | h1
    ·exact .inl h1.1
    ·exact h1.elim
    ·exact .inr ⟨h1, hM3.sb b hb⟩
  ·exact h.elim
 ·exact h.elim
theorem pure_of_vc {f : FuncId} {an : Ann} {args : List AV} {r : AV} (hm : P.follows .mixedOrders = true) (hT : TbSound P T) (h : vcFn P T f an args r) : PureCall P T.objs f args r := by
 unfold vcFn at h
 split at h
 ·rename_i fn hf
  split at h
  ·rename_i c hb
   split at h
   ·rename_i hc
    simp only [Bool.and_eq_true, Bool.not_eq_true'] at hc
    refine ⟨Go.Proofs.enters_of hf hc.2 hb, fun w S vals hS hG hr => ?_⟩
    refine FW_calls.1 (callsIn_of_wp_marks (F := FW none) (n := 0) hf hb trivial ?_)
    exact vcN_sound hm 6 c an { w0 := w, X := fun _ => False, S0 := S, G := T.cx 0, r0 := rho0 } _ _ _ _ _ _ _ none 0 (hT.cx 0) ⟨fun b hb => ⟨hS b hb, fun h => h⟩, fun _ _ => rfl, fun p T h => (by cases h)⟩ rfl (h hr.bnd) (entry_st hS hG hr (Nat.le_of_ble_eq_true hc.1)) (fun σ a w hk hst => ret_sound hk hst) (fun i σ a w hk _ => hk.elim) fun σ a w hk hst => ret_sound hk hst
   ·exact h.elim
  ·exact h.elim
 ·exact h.elim
def tb0 (objs : List (Nat × Obj)) : Tb := ⟨objs, fun _ => none, fun _ _ => none, fun _ _ => none, false⟩
theorem tb0_sound {objs : List (Nat × Obj)} : TbSound P (tb0 objs) := ⟨fun f T h => (by cases h), fun f xs ps r h => (by cases h), fun f xs ps t sz len els h => (by cases h)⟩
def Tb.plus (T : Tb) (f : FuncId) (t : List AV → Option (List Cond × AV)) : Tb := { T with pu := fun g xs => bif Nat.beq g f then t xs else T.pu g xs }
def PureT (P : Program) (objs : List (Nat × Obj)) (f : FuncId) (t : List AV → Option (List Cond × AV)) : Prop := ∀ xs ps r, t xs = some (ps, r) → (∀ p ∈ ps, p.holds) → PureCall P objs f xs r
theorem TbSound.plus (h : TbSound P T) {f : FuncId} {t : List AV → Option (List Cond × AV)} (ht : PureT P T.objs f t) : TbSound P (T.plus f t) := by
 refine ⟨h.own, fun g xs ps r e hp => ?_, h.fre⟩
 simp only [Tb.plus] at e
 cases hb : Nat.beq g f with
 | true =>
  rw [hb] at e
  obtain rfl := Nat.eq_of_beq_eq_true hb
  exact ht _ _ _ e hp
 | false => rw [hb] at e; exact h.pu _ _ _ _ e hp
def Tb.plusF (T : Tb) (f : FuncId) (t : List AV → Option (List Cond × TypeId × Nat × Nat × (Nat → Nat → AV))) : Tb := { T with fre := fun g xs => bif Nat.beq g f then t xs else T.fre g xs }
def FreshT (P : Program) (objs : List (Nat × Obj)) (f : FuncId) (t : List AV → Option (List Cond × TypeId × Nat × Nat × (Nat → Nat → AV))) : Prop :=
 ∀ xs ps ty sz len els, t xs = some (ps, ty, sz, len, els) → (∀ p ∈ ps, p.holds) → FreshCall P objs f xs ty sz len els
theorem TbSound.plusF (h : TbSound P T) {f : FuncId} {t : List AV → Option (List Cond × TypeId × Nat × Nat × (Nat → Nat → AV))} (ht : FreshT P T.objs f t) : TbSound P (T.plusF f t) := by
 refine ⟨h.own, h.pu, fun g xs ps ty sz len els e hp => ?_⟩
 simp only [Tb.plusF] at e
 cases hb : Nat.beq g f with
 | true =>
  rw [hb] at e
  obtain rfl := Nat.eq_of_beq_eq_true hb
  exact ht _ _ _ _ _ _ e hp
 | false => rw [hb] at e; exact h.fre _ _ _ _ _ _ _ e hp
def freV (P : Program) (rs : List ResultVar) (t : TypeId) (sz len : Nat) (els : Nat → Nat → AV) (σ : Sig) : Prop :=
 match resL P σ rs with
 | some [.ns k 0 n] =>
  match σ.bl k with
  | .arr t' sz' L els' => t' = t ∧ sz' = sz ∧ n = len ∧ ∀ i j, i < len → j < sz → avM (els' i j) (els i j)
  | _ => False
 | some [.v (.slice none 0 0)] => len = 0
 | some [.xl _ _ n _] => n = 0 ∧ len = 0 ∧ False
 | _ => False
@[irreducible] def vcFresh (P : Program) (T : Tb) (f : FuncId) (an : Ann) (args : List AV) (t : TypeId) (sz len : Nat) (els : Nat → Nat → AV) : Prop :=
 match P.funcs[f]? with
 | some fn =>
  match fn.body with
  | some c =>
   match Nat.ble args.length fn.ntmps && !(fn.name == "runtime.NumGoroutine") with
   | true => bndL args → vcN P 6 c an (T.cx 0) (entry fn.ntmps args) (freV P fn.results.toList t sz len els) (fun _ _ => False) (freV P fn.results.toList t sz len els)
   | false => False
  | none => False
 | none => False
theorem fre_sound {fn : Func} {w0 : World} {S : Nat → Prop} {σ : Sig} {a : Act} {w : World} {t : TypeId} {sz len : Nat} {els : Nat → Nat → AV} {n : Nat} (h : freV P fn.results.toList t sz len els σ) (hst : St { w0 := w0, X := fun _ => False, S0 := S, G := T.cx 0, r0 := rho0 } σ a w) :
  LeavesInM (FW none) n P fn a.tmps (fun e w' => Blw w0 w' ∧ ∃ rv, e = .returned rv ∧ FreshV S w0 w' t sz len els rv) a.defers .returning w := by
 obtain ⟨S1, ρ1, hM, hF, hD⟩ := hst
 refine leaves_marks a.defers w S1 hD fun w' hs => ?_
 obtain ⟨S2, hM2, hsub, hkeep⟩ := shut_mem hM hD hs
 have hF2 : FrR w' S2 ρ1 σ.n σ.tm { tmps := a.tmps, defers := [] } := ⟨hF.1, fun t ht => (hF.2 t ht).mono' hkeep⟩
 have hbelow : Blw w0 w' := ⟨⟨hM2.fr.os, hM2.fr.tape, hM2.fr.output, hM2.fr.size, fun k hk => hM2.fr.block k hk fun hx => hx.elim⟩, hM2.fr.drawn⟩
 unfold freV at h
 split at h
 ·rename_i k n' hxs
  obtain ⟨g, hrun, hrel⟩ := resL_sound hM2 hF2 _ _ hxs
  cases hb : σ.bl k with
  | arr t' sz' L els' =>
   rw [hb] at h
   obtain ⟨rfl, rfl, rfl, h4⟩ := h
   have hr := pack_rel hrel
   have hbk := hM2.at k
   refine ⟨_, run_results hrun, hbelow, _, rfl, ?_⟩
   obtain ⟨pv, hpv⟩ : ∃ pv, packV (fn.results.toList.map g) = pv := ⟨_, rfl⟩
   rw [hpv] at hr ⊢
   cases hr with
   | ns g' base cap sz2 L' hk hl hc =>
    have hbk := hbk.resolve_left (by rw [hk]; simp)
    have hb0 := hM2.b0 _ _ _ _ _ _ hk
    subst hb0
    rw [hb, hk] at hbk
    obtain ⟨e1, e2, h1, h2, c, h3, h5, h6⟩ := hbk
    subst e1; subst e2
    obtain ⟨hno, hnew⟩ := hM2.own k g' (by rw [hk]; rfl)
    refine .inr ⟨g', cap, c, by simp, ?_, h3, by omega, h2, by simpa using h5, fun i j hi hj => ?_⟩
    ·rcases hnew with hnew | hnew
     ·exact hnew
     ·exact hnew.elim
    ·have := h6 i j (by omega) hj
     rw [Nat.zero_add] at this
     refine ⟨avM_sound (this.1.mono (fun b hb => ⟨?_, rfl⟩) (OwnLe.refl _)) (h4 i j hi hj), this.2⟩
     rcases hM2.sub b hb with q | q | q
     ·exact .inl q.1
     ·exact q.elim
     ·exact .inr ⟨q, hM2.sb b hb, fun e => hno (e ▸ hb)⟩
   | ns0 g' base cap sz2 L' A hk hl hc h0 => exact .inl ⟨rfl, _, rfl⟩
   | nsn sz2 o hk => exact .inl ⟨rfl, _, rfl⟩
   | nsr g' cap sz2 L' sub hk hl hc =>
    have hbk := hbk.resolve_left (by rw [hk]; simp)
    rw [hb, hk] at hbk
    exact hbk.elim
   | nsv q o cap hk =>
    have hbk := hbk.resolve_left (by rw [hk]; simp)
    rw [hb, hk] at hbk
    exact hbk.elim
   | dns hd hsh =>
    have hbk := hbk.resolve_left (by rw [hd]; simp)
    rw [hb, hd] at hbk
    exact hbk.elim
  | _ => rw [hb] at h; exact h.elim
 ·rename_i hxs
  obtain ⟨g, hrun, hrel⟩ := resL_sound hM2 hF2 _ _ hxs
  have hr := pack_rel hrel
  refine ⟨_, run_results hrun, hbelow, _, rfl, .inl ⟨h, none, ?_⟩⟩
  exact rel_v hr
 ·exact h.2.2.elim
 ·exact h.elim
theorem fresh_of_vc {f : FuncId} {an : Ann} {args : List AV} {t : TypeId} {sz len : Nat} {els : Nat → Nat → AV} (hm : P.follows .mixedOrders = true) (hT : TbSound P T) (h : vcFresh P T f an args t sz len els) : FreshCall P T.objs f args t sz len els := by
 unfold vcFresh at h
 split at h
 ·rename_i fn hf
  split at h
  ·rename_i c hb
   split at h
   ·rename_i hc
    simp only [Bool.and_eq_true, Bool.not_eq_true'] at hc
    refine ⟨Go.Proofs.enters_of hf hc.2 hb, fun w S vals hS hG hr => ?_⟩
    refine FW_calls.1 (callsIn_of_wp_marks (F := FW none) (n := 0) hf hb trivial ?_)
    exact vcN_sound hm 6 c an { w0 := w, X := fun _ => False, S0 := S, G := T.cx 0, r0 := rho0 } _ _ _ _ _ _ _ none 0 (hT.cx 0) ⟨fun b hb => ⟨hS b hb, fun h => h⟩, fun _ _ => rfl, fun p T h => (by cases h)⟩ rfl (h hr.bnd) (entry_st hS hG hr (Nat.le_of_ble_eq_true hc.1)) (fun σ a w hk hst => fre_sound hk hst) (fun i σ a w hk _ => hk.elim) fun σ a w hk hst => fre_sound hk hst
   ·exact h.elim
  ·exact h.elim
 ·exact h.elim
end
end Go.Sx

namespace Go.Sx
open Go Go.RowKit
section
variable {P : Program} {G : Cx}
def retO (P : Program) (rs : List ResultVar) (k : Nat → (Nat → OB) → AV → Prop) (σ : Sig) : Prop :=
 match resL P σ rs with
 | some xs => k σ.nb σ.bl (packAV xs)
 | none => False
def vcIn (P : Program) (T : Tb) (f : FuncId) (an : Ann) (nb : Nat) (bl : Nat → OB) (xs : List AV) (k : Nat → (Nat → OB) → AV → Prop) : Prop :=
 match P.funcs[f]? with
 | some fn =>
  match fn.body with
  | some c =>
   match Nat.ble xs.length fn.ntmps && !(fn.name == "runtime.NumGoroutine") with
   | true => vcN P 6 c an (T.cx nb) { n := fn.ntmps, tm := listFn xs, nb := nb, bl := bl } (retO P fn.results.toList k) (fun _ _ => False) (retO P fn.results.toList k)
   | false => False
  | none => False
 | none => False
theorem retO_mono {rs : List ResultVar} {k k' : Nat → (Nat → OB) → AV → Prop} (h : ∀ nb bl x, k nb bl x → k' nb bl x) (σ : Sig) (hv : retO P rs k σ) : retO P rs k' σ := by
 unfold retO at hv ⊢
 split at hv
 ·exact h _ _ _ hv
 ·exact hv.elim
end
section
variable {P : Program} {T : Tb}
theorem vcIn_mono (hT : TbSound P T) {f : FuncId} {an : Ann} {nb : Nat} {bl : Nat → OB} {xs : List AV} {k k' : Nat → (Nat → OB) → AV → Prop}
  (h : ∀ nb bl x, k nb bl x → k' nb bl x) (hv : vcIn P T f an nb bl xs k) : vcIn P T f an nb bl xs k' := by
 unfold vcIn at hv ⊢
 split at hv
 ·split at hv
  ·split at hv
   ·exact vcN_mono 6 _ _ _ _ _ _ _ _ _ _ (hT.cx nb) (retO_mono h) (fun _ _ h => h) (retO_mono h) hv
   ·exact hv.elim
  ·exact hv.elim
 ·exact hv.elim
theorem back_sound {E : Env} {nb : Nat} {bl : Nat → OB} {S : Nat → Prop} {ρ : Nat → Own} {w : World} {k : Nat → (Nat → OB) → AV → Prop} {fn : Func} {σ : Sig} {a : Act} {w1 : World} {n : Nat} (hM : Mem E nb bl S ρ w)
  (h : retO P fn.results.toList k σ) (hst : St (inE w S ρ (T.cx nb)) σ a w1) :
  LeavesInM (FW none) n P fn a.tmps (Back E S ρ w k) a.defers .returning w1 := by
 refine shut_outer hM rfl hst fun w2 S2 ρ2 m1 m2 m3 _ m5 => ?_
 unfold retO at h
 split at h
 ·rename_i xs hxs
  obtain ⟨g, hrun, hrel⟩ := resL_sound m1 m5 _ _ hxs
  exact ⟨_, run_results hrun, _, _, S2, ρ2, _, _, rfl, h, m1, m2, m3, pack_rel hrel⟩
 ·exact h.elim
theorem own_of_vc (hm : P.follows .mixedOrders = true) (hT : TbSound P T) {f : FuncId} {an : Ann} {fn : Func} {c : Code} (hf : P.funcs[f]? = some fn) (hb : fn.body = some c)
  (hn : (fn.name == "runtime.NumGoroutine") = false) : OwnT P T.objs f (vcIn P T f an) := by
 refine ⟨Go.Proofs.enters_of hf hn hb, fun nb bl xs k k' h hv => vcIn_mono hT h hv, fun E nb bl S ρ w xs vs k hEG hM hx hv => ?_⟩
 unfold vcIn at hv
 rw [hf] at hv
 simp only [hb] at hv
 split at hv
 ·rename_i hc
  simp only [Bool.and_eq_true] at hc
  have hlen : xs.length ≤ fn.ntmps := Nat.le_of_ble_eq_true hc.1
  obtain ⟨hl, hget⟩ := hx.get
  refine FW_calls.1 (callsIn_of_wp_marks (F := FW none) (n := 0) hf hb trivial ?_)
  exact vcN_sound hm 6 c an (inE w S ρ (T.cx nb)) _ _ _ _ _ _ _ none 0 (hT.cx nb) ⟨hM.inner_base, hM.hi, fun p T h => (by cases h)⟩ rfl hv
   ⟨S, ρ, hM.inner hEG.symm rfl, args_fr hx hlen, ⟨List.Pairwise.nil, fun d hd => (by cases hd)⟩⟩ (fun σ a w1 hk hst => back_sound hM hk hst)
   (fun i σ a w hk _ => hk.elim) fun σ a w1 hk hst => back_sound hM hk hst
 ·exact hv.elim
def bodyOf (P : Program) (T : Tb) (f : FuncId) (an : Ann) : Option (Nat → (Nat → OB) → List AV → (Nat → (Nat → OB) → AV → Prop) → Prop) :=
 match P.funcs[f]? with
 | some fn =>
  match fn.body with
  | some _ => (match fn.name == "runtime.NumGoroutine" with | true => none | false => some (vcIn P T f an))
  | none => none
 | none => none
theorem bodyOf_sound (hm : P.follows .mixedOrders = true) (hT : TbSound P T) {f : FuncId} {an : Ann} {t : Nat → (Nat → OB) → List AV → (Nat → (Nat → OB) → AV → Prop) → Prop} (h : bodyOf P T f an = some t) : OwnT P T.objs f t := by
 unfold bodyOf at h
 split at h
 ·rename_i fn hf
  split at h
  ·rename_i c hb
   split at h
   ·cases h
   ·rename_i hn
    cases h
    exact own_of_vc hm hT hf hb hn
  ·cases h
 ·cases h
def lkA : List (FuncId × Ann) → FuncId → Option Ann
 | [], _ => none
 | (g, a) :: l, f => bif Nat.beq g f then some a else lkA l f
def Tb.body (P : Program) (T : Tb) (l : List (FuncId × Ann)) : Tb := { T with own := fun f => match lkA l f with | some an => bodyOf P T f an | none => T.own f }
theorem TbSound.body (hm : P.follows .mixedOrders = true) (hT : TbSound P T) (l : List (FuncId × Ann)) : TbSound P (T.body P l) := by
 refine ⟨fun f t h => ?_, hT.pu, hT.fre⟩
 simp only [Tb.body] at h
 split at h
 ·exact bodyOf_sound hm hT h
 ·exact hT.own _ _ h
def Tb.deep (P : Program) (T : Tb) : Nat → Tb
 | 0 => { T with conc := true }
 | n + 1 => { T with own := fun f => bodyOf P (Tb.deep P T n) f .auto, conc := true }
theorem deep_objs (P : Program) (T : Tb) : ∀ n, (T.deep P n).objs = T.objs
 | 0 => rfl
 | _ + 1 => rfl
theorem TbSound.deep (hm : P.follows .mixedOrders = true) (hT : TbSound P T) : ∀ n, TbSound P (T.deep P n)
 | 0 => ⟨hT.own, hT.pu, hT.fre⟩
 | n + 1 => ⟨fun f t h => by
   have := bodyOf_sound hm (TbSound.deep hm hT n) h
   rw [deep_objs] at this
   exact this, hT.pu, hT.fre⟩
end
end Go.Sx

namespace Go.Sx
open Go Go.RowKit
theorem vc_db {p : Prop} [DB p] {A : Prop} : bsplit (DB.db p) A False ↔ p ∧ A := by
 rw [bsplit_iff]
 constructor
 ·rintro ⟨h1, h2⟩
  have : DB.db p = true := by cases h : DB.db p with
   | true => rfl
   | false => exact (h2 h).elim
  exact ⟨DB.iff.1 this, h1 this⟩
 ·rintro ⟨hp, ha⟩
  exact ⟨fun _ => ha, fun h => by rw [DB.iff.2 hp] at h; cases h⟩
theorem vc_lt {a b : Int} {A B : Prop} : bsplit (ltB a b) A B ↔ (a < b → A) ∧ (b ≤ a → B) := by
 rw [bsplit_iff, ltB_eq, decide_eq_true_eq, decide_eq_false_iff_not, Int.not_lt]
theorem vc_le {a b : Int} {A B : Prop} : bsplit (leB a b) A B ↔ (a ≤ b → A) ∧ (b < a → B) := by
 rw [bsplit_iff, leB_eq, decide_eq_true_eq, decide_eq_false_iff_not, Int.not_le]
theorem vc_ne {a b : Int} {A B : Prop} : bsplit (a != b) A B ↔ (a ≠ b → A) ∧ (a = b → B) := by
 rw [bsplit_iff, bne_iff_ne, bne_eq_false_iff_eq]
theorem vc_eq {a b : Int} {A B : Prop} : bsplit (a == b) A B ↔ (a = b → A) ∧ (a ≠ b → B) := by
 rw [bsplit_iff, beq_iff_eq, beq_eq_false_iff_ne]
theorem vc_grd' {x y : Bool} {A : Prop} : bsplit (!x || y) A False ↔ (x = true → y = true) ∧ A := by cases x <;> cases y <;> simp [bsplit]
theorem bif_or (a b : Bool) : (bif a then true else b) = (a || b) := by cases a <;> rfl
theorem bif_and (a b : Bool) : (bif a then b else false) = (a && b) := by cases a <;> rfl
theorem vc_gdb {x : Bool} {p : Prop} [DB p] {A : Prop} : bsplit (!x || DB.db p) A False ↔ (x = true → p) ∧ A := by
 rw [vc_grd', DB.iff]
theorem vc_own {x : Bool} {A : Prop} : bsplit (!x || x) A False ↔ A := by cases x <;> simp [bsplit]
theorem bsel_true (x : Bool) : bsel true x = x := rfl
theorem bsel_false (x : Bool) : bsel false x = !x := rfl
theorem vc_grd {x y : Bool} {A : Prop} : bsplit (!x || y) A False ↔ (x = true → y = true) ∧ A := by cases x <;> cases y <;> simp [bsplit]
end Go.Sx

namespace Go.Sx
open Go Go.RowKit
def avML : List AV → List AV → Prop
 | [], [] => True
 | x :: xs, y :: ys => avM x y ∧ avML xs ys
 | _, _ => False
theorem avML_rel {w : World} {S : Nat → Prop} {ρ : Nat → Own} : ∀ {xs ys : List AV} {vs : List Value}, avML xs ys → RelL w S ρ xs vs → RelL w S ρ ys vs
 | [], [], [], _, _ => trivial
 | _ :: _, _ :: _, _ :: _, h, hr => ⟨avM_sound hr.1 h.1, avML_rel h.2 hr.2⟩
 | [], [], _ :: _, _, hr => hr.elim
 | _ :: _, _ :: _, [], _, hr => hr.elim
 | [], _ :: _, _, h, _ => h.elim
 | _ :: _, [], _, h, _ => h.elim
theorem weaken {P : Program} {G : List (Nat × Obj)} {f : FuncId} {xs ys : List AV} {r : AV} (h : avML xs ys) (hp : PureCall P G f ys r) : PureCall P G f xs r :=
 ⟨hp.1, fun w S vals hS hG hr => hp.2 w S vals hS hG (avML_rel h hr)⟩
theorem weakenF {P : Program} {G : List (Nat × Obj)} {f : FuncId} {xs ys : List AV} {t : TypeId} {sz len : Nat} {els : Nat → Nat → AV} (h : avML xs ys) (hp : FreshCall P G f ys t sz len els) : FreshCall P G f xs t sz len els :=
 ⟨hp.1, fun w S vals hS hG hr => hp.2 w S vals hS hG (avML_rel h hr)⟩
def AV.int : AV → Int
 | .v (.int _ n) => n
 | _ => 0
def AV.bool : AV → Bool
 | .v (.bool t) => t
 | _ => false
def AV.bytes : AV → List UInt8
 | .str l => l
 | _ => []
def isI64 : AV → Bool
 | .v (.int .i64 _) => true
 | _ => false
def isBool : AV → Bool
 | .v (.bool _) => true
 | _ => false
def isStr : AV → Bool
 | .str _ => true
 | _ => false
theorem isI64_eq {x : AV} (h : isI64 x = true) : x = .i (AV.int x) := by
 unfold isI64 at h
 split at h
 ·rfl
 ·cases h
theorem isBool_eq {x : AV} (h : isBool x = true) : x = .b (AV.bool x) := by
 unfold isBool at h
 split at h
 ·rfl
 ·cases h
theorem isStr_eq {x : AV} (h : isStr x = true) : x = .str (AV.bytes x) := by
 unfold isStr at h
 split at h
 ·rfl
 ·cases h
class Enc (α : Type) where
 n : Nat
 dflt : α
 enc : α → Nat → AV
 dec : (Nat → AV) → α
 ok : (Nat → AV) → Bool
 sound : ∀ cs, ok cs = true → ∀ j, j < n → avM (cs j) (enc (dec cs) j)
def slE {α : Type} [Enc α] (l : List α) : AV := .xl false (Enc.n α) l.length fun i j => Enc.enc (l.getD i Enc.dflt) j
def slD {α : Type} [Enc α] : AV → List α
 | .xl _ _ len els => (List.range len).map fun i => Enc.dec (els i)
 | _ => []
def slOk (α : Type) [Enc α] : AV → Bool
 | .xl _ sz len els => Nat.beq sz (Enc.n α) && allN (fun i => Enc.ok (α := α) (els i)) len
 | .v (.slice none 0 0) => true
 | _ => false
theorem slE_sound {α : Type} [Enc α] {x : AV} (h : slOk α x = true) : avM x (slE (slD (α := α) x)) := by
 unfold slOk at h
 split at h
 ·rename_i f sz len els
  rw [Bool.and_eq_true] at h
  obtain rfl := Nat.eq_of_beq_eq_true h.1
  unfold slE
  refine ⟨(fun h => by cases h), rfl, by simp [slD], fun i j hi hj => ?_⟩
  have : ((slD (α := α) (.xl f (Enc.n α) len els)).getD i Enc.dflt) = Enc.dec (els i) := by
   simp [slD, List.getD_eq_getElem?_getD, hi]
  show avM (els i j) (Enc.enc ((slD (α := α) (.xl f (Enc.n α) len els)).getD i Enc.dflt) j)
  rw [this]
  exact Enc.sound _ (allN_true h.2 i hi) j hj
 ·exact ⟨rfl, rfl⟩
 ·cases h
instance : Enc Int := ⟨1, 0, fun a _ => .i a, fun cs => AV.int (cs 0), fun cs => isI64 (cs 0), fun cs h j hj => by
 obtain rfl : j = 0 := by omega
 exact avM_of_eq (isI64_eq h)⟩
instance : Enc Bool := ⟨1, false, fun a _ => .b a, fun cs => AV.bool (cs 0), fun cs => isBool (cs 0), fun cs h j hj => by
 obtain rfl : j = 0 := by omega
 exact avM_of_eq (isBool_eq h)⟩
instance : Enc (List UInt8) := ⟨1, [], fun a _ => .str a, fun cs => AV.bytes (cs 0), fun cs => isStr (cs 0), fun cs h j hj => by
 obtain rfl : j = 0 := by omega
 exact avM_of_eq (isStr_eq h)⟩
def agE {α : Type} [Enc α] (a : α) : AV := .agg (Enc.n α) (Enc.enc a)
def agD {α : Type} [Enc α] : AV → α
 | .agg _ cs => Enc.dec cs
 | _ => Enc.dflt
def agOk (α : Type) [Enc α] : AV → Bool
 | .agg n cs => Nat.beq n (Enc.n α) && Enc.ok (α := α) cs
 | _ => false
theorem agE_sound {α : Type} [Enc α] {x : AV} (h : agOk α x = true) : avM x (agE (agD (α := α) x)) := by
 unfold agOk at h
 split at h
 ·rename_i n cs
  rw [Bool.and_eq_true] at h
  obtain rfl := Nat.eq_of_beq_eq_true h.1
  exact ⟨rfl, allB_of fun i hi => Enc.sound _ h.2 i hi⟩
 ·cases h
structure Wk (xs ys : List AV) : Prop where
 h : avML xs ys
theorem Wk.refl : ∀ (xs : List AV), Wk xs xs
 | [] => ⟨trivial⟩
 | x :: xs => ⟨avM_refl x, (Wk.refl xs).h⟩
abbrev Non (α : Type) : Option α := none
def blkAt : AV → Nat
 | .ns q _ _ => q
 | _ => 0
def listOf {α : Type} (n : Nat) (f : Nat → α) : List α := (List.range n).map f
theorem listOf_getD {α : Type} (l : List α) (d : α) : listOf l.length (fun i => l.getD i d) = l := by
 apply List.ext_getElem
 ·simp [listOf]
 ·intro i h1 h2
  simp [listOf, List.getD_eq_getElem?_getD, h2]
def inst (ys : List AV) (r : AV) : List AV → Option (List Cond × AV) := fun xs => some ([.p (Wk xs ys)], r)
theorem inst_T {P : Program} {G : List (Nat × Obj)} {f : FuncId} {ys : List AV} {r : AV} (h : PureCall P G f ys r) : PureT P G f (inst ys r) := by
 intro xs ps r' h' hp
 cases h'
 exact weaken (hp _ List.mem_cons_self : Wk xs ys).h h
end Go.Sx

namespace Go.Sx
open Go Go.RowKit
def AV.ren (r : Nat → Nat) : AV → AV
 | .np k off => .np (r k) off
 | .ns k off len => .ns (r k) off len
 | .ap k i j => .ap (r k) i j
 | .yl k => .yl (r k)
 | .agg n cs => .agg n fun i => (cs i).ren r
 | .tup n cs => .tup n fun i => (cs i).ren r
 | .fn f nf a nc c => .fn f nf (fun i => (a i).ren r) nc fun i => (c i).ren r
 | .gd g x => .gd g (x.ren r)
 | x => x
def OB.ren (r : Nat → Nat) : OB → OB
 | .box t n cells => .box t n fun i => (cells i).ren r
 | .rows t sz len col te ssz els out => .rows t sz len col te ssz els (out.map fun p => (p.1, p.2.ren r))
 | x => x
section
variable {P : Program} {E : Env} {nb : Nat} {bl : Nat → OB} {S : Nat → Prop} {ρ : Nat → Own} {w : World}
theorem Rel.ren {ρ2 : Nat → Own} {r : Nat → Nat} {x : AV} {v : Value} (h : Rel w S ρ x v) (hr : ∀ k, ρ2 (r k) = ρ k ∨ ρ k = .none) : Rel w S ρ2 (x.ren r) v := by
 have get : ∀ {k o}, ρ k = o → o ≠ .none → ρ2 (r k) = o := fun {k o} e hne => by
  rcases hr k with h | h
  ·exact h.trans e
  ·exact absurd (e.symm.trans h) hne
 induction h with
 | v x => exact .v x
 | str l => exact .str l
 | xl o cap cvs hle hm hf hc hr' ih => exact .xl o cap cvs hle hm hf hc hr'
 | xq A cvs hc hr' ih => exact .xq A cvs hc hr'
 | np g h => exact .np g (get h (by simp))
 | ns g base cap sz L h hl hc => exact .ns g base cap sz L (get h (by simp)) hl hc
 | ns0 g base cap sz L A h hl hc h0 => exact .ns0 g base cap sz L A (get h (by simp)) hl hc h0
 | nsn sz o h => exact .nsn sz o (get h (by simp))
 | ap g base cap sz L h hi hc => exact .ap g base cap sz L (get h (by simp)) hi hc
 | nsr g cap sz L sub h hl hc => exact .nsr g cap sz L sub (get h (by simp)) hl hc
 | nsv q o cap h => exact .nsv q o cap (get h (by simp))
 | apr g cap sz L sub h hi hc => exact .apr g cap sz L sub (get h (by simp)) hi hc
 | yl g r' h => exact .yl g r' (get h (by simp))
 | dyl h hx => exact .dyl (get h (by simp)) hx
 | dnp h hx => exact .dnp (get h (by simp)) hx
 | dns h hx => exact .dns (get h (by simp)) hx
 | dap h hx => exact .dap (get h (by simp)) hx
 | agg vs hn _ ih => exact .agg vs hn fun i hi => ih i hi hr get
 | tup vs hn _ ih => exact .tup vs hn fun i hi => ih i hi hr get
 | fn vs us hn hm _ _ ih1 ih2 => exact .fn vs us hn hm (fun i hi => ih1 i hi hr get) fun i hi => ih2 i hi hr get
 | gd v h h' ih => exact .gd v (fun hg => ih hg hr get) h'
 | nb t h => exact .nb t h
 | junk x => exact .junk x
theorem BOK.ren {ρ2 : Nat → Own} {r : Nat → Nat} {B : OB} {o : Own} (h : BOK w S ρ B o) (hr : ∀ k, ρ2 (r k) = ρ k ∨ ρ k = .none) : BOK w S ρ2 (B.ren r) o := by
 cases B with
 | box t n cells =>
  cases o with
  | box g =>
   obtain ⟨c, h1, h2, h3⟩ := h
   exact ⟨c, h1, h2, fun i hi => ⟨(h3 i hi).1.ren hr, (h3 i hi).2⟩⟩
  | _ => exact h.elim
 | dead => cases o <;> exact h
 | arr t sz len els => cases o <;> exact h
 | lrec st pe => cases o <;> exact h
 | app te ssz len els => cases o <;> exact h
 | rows t sz len col te ssz els out =>
  cases o with
  | rows g cap sz' len' sub =>
   obtain ⟨e1, e2, h1, h2, h3, h4, h5, h6, c, h7, h8, h9⟩ := h
   refine ⟨e1, e2, h1, h2, h3, h4, h5, h6, c, h7, h8, fun i hi => ⟨(h9 i hi).1, ?_, (h9 i hi).2.2⟩⟩
   have := (h9 i hi).2.1
   cases out with
   | none => exact this
   | some p => exact ⟨fun e => ⟨(this.1 e).1, (this.1 e).2.ren hr⟩, this.2⟩
  | nila sz' =>
   obtain ⟨e1, e2, e3⟩ := h
   subst e3
   exact ⟨e1, e2, rfl⟩
  | _ => exact h.elim
def pick (ρ : Nat → Own) (idx : List Nat) : Nat → Own := fun i =>
 match idx[i]? with
 | some j => ρ j
 | none => .none
theorem pick_some {idx : List Nat} {i j : Nat} (h : idx[i]? = some j) : pick ρ idx i = ρ j := by unfold pick; rw [h]
theorem pick_none {idx : List Nat} {i : Nat} (h : idx.length ≤ i) : pick ρ idx i = .none := by unfold pick; rw [List.getElem?_eq_none h]
theorem idxOf_get {idx : List Nat} (hnd : idx.Nodup) {i j : Nat} (h : idx[i]? = some j) : idx.idxOf? j = some i := by
 obtain ⟨h1, h2⟩ := List.getElem?_eq_some_iff.1 h
 refine List.idxOf?_eq_some_iff.2 ⟨h1, h2, fun i' hi' e => ?_⟩
 have := List.pairwise_iff_getElem.1 hnd i' i (by omega) h1 hi'
 exact this (e.trans h2.symm)
theorem Mem.pick (hM : Mem E nb bl S ρ w) {idx : List Nat} (hnd : idx.Nodup) (hlt : ∀ j ∈ idx, j < nb) {G : Cx} (hG : G.objs = E.G.objs) (hnb : G.nb0 = idx.length) {bi : Nat → OB}
  (hok : ∀ i, i < idx.length → BOK w S (pick ρ idx) (bi i) (pick ρ idx i)) : Mem (inE w S (pick ρ idx) G) idx.length bi S (pick ρ idx) w := by
 have blk : ∀ {i g}, (Sx.pick ρ idx i).has g → ∃ j, idx[i]? = some j ∧ (ρ j).has g := fun {i g} e => by
  cases h : idx[i]? with
  | none => rw [Sx.pick, h] at e; exact e.elim
  | some j => rw [pick_some h] at e; exact ⟨j, rfl, e⟩
 refine ⟨Fr.refl _ _, hM.sb, fun _ h => h, fun _ h => .inl h, fun b o hbo => hM.glob b o (by rw [← hG]; exact hbo), fun k hk => pick_none hk, hok, fun j g e => ?_, fun i i' g e e' => ?_, fun k g base cap sz L e => ?_, Nat.le_of_eq hnb, fun _ _ => .inl (Own.like_refl _)⟩
 ·obtain ⟨j', h1, h2⟩ := blk e
  exact ⟨(hM.own j' g h2).1, .inr ⟨j, e⟩⟩
 ·obtain ⟨j, h1, h2⟩ := blk e
  obtain ⟨j', h1', h2'⟩ := blk e'
  obtain rfl := hM.dis j j' g h2 h2'
  have a := idxOf_get hnd h1
  have b := idxOf_get hnd h1'
  rw [a] at b
  exact Option.some.inj b
 ·cases h : idx[k]? with
  | none => rw [Sx.pick, h] at e; cases e
  | some j => rw [pick_some h] at e; exact hM.b0 _ _ _ _ _ _ e
end
end Go.Sx

namespace Go.Sx
open Go Go.RowKit
section
variable {P : Program} {E : Env} {nb : Nat} {bl : Nat → OB} {S : Nat → Prop} {ρ : Nat → Own} {w : World}
end
end Go.Sx
