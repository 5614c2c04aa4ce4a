/- Contracts from verification conditions. -/
import Derived.Test.YtojonobehnbeiaaDoorSxX
import Derived.Shelf.Abstract
namespace Go.Sx
open Go Go.RowKit

def entry (n : Nat) (args : List AV) : Sig := { n := n, tm := listFn args, nb := 0, bl := fun _ => .dead }

abbrev Tab : Type := FuncId → Option (Nat → (Nat → OB) → List AV → (Nat → (Nat → OB) → AV → Prop) → Prop)
abbrev PuTab : Type := FuncId → List AV → Option (List Cond × AV)
abbrev FreTab : Type := FuncId → List AV → Option (List Cond × TypeId × Nat × Nat × (Nat → Nat → AV))

/-- What is known of package-level tables and of other functions. -/
structure Tb where
  objs : List (Nat × Obj)
  own : Tab
  pu : PuTab
  fre : FreTab
  conc : Bool

def Tb.cx (T : Tb) (nb0 : Nat) : Cx := { objs := T.objs, nb0 := nb0, own := T.own, pu := T.pu, fre := T.fre, conc := T.conc }

structure TbSound (P : Program) (T : Tb) : Prop where
  own : ∀ f t, T.own f = some t → OwnT P T.objs f t
  pu : ∀ f xs ps r, T.pu f xs = some (ps, r) → (∀ p ∈ ps, p.holds) → PureCall P T.objs f xs r
  fre : ∀ f xs ps t sz len els, T.fre f xs = some (ps, t, sz, len, els) → (∀ p ∈ ps, p.holds) → FreshCall P T.objs f xs t sz len els

theorem TbSound.cx {P : Program} {T : Tb} (h : TbSound P T) (nb0 : Nat) : OwnSound P (T.cx nb0) := ⟨h.own, h.pu, h.fre, fun p t e => by cases e⟩

/-- No slice is longer than slices can be. -/
def AV.bnd : AV → Prop
  | .xl _ sz len els => len ≤ 9223372036854775807 ∧ ∀ i j, i < len → j < sz → (els i j).bnd
  | .agg n cs => allB (fun i => (cs i).bnd) n
  | _ => True
def bndL : List AV → Prop
  | [] => True
  | [x] => x.bnd
  | x :: xs => x.bnd ∧ bndL xs

theorem allB_of {p : Nat → Prop} {n : Nat} (h : ∀ i, i < n → p i) : allB p n := by
  induction n with
  | zero => trivial
  | succ n ih =>
    cases n with
    | zero => exact h 0 (by omega)
    | succ n => exact ⟨ih fun i hi => h i (by omega), h _ (by omega)⟩

theorem Rel.bnd {w : World} {S : Nat → Prop} {ρ : Nat → Own} {x : AV} {v : Value} (h : Rel w S ρ x v) : x.bnd := by
  induction h with
  | xl o cap cvs hle hm hf hc hr ih => exact ⟨by simp only [maxLen] at hm; omega, ih⟩
  | agg vs hn hr ih => exact allB_of ih
  | _ => trivial
theorem RelL.bnd {w : World} {S : Nat → Prop} {ρ : Nat → Own} : ∀ {xs : List AV} {vs : List Value}, RelL w S ρ xs vs → bndL xs
  | [], [], _ => trivial
  | [x], [v], h => h.1.bnd
  | x :: y :: xs, v :: u :: vs, h => ⟨h.1.bnd, RelL.bnd h.2⟩
  | [], _ :: _, h => h.elim
  | _ :: _, [], h => h.elim
  | [_], _ :: _ :: _, h => h.2.elim
  | _ :: _ :: _, [_], h => h.2.elim

@[irreducible] def vcFn (P : Program) (T : Tb) (f : FuncId) (an : Ann) (args : List AV) (r : AV) : Prop :=
  match P.funcs[f]? with
  | some fn =>
    match fn.body with
    | some c =>
      match Nat.ble args.length fn.ntmps && !(fn.name == "runtime.NumGoroutine") with
      | true => bndL args → vcN P 6 c an (T.cx 0) (entry fn.ntmps args) (retV P fn.results.toList r) (fun _ _ => False) (retV P fn.results.toList r)
      | false => False
    | none => False
  | none => False

section
variable {P : Program} {T : Tb}

theorem entry_st {w : World} {S : Nat → Prop} {n : Nat} {args : List AV} {vals : List Value} (hS : ∀ b, S b → b < w.heap.size) (hG : ∀ b o, (b, o) ∈ T.objs → S b ∧ w.heap[b]? = some o)
    (hr : RelL w S rho0 args vals) (hn : args.length ≤ n) :
    St { w0 := w, X := fun _ => False, S0 := S, G := T.cx 0, r0 := rho0 } (entry n args) { tmps := vals.toArray ++ Array.replicate (n - vals.toArray.size) undef, defers := [] } w := by
  obtain ⟨hl, hget⟩ := hr.get
  refine ⟨S, rho0, ⟨Fr.refl _ _, hS, fun _ h => h, fun _ h => .inl h, hG, fun _ _ => rfl, fun k hk => absurd hk (Nat.not_lt_zero _), fun k g e => (by cases e), fun k k' g e => (by cases e), fun k g base cap sz L e => (by cases e), Nat.zero_le _, fun k hk => absurd hk (Nat.not_lt_zero _)⟩,
    ⟨?_, fun t _ => ?_⟩, ⟨List.Pairwise.nil, fun d hd => (by cases hd)⟩⟩
  · simp only [Array.size_append, List.size_toArray, Array.size_replicate]
    show vals.length + (n - vals.length) = n
    omega
  · show Rel w S rho0 (listFn args t) _
    by_cases ht : t < args.length
    · have := hget t ht
      rw [Array.getD_eq_getD_getElem?, Array.getElem?_append_left (by simpa [hl] using ht), ← Array.getD_eq_getD_getElem?]
      exact this
    · have : listFn args t = .junk := by simp [listFn, List.getElem?_eq_none (Nat.not_lt.1 ht)]
      rw [this]
      exact .junk _

theorem ret_sound {fn : Func} {w0 : World} {S : Nat → Prop} {σ : Sig} {a : Act} {w : World} {r : AV} {n : Nat} (h : retV P fn.results.toList r σ) (hst : St { w0 := w0, X := fun _ => False, S0 := S, G := T.cx 0, r0 := rho0 } σ a w) :
    LeavesInM (FW none) n P fn a.tmps (fun e w' => Below w0.heap.size w0 w' ∧ ∃ rv, e = .returned rv ∧ Rel w' (fun b => S b ∨ (w0.heap.size ≤ b ∧ b < w'.heap.size)) rho0 r rv) a.defers .returning w := by
  obtain ⟨S1, ρ1, hM, hF, hD⟩ := hst
  refine leaves_marks a.defers w S1 hD fun w' hs => ?_
  obtain ⟨S2, hM2, hsub, hkeep⟩ := shut_mem hM hD hs
  have hF2 : FrR w' S2 ρ1 σ.n σ.tm { tmps := a.tmps, defers := [] } := ⟨hF.1, fun t ht => (hF.2 t ht).mono' hkeep⟩
  unfold retV at h
  split at h
  · rename_i xs hxs
    split at h
    · rename_i σ' xs' hc
      split at h
      · exact h.elim
      · rename_i hno
        obtain ⟨g, hrun, hrel⟩ := resL_sound hM2 hF2 _ _ hxs
        obtain ⟨S3, ρ3, hM3, _, _, hrel3⟩ := closeAll_sound hc hM2 hF2 ⟨List.Pairwise.nil, fun d hd => (by cases hd)⟩ hrel
        refine ⟨_, run_results hrun, ⟨hM3.fr.os, hM3.fr.tape, hM3.fr.output, hM3.fr.size, fun k hk => hM3.fr.block k hk fun hx => hx.elim⟩, _, rfl, ?_⟩
        refine (avM_sound (pack_rel (hrel3.free (any_false hno))) h).mono (fun b hb => ⟨?_, rfl⟩) (OwnLe.refl _)
        rcases hM3.sub b hb with h1 | h1 | h1
        · exact .inl h1.1
        · exact h1.elim
        · exact .inr ⟨h1, hM3.sb b hb⟩
    · exact h.elim
  · exact h.elim

theorem pure_of_vc {f : FuncId} {an : Ann} {args : List AV} {r : AV} (hm : P.follows .mixedOrders = true) (hT : TbSound P T) (h : vcFn P T f an args r) : PureCall P T.objs f args r := by
  unfold vcFn at h
  split at h
  · rename_i fn hf
    split at h
    · rename_i c hb
      split at h
      · rename_i hc
        simp only [Bool.and_eq_true, Bool.not_eq_true'] at hc
        refine ⟨Go.Proofs.enters_of hf hc.2 hb, fun w S vals hS hG hr => ?_⟩
        refine FW_calls.1 (callsIn_of_wp_marks (F := FW none) (n := 0) hf hb trivial ?_)
        exact vcN_sound hm 6 c an { w0 := w, X := fun _ => False, S0 := S, G := T.cx 0, r0 := rho0 } _ _ _ _ _ _ _ none 0 (hT.cx 0) ⟨fun b hb => ⟨hS b hb, fun h => h⟩, fun _ _ => rfl, fun p T h => (by cases h)⟩ rfl (h hr.bnd) (entry_st hS hG hr (Nat.le_of_ble_eq_true hc.1)) (fun σ a w hk hst => ret_sound hk hst) (fun i σ a w hk _ => hk.elim) fun σ a w hk hst => ret_sound hk hst
      · exact h.elim
    · exact h.elim
  · exact h.elim

/-- Nothing is known. -/
def tb0 (objs : List (Nat × Obj)) : Tb := ⟨objs, fun _ => none, fun _ _ => none, fun _ _ => none, false⟩
theorem tb0_sound {objs : List (Nat × Obj)} : TbSound P (tb0 objs) := ⟨fun f T h => (by cases h), fun f xs ps r h => (by cases h), fun f xs ps t sz len els h => (by cases h)⟩

/-- What one function answers, added to a table. -/
def Tb.plus (T : Tb) (f : FuncId) (t : List AV → Option (List Cond × AV)) : Tb := { T with pu := fun g xs => bif Nat.beq g f then t xs else T.pu g xs }
def PureT (P : Program) (objs : List (Nat × Obj)) (f : FuncId) (t : List AV → Option (List Cond × AV)) : Prop := ∀ xs ps r, t xs = some (ps, r) → (∀ p ∈ ps, p.holds) → PureCall P objs f xs r
theorem TbSound.plus (h : TbSound P T) {f : FuncId} {t : List AV → Option (List Cond × AV)} (ht : PureT P T.objs f t) : TbSound P (T.plus f t) := by
  refine ⟨h.own, fun g xs ps r e hp => ?_, h.fre⟩
  simp only [Tb.plus] at e
  cases hb : Nat.beq g f with
  | true =>
    rw [hb] at e
    obtain rfl := Nat.eq_of_beq_eq_true hb
    exact ht _ _ _ e hp
  | false => rw [hb] at e; exact h.pu _ _ _ _ e hp

def Tb.plusF (T : Tb) (f : FuncId) (t : List AV → Option (List Cond × TypeId × Nat × Nat × (Nat → Nat → AV))) : Tb := { T with fre := fun g xs => bif Nat.beq g f then t xs else T.fre g xs }
def FreshT (P : Program) (objs : List (Nat × Obj)) (f : FuncId) (t : List AV → Option (List Cond × TypeId × Nat × Nat × (Nat → Nat → AV))) : Prop :=
  ∀ xs ps ty sz len els, t xs = some (ps, ty, sz, len, els) → (∀ p ∈ ps, p.holds) → FreshCall P objs f xs ty sz len els
theorem TbSound.plusF (h : TbSound P T) {f : FuncId} {t : List AV → Option (List Cond × TypeId × Nat × Nat × (Nat → Nat → AV))} (ht : FreshT P T.objs f t) : TbSound P (T.plusF f t) := by
  refine ⟨h.own, h.pu, fun g xs ps ty sz len els e hp => ?_⟩
  simp only [Tb.plusF] at e
  cases hb : Nat.beq g f with
  | true =>
    rw [hb] at e
    obtain rfl := Nat.eq_of_beq_eq_true hb
    exact ht _ _ _ _ _ _ e hp
  | false => rw [hb] at e; exact h.fre _ _ _ _ _ _ _ e hp

/-! ### Functions that hand back a slice in new memory -/

def freV (P : Program) (rs : List ResultVar) (t : TypeId) (sz len : Nat) (els : Nat → Nat → AV) (σ : Sig) : Prop :=
  match resL P σ rs with
  | some [.ns k 0 n] =>
    match σ.bl k with
    | .arr t' sz' L els' => t' = t ∧ sz' = sz ∧ n = len ∧ ∀ i j, i < len → j < sz → avM (els' i j) (els i j)
    | _ => False
  | some [.v (.slice none 0 0)] => len = 0
  | some [.xl _ _ n _] => n = 0 ∧ len = 0 ∧ False
  | _ => False

@[irreducible] def vcFresh (P : Program) (T : Tb) (f : FuncId) (an : Ann) (args : List AV) (t : TypeId) (sz len : Nat) (els : Nat → Nat → AV) : Prop :=
  match P.funcs[f]? with
  | some fn =>
    match fn.body with
    | some c =>
      match Nat.ble args.length fn.ntmps && !(fn.name == "runtime.NumGoroutine") with
      | true => bndL args → vcN P 6 c an (T.cx 0) (entry fn.ntmps args) (freV P fn.results.toList t sz len els) (fun _ _ => False) (freV P fn.results.toList t sz len els)
      | false => False
    | none => False
  | none => False

theorem fre_sound {fn : Func} {w0 : World} {S : Nat → Prop} {σ : Sig} {a : Act} {w : World} {t : TypeId} {sz len : Nat} {els : Nat → Nat → AV} {n : Nat} (h : freV P fn.results.toList t sz len els σ) (hst : St { w0 := w0, X := fun _ => False, S0 := S, G := T.cx 0, r0 := rho0 } σ a w) :
    LeavesInM (FW none) n P fn a.tmps (fun e w' => Below w0.heap.size w0 w' ∧ ∃ rv, e = .returned rv ∧ FreshV S w0 w' t sz len els rv) a.defers .returning w := by
  obtain ⟨S1, ρ1, hM, hF, hD⟩ := hst
  refine leaves_marks a.defers w S1 hD fun w' hs => ?_
  obtain ⟨S2, hM2, hsub, hkeep⟩ := shut_mem hM hD hs
  have hF2 : FrR w' S2 ρ1 σ.n σ.tm { tmps := a.tmps, defers := [] } := ⟨hF.1, fun t ht => (hF.2 t ht).mono' hkeep⟩
  have hbelow : Below w0.heap.size w0 w' := ⟨hM2.fr.os, hM2.fr.tape, hM2.fr.output, hM2.fr.size, fun k hk => hM2.fr.block k hk fun hx => hx.elim⟩
  unfold freV at h
  split at h
  · rename_i k n' hxs
    obtain ⟨g, hrun, hrel⟩ := resL_sound hM2 hF2 _ _ hxs
    cases hb : σ.bl k with
    | arr t' sz' L els' =>
      rw [hb] at h
      obtain ⟨rfl, rfl, rfl, h4⟩ := h
      have hr := pack_rel hrel
      have hbk := hM2.at k
      refine ⟨_, run_results hrun, hbelow, _, rfl, ?_⟩
      obtain ⟨pv, hpv⟩ : ∃ pv, packV (fn.results.toList.map g) = pv := ⟨_, rfl⟩
      rw [hpv] at hr ⊢
      cases hr with
      | ns g' base cap sz2 L' hk hl hc =>
        have hbk := hbk.resolve_left (by rw [hk]; simp)
        have hb0 := hM2.b0 _ _ _ _ _ _ hk
        subst hb0
        rw [hb, hk] at hbk
        obtain ⟨e1, e2, h1, h2, c, h3, h5, h6⟩ := hbk
        subst e1; subst e2
        obtain ⟨hno, hnew⟩ := hM2.own k g' (by rw [hk]; rfl)
        refine .inr ⟨g', cap, c, by simp, ?_, h3, by omega, h2, by simpa using h5, fun i j hi hj => ?_⟩
        · rcases hnew with hnew | hnew
          · exact hnew
          · exact hnew.elim
        · have := h6 i j (by omega) hj
          rw [Nat.zero_add] at this
          refine ⟨avM_sound (this.1.mono (fun b hb => ⟨?_, rfl⟩) (OwnLe.refl _)) (h4 i j hi hj), this.2⟩
          rcases hM2.sub b hb with q | q | q
          · exact .inl q.1
          · exact q.elim
          · exact .inr ⟨q, hM2.sb b hb, fun e => hno (e ▸ hb)⟩
      | ns0 g' base cap sz2 L' A hk hl hc h0 => exact .inl ⟨rfl, _, rfl⟩
      | nsn sz2 o hk => exact .inl ⟨rfl, _, rfl⟩
      | dns hd hsh =>
        have hbk := hbk.resolve_left (by rw [hd]; simp)
        rw [hb, hd] at hbk
        exact hbk.elim
    | _ => rw [hb] at h; exact h.elim
  · rename_i hxs
    obtain ⟨g, hrun, hrel⟩ := resL_sound hM2 hF2 _ _ hxs
    have hr := pack_rel hrel
    refine ⟨_, run_results hrun, hbelow, _, rfl, .inl ⟨h, none, ?_⟩⟩
    exact rel_v hr
  · exact h.2.2.elim
  · exact h.elim

theorem fresh_of_vc {f : FuncId} {an : Ann} {args : List AV} {t : TypeId} {sz len : Nat} {els : Nat → Nat → AV} (hm : P.follows .mixedOrders = true) (hT : TbSound P T) (h : vcFresh P T f an args t sz len els) : FreshCall P T.objs f args t sz len els := by
  unfold vcFresh at h
  split at h
  · rename_i fn hf
    split at h
    · rename_i c hb
      split at h
      · rename_i hc
        simp only [Bool.and_eq_true, Bool.not_eq_true'] at hc
        refine ⟨Go.Proofs.enters_of hf hc.2 hb, fun w S vals hS hG hr => ?_⟩
        refine FW_calls.1 (callsIn_of_wp_marks (F := FW none) (n := 0) hf hb trivial ?_)
        exact vcN_sound hm 6 c an { w0 := w, X := fun _ => False, S0 := S, G := T.cx 0, r0 := rho0 } _ _ _ _ _ _ _ none 0 (hT.cx 0) ⟨fun b hb => ⟨hS b hb, fun h => h⟩, fun _ _ => rfl, fun p T h => (by cases h)⟩ rfl (h hr.bnd) (entry_st hS hG hr (Nat.le_of_ble_eq_true hc.1)) (fun σ a w hk hst => fre_sound hk hst) (fun i σ a w hk _ => hk.elim) fun σ a w hk hst => fre_sound hk hst
      · exact h.elim
    · exact h.elim
  · exact h.elim
end
end Go.Sx
