/- Functions that change memory of the caller's own: what a call leaves, from the body's verification condition. -/
import Derived.Test.YtojonobehnbeiaaDoorSxU
namespace Go.Sx
open Go Go.RowKit

section
variable {P : Program} {G : Cx}

/-! ### The body of a function, in the caller's memory -/

def retO (P : Program) (rs : List ResultVar) (k : Nat → (Nat → OB) → AV → Prop) (σ : Sig) : Prop :=
  match resL P σ rs with
  | some xs => k σ.nb σ.bl (packAV xs)
  | none => False

def vcIn (P : Program) (T : Tb) (f : FuncId) (an : Ann) (nb : Nat) (bl : Nat → OB) (xs : List AV) (k : Nat → (Nat → OB) → AV → Prop) : Prop :=
  match P.funcs[f]? with
  | some fn =>
    match fn.body with
    | some c =>
      match Nat.ble xs.length fn.ntmps && !(fn.name == "runtime.NumGoroutine") with
      | true => vcN P 6 c an (T.cx nb) { n := fn.ntmps, tm := listFn xs, nb := nb, bl := bl } (retO P fn.results.toList k) (fun _ _ => False) (retO P fn.results.toList k)
      | false => False
    | none => False
  | none => False

theorem retO_mono {rs : List ResultVar} {k k' : Nat → (Nat → OB) → AV → Prop} (h : ∀ nb bl x, k nb bl x → k' nb bl x) (σ : Sig) (hv : retO P rs k σ) : retO P rs k' σ := by
  unfold retO at hv ⊢
  split at hv
  · exact h _ _ _ hv
  · exact hv.elim
end

section
variable {P : Program} {T : Tb}

theorem vcIn_mono (hT : TbSound P T) {f : FuncId} {an : Ann} {nb : Nat} {bl : Nat → OB} {xs : List AV} {k k' : Nat → (Nat → OB) → AV → Prop}
    (h : ∀ nb bl x, k nb bl x → k' nb bl x) (hv : vcIn P T f an nb bl xs k) : vcIn P T f an nb bl xs k' := by
  unfold vcIn at hv ⊢
  split at hv
  · split at hv
    · split at hv
      · exact vcN_mono 6 _ _ _ _ _ _ _ _ _ _ (hT.cx nb) (retO_mono h) (fun _ _ h => h) (retO_mono h) hv
      · exact hv.elim
    · exact hv.elim
  · exact hv.elim

theorem back_sound {E : Env} {nb : Nat} {bl : Nat → OB} {S : Nat → Prop} {ρ : Nat → Own} {w : World} {k : Nat → (Nat → OB) → AV → Prop} {fn : Func} {σ : Sig} {a : Act} {w1 : World} {n : Nat} (hM : Mem E nb bl S ρ w)
    (h : retO P fn.results.toList k σ) (hst : St (inE w S ρ (T.cx nb)) σ a w1) :
    LeavesInM (FW none) n P fn a.tmps (Back E S ρ w k) a.defers .returning w1 := by
  refine shut_outer hM rfl hst fun w2 S2 ρ2 m1 m2 m3 _ m5 => ?_
  unfold retO at h
  split at h
  · rename_i xs hxs
    obtain ⟨g, hrun, hrel⟩ := resL_sound m1 m5 _ _ hxs
    exact ⟨_, run_results hrun, _, _, S2, ρ2, _, _, rfl, h, m1, m2, m3, pack_rel hrel⟩
  · exact h.elim

theorem own_of_vc (hm : P.follows .mixedOrders = true) (hT : TbSound P T) {f : FuncId} {an : Ann} {fn : Func} {c : Code} (hf : P.funcs[f]? = some fn) (hb : fn.body = some c)
    (hn : (fn.name == "runtime.NumGoroutine") = false) : OwnT P T.objs f (vcIn P T f an) := by
  refine ⟨Go.Proofs.enters_of hf hn hb, fun nb bl xs k k' h hv => vcIn_mono hT h hv, fun E nb bl S ρ w xs vs k hEG hM hx hv => ?_⟩
  unfold vcIn at hv
  rw [hf] at hv
  simp only [hb] at hv
  split at hv
  · rename_i hc
    simp only [Bool.and_eq_true] at hc
    have hlen : xs.length ≤ fn.ntmps := Nat.le_of_ble_eq_true hc.1
    obtain ⟨hl, hget⟩ := hx.get
    refine FW_calls.1 (callsIn_of_wp_marks (F := FW none) (n := 0) hf hb trivial ?_)
    exact vcN_sound hm 6 c an (inE w S ρ (T.cx nb)) _ _ _ _ _ _ _ none 0 (hT.cx nb) ⟨hM.inner_base, hM.hi, fun p T h => (by cases h)⟩ rfl hv
      ⟨S, ρ, hM.inner hEG.symm rfl, args_fr hx hlen, ⟨List.Pairwise.nil, fun d hd => (by cases hd)⟩⟩ (fun σ a w1 hk hst => back_sound hM hk hst)
      (fun i σ a w hk _ => hk.elim) fun σ a w1 hk hst => back_sound hM hk hst
  · exact hv.elim

/-- The bodies of some functions are looked through, in the memory of the caller. -/
def bodyOf (P : Program) (T : Tb) (f : FuncId) (an : Ann) : Option (Nat → (Nat → OB) → List AV → (Nat → (Nat → OB) → AV → Prop) → Prop) :=
  match P.funcs[f]? with
  | some fn =>
    match fn.body with
    | some _ => (match fn.name == "runtime.NumGoroutine" with | true => none | false => some (vcIn P T f an))
    | none => none
  | none => none

theorem bodyOf_sound (hm : P.follows .mixedOrders = true) (hT : TbSound P T) {f : FuncId} {an : Ann} {t : Nat → (Nat → OB) → List AV → (Nat → (Nat → OB) → AV → Prop) → Prop} (h : bodyOf P T f an = some t) : OwnT P T.objs f t := by
  unfold bodyOf at h
  split at h
  · rename_i fn hf
    split at h
    · rename_i c hb
      split at h
      · cases h
      · rename_i hn
        cases h
        exact own_of_vc hm hT hf hb hn
    · cases h
  · cases h

def lkA : List (FuncId × Ann) → FuncId → Option Ann
  | [], _ => none
  | (g, a) :: l, f => bif Nat.beq g f then some a else lkA l f

/-- These functions' bodies are looked through, over a table. -/
def Tb.body (P : Program) (T : Tb) (l : List (FuncId × Ann)) : Tb := { T with own := fun f => match lkA l f with | some an => bodyOf P T f an | none => T.own f }
theorem TbSound.body (hm : P.follows .mixedOrders = true) (hT : TbSound P T) (l : List (FuncId × Ann)) : TbSound P (T.body P l) := by
  refine ⟨fun f t h => ?_, hT.pu, hT.fre⟩
  simp only [Tb.body] at h
  split at h
  · exact bodyOf_sound hm hT h
  · exact hT.own _ _ h

/-- All bodies are looked through, so many calls deep; loops are gone through round by round. -/
def Tb.deep (P : Program) (T : Tb) : Nat → Tb
  | 0 => { T with conc := true }
  | n + 1 => { T with own := fun f => bodyOf P (Tb.deep P T n) f .auto, conc := true }
theorem deep_objs (P : Program) (T : Tb) : ∀ n, (T.deep P n).objs = T.objs
  | 0 => rfl
  | _ + 1 => rfl
theorem TbSound.deep (hm : P.follows .mixedOrders = true) (hT : TbSound P T) : ∀ n, TbSound P (T.deep P n)
  | 0 => ⟨hT.own, hT.pu, hT.fre⟩
  | n + 1 => ⟨fun f t h => by
      have := bodyOf_sound hm (TbSound.deep hm hT n) h
      rw [deep_objs] at this
      exact this, hT.pu, hT.fre⟩
end
end Go.Sx
