/- All bodies looked through, some with annotations. -/
import Derived.Test.YthbpnknhfokadaaGreatDoorSxU
set_option linter.unusedSimpArgs false
set_option linter.unusedVariables false
namespace Go.Sx
open Go Go.RowKit
structure G5 (x y : AV) : Prop where
 h : zE x y
def lC (P : Program) (rs : List ResultVar) (chk : AV → Bool) (σ : zK) : Prop :=
 match s9 P σ rs with
 | some xs =>
  match Yb σ xs with
  | some (_, xs') =>
   match xs'.any AV.hasOwn with
   | true => False
   | false => zZ (chk (Vr xs')) True (ZE (Vr xs'))
  | none => False
 | none => False
theorem Tl {P : Program} {rs : List ResultVar} {chk : AV → Bool} {r : AV} (hc : ∀ x, chk x = true → zE x r) {σ : zK} (h : lC P rs chk σ) : O6 P rs r σ := by
 unfold lC at h
 unfold O6
 cases h1 : s9 P σ rs with
 | none => rw [h1] at h; exact h.elim
 | some xs =>
  simp only [h1] at h ⊢
  cases h2 : Yb σ xs with
  | none => rw [h2] at h; exact h.elim
  | some q =>
   obtain ⟨σ', xs'⟩ := q
   simp only [h2] at h ⊢
   cases h3 : xs'.any AV.hasOwn with
   | true => rw [h3] at h; exact h.elim
   | false =>
    rw [h3] at h
    simp only at h ⊢
    cases h4 : chk (Vr xs') with
    | true => exact jO.2 (hc _ h4)
    | false => rw [h4] at h; exact h.elim
@[irreducible] def Pz (P : Program) (T : Tb) (f : FuncId) (an : yS) (args : List AV) (chk : AV → Bool) : Prop :=
 match P.funcs[f]? with
 | some fn =>
  match fn.body with
  | some c =>
   match Nat.ble args.length fn.ntmps && !(fn.name == "runtime.NumGoroutine") with
   | true => IU P 6 c an (T.cx 0) (entry fn.ntmps args) (lC P fn.results.toList chk) (fun _ _ => False) (lC P fn.results.toList chk)
   | false => False
  | none => False
 | none => False
theorem OV {P : Program} {T : Tb} {f : FuncId} {an : yS} {args : List AV} {chk : AV → Bool} {r : AV} (hT : zz P T) (hc : ∀ x, chk x = true → zE x r) (h : Pz P T f an args chk) : vC P T f an args r := by
 unfold Pz at h
 unfold vC
 cases h1 : P.funcs[f]? with
 | none => rw [h1] at h; exact h.elim
 | some fn =>
  simp only [h1] at h ⊢
  cases h2 : fn.body with
  | none => rw [h2] at h; exact h.elim
  | some c =>
   simp only [h2] at h ⊢
   cases h3 : Nat.ble args.length fn.ntmps && !(fn.name == "runtime.NumGoroutine") with
   | false => rw [h3] at h; exact h.elim
   | true =>
    rw [h3] at h
    exact fun _ => vA 6 c an (T.cx 0) _ _ _ _ _ _ _ (hT.cx 0) (fun _ => Tl hc) (fun _ _ h => h) (fun _ => Tl hc) h
theorem rj {P : Program} {T : Tb} {f : FuncId} {an : yS} {args : List AV} {chk : AV → Bool} {r : AV} (hm : P.follows .mixedOrders = true) (hT : zz P T) (hc : ∀ x, chk x = true → zE x r) (h : Pz P T f an args chk) : zU P T.objs f args r :=
 zW hm hT (OV hT hc h)
end Go.Sx
