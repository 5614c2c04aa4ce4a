/- All bodies looked through, some with annotations. -/
import Derived.Test.YtgpbohfbhfbelaaGreatDoorSxU
set_option linter.unusedSimpArgs false
set_option linter.unusedVariables false
namespace Go.Sx
open Go Go.RowKit
structure EG (x y : AV) : Prop where
 h : zi x y
def jV (P : Program) (rs : List ResultVar) (chk : AV → Bool) (σ : zh) : Prop :=
 match S9 P σ rs with
 | some xs =>
  match Y8 σ xs with
  | some (_, xs') =>
   match xs'.any AV.hasOwn with
   | true => False
   | false => zZ (chk (uT xs')) True (Ze (uT xs'))
  | none => False
 | none => False
theorem sL {P : Program} {rs : List ResultVar} {chk : AV → Bool} {r : AV} (hc : ∀ x, chk x = true → zi x r) {σ : zh} (h : jV P rs chk σ) : OT P rs r σ := by
 unfold jV at h
 unfold OT
 cases h1 : S9 P σ rs with
 | none => rw [h1] at h; exact h.elim
 | some xs =>
  simp only [h1] at h ⊢
  cases h2 : Y8 σ xs with
  | none => rw [h2] at h; exact h.elim
  | some q =>
   obtain ⟨σ', xs'⟩ := q
   simp only [h2] at h ⊢
   cases h3 : xs'.any AV.hasOwn with
   | true => rw [h3] at h; exact h.elim
   | false =>
    rw [h3] at h
    simp only at h ⊢
    cases h4 : chk (uT xs') with
    | true => exact Jk.2 (hc _ h4)
    | false => rw [h4] at h; exact h.elim
@[irreducible] def oW (P : Program) (T : Tb) (f : FuncId) (an : yV) (args : List AV) (chk : AV → Bool) : Prop :=
 match P.funcs[f]? with
 | some fn =>
  match fn.body with
  | some c =>
   match Nat.ble args.length fn.ntmps && !(fn.name == "runtime.NumGoroutine") with
   | true => Ic P 6 c an (T.cx 0) (entry fn.ntmps args) (jV P fn.results.toList chk) (fun _ _ => False) (jV P fn.results.toList chk)
   | false => False
  | none => False
 | none => False
theorem nP {P : Program} {T : Tb} {f : FuncId} {an : yV} {args : List AV} {chk : AV → Bool} {r : AV} (hT : zz P T) (hc : ∀ x, chk x = true → zi x r) (h : oW P T f an args chk) : vP P T f an args r := by
 unfold oW at h
 unfold vP
 cases h1 : P.funcs[f]? with
 | none => rw [h1] at h; exact h.elim
 | some fn =>
  simp only [h1] at h ⊢
  cases h2 : fn.body with
  | none => rw [h2] at h; exact h.elim
  | some c =>
   simp only [h2] at h ⊢
   cases h3 : Nat.ble args.length fn.ntmps && !(fn.name == "runtime.NumGoroutine") with
   | false => rw [h3] at h; exact h.elim
   | true =>
    rw [h3] at h
    exact fun _ => VK 6 c an (T.cx 0) _ _ _ _ _ _ _ (hT.cx 0) (fun _ => sL hc) (fun _ _ h => h) (fun _ => sL hc) h
theorem qI {P : Program} {T : Tb} {f : FuncId} {an : yV} {args : List AV} {chk : AV → Bool} {r : AV} (hm : P.follows .mixedOrders = true) (hT : zz P T) (hc : ∀ x, chk x = true → zi x r) (h : oW P T f an args chk) : zv P T.objs f args r :=
 zW hm hT (nP hT hc h)
end Go.Sx
