/- All bodies looked through, some with annotations. -/
import Derived.Test.YthbpnknhfokadaaGreatDoorSxU
set_option linter.unusedSimpArgs false
set_option linter.unusedVariables false
namespace Go.Sx
open Go Go.RowKit
structure Hi (x y : AV) : Prop where
 h : zE x y
def Mb (P : Program) (rs : List ResultVar) (chk : AV → Bool) (σ : zK) : Prop :=
 match Tc P σ rs with
 | some xs =>
  match YC σ xs with
  | some (_, xs') =>
   match xs'.any AV.hasOwn with
   | true => False
   | false => zZ (chk (VS xs')) True (Ze (VS xs'))
  | none => False
 | none => False
theorem tF {P : Program} {rs : List ResultVar} {chk : AV → Bool} {r : AV} (hc : ∀ x, chk x = true → zE x r) {σ : zK} (h : Mb P rs chk σ) : ot P rs r σ := by
 unfold Mb at h
 unfold ot
 cases h1 : Tc P σ rs with
 | none => rw [h1] at h; exact h.elim
 | some xs =>
  simp only [h1] at h ⊢
  cases h2 : YC σ xs with
  | none => rw [h2] at h; exact h.elim
  | some q =>
   obtain ⟨σ', xs'⟩ := q
   simp only [h2] at h ⊢
   cases h3 : xs'.any AV.hasOwn with
   | true => rw [h3] at h; exact h.elim
   | false =>
    rw [h3] at h
    simp only at h ⊢
    cases h4 : chk (VS xs') with
    | true => exact kW.2 (hc _ h4)
    | false => rw [h4] at h; exact h.elim
@[irreducible] def Qq (P : Program) (T : Tb) (f : FuncId) (an : yW) (args : List AV) (chk : AV → Bool) : Prop :=
 match P.funcs[f]? with
 | some fn =>
  match fn.body with
  | some c =>
   match Nat.ble args.length fn.ntmps && !(fn.name == "runtime.NumGoroutine") with
   | true => jq P 6 c an (T.cx 0) (entry fn.ntmps args) (Mb P fn.results.toList chk) (fun _ _ => False) (Mb P fn.results.toList chk)
   | false => False
  | none => False
 | none => False
theorem Pn {P : Program} {T : Tb} {f : FuncId} {an : yW} {args : List AV} {chk : AV → Bool} {r : AV} (hT : zz P T) (hc : ∀ x, chk x = true → zE x r) (h : Qq P T f an args chk) : vV P T f an args r := by
 unfold Qq at h
 unfold vV
 cases h1 : P.funcs[f]? with
 | none => rw [h1] at h; exact h.elim
 | some fn =>
  simp only [h1] at h ⊢
  cases h2 : fn.body with
  | none => rw [h2] at h; exact h.elim
  | some c =>
   simp only [h2] at h ⊢
   cases h3 : Nat.ble args.length fn.ntmps && !(fn.name == "runtime.NumGoroutine") with
   | false => rw [h3] at h; exact h.elim
   | true =>
    rw [h3] at h
    exact fun _ => vQ 6 c an (T.cx 0) _ _ _ _ _ _ _ (hT.cx 0) (fun _ => tF hc) (fun _ _ h => h) (fun _ => tF hc) h
theorem rJ {P : Program} {T : Tb} {f : FuncId} {an : yW} {args : List AV} {chk : AV → Bool} {r : AV} (hm : P.follows .mixedOrders = true) (hT : zz P T) (hc : ∀ x, chk x = true → zE x r) (h : Qq P T f an args chk) : zt P T.objs f args r :=
 zW hm hT (Pn hT hc h)
end Go.Sx
