/- All bodies looked through, some with annotations. -/
import Derived.Test.YthbpnknhfokadaaGreatDoorSxU
set_option linter.unusedSimpArgs false
set_option linter.unusedVariables false
namespace Go.Sx
open Go Go.RowKit
structure GV (x y : AV) : Prop where
 h : zb x y
def kD (P : Program) (rs : List ResultVar) (chk : AV → Bool) (σ : zi) : Prop :=
 match sj P σ rs with
 | some xs =>
  match Y9 σ xs with
  | some (_, xs') =>
   match xs'.any AV.hasOwn with
   | true => False
   | false => zZ (chk (VV xs')) True (ZE (VV xs'))
  | none => False
 | none => False
theorem TL {P : Program} {rs : List ResultVar} {chk : AV → Bool} {r : AV} (hc : ∀ x, chk x = true → zb x r) {σ : zi} (h : kD P rs chk σ) : PD P rs r σ := by
 unfold kD at h
 unfold PD
 cases h1 : sj P σ rs with
 | none => rw [h1] at h; exact h.elim
 | some xs =>
  simp only [h1] at h ⊢
  cases h2 : Y9 σ xs with
  | none => rw [h2] at h; exact h.elim
  | some q =>
   obtain ⟨σ', xs'⟩ := q
   simp only [h2] at h ⊢
   cases h3 : xs'.any AV.hasOwn with
   | true => rw [h3] at h; exact h.elim
   | false =>
    rw [h3] at h
    simp only at h ⊢
    cases h4 : chk (VV xs') with
    | true => exact Ke.2 (hc _ h4)
    | false => rw [h4] at h; exact h.elim
@[irreducible] def Qa (P : Program) (T : Tb) (f : FuncId) (an : yq) (args : List AV) (chk : AV → Bool) : Prop :=
 match P.funcs[f]? with
 | some fn =>
  match fn.body with
  | some c =>
   match Nat.ble args.length fn.ntmps && !(fn.name == "runtime.NumGoroutine") with
   | true => JL P 6 c an (T.cx 0) (entry fn.ntmps args) (kD P fn.results.toList chk) (fun _ _ => False) (kD P fn.results.toList chk)
   | false => False
  | none => False
 | none => False
theorem PG {P : Program} {T : Tb} {f : FuncId} {an : yq} {args : List AV} {chk : AV → Bool} {r : AV} (hT : zz P T) (hc : ∀ x, chk x = true → zb x r) (h : Qa P T f an args chk) : vK P T f an args r := by
 unfold Qa at h
 unfold vK
 cases h1 : P.funcs[f]? with
 | none => rw [h1] at h; exact h.elim
 | some fn =>
  simp only [h1] at h ⊢
  cases h2 : fn.body with
  | none => rw [h2] at h; exact h.elim
  | some c =>
   simp only [h2] at h ⊢
   cases h3 : Nat.ble args.length fn.ntmps && !(fn.name == "runtime.NumGoroutine") with
   | false => rw [h3] at h; exact h.elim
   | true =>
    rw [h3] at h
    exact fun _ => v8 6 c an (T.cx 0) _ _ _ _ _ _ _ (hT.cx 0) (fun _ => TL hc) (fun _ _ h => h) (fun _ => TL hc) h
theorem rH {P : Program} {T : Tb} {f : FuncId} {an : yq} {args : List AV} {chk : AV → Bool} {r : AV} (hm : P.follows .mixedOrders = true) (hT : zz P T) (hc : ∀ x, chk x = true → zb x r) (h : Qa P T f an args chk) : zU P T.objs f args r :=
 zW hm hT (PG hT hc h)
end Go.Sx
