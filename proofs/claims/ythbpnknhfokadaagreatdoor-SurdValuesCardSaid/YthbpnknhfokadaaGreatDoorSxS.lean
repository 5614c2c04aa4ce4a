/- All bodies looked through, some with annotations. -/
import Derived.Test.YthbpnknhfokadaaGreatDoorSxU
set_option linter.unusedSimpArgs false
set_option linter.unusedVariables false
namespace Go.Sx
open Go Go.RowKit
structure gC (x y : AV) : Prop where
 h : zd x y
def Lg (P : Program) (rs : List ResultVar) (chk : AV → Bool) (σ : zK) : Prop :=
 match Sz P σ rs with
 | some xs =>
  match YA σ xs with
  | some (_, xs') =>
   match xs'.any AV.hasOwn with
   | true => False
   | false => zZ (chk (VQ xs')) True (Zd (VQ xs'))
  | none => False
 | none => False
theorem TR {P : Program} {rs : List ResultVar} {chk : AV → Bool} {r : AV} (hc : ∀ x, chk x = true → zd x r) {σ : zK} (h : Lg P rs chk σ) : oE P rs r σ := by
 unfold Lg at h
 unfold oE
 cases h1 : Sz P σ rs with
 | none => rw [h1] at h; exact h.elim
 | some xs =>
  simp only [h1] at h ⊢
  cases h2 : YA σ xs with
  | none => rw [h2] at h; exact h.elim
  | some q =>
   obtain ⟨σ', xs'⟩ := q
   simp only [h2] at h ⊢
   cases h3 : xs'.any AV.hasOwn with
   | true => rw [h3] at h; exact h.elim
   | false =>
    rw [h3] at h
    simp only at h ⊢
    cases h4 : chk (VQ xs') with
    | true => exact KN.2 (hc _ h4)
    | false => rw [h4] at h; exact h.elim
@[irreducible] def PZ (P : Program) (T : Tb) (f : FuncId) (an : yt) (args : List AV) (chk : AV → Bool) : Prop :=
 match P.funcs[f]? with
 | some fn =>
  match fn.body with
  | some c =>
   match Nat.ble args.length fn.ntmps && !(fn.name == "runtime.NumGoroutine") with
   | true => Ji P 6 c an (T.cx 0) (entry fn.ntmps args) (Lg P fn.results.toList chk) (fun _ _ => False) (Lg P fn.results.toList chk)
   | false => False
  | none => False
 | none => False
theorem oe {P : Program} {T : Tb} {f : FuncId} {an : yt} {args : List AV} {chk : AV → Bool} {r : AV} (hT : zz P T) (hc : ∀ x, chk x = true → zd x r) (h : PZ P T f an args chk) : vR P T f an args r := by
 unfold PZ at h
 unfold vR
 cases h1 : P.funcs[f]? with
 | none => rw [h1] at h; exact h.elim
 | some fn =>
  simp only [h1] at h ⊢
  cases h2 : fn.body with
  | none => rw [h2] at h; exact h.elim
  | some c =>
   simp only [h2] at h ⊢
   cases h3 : Nat.ble args.length fn.ntmps && !(fn.name == "runtime.NumGoroutine") with
   | false => rw [h3] at h; exact h.elim
   | true =>
    rw [h3] at h
    exact fun _ => v7 6 c an (T.cx 0) _ _ _ _ _ _ _ (hT.cx 0) (fun _ => TR hc) (fun _ _ h => h) (fun _ => TR hc) h
theorem Rj {P : Program} {T : Tb} {f : FuncId} {an : yt} {args : List AV} {chk : AV → Bool} {r : AV} (hm : P.follows .mixedOrders = true) (hT : zz P T) (hc : ∀ x, chk x = true → zd x r) (h : PZ P T f an args chk) : zt P T.objs f args r :=
 zW hm hT (oe hT hc h)
end Go.Sx
