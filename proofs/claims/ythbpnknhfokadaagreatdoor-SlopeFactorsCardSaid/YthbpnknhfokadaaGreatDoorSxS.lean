/- All bodies looked through, some with annotations. -/
import Derived.Test.YthbpnknhfokadaaGreatDoorSxU
set_option linter.unusedSimpArgs false
set_option linter.unusedVariables false
namespace Go.Sx
open Go Go.RowKit
structure fX (x y : AV) : Prop where
 h : ze x y
def Kk (P : Program) (rs : List ResultVar) (chk : AV → Bool) (σ : zJ) : Prop :=
 match SN P σ rs with
 | some xs =>
  match Y6 σ xs with
  | some (_, xs') =>
   match xs'.any AV.hasOwn with
   | true => False
   | false => zZ (chk (VQ xs')) True (Zc (VQ xs'))
  | none => False
 | none => False
theorem Tt {P : Program} {rs : List ResultVar} {chk : AV → Bool} {r : AV} (hc : ∀ x, chk x = true → ze x r) {σ : zJ} (h : Kk P rs chk σ) : oG P rs r σ := by
 unfold Kk at h
 unfold oG
 cases h1 : SN P σ rs with
 | none => rw [h1] at h; exact h.elim
 | some xs =>
  simp only [h1] at h ⊢
  cases h2 : Y6 σ xs with
  | none => rw [h2] at h; exact h.elim
  | some q =>
   obtain ⟨σ', xs'⟩ := q
   simp only [h2] at h ⊢
   cases h3 : xs'.any AV.hasOwn with
   | true => rw [h3] at h; exact h.elim
   | false =>
    rw [h3] at h
    simp only at h ⊢
    cases h4 : chk (VQ xs') with
    | true => exact jt.2 (hc _ h4)
    | false => rw [h4] at h; exact h.elim
@[irreducible] def Pv (P : Program) (T : Tb) (f : FuncId) (an : yQ) (args : List AV) (chk : AV → Bool) : Prop :=
 match P.funcs[f]? with
 | some fn =>
  match fn.body with
  | some c =>
   match Nat.ble args.length fn.ntmps && !(fn.name == "runtime.NumGoroutine") with
   | true => J5 P 6 c an (T.cx 0) (entry fn.ntmps args) (Kk P fn.results.toList chk) (fun _ _ => False) (Kk P fn.results.toList chk)
   | false => False
  | none => False
 | none => False
theorem O1 {P : Program} {T : Tb} {f : FuncId} {an : yQ} {args : List AV} {chk : AV → Bool} {r : AV} (hT : zz P T) (hc : ∀ x, chk x = true → ze x r) (h : Pv P T f an args chk) : v7 P T f an args r := by
 unfold Pv at h
 unfold v7
 cases h1 : P.funcs[f]? with
 | none => rw [h1] at h; exact h.elim
 | some fn =>
  simp only [h1] at h ⊢
  cases h2 : fn.body with
  | none => rw [h2] at h; exact h.elim
  | some c =>
   simp only [h2] at h ⊢
   cases h3 : Nat.ble args.length fn.ntmps && !(fn.name == "runtime.NumGoroutine") with
   | false => rw [h3] at h; exact h.elim
   | true =>
    rw [h3] at h
    exact fun _ => vL 6 c an (T.cx 0) _ _ _ _ _ _ _ (hT.cx 0) (fun _ => Tt hc) (fun _ _ h => h) (fun _ => Tt hc) h
theorem RH {P : Program} {T : Tb} {f : FuncId} {an : yQ} {args : List AV} {chk : AV → Bool} {r : AV} (hm : P.follows .mixedOrders = true) (hT : zz P T) (hc : ∀ x, chk x = true → ze x r) (h : Pv P T f an args chk) : zu P T.objs f args r :=
 zv hm hT (O1 hT hc h)
end Go.Sx
