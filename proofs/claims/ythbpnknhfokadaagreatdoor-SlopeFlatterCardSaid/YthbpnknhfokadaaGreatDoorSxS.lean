/- All bodies looked through, some with annotations. -/
import Derived.Test.YthbpnknhfokadaaGreatDoorSxU
set_option linter.unusedSimpArgs false
set_option linter.unusedVariables false
namespace Go.Sx
open Go Go.RowKit
structure fy (x y : AV) : Prop where
 h : zd x y
def LO (P : Program) (rs : List ResultVar) (chk : AV → Bool) (σ : zJ) : Prop :=
 match rQ P σ rs with
 | some xs =>
  match Y4 σ xs with
  | some (_, xs') =>
   match xs'.any AV.hasOwn with
   | true => False
   | false => zZ (chk (Vs xs')) True (ZD (Vs xs'))
  | none => False
 | none => False
theorem Tl {P : Program} {rs : List ResultVar} {chk : AV → Bool} {r : AV} (hc : ∀ x, chk x = true → zd x r) {σ : zJ} (h : LO P rs chk σ) : O1 P rs r σ := by
 unfold LO at h
 unfold O1
 cases h1 : rQ P σ rs with
 | none => rw [h1] at h; exact h.elim
 | some xs =>
  simp only [h1] at h ⊢
  cases h2 : Y4 σ xs with
  | none => rw [h2] at h; exact h.elim
  | some q =>
   obtain ⟨σ', xs'⟩ := q
   simp only [h2] at h ⊢
   cases h3 : xs'.any AV.hasOwn with
   | true => rw [h3] at h; exact h.elim
   | false =>
    rw [h3] at h
    simp only at h ⊢
    cases h4 : chk (Vs xs') with
    | true => exact jO.2 (hc _ h4)
    | false => rw [h4] at h; exact h.elim
@[irreducible] def pd (P : Program) (T : Tb) (f : FuncId) (an : yQ) (args : List AV) (chk : AV → Bool) : Prop :=
 match P.funcs[f]? with
 | some fn =>
  match fn.body with
  | some c =>
   match Nat.ble args.length fn.ntmps && !(fn.name == "runtime.NumGoroutine") with
   | true => iD P 6 c an (T.cx 0) (entry fn.ntmps args) (LO P fn.results.toList chk) (fun _ _ => False) (LO P fn.results.toList chk)
   | false => False
  | none => False
 | none => False
theorem Oe {P : Program} {T : Tb} {f : FuncId} {an : yQ} {args : List AV} {chk : AV → Bool} {r : AV} (hT : zz P T) (hc : ∀ x, chk x = true → zd x r) (h : pd P T f an args chk) : vm P T f an args r := by
 unfold pd at h
 unfold vm
 cases h1 : P.funcs[f]? with
 | none => rw [h1] at h; exact h.elim
 | some fn =>
  simp only [h1] at h ⊢
  cases h2 : fn.body with
  | none => rw [h2] at h; exact h.elim
  | some c =>
   simp only [h2] at h ⊢
   cases h3 : Nat.ble args.length fn.ntmps && !(fn.name == "runtime.NumGoroutine") with
   | false => rw [h3] at h; exact h.elim
   | true =>
    rw [h3] at h
    exact fun _ => VX 6 c an (T.cx 0) _ _ _ _ _ _ _ (hT.cx 0) (fun _ => Tl hc) (fun _ _ h => h) (fun _ => Tl hc) h
theorem R2 {P : Program} {T : Tb} {f : FuncId} {an : yQ} {args : List AV} {chk : AV → Bool} {r : AV} (hm : P.follows .mixedOrders = true) (hT : zz P T) (hc : ∀ x, chk x = true → zd x r) (h : pd P T f an args chk) : zu P T.objs f args r :=
 zv hm hT (Oe hT hc h)
end Go.Sx
