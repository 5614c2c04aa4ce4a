/- All bodies looked through, some with annotations. -/
import Derived.Test.YtdkpceodckdcfaaGreatDoorSxU
set_option linter.unusedSimpArgs false
set_option linter.unusedVariables false
namespace Go.Sx
open Go Go.RowKit
def Tb.deepX (P : Program) (T : Tb) (ex : List FuncId) : Nat → Tb
 | 0 => { T with conc := true }
 | n + 1 => { T with own := fun f => bif ex.any (fun g => Nat.beq g f) then T.own f else tF P (Tb.deepX P T ex n) f .auto, conc := true }
theorem QD (P : Program) (T : Tb) (ex : List FuncId) : ∀ n, (T.deepX P ex n).objs = T.objs
 | 0 => rfl
 | _ + 1 => rfl
theorem zY.deepX {P : Program} {T : Tb} (hm : P.follows .mixedOrders = true) (hT : zY P T) (ex : List FuncId) : ∀ n, zY P (T.deepX P ex n)
 | 0 => ⟨hT.own, hT.pu, hT.fre⟩
 | n + 1 => ⟨fun f t h => by
   simp only [Tb.deepX] at h
   cases hx : ex.any (fun g => Nat.beq g f) with
   | true => rw [hx] at h; exact hT.own _ _ h
   | false =>
    rw [hx] at h
    have := wg hm (zY.deepX hm hT ex n) h
    rw [QD] at this
    exact this, hT.pu, hT.fre⟩
structure fM (x y : AV) : Prop where
 h : zc x y
def jK (P : Program) (rs : List ResultVar) (chk : AV → Bool) (σ : ze) : Prop :=
 match SV P σ rs with
 | some xs =>
  match xZ σ xs with
  | some (_, xs') =>
   match xs'.any AV.hasOwn with
   | true => False
   | false => zZ (chk (V8 xs')) True (Z3 (V8 xs'))
  | none => False
 | none => False
theorem sT {P : Program} {rs : List ResultVar} {chk : AV → Bool} {r : AV} (hc : ∀ x, chk x = true → zc x r) {σ : ze} (h : jK P rs chk σ) : On P rs r σ := by
 unfold jK at h
 unfold On
 cases h1 : SV P σ rs with
 | none => rw [h1] at h; exact h.elim
 | some xs =>
  simp only [h1] at h ⊢
  cases h2 : xZ σ xs with
  | none => rw [h2] at h; exact h.elim
  | some q =>
   obtain ⟨σ', xs'⟩ := q
   simp only [h2] at h ⊢
   cases h3 : xs'.any AV.hasOwn with
   | true => rw [h3] at h; exact h.elim
   | false =>
    rw [h3] at h
    simp only at h ⊢
    cases h4 : chk (V8 xs') with
    | true => exact Jy.2 (hc _ h4)
    | false => rw [h4] at h; exact h.elim
@[irreducible] def wz (P : Program) (T : Tb) (f : FuncId) (an : yW) (args : List AV) (chk : AV → Bool) : Prop :=
 match P.funcs[f]? with
 | some fn =>
  match fn.body with
  | some c =>
   match Nat.ble args.length fn.ntmps && !(fn.name == "runtime.NumGoroutine") with
   | true => iM P 6 c an (T.cx 0) (entry fn.ntmps args) (jK P fn.results.toList chk) (fun _ _ => False) (jK P fn.results.toList chk)
   | false => False
  | none => False
 | none => False
theorem ot {P : Program} {T : Tb} {f : FuncId} {an : yW} {args : List AV} {chk : AV → Bool} {r : AV} (hT : zY P T) (hc : ∀ x, chk x = true → zc x r) (h : wz P T f an args chk) : SK P T f an args r := by
 unfold wz at h
 unfold SK
 cases h1 : P.funcs[f]? with
 | none => rw [h1] at h; exact h.elim
 | some fn =>
  simp only [h1] at h ⊢
  cases h2 : fn.body with
  | none => rw [h2] at h; exact h.elim
  | some c =>
   simp only [h2] at h ⊢
   cases h3 : Nat.ble args.length fn.ntmps && !(fn.name == "runtime.NumGoroutine") with
   | false => rw [h3] at h; exact h.elim
   | true =>
    rw [h3] at h
    exact fun _ => VZ 6 c an (T.cx 0) _ _ _ _ _ _ _ (hT.cx 0) (fun _ => sT hc) (fun _ _ h => h) (fun _ => sT hc) h
theorem yo {P : Program} {T : Tb} {f : FuncId} {an : yW} {args : List AV} {chk : AV → Bool} {r : AV} (hm : P.follows .mixedOrders = true) (hT : zY P T) (hc : ∀ x, chk x = true → zc x r) (h : wz P T f an args chk) : zS P T.objs f args r :=
 zV hm hT (ot hT hc h)
end Go.Sx
