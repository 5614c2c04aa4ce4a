/- All bodies looked through, some with annotations. -/
import Derived.Test.YtdkpceodckdcfaaGreatDoorSxU
set_option linter.unusedSimpArgs false
set_option linter.unusedVariables false
namespace Go.Sx
open Go Go.RowKit
def Tb.deepX (P : Program) (T : Tb) (ex : List FuncId) : Nat → Tb
 | 0 => { T with conc := true }
 | n + 1 => { T with own := fun f => bif ex.any (fun g => Nat.beq g f) then T.own f else un P (Tb.deepX P T ex n) f .auto, conc := true }
theorem t8 (P : Program) (T : Tb) (ex : List FuncId) : ∀ n, (T.deepX P ex n).objs = T.objs
 | 0 => rfl
 | _ + 1 => rfl
theorem zZ.deepX {P : Program} {T : Tb} (hm : P.follows .mixedOrders = true) (hT : zZ P T) (ex : List FuncId) : ∀ n, zZ P (T.deepX P ex n)
 | 0 => ⟨hT.own, hT.pu, hT.fre⟩
 | n + 1 => ⟨fun f t h => by
   simp only [Tb.deepX] at h
   cases hx : ex.any (fun g => Nat.beq g f) with
   | true => rw [hx] at h; exact hT.own _ _ h
   | false =>
    rw [hx] at h
    have := XC hm (zZ.deepX hm hT ex n) h
    rw [t8] at this
    exact this, hT.pu, hT.fre⟩
structure oP (x y : AV) : Prop where
 h : zc x y
def qJ (P : Program) (rs : List ResultVar) (chk : AV → Bool) (σ : zw) : Prop :=
 match uX P σ rs with
 | some xs =>
  match yq σ xs with
  | some (_, xs') =>
   match xs'.any AV.hasOwn with
   | true => False
   | false => zz (chk (X8 xs')) True (zb (X8 xs'))
  | none => False
 | none => False
theorem Vv {P : Program} {rs : List ResultVar} {chk : AV → Bool} {r : AV} (hc : ∀ x, chk x = true → zc x r) {σ : zw} (h : qJ P rs chk σ) : sN P rs r σ := by
 unfold qJ at h
 unfold sN
 cases h1 : uX P σ rs with
 | none => rw [h1] at h; exact h.elim
 | some xs =>
  simp only [h1] at h ⊢
  cases h2 : yq σ xs with
  | none => rw [h2] at h; exact h.elim
  | some q =>
   obtain ⟨σ', xs'⟩ := q
   simp only [h2] at h ⊢
   cases h3 : xs'.any AV.hasOwn with
   | true => rw [h3] at h; exact h.elim
   | false =>
    rw [h3] at h
    simp only at h ⊢
    cases h4 : chk (X8 xs') with
    | true => exact qC.2 (hc _ h4)
    | false => rw [h4] at h; exact h.elim
@[irreducible] def xV (P : Program) (T : Tb) (f : FuncId) (an : Z8) (args : List AV) (chk : AV → Bool) : Prop :=
 match P.funcs[f]? with
 | some fn =>
  match fn.body with
  | some c =>
   match Nat.ble args.length fn.ntmps && !(fn.name == "runtime.NumGoroutine") with
   | true => QL P 6 c an (T.cx 0) (entry fn.ntmps args) (qJ P fn.results.toList chk) (fun _ _ => False) (qJ P fn.results.toList chk)
   | false => False
  | none => False
 | none => False
theorem sn {P : Program} {T : Tb} {f : FuncId} {an : Z8} {args : List AV} {chk : AV → Bool} {r : AV} (hT : zZ P T) (hc : ∀ x, chk x = true → zc x r) (h : xV P T f an args chk) : uj P T f an args r := by
 unfold xV at h
 unfold uj
 cases h1 : P.funcs[f]? with
 | none => rw [h1] at h; exact h.elim
 | some fn =>
  simp only [h1] at h ⊢
  cases h2 : fn.body with
  | none => rw [h2] at h; exact h.elim
  | some c =>
   simp only [h2] at h ⊢
   cases h3 : Nat.ble args.length fn.ntmps && !(fn.name == "runtime.NumGoroutine") with
   | false => rw [h3] at h; exact h.elim
   | true =>
    rw [h3] at h
    exact fun _ => Xc 6 c an (T.cx 0) _ _ _ _ _ _ _ (hT.cx 0) (fun _ => Vv hc) (fun _ _ h => h) (fun _ => Vv hc) h
theorem Zt {P : Program} {T : Tb} {f : FuncId} {an : Z8} {args : List AV} {chk : AV → Bool} {r : AV} (hm : P.follows .mixedOrders = true) (hT : zZ P T) (hc : ∀ x, chk x = true → zc x r) (h : xV P T f an args chk) : zW P T.objs f args r :=
 zt hm hT (sn hT hc h)
end Go.Sx
