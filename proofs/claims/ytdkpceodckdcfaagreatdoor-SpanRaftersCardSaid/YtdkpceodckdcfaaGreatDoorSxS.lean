/- All bodies looked through, some with annotations. -/
import Derived.Test.YtdkpceodckdcfaaGreatDoorSxU
set_option linter.unusedSimpArgs false
set_option linter.unusedVariables false
namespace Go.Sx
open Go Go.RowKit
def Tb.deepX (P : Program) (T : Tb) (ex : List FuncId) : Nat → Tb
 | 0 => { T with conc := true }
 | n + 1 => { T with own := fun f => bif ex.any (fun g => Nat.beq g f) then T.own f else bodyOf P (Tb.deepX P T ex n) f .auto, conc := true }
theorem deepX_objs (P : Program) (T : Tb) (ex : List FuncId) : ∀ n, (T.deepX P ex n).objs = T.objs
 | 0 => rfl
 | _ + 1 => rfl
theorem TbSound.deepX {P : Program} {T : Tb} (hm : P.follows .mixedOrders = true) (hT : TbSound P T) (ex : List FuncId) : ∀ n, TbSound P (T.deepX P ex n)
 | 0 => ⟨hT.own, hT.pu, hT.fre⟩
 | n + 1 => ⟨fun f t h => by
   simp only [Tb.deepX] at h
   cases hx : ex.any (fun g => Nat.beq g f) with
   | true => rw [hx] at h; exact hT.own _ _ h
   | false =>
    rw [hx] at h
    have := bodyOf_sound hm (TbSound.deepX hm hT ex n) h
    rw [deepX_objs] at this
    exact this, hT.pu, hT.fre⟩
structure AvW (x y : AV) : Prop where
 h : avM x y
def retC (P : Program) (rs : List ResultVar) (chk : AV → Bool) (σ : Sig) : Prop :=
 match resL P σ rs with
 | some xs =>
  match closeAll σ xs with
  | some (_, xs') =>
   match xs'.any AV.hasOwn with
   | true => False
   | false => bsplit (chk (packAV xs')) True (Fail (packAV xs'))
  | none => False
 | none => False
theorem retV_of_C {P : Program} {rs : List ResultVar} {chk : AV → Bool} {r : AV} (hc : ∀ x, chk x = true → avM x r) {σ : Sig} (h : retC P rs chk σ) : retV P rs r σ := by
 unfold retC at h
 unfold retV
 cases h1 : resL P σ rs with
 | none => rw [h1] at h; exact h.elim
 | some xs =>
  simp only [h1] at h ⊢
  cases h2 : closeAll σ xs with
  | none => rw [h2] at h; exact h.elim
  | some q =>
   obtain ⟨σ', xs'⟩ := q
   simp only [h2] at h ⊢
   cases h3 : xs'.any AV.hasOwn with
   | true => rw [h3] at h; exact h.elim
   | false =>
    rw [h3] at h
    simp only at h ⊢
    cases h4 : chk (packAV xs') with
    | true => exact avR_M.2 (hc _ h4)
    | false => rw [h4] at h; exact h.elim
@[irreducible] def vcFnC (P : Program) (T : Tb) (f : FuncId) (an : Ann) (args : List AV) (chk : AV → Bool) : Prop :=
 match P.funcs[f]? with
 | some fn =>
  match fn.body with
  | some c =>
   match Nat.ble args.length fn.ntmps && !(fn.name == "runtime.NumGoroutine") with
   | true => vcN P 6 c an (T.cx 0) (entry fn.ntmps args) (retC P fn.results.toList chk) (fun _ _ => False) (retC P fn.results.toList chk)
   | false => False
  | none => False
 | none => False
theorem vcFn_of_C {P : Program} {T : Tb} {f : FuncId} {an : Ann} {args : List AV} {chk : AV → Bool} {r : AV} (hT : TbSound P T) (hc : ∀ x, chk x = true → avM x r) (h : vcFnC P T f an args chk) : vcFn P T f an args r := by
 unfold vcFnC at h
 unfold vcFn
 cases h1 : P.funcs[f]? with
 | none => rw [h1] at h; exact h.elim
 | some fn =>
  simp only [h1] at h ⊢
  cases h2 : fn.body with
  | none => rw [h2] at h; exact h.elim
  | some c =>
   simp only [h2] at h ⊢
   cases h3 : Nat.ble args.length fn.ntmps && !(fn.name == "runtime.NumGoroutine") with
   | false => rw [h3] at h; exact h.elim
   | true =>
    rw [h3] at h
    exact fun _ => vcN_mono 6 c an (T.cx 0) _ _ _ _ _ _ _ (hT.cx 0) (fun _ => retV_of_C hc) (fun _ _ h => h) (fun _ => retV_of_C hc) h
theorem pure_of_vcC {P : Program} {T : Tb} {f : FuncId} {an : Ann} {args : List AV} {chk : AV → Bool} {r : AV} (hm : P.follows .mixedOrders = true) (hT : TbSound P T) (hc : ∀ x, chk x = true → avM x r) (h : vcFnC P T f an args chk) : PureCall P T.objs f args r :=
 pure_of_vc hm hT (vcFn_of_C hT hc h)
end Go.Sx
