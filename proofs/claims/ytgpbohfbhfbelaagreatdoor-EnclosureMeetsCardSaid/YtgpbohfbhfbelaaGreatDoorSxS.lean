/- All bodies looked through, some with annotations. -/
import Derived.Test.YtgpbohfbhfbelaaGreatDoorSxU
set_option linter.unusedSimpArgs false
set_option linter.unusedVariables false
namespace Go.Sx
open Go Go.RowKit
def Tb.deepX (P : Program) (T : Tb) (ex : List FuncId) : Nat → Tb
 | 0 => { T with conc := true }
 | n + 1 => { T with own := fun f => bif ex.any (fun g => Nat.beq g f) then T.own f else tt P (Tb.deepX P T ex n) f .auto, conc := true, frm := fun f => ex.any (fun g => Nat.beq g f) && T.frm f }
theorem P2 (P : Program) (T : Tb) (ex : List FuncId) : ∀ n, (T.deepX P ex n).objs = T.objs
 | 0 => rfl
 | _ + 1 => rfl
theorem zZ.deepX {P : Program} {T : Tb} (hm : P.follows .mixedOrders = true) (hT : zZ P T) (ex : List FuncId) : ∀ n, zZ P (T.deepX P ex n)
 | 0 => ⟨hT.own, hT.pu, hT.fre, hT.frm⟩
 | n + 1 => ⟨fun f t h => by
   simp only [Tb.deepX] at h
   cases hx : ex.any (fun g => Nat.beq g f) with
   | true => rw [hx] at h; exact hT.own _ _ h
   | false =>
    rw [hx] at h
    have := wF hm (zZ.deepX hm hT ex n) h
    rw [P2] at this
    exact this, hT.pu, hT.fre, fun f t h e => by
   simp only [Tb.deepX, Bool.and_eq_true] at h e
   rw [h.1] at e
   exact hT.frm f t h.2 e⟩
structure Ed (x y : AV) : Prop where
 h : zB x y
def kf (P : Program) (rs : List ResultVar) (chk : AV → Bool) (σ : zo) : Prop :=
 match SB P σ rs with
 | some xs =>
  match YE σ xs with
  | some (_, xs') =>
   match xs'.any AV.hasOwn with
   | true => False
   | false => zY (chk (uW xs')) True (ZH (uW xs'))
  | none => False
 | none => False
theorem Sn {P : Program} {rs : List ResultVar} {chk : AV → Bool} {r : AV} (hc : ∀ x, chk x = true → zB x r) {σ : zo} (h : kf P rs chk σ) : nS P rs r σ := by
 unfold kf at h
 unfold nS
 cases h1 : SB P σ rs with
 | none => rw [h1] at h; exact h.elim
 | some xs =>
  simp only [h1] at h ⊢
  cases h2 : YE σ xs with
  | none => rw [h2] at h; exact h.elim
  | some q =>
   obtain ⟨σ', xs'⟩ := q
   simp only [h2] at h ⊢
   cases h3 : xs'.any AV.hasOwn with
   | true => rw [h3] at h; exact h.elim
   | false =>
    rw [h3] at h
    simp only at h ⊢
    cases h4 : chk (uW xs') with
    | true => exact Jf.2 (hc _ h4)
    | false => rw [h4] at h; exact h.elim
@[irreducible] def uC (P : Program) (T : Tb) (f : FuncId) (an : Z9) (args : List AV) (chk : AV → Bool) : Prop :=
 match P.funcs[f]? with
 | some fn =>
  match fn.body with
  | some c =>
   match Nat.ble args.length fn.ntmps && !(fn.name == "runtime.NumGoroutine") with
   | true => iA P 6 c an (T.cx 0) (entry fn.ntmps args) (kf P fn.results.toList chk) (fun _ _ => False) (kf P fn.results.toList chk)
   | false => False
  | none => False
 | none => False
theorem nP {P : Program} {T : Tb} {f : FuncId} {an : Z9} {args : List AV} {chk : AV → Bool} {r : AV} (hT : zZ P T) (hc : ∀ x, chk x = true → zB x r) (h : uC P T f an args chk) : T7 P T f an args r := by
 unfold uC at h
 unfold T7
 cases h1 : P.funcs[f]? with
 | none => rw [h1] at h; exact h.elim
 | some fn =>
  simp only [h1] at h ⊢
  cases h2 : fn.body with
  | none => rw [h2] at h; exact h.elim
  | some c =>
   simp only [h2] at h ⊢
   cases h3 : Nat.ble args.length fn.ntmps && !(fn.name == "runtime.NumGoroutine") with
   | false => rw [h3] at h; exact h.elim
   | true =>
    rw [h3] at h
    exact fun _ => VH 6 c an (T.cx 0) _ _ _ _ _ _ _ (hT.cx 0) (fun _ => Sn hc) (fun _ _ h => h) (fun _ => Sn hc) h
theorem xg {P : Program} {T : Tb} {f : FuncId} {an : Z9} {args : List AV} {chk : AV → Bool} {r : AV} (hm : P.follows .mixedOrders = true) (hT : zZ P T) (hc : ∀ x, chk x = true → zB x r) (h : uC P T f an args chk) : zT P T.objs f args r :=
 zU hm hT (nP hT hc h)
end Go.Sx
