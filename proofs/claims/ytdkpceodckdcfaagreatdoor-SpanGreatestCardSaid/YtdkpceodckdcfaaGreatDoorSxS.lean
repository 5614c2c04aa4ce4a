/- All bodies looked through, some with annotations. -/
import Derived.Test.YtdkpceodckdcfaaGreatDoorSxU
namespace Go.Sx
open Go Go.RowKit
def Tb.deepA (P : Program) (T : Tb) (l : List (FuncId × Ann)) : Nat → Tb
  | 0 => { T with conc := true }
  | n + 1 => { T with own := fun f => bodyOf P (Tb.deepA P T l n) f ((lkA l f).getD .auto), conc := true }
theorem deepA_objs (P : Program) (T : Tb) (l : List (FuncId × Ann)) : ∀ n, (T.deepA P l n).objs = T.objs
  | 0 => rfl
  | _ + 1 => rfl
theorem TbSound.deepA {P : Program} {T : Tb} (hm : P.follows .mixedOrders = true) (hT : TbSound P T) (l : List (FuncId × Ann)) : ∀ n, TbSound P (T.deepA P l n)
  | 0 => ⟨hT.own, hT.pu, hT.fre⟩
  | n + 1 => ⟨fun f t h => by
      have := bodyOf_sound hm (TbSound.deepA hm hT l n) h
      rw [deepA_objs] at this
      exact this, hT.pu, hT.fre⟩
def Tb.deepX (P : Program) (T : Tb) (ex : List FuncId) : Nat → Tb
  | 0 => { T with conc := true }
  | n + 1 => { T with own := fun f => bif ex.any (fun g => Nat.beq g f) then T.own f else bodyOf P (Tb.deepX P T ex n) f .auto, conc := true }
theorem deepX_objs (P : Program) (T : Tb) (ex : List FuncId) : ∀ n, (T.deepX P ex n).objs = T.objs
  | 0 => rfl
  | _ + 1 => rfl
theorem TbSound.deepX {P : Program} {T : Tb} (hm : P.follows .mixedOrders = true) (hT : TbSound P T) (ex : List FuncId) : ∀ n, TbSound P (T.deepX P ex n)
  | 0 => ⟨hT.own, hT.pu, hT.fre⟩
  | n + 1 => ⟨fun f t h => by
      simp only [Tb.deepX] at h
      cases hx : ex.any (fun g => Nat.beq g f) with
      | true => rw [hx] at h; exact hT.own _ _ h
      | false =>
        rw [hx] at h
        have := bodyOf_sound hm (TbSound.deepX hm hT ex n) h
        rw [deepX_objs] at this
        exact this, hT.pu, hT.fre⟩
def Tb.ownAt (P : Program) (T : Tb) (f : FuncId) (T' : Tb) (an : Ann) : Tb := { T with own := fun g => bif Nat.beq g f then bodyOf P T' f an else T.own g }
theorem TbSound.ownAt {P : Program} {T T' : Tb} (hm : P.follows .mixedOrders = true) (hT : TbSound P T) (hT' : TbSound P T') (ho : T'.objs = T.objs) (f : FuncId) (an : Ann) : TbSound P (T.ownAt P f T' an) := by
  refine ⟨fun g t h => ?_, hT.pu, hT.fre⟩
  simp only [Tb.ownAt] at h
  cases hx : Nat.beq g f with
  | false => rw [hx] at h; exact hT.own _ _ h
  | true =>
    rw [hx] at h
    have e := Nat.eq_of_beq_eq_true hx
    subst e
    have := bodyOf_sound hm hT' h
    rw [ho] at this
    exact this
structure AvW (x y : AV) : Prop where
  h : avM x y
def retW (P : Program) (rs : List ResultVar) (r : AV) (σ : Sig) : Prop :=
  match resL P σ rs with
  | some xs =>
    match closeAll σ xs with
    | some (_, xs') =>
      match xs'.any AV.hasOwn with
      | true => False
      | false => AvW (packAV xs') r
    | none => False
  | none => False
theorem retV_of_W {P : Program} {rs : List ResultVar} {r : AV} {σ : Sig} (h : retW P rs r σ) : retV P rs r σ := by
  unfold retW at h
  unfold retV
  cases h1 : resL P σ rs with
  | none => rw [h1] at h; exact h.elim
  | some xs =>
    simp only [h1] at h ⊢
    cases h2 : closeAll σ xs with
    | none => rw [h2] at h; exact h.elim
    | some q =>
      obtain ⟨σ', xs'⟩ := q
      simp only [h2] at h ⊢
      cases h3 : xs'.any AV.hasOwn with
      | true => rw [h3] at h; exact h.elim
      | false => rw [h3] at h; exact avR_M.2 h.h
@[irreducible] def vcFnW (P : Program) (T : Tb) (f : FuncId) (an : Ann) (args : List AV) (r : AV) : Prop :=
  match P.funcs[f]? with
  | some fn =>
    match fn.body with
    | some c =>
      match Nat.ble args.length fn.ntmps && !(fn.name == "runtime.NumGoroutine") with
      | true => bndL args → vcN P 6 c an (T.cx 0) (entry fn.ntmps args) (retW P fn.results.toList r) (fun _ _ => False) (retW P fn.results.toList r)
      | false => False
    | none => False
  | none => False
theorem vcFn_of_W {P : Program} {T : Tb} {f : FuncId} {an : Ann} {args : List AV} {r : AV} (hT : TbSound P T) (h : vcFnW P T f an args r) : vcFn P T f an args r := by
  unfold vcFnW at h
  unfold vcFn
  cases h1 : P.funcs[f]? with
  | none => rw [h1] at h; exact h.elim
  | some fn =>
    simp only [h1] at h ⊢
    cases h2 : fn.body with
    | none => rw [h2] at h; exact h.elim
    | some c =>
      simp only [h2] at h ⊢
      cases h3 : Nat.ble args.length fn.ntmps && !(fn.name == "runtime.NumGoroutine") with
      | false => rw [h3] at h; exact h.elim
      | true =>
        rw [h3] at h
        exact fun hbn => vcN_mono 6 c an (T.cx 0) _ _ _ _ _ _ _ (hT.cx 0) (fun _ => retV_of_W) (fun _ _ h => h) (fun _ => retV_of_W) (h hbn)
theorem pure_of_vcW {P : Program} {T : Tb} {f : FuncId} {an : Ann} {args : List AV} {r : AV} (hm : P.follows .mixedOrders = true) (hT : TbSound P T) (h : vcFnW P T f an args r) : PureCall P T.objs f args r :=
  pure_of_vc hm hT (vcFn_of_W hT h)
def retC (P : Program) (rs : List ResultVar) (chk : AV → Bool) (σ : Sig) : Prop :=
  match resL P σ rs with
  | some xs =>
    match closeAll σ xs with
    | some (_, xs') =>
      match xs'.any AV.hasOwn with
      | true => False
      | false => bsplit (chk (packAV xs')) True (Fail (packAV xs'))
    | none => False
  | none => False
theorem retV_of_C {P : Program} {rs : List ResultVar} {chk : AV → Bool} {r : AV} (hc : ∀ x, chk x = true → avM x r) {σ : Sig} (h : retC P rs chk σ) : retV P rs r σ := by
  unfold retC at h
  unfold retV
  cases h1 : resL P σ rs with
  | none => rw [h1] at h; exact h.elim
  | some xs =>
    simp only [h1] at h ⊢
    cases h2 : closeAll σ xs with
    | none => rw [h2] at h; exact h.elim
    | some q =>
      obtain ⟨σ', xs'⟩ := q
      simp only [h2] at h ⊢
      cases h3 : xs'.any AV.hasOwn with
      | true => rw [h3] at h; exact h.elim
      | false =>
        rw [h3] at h
        simp only at h ⊢
        cases h4 : chk (packAV xs') with
        | true => exact avR_M.2 (hc _ h4)
        | false => rw [h4] at h; exact h.elim
@[irreducible] def vcFnC (P : Program) (T : Tb) (f : FuncId) (an : Ann) (args : List AV) (chk : AV → Bool) : Prop :=
  match P.funcs[f]? with
  | some fn =>
    match fn.body with
    | some c =>
      match Nat.ble args.length fn.ntmps && !(fn.name == "runtime.NumGoroutine") with
      | true => vcN P 6 c an (T.cx 0) (entry fn.ntmps args) (retC P fn.results.toList chk) (fun _ _ => False) (retC P fn.results.toList chk)
      | false => False
    | none => False
  | none => False
theorem vcFn_of_C {P : Program} {T : Tb} {f : FuncId} {an : Ann} {args : List AV} {chk : AV → Bool} {r : AV} (hT : TbSound P T) (hc : ∀ x, chk x = true → avM x r) (h : vcFnC P T f an args chk) : vcFn P T f an args r := by
  unfold vcFnC at h
  unfold vcFn
  cases h1 : P.funcs[f]? with
  | none => rw [h1] at h; exact h.elim
  | some fn =>
    simp only [h1] at h ⊢
    cases h2 : fn.body with
    | none => rw [h2] at h; exact h.elim
    | some c =>
      simp only [h2] at h ⊢
      cases h3 : Nat.ble args.length fn.ntmps && !(fn.name == "runtime.NumGoroutine") with
      | false => rw [h3] at h; exact h.elim
      | true =>
        rw [h3] at h
        exact fun _ => vcN_mono 6 c an (T.cx 0) _ _ _ _ _ _ _ (hT.cx 0) (fun _ => retV_of_C hc) (fun _ _ h => h) (fun _ => retV_of_C hc) h
theorem pure_of_vcC {P : Program} {T : Tb} {f : FuncId} {an : Ann} {args : List AV} {chk : AV → Bool} {r : AV} (hm : P.follows .mixedOrders = true) (hT : TbSound P T) (hc : ∀ x, chk x = true → avM x r) (h : vcFnC P T f an args chk) : PureCall P T.objs f args r :=
  pure_of_vc hm hT (vcFn_of_C hT hc h)
def chkSl {α : Type} [Enc α] [DecidableEq α] (l : List α) (e : Int) : AV → Bool
  | .tup 2 vs => slOk α (vs 0) && decide (slD (vs 0) = l) && (match vs 1 with | .v (.int .i64 n) => n == e | _ => false)
  | _ => false
theorem chkSl_avM {α : Type} [Enc α] [DecidableEq α] {l : List α} {e : Int} (x : AV) (h : chkSl l e x = true) : avM x (.tup 2 (listFn [slE l, .i e])) := by
  unfold chkSl at h
  split at h
  · rename_i vs
    simp only [Bool.and_eq_true, decide_eq_true_eq] at h
    obtain ⟨⟨h1, h2⟩, h3⟩ := h
    refine ⟨rfl, allB_of fun i hi => ?_⟩
    match i, hi with
    | 0, _ => exact h2 ▸ slE_sound h1
    | 1, _ =>
      show avM (vs 1) (.i e)
      split at h3
      · rename_i n hn
        rw [hn, eq_of_beq h3]
        exact avM_refl _
      · cases h3
  · cases h
def chkI (n : Int) : AV → Bool
  | .v (.int .i64 m) => m == n
  | _ => false
theorem chkI_avM {n : Int} (x : AV) (h : chkI n x = true) : avM x (.i n) := by
  unfold chkI at h
  split at h
  · rw [eq_of_beq h]; exact avM_refl _
  · cases h
def chkB (n : Bool) : AV → Bool
  | .v (.bool m) => m == n
  | _ => false
theorem chkB_avM {n : Bool} (x : AV) (h : chkB n x = true) : avM x (.b n) := by
  unfold chkB at h
  split at h
  · rw [eq_of_beq h]; exact avM_refl _
  · cases h
end Go.Sx
