/- Contracts from verification conditions. -/
import Derived.Test.YtinnclmkhedgeaaGreatDoorSxX
import Derived.Shelf.Abstract
set_option linter.unusedSimpArgs false
set_option linter.unusedVariables false
namespace Go.Sx
open Go Go.RowKit
def entry (n : Nat) (args : List AV) : zo := { n := n, tm := zY args, nb := 0, bl := fun _ => .dead }
abbrev oB : Type := FuncId → Option (Nat → (Nat → OB) → List AV → (Nat → (Nat → OB) → AV → Prop) → Prop)
abbrev Pb : Type := FuncId → List AV → Option (List zN × AV)
abbrev QB : Type := FuncId → List AV → Option (List zN × TypeId × Nat × Nat × (Nat → Nat → AV))
structure Tb where
 objs : List (Nat × Obj)
 own : oB
 pu : Pb
 fre : QB
 conc : Bool
def Tb.cx (T : Tb) (nb0 : Nat) : Cx := { objs := T.objs, nb0 := nb0, own := T.own, pu := T.pu, fre := T.fre, conc := T.conc }
structure zz (P : Program) (T : Tb) : Prop where
 own : ∀ f t, T.own f = some t → qN P T.objs f t
 pu : ∀ f xs ps r, T.pu f xs = some (ps, r) → (∀ p ∈ ps, p.holds) → zu P T.objs f xs r
 fre : ∀ f xs ps t sz len els, T.fre f xs = some (ps, t, sz, len, els) → (∀ p ∈ ps, p.holds) → yZ P T.objs f xs t sz len els
theorem zz.cx {P : Program} {T : Tb} (h : zz P T) (nb0 : Nat) : zJ P (T.cx nb0) := ⟨h.own, h.pu, h.fre, fun p t e => by cases e⟩
def AV.bnd : AV → Prop
 | .xl _ sz len els => len ≤ 9223372036854775807 ∧ ∀ i j, i < len → j < sz → (els i j).bnd
 | .agg n cs => Xr (fun i => (cs i).bnd) n
 | _ => True
def ZY : List AV → Prop
 | [] => True
 | [x] => x.bnd
 | x :: xs => x.bnd ∧ ZY xs
theorem te {p : Nat → Prop} {n : Nat} (h : ∀ i, i < n → p i) : Xr p n := by
 induction n with
 | zero => trivial
 | succ n ih =>
  cases n with
  | zero => exact h 0 (by omega)
  | succ n => exact ⟨ih fun i hi => h i (by omega), h _ (by omega)⟩
theorem zM.bnd {w : World} {S : Nat → Prop} {ρ : Nat → Own} {x : AV} {v : Value} (h : zM w S ρ x v) : x.bnd := by
 induction h with
 | xl o cap cvs hle hm hf hc hr ih => exact ⟨by simp only [maxLen] at hm; omega, ih⟩
 | agg vs hn hr ih => exact te ih
 | _ => trivial
theorem za.bnd {w : World} {S : Nat → Prop} {ρ : Nat → Own} : ∀ {xs : List AV} {vs : List Value}, za w S ρ xs vs → ZY xs
 | [], [], _ => trivial
 | [x], [v], h => h.1.bnd
 | x :: y :: xs, v :: u :: vs, h => ⟨h.1.bnd, za.bnd h.2⟩
 | [], _ :: _, h => h.elim
 | _ :: _, [], h => h.elim
 | [_], _ :: _ :: _, h => h.2.elim
 | _ :: _ :: _, [_], h => h.2.elim
@[irreducible] def W3 (P : Program) (T : Tb) (f : FuncId) (an : Z6) (args : List AV) (r : AV) : Prop :=
 match P.funcs[f]? with
 | some fn =>
  match fn.body with
  | some c =>
   match Nat.ble args.length fn.ntmps && !(fn.name == "runtime.NumGoroutine") with
   | true => ZY args → Pu P 6 c an (T.cx 0) (entry fn.ntmps args) (Rb P fn.results.toList r) (fun _ _ => False) (Rb P fn.results.toList r)
   | false => False
  | none => False
 | none => False
section
variable {P : Program} {T : Tb}
theorem Si {w : World} {S : Nat → Prop} {n : Nat} {args : List AV} {vals : List Value} (hS : ∀ b, S b → b < w.heap.size) (hG : ∀ b o, (b, o) ∈ T.objs → S b ∧ w.heap[b]? = some o)
  (hr : za w S Z0 args vals) (hn : args.length ≤ n) :
  St { w0 := w, X := fun _ => False, S0 := S, G := T.cx 0, r0 := Z0 } (entry n args) { tmps := vals.toArray ++ Array.replicate (n - vals.toArray.size) undef, defers := [] } w := by
 obtain ⟨hl, hget⟩ := hr.get
 refine ⟨S, Z0, ⟨Fr.refl _ _, hS, fun _ h => h, fun _ h => .inl h, hG, fun _ _ => rfl, fun k hk => absurd hk (Nat.not_lt_zero _), fun k g e => (by cases e), fun k k' g e => (by cases e), fun k g base cap sz L e => (by cases e), Nat.zero_le _, fun k hk => absurd hk (Nat.not_lt_zero _)⟩,
  ⟨?_, fun t _ => ?_⟩, ⟨List.Pairwise.nil, fun d hd => (by cases hd)⟩⟩
 ·simp only [Array.size_append, List.size_toArray, Array.size_replicate]
  show vals.length + (n - vals.length) = n
  omega
 ·show zM w S Z0 (zY args t) _
  by_cases ht : t < args.length
  ·have := hget t ht
   rw [Array.getD_eq_getD_getElem?, Array.getElem?_append_left (by simpa [hl] using ht), ← Array.getD_eq_getD_getElem?]
   exact this
  ·have : zY args t = .junk := by simp [zY, List.getElem?_eq_none (Nat.not_lt.1 ht)]
   rw [this]
   exact .junk _
theorem vR {fn : Func} {w0 : World} {S : Nat → Prop} {σ : zo} {a : Act} {w : World} {r : AV} {n : Nat} (h : Rb P fn.results.toList r σ) (hst : St { w0 := w0, X := fun _ => False, S0 := S, G := T.cx 0, r0 := Z0 } σ a w) :
  LeavesInM (FW none) n P fn a.tmps (fun e w' => pA w0 w' ∧ ∃ rv, e = .returned rv ∧ zM w' (fun b => S b ∨ (w0.heap.size ≤ b ∧ b < w'.heap.size)) Z0 r rv) a.defers .returning w := by
 obtain ⟨S1, ρ1, hM, hF, hD⟩ := hst
 refine Yd a.defers w S1 hD fun w' hs => ?_
 obtain ⟨S2, hM2, hsub, hkeep⟩ := uD hM hD hs
 have hF2 : yW w' S2 ρ1 σ.n σ.tm { tmps := a.tmps, defers := [] } := ⟨hF.1, fun t ht => (hF.2 t ht).mono' hkeep⟩
 unfold Rb at h
 split at h
 ·rename_i xs hxs
  split at h
  ·rename_i σ' xs' hc
   split at h
   ·exact h.elim
   ·rename_i hno
    obtain ⟨g, hrun, hrel⟩ := Wv hM2 hF2 _ _ hxs
    obtain ⟨S3, ρ3, hM3, _, _, hrel3⟩ := yD hc hM2 hF2 ⟨List.Pairwise.nil, fun d hd => (by cases hd)⟩ hrel
    refine ⟨_, xy hrun, ⟨⟨hM3.fr.os, hM3.fr.tape, hM3.fr.output, hM3.fr.size, fun k hk => hM3.fr.block k hk fun hx => hx.elim⟩, hM3.fr.drawn⟩, _, rfl, ?_⟩
    refine (xn (u4 (hrel3.free (yE hno))) (Pi.1 h)).mono (fun b hb => ⟨?_, rfl⟩) (zl.refl _)
    rcases hM3.sub b hb with h1 | h1 | h1
    ·simp_all
    ·exact h1.elim
    ·exact .inr ⟨h1, hM3.sb b hb⟩
  simp_all
 simp_all
theorem zW {f : FuncId} {an : Z6} {args : List AV} {r : AV} (hm : P.follows .mixedOrders = true) (hT : zz P T) (h : W3 P T f an args r) : zu P T.objs f args r := by
 unfold W3 at h
 split at h
 ·rename_i fn hf
  split at h
  ·rename_i c hb
   split at h
   ·rename_i hc
    simp only [Bool.and_eq_true, Bool.not_eq_true'] at hc
    refine ⟨Go.Proofs.enters_of hf hc.2 hb, fun w S vals hS hG hr => ?_⟩
    refine xZ.1 (callsIn_of_wp_marks (F := FW none) (n := 0) hf hb trivial ?_)
    exact Xh hm 6 c an { w0 := w, X := fun _ => False, S0 := S, G := T.cx 0, r0 := Z0 } _ _ _ _ _ _ _ none 0 (hT.cx 0) ⟨fun b hb => ⟨hS b hb, fun h => h⟩, fun _ _ => rfl, fun p T h => (by cases h)⟩ rfl (h hr.bnd) (Si hS hG hr (Nat.le_of_ble_eq_true hc.1)) (fun σ a w hk hst => vR hk hst) (fun i σ a w hk _ => hk.elim) fun σ a w hk hst => vR hk hst
   simp_all
  simp_all
 simp_all
def uY (objs : List (Nat × Obj)) : Tb := ⟨objs, fun _ => none, fun _ _ => none, fun _ _ => none, false⟩
theorem zO {objs : List (Nat × Obj)} : zz P (uY objs) := ⟨fun f T h => (by cases h), fun f xs ps r h => (by cases h), fun f xs ps t sz len els h => (by cases h)⟩
def Tb.plus (T : Tb) (f : FuncId) (t : List AV → Option (List zN × AV)) : Tb := { T with pu := fun g xs => bif Nat.beq g f then t xs else T.pu g xs }
def zP (P : Program) (objs : List (Nat × Obj)) (f : FuncId) (t : List AV → Option (List zN × AV)) : Prop := ∀ xs ps r, t xs = some (ps, r) → (∀ p ∈ ps, p.holds) → zu P objs f xs r
theorem zz.plus (h : zz P T) {f : FuncId} {t : List AV → Option (List zN × AV)} (ht : zP P T.objs f t) : zz P (T.plus f t) := by
 refine ⟨h.own, fun g xs ps r e hp => ?_, h.fre⟩
 simp only [Tb.plus] at e
 cases hb : Nat.beq g f with
 | true =>
  rw [hb] at e
  obtain rfl := Nat.eq_of_beq_eq_true hb
  exact ht _ _ _ e hp
 | false => rw [hb] at e; exact h.pu _ _ _ _ e hp
def tV (P : Program) (objs : List (Nat × Obj)) (f : FuncId) (t : List AV → Option (List zN × TypeId × Nat × Nat × (Nat → Nat → AV))) : Prop :=
 ∀ xs ps ty sz len els, t xs = some (ps, ty, sz, len, els) → (∀ p ∈ ps, p.holds) → yZ P objs f xs ty sz len els
end
end Go.Sx

namespace Go.Sx
open Go Go.RowKit
section
variable {P : Program} {G : Cx}
def UJ (P : Program) (rs : List ResultVar) (k : Nat → (Nat → OB) → AV → Prop) (σ : zo) : Prop :=
 match T8 P σ rs with
 | some xs => k σ.nb σ.bl (US xs)
 | none => False
def Tn (P : Program) (T : Tb) (f : FuncId) (an : Z6) (nb : Nat) (bl : Nat → OB) (xs : List AV) (k : Nat → (Nat → OB) → AV → Prop) : Prop :=
 match P.funcs[f]? with
 | some fn =>
  match fn.body with
  | some c =>
   match Nat.ble xs.length fn.ntmps && !(fn.name == "runtime.NumGoroutine") with
   | true => Pu P 6 c an (T.cx nb) { n := fn.ntmps, tm := zY xs, nb := nb, bl := bl } (UJ P fn.results.toList k) (fun _ _ => False) (UJ P fn.results.toList k)
   | false => False
  | none => False
 | none => False
theorem vi {rs : List ResultVar} {k k' : Nat → (Nat → OB) → AV → Prop} (h : ∀ nb bl x, k nb bl x → k' nb bl x) (σ : zo) (hv : UJ P rs k σ) : UJ P rs k' σ := by
 unfold UJ at hv ⊢
 grind
end
section
variable {P : Program} {T : Tb}
theorem Tp (hT : zz P T) {f : FuncId} {an : Z6} {nb : Nat} {bl : Nat → OB} {xs : List AV} {k k' : Nat → (Nat → OB) → AV → Prop}
  (h : ∀ nb bl x, k nb bl x → k' nb bl x) (hv : Tn P T f an nb bl xs k) : Tn P T f an nb bl xs k' := by
 unfold Tn at hv ⊢
 split at hv
 ·split at hv
  ·split at hv
   ·exact w7 6 _ _ _ _ _ _ _ _ _ _ (hT.cx nb) (vi h) (fun _ _ h => h) (vi h) hv
   omega
  omega
 omega
theorem wH {E : Env} {nb : Nat} {bl : Nat → OB} {S : Nat → Prop} {ρ : Nat → Own} {w : World} {k : Nat → (Nat → OB) → AV → Prop} {fn : Func} {σ : zo} {a : Act} {w1 : World} {n : Nat} (hM : zB E nb bl S ρ w)
  (h : UJ P fn.results.toList k σ) (hst : St (TP w S ρ (T.cx nb)) σ a w1) :
  LeavesInM (FW none) n P fn a.tmps (R7 E S ρ w k) a.defers .returning w1 := by
 refine Ws hM rfl hst fun w2 S2 ρ2 m1 m2 m3 _ m5 => ?_
 unfold UJ at h
 split at h
 ·rename_i xs hxs
  obtain ⟨g, hrun, hrel⟩ := Wv m1 m5 _ _ hxs
  exact ⟨_, xy hrun, _, _, S2, ρ2, _, _, rfl, h, m1, m2, m3, u4 hrel⟩
 simp_all
theorem Tf (hm : P.follows .mixedOrders = true) (hT : zz P T) {f : FuncId} {an : Z6} {fn : Func} {c : Code} (hf : P.funcs[f]? = some fn) (hb : fn.body = some c)
  (hn : (fn.name == "runtime.NumGoroutine") = false) : qN P T.objs f (Tn P T f an) := by
 refine ⟨Go.Proofs.enters_of hf hn hb, fun nb bl xs k k' h hv => Tp hT h hv, fun E nb bl S ρ w xs vs k hEG hM hx hv => ?_⟩
 unfold Tn at hv
 rw [hf] at hv
 simp only [hb] at hv
 split at hv
 ·rename_i hc
  simp only [Bool.and_eq_true] at hc
  have hlen : xs.length ≤ fn.ntmps := Nat.le_of_ble_eq_true hc.1
  obtain ⟨hl, hget⟩ := hx.get
  refine xZ.1 (callsIn_of_wp_marks (F := FW none) (n := 0) hf hb trivial ?_)
  exact Xh hm 6 c an (TP w S ρ (T.cx nb)) _ _ _ _ _ _ _ none 0 (hT.cx nb) ⟨hM.inner_base, hM.hi, fun p T h => (by cases h)⟩ rfl hv
   ⟨S, ρ, hM.inner hEG.symm rfl, ta hx hlen, ⟨List.Pairwise.nil, fun d hd => (by cases hd)⟩⟩ (fun σ a w1 hk hst => wH hM hk hst)
   (fun i σ a w hk _ => hk.elim) fun σ a w1 hk hst => wH hM hk hst
 simp_all
def Uc (P : Program) (T : Tb) (f : FuncId) (an : Z6) : Option (Nat → (Nat → OB) → List AV → (Nat → (Nat → OB) → AV → Prop) → Prop) :=
 match P.funcs[f]? with
 | some fn =>
  match fn.body with
  | some _ => (match fn.name == "runtime.NumGoroutine" with | true => none | false => some (Tn P T f an))
  | none => none
 | none => none
theorem Vd (hm : P.follows .mixedOrders = true) (hT : zz P T) {f : FuncId} {an : Z6} {t : Nat → (Nat → OB) → List AV → (Nat → (Nat → OB) → AV → Prop) → Prop} (h : Uc P T f an = some t) : qN P T.objs f t := by
 unfold Uc at h
 split at h
 ·rename_i fn hf
  split at h
  ·rename_i c hb
   split at h
   ·cases h
   ·rename_i hn
    cases h
    exact Tf hm hT hf hb hn
  ·cases h
 ·cases h
def oN : List (FuncId × Z6) → FuncId → Option Z6
 | [], _ => none
 | (g, a) :: l, f => bif Nat.beq g f then some a else oN l f
def Tb.body (P : Program) (T : Tb) (l : List (FuncId × Z6)) : Tb := { T with own := fun f => match oN l f with | some an => Uc P T f an | none => T.own f }
theorem zz.body (hm : P.follows .mixedOrders = true) (hT : zz P T) (l : List (FuncId × Z6)) : zz P (T.body P l) := by
 refine ⟨fun f t h => ?_, hT.pu, hT.fre⟩
 simp only [Tb.body] at h
 split at h
 ·exact Vd hm hT h
 ·exact hT.own _ _ h
end
end Go.Sx

namespace Go.Sx
open Go Go.RowKit
theorem PD {p : Prop} [DB p] {A : Prop} : zv (DB.db p) A False ↔ p ∧ A := by
 rw [zr]
 constructor
 ·rintro ⟨h1, h2⟩
  have : DB.db p = true := by cases h : DB.db p with
   | true => rfl
   | false => exact (h2 h).elim
  exact ⟨DB.iff.1 this, h1 this⟩
 ·rintro ⟨hp, ha⟩
  exact ⟨fun _ => ha, fun h => by rw [DB.iff.2 hp] at h; cases h⟩
theorem p5 {a b : Int} {A B : Prop} : zv (z7 a b) A B ↔ (a < b → A) ∧ (b ≤ a → B) := by
 rw [zr, So, decide_eq_true_eq, decide_eq_false_iff_not, Int.not_lt]
theorem Pn {a b : Int} {A B : Prop} : zv (leB a b) A B ↔ (a ≤ b → A) ∧ (b < a → B) := by
 rw [zr, SF, decide_eq_true_eq, decide_eq_false_iff_not, Int.not_le]
theorem PR {a b : Int} {A B : Prop} : zv (a != b) A B ↔ (a ≠ b → A) ∧ (a = b → B) := by
 rw [zr, bne_iff_ne, bne_eq_false_iff_eq]
theorem Pf {a b : Int} {A B : Prop} : zv (a == b) A B ↔ (a = b → A) ∧ (a ≠ b → B) := by
 rw [zr, beq_iff_eq, beq_eq_false_iff_ne]
theorem qH {x y : Bool} {A : Prop} : zv (!x || y) A False ↔ (x = true → y = true) ∧ A := by cases x <;> cases y <;> simp [zv]
theorem pH (a b : Bool) : (bif a then true else b) = (a || b) := by cases a <;> rfl
theorem R8 (a b : Bool) : (bif a then b else false) = (a && b) := by cases a <;> rfl
theorem Qm {x : Bool} {p : Prop} [DB p] {A : Prop} : zv (!x || DB.db p) A False ↔ (x = true → p) ∧ A := by
 rw [qH, DB.iff]
theorem pq {x : Bool} {A : Prop} : zv (!x || x) A False ↔ A := by cases x <;> simp [zv]
theorem Tg (x : Bool) : zq true x = x := rfl
theorem Ue (x : Bool) : zq false x = !x := rfl
end Go.Sx

namespace Go.Sx
open Go Go.RowKit
def RJ : List AV → List AV → Prop
 | [], [] => True
 | x :: xs, y :: ys => yy x y ∧ RJ xs ys
 | _, _ => False
theorem uV {w : World} {S : Nat → Prop} {ρ : Nat → Own} : ∀ {xs ys : List AV} {vs : List Value}, RJ xs ys → za w S ρ xs vs → za w S ρ ys vs
 | [], [], [], _, _ => trivial
 | _ :: _, _ :: _, _ :: _, h, hr => ⟨xn hr.1 h.1, uV h.2 hr.2⟩
 | [], [], _ :: _, _, hr => hr.elim
 | _ :: _, _ :: _, [], _, hr => hr.elim
 | [], _ :: _, _, h, _ => h.elim
 | _ :: _, [], _, h, _ => h.elim
theorem weaken {P : Program} {G : List (Nat × Obj)} {f : FuncId} {xs ys : List AV} {r : AV} (h : RJ xs ys) (hp : zu P G f ys r) : zu P G f xs r :=
 ⟨hp.1, fun w S vals hS hG hr => hp.2 w S vals hS hG (uV h hr)⟩
def AV.int : AV → Int
 | .v (.int _ n) => n
 | _ => 0
def AV.bool : AV → Bool
 | .v (.bool t) => t
 | _ => false
def AV.bytes : AV → List UInt8
 | .str l => l
 | _ => []
def yu : AV → Bool
 | .v (.int .i64 _) => true
 | _ => false
def isBool : AV → Bool
 | .v (.bool _) => true
 | _ => false
def ZR : AV → Bool
 | .str _ => true
 | _ => false
theorem Wr {x : AV} (h : yu x = true) : x = .i (AV.int x) := by
 unfold yu at h
 split at h
 ·rfl
 ·cases h
theorem sZ {x : AV} (h : isBool x = true) : x = .b (AV.bool x) := by
 unfold isBool at h
 split at h
 ·rfl
 ·cases h
theorem Yr {x : AV} (h : ZR x = true) : x = .str (AV.bytes x) := by
 unfold ZR at h
 split at h
 ·rfl
 ·cases h
class yo (α : Type) where
 n : Nat
 dflt : α
 enc : α → Nat → AV
 dec : (Nat → AV) → α
 ok : (Nat → AV) → Bool
 sound : ∀ cs, ok cs = true → ∀ j, j < n → yy (cs j) (enc (dec cs) j)
def pd {α : Type} [yo α] : AV → List α
 | .xl _ _ len els => (List.range len).map fun i => yo.dec (els i)
 | _ => []
def rN (α : Type) [yo α] : AV → Bool
 | .xl _ sz len els => Nat.beq sz (yo.n α) && Wp (fun i => yo.ok (α := α) (els i)) len
 | .v (.slice none 0 0) => true
 | _ => false
instance : yo Int := ⟨1, 0, fun a _ => .i a, fun cs => AV.int (cs 0), fun cs => yu (cs 0), fun cs h j hj => by
 obtain rfl : j = 0 := by omega
 exact ZH (Wr h)⟩
instance : yo Bool := ⟨1, false, fun a _ => .b a, fun cs => AV.bool (cs 0), fun cs => isBool (cs 0), fun cs h j hj => by
 obtain rfl : j = 0 := by omega
 exact ZH (sZ h)⟩
instance : yo (List UInt8) := ⟨1, [], fun a _ => .str a, fun cs => AV.bytes (cs 0), fun cs => ZR (cs 0), fun cs h j hj => by
 obtain rfl : j = 0 := by omega
 exact ZH (Yr h)⟩
def we {α : Type} [yo α] (a : α) : AV := .agg (yo.n α) (yo.enc a)
def Oz {α : Type} [yo α] : AV → α
 | .agg _ cs => yo.dec cs
 | _ => yo.dflt
def Pe (α : Type) [yo α] : AV → Bool
 | .agg n cs => Nat.beq n (yo.n α) && yo.ok (α := α) cs
 | _ => false
theorem yz {α : Type} [yo α] {x : AV} (h : Pe α x = true) : yy x (we (Oz (α := α) x)) := by
 unfold Pe at h
 split at h
 ·rename_i n cs
  rw [Bool.and_eq_true] at h
  obtain rfl := Nat.eq_of_beq_eq_true h.1
  exact ⟨rfl, te fun i hi => yo.sound _ h.2 i hi⟩
 ·cases h
structure Wk (xs ys : List AV) : Prop where
 h : RJ xs ys
theorem Wk.refl : ∀ (xs : List AV), Wk xs xs
 | [] => ⟨trivial⟩
 | x :: xs => ⟨zw x, (Wk.refl xs).h⟩
abbrev oo (α : Type) : Option α := none
def Vh {α : Type} (n : Nat) (f : Nat → α) : List α := (List.range n).map f
theorem uo {α : Type} (l : List α) (d : α) : Vh l.length (fun i => l.getD i d) = l := by
 apply List.ext_getElem
 ·simp [Vh]
 ·intro i h1 h2
  simp [Vh, List.getD_eq_getElem?_getD, h2]
def PV (ys : List AV) (r : AV) : List AV → Option (List zN × AV) := fun xs => some ([.p (Wk xs ys)], r)
end Go.Sx

namespace Go.Sx
open Go Go.RowKit
def AV.ren (r : Nat → Nat) : AV → AV
 | .np k off => .np (r k) off
 | .ns k off len => .ns (r k) off len
 | .ap k i j => .ap (r k) i j
 | .yl k => .yl (r k)
 | .ps k len => .ps (r k) len
 | .agg n cs => .agg n fun i => (cs i).ren r
 | .tup n cs => .tup n fun i => (cs i).ren r
 | .fn f nf a nc c => .fn f nf (fun i => (a i).ren r) nc fun i => (c i).ren r
 | .gd g x => .gd g (x.ren r)
 | x => x
def OB.ren (r : Nat → Nat) : OB → OB
 | .box t n cells => .box t n fun i => (cells i).ren r
 | x => x
section
variable {P : Program} {E : Env} {nb : Nat} {bl : Nat → OB} {S : Nat → Prop} {ρ : Nat → Own} {w : World}
theorem zM.ren {ρ2 : Nat → Own} {r : Nat → Nat} {x : AV} {v : Value} (h : zM w S ρ x v) (hr : ∀ k, ρ2 (r k) = ρ k ∨ ρ k = .none) : zM w S ρ2 (x.ren r) v := by
 have get : ∀ {k o}, ρ k = o → o ≠ .none → ρ2 (r k) = o := fun {k o} e hne => by
  grind
 induction h with
 | v x => exact .v x
 | str l => exact .str l
 | xl o cap cvs hle hm hf hc hr' ih => exact .xl o cap cvs hle hm hf hc hr'
 | xq A cvs hc hr' ih => exact .xq A cvs hc hr'
 | np g h => exact .np g (get h (by simp))
 | ns g base cap sz L h hl hc => exact .ns g base cap sz L (get h (by simp)) hl hc
 | ns0 g base cap sz L A h hl hc h0 => exact .ns0 g base cap sz L A (get h (by simp)) hl hc h0
 | nsn sz o h => exact .nsn sz o (get h (by simp))
 | ap g base cap sz L h hi hc => exact .ap g base cap sz L (get h (by simp)) hi hc
 | yl g r' h => exact .yl g r' (get h (by simp))
 | dyl h hx => exact .dyl (get h (by simp)) hx
 | dnp h hx => exact .dnp (get h (by simp)) hx
 | dns h hx => exact .dns (get h (by simp)) hx
 | dap h hx => exact .dap (get h (by simp)) hx
 | agg vs hn _ ih => exact .agg vs hn fun i hi => ih i hi hr get
 | tup vs hn _ ih => exact .tup vs hn fun i hi => ih i hi hr get
 | fn vs us hn hm _ _ ih1 ih2 => exact .fn vs us hn hm (fun i hi => ih1 i hi hr get) fun i hi => ih2 i hi hr get
 | gd v h h' ih => exact .gd v (fun hg => ih hg hr get) h'
 | nb t h => exact .nb t h
 | er x h1 h2 => exact .er x h1 h2
 | ps g cap h hc => exact .ps g cap (get h (by simp)) hc
 | dps h hx => exact .dps (get h (by simp)) hx
 | junk x => exact .junk x
theorem Vo.ren {ρ2 : Nat → Own} {r : Nat → Nat} {B : OB} {o : Own} (h : Vo w S ρ B o) (hr : ∀ k, ρ2 (r k) = ρ k ∨ ρ k = .none) : Vo w S ρ2 (B.ren r) o := by
 cases B with
 | box t n cells =>
  cases o with
  | box g =>
   obtain ⟨c, h1, h2, h3⟩ := h
   exact ⟨c, h1, h2, fun i hi => ⟨(h3 i hi).1.ren hr, (h3 i hi).2⟩⟩
  | _ => exact h.elim
 | dead => cases o <;> exact h
 | arr t sz len els => cases o <;> exact h
 | lrec st pe => cases o <;> exact h
def pick (ρ : Nat → Own) (idx : List Nat) : Nat → Own := fun i =>
 match idx[i]? with
 | some j => ρ j
 | none => .none
theorem vm {idx : List Nat} {i j : Nat} (h : idx[i]? = some j) : pick ρ idx i = ρ j := by unfold pick; rw [h]
theorem sM {idx : List Nat} {i : Nat} (h : idx.length ≤ i) : pick ρ idx i = .none := by unfold pick; rw [List.getElem?_eq_none h]
theorem vq {idx : List Nat} (hnd : idx.Nodup) {i j : Nat} (h : idx[i]? = some j) : idx.idxOf? j = some i := by
 obtain ⟨h1, h2⟩ := List.getElem?_eq_some_iff.1 h
 refine List.idxOf?_eq_some_iff.2 ⟨h1, h2, fun i' hi' e => ?_⟩
 have := List.pairwise_iff_getElem.1 hnd i' i (by omega) h1 hi'
 omega
theorem zB.pick (hM : zB E nb bl S ρ w) {idx : List Nat} (hnd : idx.Nodup) (hlt : ∀ j ∈ idx, j < nb) {G : Cx} (hG : G.objs = E.G.objs) (hnb : G.nb0 = idx.length) {bi : Nat → OB}
  (hok : ∀ i, i < idx.length → Vo w S (pick ρ idx) (bi i) (pick ρ idx i)) : zB (TP w S (pick ρ idx) G) idx.length bi S (pick ρ idx) w := by
 have blk : ∀ {i g}, (Sx.pick ρ idx i).has g → ∃ j, idx[i]? = some j ∧ (ρ j).has g := fun {i g} e => by
  cases h : idx[i]? with
  | none => rw [Sx.pick, h] at e; exact e.elim
  | some j => rw [vm h] at e; exact ⟨j, rfl, e⟩
 refine ⟨Fr.refl _ _, hM.sb, fun _ h => h, fun _ h => .inl h, fun b o hbo => hM.glob b o (by rw [← hG]; exact hbo), fun k hk => sM hk, hok, fun j g e => ?_, fun i i' g e e' => ?_, fun k g base cap sz L e => ?_, Nat.le_of_eq hnb, fun _ _ => .inl (rfl)⟩
 ·obtain ⟨j', h1, h2⟩ := blk e
  exact ⟨(hM.own j' g h2).1, .inr ⟨j, e⟩⟩
 ·obtain ⟨j, h1, h2⟩ := blk e
  obtain ⟨j', h1', h2'⟩ := blk e'
  obtain rfl := hM.dis j j' g h2 h2'
  have a := vq hnd h1
  have b := vq hnd h1'
  simp_all
 ·cases h : idx[k]? with
  | none => rw [Sx.pick, h] at e; cases e
  | some j => rw [vm h] at e; exact hM.b0 _ _ _ _ _ _ e
end
end Go.Sx

namespace Go.Sx
open Go Go.RowKit
section
variable {P : Program} {E : Env} {nb : Nat} {bl : Nat → OB} {S : Nat → Prop} {ρ : Nat → Own} {w : World}
end
end Go.Sx
