/- Data as cells: what a slice of structs reads as. -/
import Derived.Test.YtojonobehnbeiaaDoorSxY
namespace Go.Sx
open Go Go.RowKit

def avML : List AV → List AV → Prop
  | [], [] => True
  | x :: xs, y :: ys => avM x y ∧ avML xs ys
  | _, _ => False
theorem avML_rel {w : World} {S : Nat → Prop} {ρ : Nat → Own} : ∀ {xs ys : List AV} {vs : List Value}, avML xs ys → RelL w S ρ xs vs → RelL w S ρ ys vs
  | [], [], [], _, _ => trivial
  | _ :: _, _ :: _, _ :: _, h, hr => ⟨avM_sound hr.1 h.1, avML_rel h.2 hr.2⟩
  | [], [], _ :: _, _, hr => hr.elim
  | _ :: _, _ :: _, [], _, hr => hr.elim
  | [], _ :: _, _, h, _ => h.elim
  | _ :: _, [], _, h, _ => h.elim
theorem weaken {P : Program} {G : List (Nat × Obj)} {f : FuncId} {xs ys : List AV} {r : AV} (h : avML xs ys) (hp : PureCall P G f ys r) : PureCall P G f xs r :=
  ⟨hp.1, fun w S vals hS hG hr => hp.2 w S vals hS hG (avML_rel h hr)⟩
theorem weakenF {P : Program} {G : List (Nat × Obj)} {f : FuncId} {xs ys : List AV} {t : TypeId} {sz len : Nat} {els : Nat → Nat → AV} (h : avML xs ys) (hp : FreshCall P G f ys t sz len els) : FreshCall P G f xs t sz len els :=
  ⟨hp.1, fun w S vals hS hG hr => hp.2 w S vals hS hG (avML_rel h hr)⟩
/-- A result told in weaker words. -/
theorem weakenR {P : Program} {G : List (Nat × Obj)} {f : FuncId} {xs : List AV} {r r' : AV} (h : avM r r') (hp : PureCall P G f xs r) : PureCall P G f xs r' :=
  ⟨hp.1, fun w S vals hS hG hr => (hp.2 w S vals hS hG hr).mono fun _ _ ⟨hb, rv, e, hrel⟩ => ⟨hb, rv, e, avM_sound hrel h⟩⟩

def AV.int : AV → Int
  | .v (.int _ n) => n
  | _ => 0
def AV.bool : AV → Bool
  | .v (.bool t) => t
  | _ => false
def AV.bytes : AV → List UInt8
  | .str l => l
  | _ => []
def isI64 : AV → Bool
  | .v (.int .i64 _) => true
  | _ => false
def isBool : AV → Bool
  | .v (.bool _) => true
  | _ => false
def isStr : AV → Bool
  | .str _ => true
  | _ => false
theorem isI64_eq {x : AV} (h : isI64 x = true) : x = .i (AV.int x) := by
  unfold isI64 at h
  split at h
  · rfl
  · cases h
theorem isBool_eq {x : AV} (h : isBool x = true) : x = .b (AV.bool x) := by
  unfold isBool at h
  split at h
  · rfl
  · cases h
theorem isStr_eq {x : AV} (h : isStr x = true) : x = .str (AV.bytes x) := by
  unfold isStr at h
  split at h
  · rfl
  · cases h

/-- Data of one type as so many cells. -/
class Enc (α : Type) where
  n : Nat
  dflt : α
  enc : α → Nat → AV
  dec : (Nat → AV) → α
  ok : (Nat → AV) → Bool
  sound : ∀ cs, ok cs = true → ∀ j, j < n → avM (cs j) (enc (dec cs) j)

/-- A slice of such data, as one cell. -/
def slE {α : Type} [Enc α] (l : List α) : AV := .xl false (Enc.n α) l.length fun i j => Enc.enc (l.getD i Enc.dflt) j
def slD {α : Type} [Enc α] : AV → List α
  | .xl _ _ len els => (List.range len).map fun i => Enc.dec (els i)
  | _ => []
def slOk (α : Type) [Enc α] : AV → Bool
  | .xl _ sz len els => Nat.beq sz (Enc.n α) && allN (fun i => Enc.ok (α := α) (els i)) len
  | .v (.slice none 0 0) => true
  | _ => false
theorem slE_sound {α : Type} [Enc α] {x : AV} (h : slOk α x = true) : avM x (slE (slD (α := α) x)) := by
  unfold slOk at h
  split at h
  · rename_i f sz len els
    rw [Bool.and_eq_true] at h
    obtain rfl := Nat.eq_of_beq_eq_true h.1
    unfold slE
    refine ⟨(fun h => by cases h), rfl, by simp [slD], fun i j hi hj => ?_⟩
    have : ((slD (α := α) (.xl f (Enc.n α) len els)).getD i Enc.dflt) = Enc.dec (els i) := by
      simp [slD, List.getD_eq_getElem?_getD, hi]
    show avM (els i j) (Enc.enc ((slD (α := α) (.xl f (Enc.n α) len els)).getD i Enc.dflt) j)
    rw [this]
    exact Enc.sound _ (allN_true h.2 i hi) j hj
  · exact ⟨rfl, rfl⟩
  · cases h

instance : Enc Int := ⟨1, 0, fun a _ => .i a, fun cs => AV.int (cs 0), fun cs => isI64 (cs 0), fun cs h j hj => by
  obtain rfl : j = 0 := by omega
  exact avM_of_eq (isI64_eq h)⟩
instance : Enc Bool := ⟨1, false, fun a _ => .b a, fun cs => AV.bool (cs 0), fun cs => isBool (cs 0), fun cs h j hj => by
  obtain rfl : j = 0 := by omega
  exact avM_of_eq (isBool_eq h)⟩
instance : Enc (List UInt8) := ⟨1, [], fun a _ => .str a, fun cs => AV.bytes (cs 0), fun cs => isStr (cs 0), fun cs h j hj => by
  obtain rfl : j = 0 := by omega
  exact avM_of_eq (isStr_eq h)⟩

/-- A struct of such data, as a value. -/
def agE {α : Type} [Enc α] (a : α) : AV := .agg (Enc.n α) (Enc.enc a)
def agD {α : Type} [Enc α] : AV → α
  | .agg _ cs => Enc.dec cs
  | _ => Enc.dflt
def agOk (α : Type) [Enc α] : AV → Bool
  | .agg n cs => Nat.beq n (Enc.n α) && Enc.ok (α := α) cs
  | _ => false
theorem agE_sound {α : Type} [Enc α] {x : AV} (h : agOk α x = true) : avM x (agE (agD (α := α) x)) := by
  unfold agOk at h
  split at h
  · rename_i n cs
    rw [Bool.and_eq_true] at h
    obtain rfl := Nat.eq_of_beq_eq_true h.1
    exact ⟨rfl, allB_of fun i hi => Enc.sound _ h.2 i hi⟩
  · cases h

structure Wk (xs ys : List AV) : Prop where
  h : avML xs ys
theorem Wk.refl : ∀ (xs : List AV), Wk xs xs
  | [] => ⟨trivial⟩
  | x :: xs => ⟨avM_refl x, (Wk.refl xs).h⟩
/-- What a local's box holds. -/
def boxAt (σ : Sig) (t j : Nat) : AV :=
  match σ.tm t with
  | .np p _ => (match σ.bl p with | .box _ _ cs => cs j | _ => .junk)
  | _ => .junk
abbrev Non (α : Type) : Option α := none
def blkAt : AV → Nat
  | .ns q _ _ => q
  | _ => 0
def lenAt (σ : Sig) : AV → Nat
  | .ns _ _ len => len
  | .xl _ _ len _ => len
  | _ => 0
def elsAt (σ : Sig) (x : AV) (i j : Nat) : AV :=
  match x with
  | .ns q o _ => (match σ.bl q with | .arr _ _ _ els => els (o + i) j | _ => .junk)
  | .xl _ _ _ els => els i j
  | _ => .junk
def listOf {α : Type} (n : Nat) (f : Nat → α) : List α := (List.range n).map f
theorem listOf_getD {α : Type} (l : List α) (d : α) : listOf l.length (fun i => l.getD i d) = l := by
  apply List.ext_getElem
  · simp [listOf]
  · intro i h1 h2
    simp [listOf, List.getD_eq_getElem?_getD, h2]
theorem listOf_zero {α : Type} (f : Nat → α) : listOf 0 f = [] := rfl
/-- A contract at given arguments. -/
def inst (ys : List AV) (r : AV) : List AV → Option (List Cond × AV) := fun xs => some ([.p (Wk xs ys)], r)
theorem inst_T {P : Program} {G : List (Nat × Obj)} {f : FuncId} {ys : List AV} {r : AV} (h : PureCall P G f ys r) : PureT P G f (inst ys r) := by
  intro xs ps r' h' hp
  cases h'
  exact weaken (hp _ List.mem_cons_self : Wk xs ys).h h
end Go.Sx
