/- For proofs of printed conditions: what is written is read back. Of no program. -/
import Derived.Test.YtgpbohfbhfbelaaGreatDoorArA
import Derived.Test.YtgpbohfbhfbelaaGreatDoorSxU
set_option linter.unusedSimpArgs false
set_option linter.unusedVariables false
namespace Go.Ar
open Go Go.Sx Go.Lib
set_option maxRecDepth 100000
class YR (α : Type) [zR α] : Prop where
 dec : ∀ a : α, zR.dec (zR.enc a) = a
 ok : ∀ a : α, zR.ok (α := α) (zR.enc a) = true
theorem oS {f : Nat → Bool} : ∀ {n : Nat}, (∀ i, i < n → f i = true) → Tl f n = true
 | 0, _ => rfl
 | n + 1, h => by simp only [Tl, Bool.and_eq_true]; exact ⟨oS fun i hi => h i (by omega), h n (by omega)⟩
section
variable {α : Type} [zR α] [YR α]
theorem tp (f : Bool) (l : List α) (n : Nat) : Zn (AV.xl f n l.length fun i j => zR.enc (l.getD i zR.dflt) j) = l := by
 show w7 l.length (fun i => zR.dec (zR.enc (l.getD i zR.dflt))) = l
 simp only [YR.dec]
 exact qE l _
theorem wH (l : List α) : Zn (Zl l) = l := tp false l _
theorem RN (f : Bool) (l : List α) : ze α (AV.xl f (zR.n α) l.length fun i j => zR.enc (l.getD i zR.dflt) j) = true := by
 show (Nat.beq (zR.n α) (zR.n α) && Tl (fun i => zR.ok (α := α) (zR.enc (l.getD i zR.dflt))) l.length) = true
 rw [Bool.and_eq_true]
 exact ⟨Nat.beq_refl _, oS fun i _ => YR.ok _⟩
theorem Xj (l : List α) : ze α (Zl l) = true := RN false l
theorem Um (a : α) : yR (yD a) = a := YR.dec a
theorem Vg (a : α) : yo α (yD a) = true := by
 show (Nat.beq (zR.n α) (zR.n α) && zR.ok (α := α) (zR.enc a)) = true
 rw [Bool.and_eq_true]
 exact ⟨Nat.beq_refl _, YR.ok _⟩
end
instance : YR Int := ⟨fun _ => rfl, fun _ => rfl⟩
instance : YR Bool := ⟨fun _ => rfl, fun _ => rfl⟩
instance : YR (List UInt8) := ⟨fun _ => rfl, fun _ => rfl⟩
theorem GB (k : IntKind) (n : Int) : AV.int (.v (.int k n)) = n := rfl
theorem xJ (z : Nat) : zM 0 (z : Int) = Nat.blt 0 z := by rw [Bool.eq_iff_iff, zq, Zx]; omega
theorem Qz (z : Nat) : ((z : Int) - 1).toNat = z - 1 := by omega
theorem X6 {A B : Prop} : zZ true A B ↔ A := by simp [zY]
theorem row_one (r : Nat → AV) : Sx.rowAt [r] = fun _ j => r j := by
 funext i j
 unfold Sx.rowAt
 cases i with
 | zero => rfl
 | succ i => rfl
def zU (x : AV) : List Int := Zn x
theorem gg (f : Bool) (l : List Int) : ze Int (AV.xl f 1 l.length fun i j => AV.v (Value.int IntKind.i64 (l.getD i 0))) = true := RN f l
theorem fx (f : Bool) (l : List Int) : ze Int (AV.xl f 1 l.length fun i j => AV.v (Value.int IntKind.i64 (l.getD i zR.dflt))) = true := RN f l
theorem Ex (f : Bool) (l : List Int) : Zn (AV.xl f 1 l.length fun i j => AV.v (Value.int IntKind.i64 (l.getD i 0))) = l := tp f l 1
theorem FF (f : Bool) (l : List Int) : Zn (AV.xl f 1 l.length fun i j => AV.v (Value.int IntKind.i64 (l.getD i zR.dflt))) = l := tp f l 1
theorem Fc (f : Bool) (l : List Int) : zU (AV.xl f 1 l.length fun i j => AV.v (Value.int IntKind.i64 (l.getD i 0))) = l := tp f l 1
theorem fA (f : Bool) (l : List Int) : zU (AV.xl f 1 l.length fun i j => AV.v (Value.int IntKind.i64 (l.getD i zR.dflt))) = l := tp f l 1
theorem Np {α : Type} {l : List α} {d : α} {z : Nat} (h : z < l.length) : l.take (z + 1) = l.take z ++ [l.getD z d] := by
 simp_all
def jK (f : FuncId) : AV := .fn (.func f) 0 (fun _ => .junk) 0 (fun _ => .junk)
theorem ff {a b : Nat} (h : a ≤ b) : 10 ^ a ≤ 10 ^ b := Nat.pow_le_pow_right (by omega) h
theorem jW (k m : Nat) (h : m = k + 1) : 10 ^ m = 10 ^ k * 10 := by rw [h, Nat.pow_succ]
theorem IL (k m : Nat) (h : m = k + k) : 10 ^ m = 10 ^ k * 10 ^ k := by rw [h, Nat.pow_add]
theorem Tq {c : Bool} {A B : Prop} (h : c = true) (ha : A) : zZ c A B := by rw [h, X6]; exact ha
theorem sS : (∀ x : AV, zi x x) ∧ (∀ p : Prop, (True ∧ p) = p) ∧ (∀ p : Prop, (p ∧ True) = p) ∧ (∀ x : Bool, zS true x = x) ∧ (∀ x : Bool, zS false x = !x) ∧
  (∀ {x : Bool} {A : Prop}, zZ (!x || x) A False ↔ A) ∧ (∀ a b : Bool, (bif a then true else b) = (a || b)) ∧ (∀ a b : Bool, (bif a then b else false) = (a && b)) ∧
  (∀ {x : Bool} {p : Prop} [DB p] {A : Prop}, zZ (!x || DB.db p) A False ↔ (x = true → p) ∧ A) ∧ (∀ {p : Prop} [DB p] {A : Prop}, zZ (DB.db p) A False ↔ p ∧ A) ∧
  (∀ {a b : Int} {A B : Prop}, zZ (zM a b) A B ↔ (a < b → A) ∧ (b ≤ a → B)) ∧ (∀ {a b : Int} {A B : Prop}, zZ (leB a b) A B ↔ (a ≤ b → A) ∧ (b < a → B)) ∧
  (∀ {a b : Int} {A B : Prop}, zZ (a != b) A B ↔ (a ≠ b → A) ∧ (a = b → B)) ∧ (∀ {a b : Int} {A B : Prop}, zZ (a == b) A B ↔ (a = b → A) ∧ (a ≠ b → B)) ∧
  (∀ {A B : Prop}, zZ true A B ↔ A) ∧ (∀ n : Nat, (n : Int).toNat = n) ∧ (∀ n : Nat, 0 + n = n) ∧ (∀ n : Nat, 0 ≤ n) ∧ (∀ n : Nat, n - 0 = n) ∧
  (∀ (k : IntKind) (n : Int), AV.int (.v (.int k n)) = n) ∧ (∀ b : Bool, (b || true) = true) ∧ (∀ {α : Type} (a b : α), (bif true then a else b) = a) ∧ (∀ {α : Type} (a b : α), (bif false then a else b) = b) :=
 ⟨zV, true_and, and_true, nV, pD, IK, iw, kV, Zu, Zf, gC, G2, fG, fN, X6, Int.toNat_natCast, Nat.zero_add, Nat.zero_le, Nat.sub_zero, GB, Bool.or_true, cond_true, cond_false⟩
theorem dS : (∀ (f : Bool) (l : List Int), ze Int (AV.xl f 1 l.length fun i j => AV.v (Value.int IntKind.i64 (l.getD i 0))) = true) ∧ (∀ (f : Bool) (l : List Int), ze Int (AV.xl f 1 l.length fun i j => AV.v (Value.int IntKind.i64 (l.getD i zR.dflt))) = true) ∧
  (∀ (f : Bool) (l : List Int), Zn (AV.xl f 1 l.length fun i j => AV.v (Value.int IntKind.i64 (l.getD i 0))) = l) ∧ (∀ (f : Bool) (l : List Int), Zn (AV.xl f 1 l.length fun i j => AV.v (Value.int IntKind.i64 (l.getD i zR.dflt))) = l) ∧
  (∀ (f : Bool) (l : List Int), zU (AV.xl f 1 l.length fun i j => AV.v (Value.int IntKind.i64 (l.getD i 0))) = l) ∧ (∀ (f : Bool) (l : List Int), zU (AV.xl f 1 l.length fun i j => AV.v (Value.int IntKind.i64 (l.getD i zR.dflt))) = l) :=
 ⟨gg, fx, Ex, FF, Fc, fA⟩
def G8 : List zN → Prop
 | [] => True
 | p :: ps => p.holds ∧ G8 ps
theorem ZT : ∀ {ps : List zN}, (∀ p ∈ ps, p.holds) → G8 ps
 | [], _ => trivial
 | _ :: _, h => ⟨h _ List.mem_cons_self, ZT fun q hq => h q (List.mem_cons_of_mem _ hq)⟩
abbrev bF (t : Bool) (A : Prop) : Prop := zZ t A False
abbrev dK (x : Int) : Bool := DB.db (ZB .i64 x)
abbrev bA (a : Array UInt8) : List UInt8 := Array.toList (ByteArray.data (ByteArray.mk a))
abbrev a8 (x : UInt8) : AV := AV.v (Value.int IntKind.u8 ((UInt8.toNat x : Nat) : Int))
abbrev xI (x : List Int) : AV := AV.xl false 1 (List.length x) fun i _ => AV.v (Value.int .i64 (List.getD x i zR.dflt))
abbrev nX : Nat := 9223372036854775807
abbrev nM : Nat := 4294967280
abbrev lR : Prop := LoopState.ready = LoopState.ready ∧ Xd Code = Xd Code
abbrev cI (n : Nat) : Int := n
abbrev kI : Prop := IntKind.i64 = .i64
abbrev j2 : Prop := 2 = List.length [AV.junk, AV.junk]
abbrev lN {α : Type} (l : List α) : Nat := List.length l
abbrev lZ {α : Type} (l : List α) : Int := (↑(List.length l) : Int)
abbrev gD {α : Type} (l : List α) (i : Nat) (d : α) : α := List.getD l i d
abbrev iZ : Int := 0
abbrev iO : Int := 1
abbrev iX : Int := 9223372036854775807
abbrev iN : Int := -9223372036854775808
abbrev iB : Int := 1000000000
abbrev aI (n : Int) : AV := AV.v (Value.int .i64 n)
end Go.Ar
