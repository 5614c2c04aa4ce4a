/- For proofs of printed conditions: what is written is read back. Of no program. -/
import Derived.Test.YthbpnknhfokadaaGreatDoorArA
import Derived.Test.YthbpnknhfokadaaGreatDoorSxU
set_option linter.unusedSimpArgs false
set_option linter.unusedVariables false
namespace Go.Ar
open Go Go.Sx Go.Lib
set_option maxRecDepth 100000
class Yy (α : Type) [zr α] : Prop where
 dec : ∀ a : α, zr.dec (zr.enc a) = a
 ok : ∀ a : α, zr.ok (α := α) (zr.enc a) = true
theorem Sp {f : Nat → Bool} : ∀ {n : Nat}, (∀ i, i < n → f i = true) → tS f n = true
 | 0, _ => rfl
 | n + 1, h => by simp only [tS, Bool.and_eq_true]; exact ⟨Sp fun i hi => h i (by omega), h n (by omega)⟩
section
variable {α : Type} [zr α] [Yy α]
theorem tk (f : Bool) (l : List α) (n : Nat) : yY (AV.xl f n l.length fun i j => zr.enc (l.getD i zr.dflt) j) = l := by
 show sf l.length (fun i => zr.dec (zr.enc (l.getD i zr.dflt))) = l
 simp only [Yy.dec]
 exact rB l _
theorem uB (l : List α) : yY (Z1 l) = l := tk false l _
theorem sB (f : Bool) (l : List α) : ZZ α (AV.xl f (zr.n α) l.length fun i j => zr.enc (l.getD i zr.dflt) j) = true := by
 show (Nat.beq (zr.n α) (zr.n α) && tS (fun i => zr.ok (α := α) (zr.enc (l.getD i zr.dflt))) l.length) = true
 rw [Bool.and_eq_true]
 exact ⟨Nat.beq_refl _, Sp fun i _ => Yy.ok _⟩
theorem vh (l : List α) : ZZ α (Z1 l) = true := sB false l
theorem uc (a : α) : yp (xZ a) = a := Yy.dec a
theorem vP (a : α) : ym α (xZ a) = true := by
 show (Nat.beq (zr.n α) (zr.n α) && zr.ok (α := α) (zr.enc a)) = true
 rw [Bool.and_eq_true]
 exact ⟨Nat.beq_refl _, Yy.ok _⟩
end
instance : Yy Int := ⟨fun _ => rfl, fun _ => rfl⟩
instance : Yy Bool := ⟨fun _ => rfl, fun _ => rfl⟩
instance : Yy (List UInt8) := ⟨fun _ => rfl, fun _ => rfl⟩
theorem Ho (k : IntKind) (n : Int) : AV.int (.v (.int k n)) = n := rfl
theorem xS (z : Nat) : zG 0 (z : Int) = Nat.blt 0 z := by rw [Bool.eq_iff_iff, zp, Zw]; omega
theorem Rw (z : Nat) : ((z : Int) - 1).toNat = z - 1 := by omega
theorem XF {A B : Prop} : zZ true A B ↔ A := by simp [zX]
theorem row_one (r : Nat → AV) : Sx.rowAt [r] = fun _ j => r j := by
 funext i j
 unfold Sx.rowAt
 cases i with
 | zero => rfl
 | succ i => rfl
def zt (x : AV) : List Int := yY x
theorem HV (f : Bool) (l : List Int) : ZZ Int (AV.xl f 1 l.length fun i j => AV.v (Value.int IntKind.i64 (l.getD i 0))) = true := sB f l
theorem HR (f : Bool) (l : List Int) : ZZ Int (AV.xl f 1 l.length fun i j => AV.v (Value.int IntKind.i64 (l.getD i zr.dflt))) = true := sB f l
theorem GB (f : Bool) (l : List Int) : yY (AV.xl f 1 l.length fun i j => AV.v (Value.int IntKind.i64 (l.getD i 0))) = l := tk f l 1
theorem gA (f : Bool) (l : List Int) : yY (AV.xl f 1 l.length fun i j => AV.v (Value.int IntKind.i64 (l.getD i zr.dflt))) = l := tk f l 1
theorem GY (f : Bool) (l : List Int) : zt (AV.xl f 1 l.length fun i j => AV.v (Value.int IntKind.i64 (l.getD i 0))) = l := tk f l 1
theorem gU (f : Bool) (l : List Int) : zt (AV.xl f 1 l.length fun i j => AV.v (Value.int IntKind.i64 (l.getD i zr.dflt))) = l := tk f l 1
theorem oU {α : Type} {l : List α} {d : α} {z : Nat} (h : z < l.length) : l.take (z + 1) = l.take z ++ [l.getD z d] := by
 simp_all
def JL (f : FuncId) : AV := .fn (.func f) 0 (fun _ => .junk) 0 (fun _ => .junk)
theorem HQ {a b : Nat} (h : a ≤ b) : 10 ^ a ≤ 10 ^ b := Nat.pow_le_pow_right (by omega) h
theorem K5 (k m : Nat) (h : m = k + 1) : 10 ^ m = 10 ^ k * 10 := by rw [h, Nat.pow_succ]
theorem jg (k m : Nat) (h : m = k + k) : 10 ^ m = 10 ^ k * 10 ^ k := by rw [h, Nat.pow_add]
theorem UC {c : Bool} {A B : Prop} (h : c = true) (ha : A) : zZ c A B := by rw [h, XF]; exact ha
theorem sS : (∀ x : AV, ze x x) ∧ (∀ p : Prop, (True ∧ p) = p) ∧ (∀ p : Prop, (p ∧ True) = p) ∧ (∀ x : Bool, zR true x = x) ∧ (∀ x : Bool, zR false x = !x) ∧
  (∀ {x : Bool} {A : Prop}, zZ (!x || x) A False ↔ A) ∧ (∀ a b : Bool, (bif a then true else b) = (a || b)) ∧ (∀ a b : Bool, (bif a then b else false) = (a && b)) ∧
  (∀ {x : Bool} {p : Prop} [DB p] {A : Prop}, zZ (!x || DB.db p) A False ↔ (x = true → p) ∧ A) ∧ (∀ {p : Prop} [DB p] {A : Prop}, zZ (DB.db p) A False ↔ p ∧ A) ∧
  (∀ {a b : Int} {A B : Prop}, zZ (zG a b) A B ↔ (a < b → A) ∧ (b ≤ a → B)) ∧ (∀ {a b : Int} {A B : Prop}, zZ (leB a b) A B ↔ (a ≤ b → A) ∧ (b < a → B)) ∧
  (∀ {a b : Int} {A B : Prop}, zZ (a != b) A B ↔ (a ≠ b → A) ∧ (a = b → B)) ∧ (∀ {a b : Int} {A B : Prop}, zZ (a == b) A B ↔ (a = b → A) ∧ (a ≠ b → B)) ∧
  (∀ {A B : Prop}, zZ true A B ↔ A) ∧ (∀ n : Nat, (n : Int).toNat = n) ∧ (∀ n : Nat, 0 + n = n) ∧ (∀ n : Nat, 0 ≤ n) ∧ (∀ n : Nat, n - 0 = n) ∧
  (∀ (k : IntKind) (n : Int), AV.int (.v (.int k n)) = n) ∧ (∀ b : Bool, (b || true) = true) ∧ (∀ {α : Type} (a b : α), (bif true then a else b) = a) ∧ (∀ {α : Type} (a b : α), (bif false then a else b) = b) :=
 ⟨zV, true_and, and_true, Xf, QT, J3, IX, LK, ZE, yq, IB, H8, Hi, HN, XF, Int.toNat_natCast, Nat.zero_add, Nat.zero_le, Nat.sub_zero, Ho, Bool.or_true, cond_true, cond_false⟩
theorem dS : (∀ (f : Bool) (l : List Int), ZZ Int (AV.xl f 1 l.length fun i j => AV.v (Value.int IntKind.i64 (l.getD i 0))) = true) ∧ (∀ (f : Bool) (l : List Int), ZZ Int (AV.xl f 1 l.length fun i j => AV.v (Value.int IntKind.i64 (l.getD i zr.dflt))) = true) ∧
  (∀ (f : Bool) (l : List Int), yY (AV.xl f 1 l.length fun i j => AV.v (Value.int IntKind.i64 (l.getD i 0))) = l) ∧ (∀ (f : Bool) (l : List Int), yY (AV.xl f 1 l.length fun i j => AV.v (Value.int IntKind.i64 (l.getD i zr.dflt))) = l) ∧
  (∀ (f : Bool) (l : List Int), zt (AV.xl f 1 l.length fun i j => AV.v (Value.int IntKind.i64 (l.getD i 0))) = l) ∧ (∀ (f : Bool) (l : List Int), zt (AV.xl f 1 l.length fun i j => AV.v (Value.int IntKind.i64 (l.getD i zr.dflt))) = l) :=
 ⟨HV, HR, GB, gA, GY, gU⟩
def I3 : List zN → Prop
 | [] => True
 | p :: ps => p.holds ∧ I3 ps
theorem Zo : ∀ {ps : List zN}, (∀ p ∈ ps, p.holds) → I3 ps
 | [], _ => trivial
 | _ :: _, h => ⟨h _ List.mem_cons_self, Zo fun q hq => h q (List.mem_cons_of_mem _ hq)⟩
abbrev bF (t : Bool) (A : Prop) : Prop := zZ t A False
abbrev dK (x : Int) : Bool := DB.db (yc .i64 x)
abbrev bA (a : Array UInt8) : List UInt8 := Array.toList (ByteArray.data (ByteArray.mk a))
abbrev a8 (x : UInt8) : AV := AV.v (Value.int IntKind.u8 ((UInt8.toNat x : Nat) : Int))
abbrev xI (x : List Int) : AV := AV.xl false 1 (List.length x) fun i _ => AV.v (Value.int .i64 (List.getD x i zr.dflt))
abbrev nX : Nat := 9223372036854775807
abbrev nM : Nat := 4294967280
abbrev lR : Prop := LoopState.ready = LoopState.ready ∧ X8 Code = X8 Code
abbrev cI (n : Nat) : Int := n
abbrev kI : Prop := IntKind.i64 = .i64
abbrev j2 : Prop := 2 = List.length [AV.junk, AV.junk]
abbrev lN {α : Type} (l : List α) : Nat := List.length l
abbrev lZ {α : Type} (l : List α) : Int := (↑(List.length l) : Int)
abbrev gD {α : Type} (l : List α) (i : Nat) (d : α) : α := List.getD l i d
abbrev iZ : Int := 0
abbrev iO : Int := 1
abbrev iX : Int := 9223372036854775807
abbrev iN : Int := -9223372036854775808
abbrev iB : Int := 1000000000
abbrev aI (n : Int) : AV := AV.v (Value.int .i64 n)
end Go.Ar
