/- For proofs of printed conditions: what is written is read back. Of no program. -/
import Derived.Test.YthbpnknhfokadaaGreatDoorArA
import Derived.Test.YthbpnknhfokadaaGreatDoorSxU
set_option linter.unusedSimpArgs false
set_option linter.unusedVariables false
namespace Go.Ar
open Go Go.Sx Go.Lib
set_option maxRecDepth 100000
class Yy (α : Type) [zR α] : Prop where
 dec : ∀ a : α, zR.dec (zR.enc a) = a
 ok : ∀ a : α, zR.ok (α := α) (zR.enc a) = true
theorem sI {f : Nat → Bool} : ∀ {n : Nat}, (∀ i, i < n → f i = true) → Uw f n = true
 | 0, _ => rfl
 | n + 1, h => by simp only [Uw, Bool.and_eq_true]; exact ⟨sI fun i hi => h i (by omega), h n (by omega)⟩
section
variable {α : Type} [zR α] [Yy α]
theorem U5 (f : Bool) (l : List α) (n : Nat) : Z5 (AV.xl f n l.length fun i j => zR.enc (l.getD i zR.dflt) j) = l := by
 show Sy l.length (fun i => zR.dec (zR.enc (l.getD i zR.dflt))) = l
 simp only [Yy.dec]
 exact RH l _
theorem uH (l : List α) : Z5 (ZA l) = l := U5 false l _
theorem S6 (f : Bool) (l : List α) : z6 α (AV.xl f (zR.n α) l.length fun i j => zR.enc (l.getD i zR.dflt) j) = true := by
 show (Nat.beq (zR.n α) (zR.n α) && Uw (fun i => zR.ok (α := α) (zR.enc (l.getD i zR.dflt))) l.length) = true
 rw [Bool.and_eq_true]
 exact ⟨Nat.beq_refl _, sI fun i _ => Yy.ok _⟩
theorem vn (l : List α) : z6 α (ZA l) = true := S6 false l
theorem Wa (a : α) : yR (xz a) = a := Yy.dec a
theorem X0 (a : α) : yp α (xz a) = true := by
 show (Nat.beq (zR.n α) (zR.n α) && zR.ok (α := α) (zR.enc a)) = true
 rw [Bool.and_eq_true]
 exact ⟨Nat.beq_refl _, Yy.ok _⟩
end
instance : Yy Int := ⟨fun _ => rfl, fun _ => rfl⟩
instance : Yy Bool := ⟨fun _ => rfl, fun _ => rfl⟩
instance : Yy (List UInt8) := ⟨fun _ => rfl, fun _ => rfl⟩
theorem I4 (k : IntKind) (n : Int) : AV.int (.v (.int k n)) = n := rfl
theorem xt (z : Nat) : zG 0 (z : Int) = Nat.blt 0 z := by rw [Bool.eq_iff_iff, zp, ZX]; omega
theorem Rf (z : Nat) : ((z : Int) - 1).toNat = z - 1 := by omega
theorem XB {A B : Prop} : zZ true A B ↔ A := by simp [zX]
theorem row_one (r : Nat → AV) : Sx.rowAt [r] = fun _ j => r j := by
 funext i j
 unfold Sx.rowAt
 cases i with
 | zero => rfl
 | succ i => rfl
def zt (x : AV) : List Int := Z5 x
theorem Hd (f : Bool) (l : List Int) : z6 Int (AV.xl f 1 l.length fun i j => AV.v (Value.int IntKind.i64 (l.getD i 0))) = true := S6 f l
theorem HY (f : Bool) (l : List Int) : z6 Int (AV.xl f 1 l.length fun i j => AV.v (Value.int IntKind.i64 (l.getD i zR.dflt))) = true := S6 f l
theorem GR (f : Bool) (l : List Int) : Z5 (AV.xl f 1 l.length fun i j => AV.v (Value.int IntKind.i64 (l.getD i 0))) = l := U5 f l 1
theorem GU (f : Bool) (l : List Int) : Z5 (AV.xl f 1 l.length fun i j => AV.v (Value.int IntKind.i64 (l.getD i zR.dflt))) = l := U5 f l 1
theorem gA (f : Bool) (l : List Int) : zt (AV.xl f 1 l.length fun i j => AV.v (Value.int IntKind.i64 (l.getD i 0))) = l := U5 f l 1
theorem IC (f : Bool) (l : List Int) : zt (AV.xl f 1 l.length fun i j => AV.v (Value.int IntKind.i64 (l.getD i zR.dflt))) = l := U5 f l 1
theorem Oh {α : Type} {l : List α} {d : α} {z : Nat} (h : z < l.length) : l.take (z + 1) = l.take z ++ [l.getD z d] := by
 simp_all
def i7 (f : FuncId) : AV := .fn (.func f) 0 (fun _ => .junk) 0 (fun _ => .junk)
theorem gW {a b : Nat} (h : a ≤ b) : 10 ^ a ≤ 10 ^ b := Nat.pow_le_pow_right (by omega) h
theorem jZ (k m : Nat) (h : m = k + 1) : 10 ^ m = 10 ^ k * 10 := by rw [h, Nat.pow_succ]
theorem J1 (k m : Nat) (h : m = k + k) : 10 ^ m = 10 ^ k * 10 ^ k := by rw [h, Nat.pow_add]
theorem te {c : Bool} {A B : Prop} (h : c = true) (ha : A) : zZ c A B := by rw [h, XB]; exact ha
theorem sS : (∀ x : AV, zd x x) ∧ (∀ p : Prop, (True ∧ p) = p) ∧ (∀ p : Prop, (p ∧ True) = p) ∧ (∀ x : Bool, zr true x = x) ∧ (∀ x : Bool, zr false x = !x) ∧
  (∀ {x : Bool} {A : Prop}, zZ (!x || x) A False ↔ A) ∧ (∀ a b : Bool, (bif a then true else b) = (a || b)) ∧ (∀ a b : Bool, (bif a then b else false) = (a && b)) ∧
  (∀ {x : Bool} {p : Prop} [DB p] {A : Prop}, zZ (!x || DB.db p) A False ↔ (x = true → p) ∧ A) ∧ (∀ {p : Prop} [DB p] {A : Prop}, zZ (DB.db p) A False ↔ p ∧ A) ∧
  (∀ {a b : Int} {A B : Prop}, zZ (zG a b) A B ↔ (a < b → A) ∧ (b ≤ a → B)) ∧ (∀ {a b : Int} {A B : Prop}, zZ (leB a b) A B ↔ (a ≤ b → A) ∧ (b < a → B)) ∧
  (∀ {a b : Int} {A B : Prop}, zZ (a != b) A B ↔ (a ≠ b → A) ∧ (a = b → B)) ∧ (∀ {a b : Int} {A B : Prop}, zZ (a == b) A B ↔ (a = b → A) ∧ (a ≠ b → B)) ∧
  (∀ {A B : Prop}, zZ true A B ↔ A) ∧ (∀ n : Nat, (n : Int).toNat = n) ∧ (∀ n : Nat, 0 + n = n) ∧ (∀ n : Nat, 0 ≤ n) ∧ (∀ n : Nat, n - 0 = n) ∧
  (∀ (k : IntKind) (n : Int), AV.int (.v (.int k n)) = n) ∧ (∀ b : Bool, (b || true) = true) ∧ (∀ {α : Type} (a b : α), (bif true then a else b) = a) ∧ (∀ {α : Type} (a b : α), (bif false then a else b) = b) :=
 ⟨zV, true_and, and_true, Xd, Q6, It, Jw, Kh, ZF, yU, Hr, Hy, H4, I2, XB, Int.toNat_natCast, Nat.zero_add, Nat.zero_le, Nat.sub_zero, I4, Bool.or_true, cond_true, cond_false⟩
theorem dS : (∀ (f : Bool) (l : List Int), z6 Int (AV.xl f 1 l.length fun i j => AV.v (Value.int IntKind.i64 (l.getD i 0))) = true) ∧ (∀ (f : Bool) (l : List Int), z6 Int (AV.xl f 1 l.length fun i j => AV.v (Value.int IntKind.i64 (l.getD i zR.dflt))) = true) ∧
  (∀ (f : Bool) (l : List Int), Z5 (AV.xl f 1 l.length fun i j => AV.v (Value.int IntKind.i64 (l.getD i 0))) = l) ∧ (∀ (f : Bool) (l : List Int), Z5 (AV.xl f 1 l.length fun i j => AV.v (Value.int IntKind.i64 (l.getD i zR.dflt))) = l) ∧
  (∀ (f : Bool) (l : List Int), zt (AV.xl f 1 l.length fun i j => AV.v (Value.int IntKind.i64 (l.getD i 0))) = l) ∧ (∀ (f : Bool) (l : List Int), zt (AV.xl f 1 l.length fun i j => AV.v (Value.int IntKind.i64 (l.getD i zR.dflt))) = l) :=
 ⟨Hd, HY, GR, GU, gA, IC⟩
def H7 : List zN → Prop
 | [] => True
 | p :: ps => p.holds ∧ H7 ps
theorem Zo : ∀ {ps : List zN}, (∀ p ∈ ps, p.holds) → H7 ps
 | [], _ => trivial
 | _ :: _, h => ⟨h _ List.mem_cons_self, Zo fun q hq => h q (List.mem_cons_of_mem _ hq)⟩
abbrev bF (t : Bool) (A : Prop) : Prop := zZ t A False
abbrev dK (x : Int) : Bool := DB.db (yD .i64 x)
abbrev bA (a : Array UInt8) : List UInt8 := Array.toList (ByteArray.data (ByteArray.mk a))
abbrev a8 (x : UInt8) : AV := AV.v (Value.int IntKind.u8 ((UInt8.toNat x : Nat) : Int))
abbrev xI (x : List Int) : AV := AV.xl false 1 (List.length x) fun i _ => AV.v (Value.int .i64 (List.getD x i zR.dflt))
abbrev nX : Nat := 9223372036854775807
abbrev nM : Nat := 4294967280
abbrev lR : Prop := LoopState.ready = LoopState.ready ∧ X7 Code = X7 Code
abbrev cI (n : Nat) : Int := n
abbrev kI : Prop := IntKind.i64 = .i64
abbrev j2 : Prop := 2 = List.length [AV.junk, AV.junk]
abbrev lN {α : Type} (l : List α) : Nat := List.length l
abbrev lZ {α : Type} (l : List α) : Int := (↑(List.length l) : Int)
abbrev gD {α : Type} (l : List α) (i : Nat) (d : α) : α := List.getD l i d
abbrev iZ : Int := 0
abbrev iO : Int := 1
abbrev iX : Int := 9223372036854775807
abbrev iN : Int := -9223372036854775808
abbrev iB : Int := 1000000000
abbrev aI (n : Int) : AV := AV.v (Value.int .i64 n)
end Go.Ar
