/- Numbers as the reference reads them: the sign, what stands ahead of and behind the slash; small numbers. -/
import Derived.Test.YthbpnknhfokadaaGreatDoorArA
import Derived.Test.YthbpnknhfokadaaGreatDoorSxU
set_option linter.unusedSimpArgs false
set_option linter.unusedVariables false
namespace Go.Ar
open Go Go.Sx Go.Lib
set_option maxRecDepth 100000
theorem wG {s : zj} {i : Nat} (h : i < s.length) : s.getD i 0 ∈ s := by
 simp_all
theorem UI {s : zj} {c : UInt8} (h : c ∈ s) : ∃ i, i < s.length ∧ s.getD i 0 = c := by
 obtain ⟨i, hi, rfl⟩ := List.mem_iff_getElem.1 h
 exact ⟨i, hi, by rw [List.getD_eq_getElem?_getD, List.getElem?_eq_getElem hi]; rfl⟩
theorem getD_takeS {s : zj} {z i : Nat} (h : i < z) : (s.take z).getD i 0 = s.getD i 0 := by
 simp_all
theorem JM {s : zj} {z : Nat} (hz : z < s.length) (h : ∀ i, i < z → s.getD i 0 ≠ 47) (e : s.getD z 0 = 47) :
  zn s = s.take z ∧ zB s = s.drop (z + 1) ∧ zJ s = true := by
 have e1 : s.take z ++ 47 :: s.drop (z + 1) = s := by
  conv => rhs; rw [← List.take_append_drop z s]
  congr 1
  rw [List.drop_eq_getElem_cons hz, ← e, List.getD_eq_getElem?_getD, List.getElem?_eq_getElem hz]; rfl
 have h1 : ∀ c ∈ s.take z, (c != 47) = true := by
  intro c hc
  obtain ⟨i, hi, rfl⟩ := UI hc
  grind
 have := Uh (b := s.drop (z + 1)) h1
 simp_all
theorem Nr {s : zj} (h : ∀ i, i < s.length → s.getD i 0 ≠ 47) : zJ s = false ∧ zn s = s ∧ zB s = [] := by
 have hs : zJ s = false := Uk fun c hc => by
  obtain ⟨i, hi, rfl⟩ := UI hc
  simp_all
 exact ⟨hs, XX hs⟩
def zk (a : zj) : Bool := a.getD 0 0 == 45
def zR (a : zj) : zj := bif zk a then a.drop 1 else a
theorem Uy (a : zj) : (zR a).length ≤ a.length := by
 unfold zR
 grind
theorem vY (s : zj) : (zn s).length ≤ s.length := by
 unfold zn
 exact List.Sublist.length_le (List.takeWhile_sublist _)
theorem RN (s : zj) : (zB s).length ≤ s.length := by
 unfold zB
 rw [List.length_drop]
 have := List.Sublist.length_le (List.dropWhile_sublist (· != (47 : UInt8)) (l := s))
 omega
theorem Ot (a : zj) : (zk a = true ∧ a = 45 :: zR a) ∨ (zk a = false ∧ zR a = a ∧ ¬ (0 < (zn a).length ∧ (zn a).getD 0 0 = 45)) := by
 unfold zR zk
 match a with
 | [] => exact .inr ⟨rfl, rfl, fun h => by cases h.1⟩
 | c :: r =>
  by_cases hc : c = 45
  ·simp_all
  ·have e : ((c :: r).getD 0 0 == (45 : UInt8)) = false := beq_eq_false_iff_ne.2 hc
   rw [e]
   refine .inr ⟨rfl, rfl, fun h => ?_⟩
   unfold zn at h
   rw [List.takeWhile_cons] at h
   grind
theorem jE (r : zj) : zn (45 :: r) = 45 :: zn r ∧ zB (45 :: r) = zB r ∧ zJ (45 :: r) = zJ r := by
 refine ⟨?_, ?_, ?_⟩
 all_goals rfl
theorem YH (a : zj) : zn a = (bif zk a then 45 :: zn (zR a) else zn (zR a)) ∧ zB a = zB (zR a) ∧ zJ a = zJ (zR a) ∧
  Zy (zn a) = (Z2 (zn (zR a)) && !(zk a && zn (zR a) == [48])) ∧ X0 (zn a) = (zn (zR a)).length ∧
  zL a = (bif zk a then -(zD (zn (zR a)) : Int) else (zD (zn (zR a)) : Int)) ∧ zP a = (bif zJ (zR a) then zD (zB (zR a)) else 1) := by
 rcases Ot a with ⟨h1, h2⟩ | ⟨h1, h2, h3⟩
 ·obtain ⟨c1, c2, c3⟩ := jE (zR a)
  rw [← h2] at c1 c2 c3
  unfold zL zP
  rw [c1, c2, c3, h1]
  exact ⟨rfl, rfl, rfl, by show (Z2 _ && _) = _; simp, rfl, rfl, rfl⟩
 ·obtain ⟨p1, p2, p3⟩ := WV h3
  unfold zL zP
  simp_all
theorem uC (a : zj) : (zL a).natAbs = zD (zn (zR a)) := by
 obtain ⟨_, _, _, _, _, h, _⟩ := YH a
 grind
def Wx (a : zj) : Bool := Z2 (zn (zR a)) && !(zk a && zn (zR a) == [48]) && (!zJ (zR a) || Z2 (zB (zR a)) && !(zB (zR a) == [48]) && !(zB (zR a) == [49]))
theorem XG (a : zj) : ZO a = Wx a := by
 obtain ⟨h1, h2, h3, h4, _⟩ := YH a
 unfold ZO Wx
 simp_all
theorem rk {a : zj} (h : Wx a = false) : zh a = 11 := by
 unfold zh
 rw [XG, h]; rfl
theorem oH {a : zj} (h : Wx a = true) (hl : 300 < (zn (zR a)).length ∨ 300 < (zB (zR a)).length) : zh a = 4 := by
 obtain ⟨_, h2, _, _, h5, _⟩ := YH a
 unfold zh
 rw [XG, h, h5, h2, show (Nat.blt 300 (zn (zR a)).length || Nat.blt 300 (zB (zR a)).length) = true by
  simp_all]
 rfl
theorem tZ {a : zj} (h : Wx a = true) (hl : (zn (zR a)).length ≤ 300 ∧ (zB (zR a)).length ≤ 300) (hs : zJ (zR a) = true) :
  zh a = bif Nat.beq (Nat.gcd (zD (zn (zR a))) (zD (zB (zR a)))) 1 then 0 else 11 := by
 obtain ⟨_, h2, _, _, h5, _, h7⟩ := YH a
 unfold zh
 rw [XG, h, h5, h2, uC, h7, hs, show (Nat.blt 300 (zn (zR a)).length || Nat.blt 300 (zB (zR a)).length) = false by
  rw [Bool.or_eq_false_iff, Bool.eq_false_iff, Bool.eq_false_iff, Ne, Ne, ZY, ZY]; omega]
 rfl
theorem Ry {a : zj} (h : Wx a = true) (hl : (zn (zR a)).length ≤ 300) (hs : zJ (zR a) = false) : zh a = 0 := by
 obtain ⟨_, h2, _, _, h5, _, h7⟩ := YH a
 have hd : zB (zR a) = [] := (XX hs).2
 unfold zh
 rw [XG, h, h5, h2, h7, hs, hd, show (Nat.blt 300 (zn (zR a)).length || Nat.blt 300 ([] : zj).length) = false by
  rw [Bool.or_eq_false_iff, Bool.eq_false_iff, Bool.eq_false_iff, Ne, Ne, ZY, ZY]
  simp_all]
 simp
theorem W1 {s : zj} (h : Z2 s = true) {k : Nat} (hl : s.length ≤ k) : zD s < 10 ^ k := by
 have h1 := Wo (l := s) (List.all_eq_true.2 (Zt.1 h).2.1)
 exact Nat.lt_of_lt_of_le h1 (Nat.pow_le_pow_right (by omega) hl)
end Go.Ar

namespace Go.Ar
open Go Go.Sx Go.Lib
set_option maxRecDepth 100000
class y7 (α : Type) [zV α] : Prop where
 dec : ∀ a : α, zV.dec (zV.enc a) = a
 ok : ∀ a : α, zV.ok (α := α) (zV.enc a) = true
theorem un {f : Nat → Bool} : ∀ {n : Nat}, (∀ i, i < n → f i = true) → Ut f n = true
 | 0, _ => rfl
 | n + 1, h => by simp only [Ut, Bool.and_eq_true]; exact ⟨un fun i hi => h i (by omega), h n (by omega)⟩
section
variable {α : Type} [zV α] [y7 α]
theorem tT (f : Bool) (l : List α) (n : Nat) : Zs (AV.xl f n l.length fun i j => zV.enc (l.getD i zV.dflt) j) = l := by
 show sk l.length (fun i => zV.dec (zV.enc (l.getD i zV.dflt))) = l
 simp only [y7.dec]
 exact rx l _
theorem uu (l : List α) : Zs (Ze l) = l := tT false l _
theorem Sd (f : Bool) (l : List α) : zf α (AV.xl f (zV.n α) l.length fun i j => zV.enc (l.getD i zV.dflt) j) = true := by
 show (Nat.beq (zV.n α) (zV.n α) && Ut (fun i => zV.ok (α := α) (zV.enc (l.getD i zV.dflt))) l.length) = true
 rw [Bool.and_eq_true]
 exact ⟨Nat.beq_refl _, un fun i _ => y7.ok _⟩
theorem vh (l : List α) : zf α (Ze l) = true := Sd false l
theorem Wt (a : α) : Zn (YG a) = a := y7.dec a
theorem XK (a : α) : yV α (YG a) = true := by
 show (Nat.beq (zV.n α) (zV.n α) && zV.ok (α := α) (zV.enc a)) = true
 rw [Bool.and_eq_true]
 exact ⟨Nat.beq_refl _, y7.ok _⟩
end
instance : y7 Int := ⟨fun _ => rfl, fun _ => rfl⟩
instance : y7 Bool := ⟨fun _ => rfl, fun _ => rfl⟩
instance : y7 (List UInt8) := ⟨fun _ => rfl, fun _ => rfl⟩
theorem Ic (k : IntKind) (n : Int) : AV.int (.v (.int k n)) = n := rfl
theorem xw (z : Nat) : zg 0 (z : Int) = Nat.blt 0 z := by rw [Bool.eq_iff_iff, zq, ZY]; omega
theorem RY (z : Nat) : ((z : Int) - 1).toNat = z - 1 := by omega
theorem Xd {A B : Prop} : zZ true A B ↔ A := by simp [zX]
theorem row_one (r : Nat → AV) : Sx.rowAt [r] = fun _ j => r j := by
 funext i j
 unfold Sx.rowAt
 cases i with
 | zero => rfl
 | succ i => rfl
def zu (x : AV) : List Int := Zs x
theorem I4 (f : Bool) (l : List Int) : zf Int (AV.xl f 1 l.length fun i j => AV.v (Value.int IntKind.i64 (l.getD i 0))) = true := Sd f l
theorem i7 (f : Bool) (l : List Int) : zf Int (AV.xl f 1 l.length fun i j => AV.v (Value.int IntKind.i64 (l.getD i zV.dflt))) = true := Sd f l
theorem H9 (f : Bool) (l : List Int) : Zs (AV.xl f 1 l.length fun i j => AV.v (Value.int IntKind.i64 (l.getD i 0))) = l := tT f l 1
theorem HT (f : Bool) (l : List Int) : Zs (AV.xl f 1 l.length fun i j => AV.v (Value.int IntKind.i64 (l.getD i zV.dflt))) = l := tT f l 1
theorem Hg (f : Bool) (l : List Int) : zu (AV.xl f 1 l.length fun i j => AV.v (Value.int IntKind.i64 (l.getD i 0))) = l := tT f l 1
theorem Ii (f : Bool) (l : List Int) : zu (AV.xl f 1 l.length fun i j => AV.v (Value.int IntKind.i64 (l.getD i zV.dflt))) = l := tT f l 1
theorem PF {α : Type} {l : List α} {d : α} {z : Nat} (h : z < l.length) : l.take (z + 1) = l.take z ++ [l.getD z d] := by
 simp_all
def JK (f : FuncId) : AV := .fn (.func f) 0 (fun _ => .junk) 0 (fun _ => .junk)
theorem I1 {a b : Nat} (h : a ≤ b) : 10 ^ a ≤ 10 ^ b := Nat.pow_le_pow_right (by omega) h
theorem lG (k m : Nat) (h : m = k + 1) : 10 ^ m = 10 ^ k * 10 := by rw [h, Nat.pow_succ]
theorem JZ (k m : Nat) (h : m = k + k) : 10 ^ m = 10 ^ k * 10 ^ k := by rw [h, Nat.pow_add]
theorem UQ {c : Bool} {A B : Prop} (h : c = true) (ha : A) : zZ c A B := by rw [h, Xd]; exact ha
theorem sS : (∀ x : AV, zd x x) ∧ (∀ p : Prop, (True ∧ p) = p) ∧ (∀ p : Prop, (p ∧ True) = p) ∧ (∀ x : Bool, zr true x = x) ∧ (∀ x : Bool, zr false x = !x) ∧
  (∀ {x : Bool} {A : Prop}, zZ (!x || x) A False ↔ A) ∧ (∀ a b : Bool, (bif a then true else b) = (a || b)) ∧ (∀ a b : Bool, (bif a then b else false) = (a && b)) ∧
  (∀ {x : Bool} {p : Prop} [DB p] {A : Prop}, zZ (!x || DB.db p) A False ↔ (x = true → p) ∧ A) ∧ (∀ {p : Prop} [DB p] {A : Prop}, zZ (DB.db p) A False ↔ p ∧ A) ∧
  (∀ {a b : Int} {A B : Prop}, zZ (zg a b) A B ↔ (a < b → A) ∧ (b ≤ a → B)) ∧ (∀ {a b : Int} {A B : Prop}, zZ (leB a b) A B ↔ (a ≤ b → A) ∧ (b < a → B)) ∧
  (∀ {a b : Int} {A B : Prop}, zZ (a != b) A B ↔ (a ≠ b → A) ∧ (a = b → B)) ∧ (∀ {a b : Int} {A B : Prop}, zZ (a == b) A B ↔ (a = b → A) ∧ (a ≠ b → B)) ∧
  (∀ {A B : Prop}, zZ true A B ↔ A) ∧ (∀ n : Nat, (n : Int).toNat = n) ∧ (∀ n : Nat, 0 + n = n) ∧ (∀ n : Nat, 0 ≤ n) ∧ (∀ n : Nat, n - 0 = n) ∧
  (∀ (k : IntKind) (n : Int), AV.int (.v (.int k n)) = n) ∧ (∀ b : Bool, (b || true) = true) ∧ (∀ {α : Type} (a b : α), (bif true then a else b) = a) ∧ (∀ {α : Type} (a b : α), (bif false then a else b) = b) :=
 ⟨zS, true_and, and_true, oD, qy, JQ, Jo, MG, Zj, yz, Iw, Iu, II, IB, Xd, Int.toNat_natCast, Nat.zero_add, Nat.zero_le, Nat.sub_zero, Ic, Bool.or_true, cond_true, cond_false⟩
theorem dS : (∀ (f : Bool) (l : List Int), zf Int (AV.xl f 1 l.length fun i j => AV.v (Value.int IntKind.i64 (l.getD i 0))) = true) ∧ (∀ (f : Bool) (l : List Int), zf Int (AV.xl f 1 l.length fun i j => AV.v (Value.int IntKind.i64 (l.getD i zV.dflt))) = true) ∧
  (∀ (f : Bool) (l : List Int), Zs (AV.xl f 1 l.length fun i j => AV.v (Value.int IntKind.i64 (l.getD i 0))) = l) ∧ (∀ (f : Bool) (l : List Int), Zs (AV.xl f 1 l.length fun i j => AV.v (Value.int IntKind.i64 (l.getD i zV.dflt))) = l) ∧
  (∀ (f : Bool) (l : List Int), zu (AV.xl f 1 l.length fun i j => AV.v (Value.int IntKind.i64 (l.getD i 0))) = l) ∧ (∀ (f : Bool) (l : List Int), zu (AV.xl f 1 l.length fun i j => AV.v (Value.int IntKind.i64 (l.getD i zV.dflt))) = l) :=
 ⟨I4, i7, H9, HT, Hg, Ii⟩
def IS : List zN → Prop
 | [] => True
 | p :: ps => p.holds ∧ IS ps
theorem ZI : ∀ {ps : List zN}, (∀ p ∈ ps, p.holds) → IS ps
 | [], _ => trivial
 | _ :: _, h => ⟨h _ List.mem_cons_self, ZI fun q hq => h q (List.mem_cons_of_mem _ hq)⟩
abbrev bF (t : Bool) (A : Prop) : Prop := zZ t A False
abbrev dK (x : Int) : Bool := DB.db (yP .i64 x)
abbrev bA (a : Array UInt8) : List UInt8 := Array.toList (ByteArray.data (ByteArray.mk a))
abbrev a8 (x : UInt8) : AV := AV.v (Value.int IntKind.u8 ((UInt8.toNat x : Nat) : Int))
abbrev xI (x : List Int) : AV := AV.xl false 1 (List.length x) fun i _ => AV.v (Value.int .i64 (List.getD x i zV.dflt))
abbrev nX : Nat := 9223372036854775807
abbrev nM : Nat := 4294967280
abbrev lR : Prop := LoopState.ready = LoopState.ready ∧ X3 Code = X3 Code
abbrev cI (n : Nat) : Int := n
abbrev kI : Prop := IntKind.i64 = .i64
abbrev j2 : Prop := 2 = List.length [AV.junk, AV.junk]
abbrev lN {α : Type} (l : List α) : Nat := List.length l
abbrev lZ {α : Type} (l : List α) : Int := (↑(List.length l) : Int)
abbrev gD {α : Type} (l : List α) (i : Nat) (d : α) : α := List.getD l i d
abbrev iZ : Int := 0
abbrev iO : Int := 1
abbrev iX : Int := 9223372036854775807
abbrev iN : Int := -9223372036854775808
abbrev iB : Int := 1000000000
abbrev aI (n : Int) : AV := AV.v (Value.int .i64 n)
end Go.Ar
